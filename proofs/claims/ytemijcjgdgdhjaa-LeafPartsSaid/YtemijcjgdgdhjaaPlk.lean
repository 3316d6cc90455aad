/- Leaves, plainly: rows that rise and have the same values are the same; messages of one key. -/
import Derived.Test.YtemijcjgdgdhjaaPoi
namespace Go.Proofs.Ytemijcjgdgdhjaa
open Go.RowKit
set_option linter.unusedSimpArgs false
theorem lookI_ahead {l : List Item} {k : Str} (h : ∀ x ∈ l, slt k x.key = true) : lookI k l = none := lookI_none fun x hx => (slt_ne (h x hx)).symm
theorem rise_ext : ∀ {a b : List Item}, RiseI a → RiseI b → (∀ k, lookI k a = lookI k b) → a = b
  | [], [], _, _, _ => rfl
  | [], y :: b, _, hb, h => by
    have hb := List.pairwise_cons.1 hb
    have := h y.key
    rw [lookI_cons, lookI_ahead hb.1, if_pos rfl] at this
    cases this
  | x :: a, [], ha, _, h => by
    have ha := List.pairwise_cons.1 ha
    have := h x.key
    rw [lookI_cons, lookI_ahead ha.1, if_pos rfl] at this
    cases this
  | x :: a, y :: b, ha, hb, h => by
    have ha' := List.pairwise_cons.1 ha
    have hb' := List.pairwise_cons.1 hb
    have hx := h x.key
    have hy := h y.key
    rw [lookI_cons, lookI_ahead ha'.1, if_pos rfl, lookI_cons] at hx
    rw [lookI_cons, lookI_cons, lookI_ahead hb'.1, if_pos rfl] at hy
    have hk : x.key = y.key := by
      cases e1 : slt x.key y.key with
      | true =>
        rw [lookI_ahead fun z hz => slt_trans e1 (hb'.1 z hz), if_neg (slt_ne e1).symm] at hx
        cases hx
      | false =>
        cases e2 : slt y.key x.key with
        | true =>
          rw [lookI_ahead fun z hz => slt_trans e2 (ha'.1 z hz), if_neg (slt_ne e2).symm] at hy
          cases hy
        | false => exact slt_tri e1 e2
    have hv : x.val = y.val := by
      rw [hk, lookI_ahead hb'.1, if_pos rfl] at hx
      simpa using hx
    have hxy : x = y := by cases x; cases y; simp_all
    subst hxy
    rw [rise_ext ha'.2 hb'.2 fun k => ?_]
    have hk2 := h k
    rw [lookI_cons, lookI_cons] at hk2
    by_cases e : x.key = k
    · subst e
      rw [lookI_ahead ha'.1, lookI_ahead hb'.1]
    · rw [if_neg e, Option.or_none, Option.or_none] at hk2
      exact hk2
/-- What messages of a key make of its value. -/
def putsK (k : Str) (ms : List Msg) (s : Option Str) : Option Str := ms.foldl (fun s m => if m.key = k then actM s m else s) s
theorem putsK_filter (k : Str) (ms : List Msg) (s : Option Str) : putsK k ms s = (ms.filter fun m => decide (m.key = k)).foldl actM s := by
  unfold putsK
  rw [List.foldl_filter]
  congr 1
  funext s m
  by_cases h : m.key = k <;> simp [h]
theorem filter_mine (k k2 : Str) (ms : List Msg) : ((ms.filter fun m => decide (m.key = k)) ++ (ms.filter fun m => !decide (m.key = k))).filter (fun m => decide (m.key = k2)) = ms.filter fun m => decide (m.key = k2) := by
  rw [List.filter_append, List.filter_filter, List.filter_filter]
  by_cases e : k = k2
  · subst e
    have h1 : (ms.filter fun a => decide (a.key = k) && decide (a.key = k)) = ms.filter fun m => decide (m.key = k) := by congr 1; funext a; simp
    have h2 : (ms.filter fun a => decide (a.key = k) && !decide (a.key = k)) = [] := by rw [List.filter_eq_nil_iff]; intro a _; simp
    rw [h1, h2, List.append_nil]
  · have h1 : (ms.filter fun a => decide (a.key = k2) && decide (a.key = k)) = [] := by
      rw [List.filter_eq_nil_iff]; intro a _ h; simp at h; exact e (h.2.symm.trans h.1)
    have h2 : (ms.filter fun a => decide (a.key = k2) && !decide (a.key = k)) = ms.filter fun m => decide (m.key = k2) := by
      congr 1; funext a
      by_cases h : a.key = k2
      · have : ¬ a.key = k := fun h3 => e (h3.symm.trans h)
        simp [h, this]; exact fun h => e h.symm
      · simp [h]
    rw [h1, h2, List.nil_append]
theorem filter_mine2 (k k2 : Str) (ms : List Msg) : ((ms.filter fun m => !decide (m.key = k)) ++ (ms.filter fun m => decide (m.key = k))).filter (fun m => decide (m.key = k2)) = ms.filter fun m => decide (m.key = k2) := by
  rw [List.filter_append, List.filter_filter, List.filter_filter]
  by_cases e : k = k2
  · subst e
    have h1 : (ms.filter fun a => decide (a.key = k) && decide (a.key = k)) = ms.filter fun m => decide (m.key = k) := by congr 1; funext a; simp
    have h2 : (ms.filter fun a => decide (a.key = k) && !decide (a.key = k)) = [] := by rw [List.filter_eq_nil_iff]; intro a _; simp
    rw [h1, h2, List.nil_append]
  · have h1 : (ms.filter fun a => decide (a.key = k2) && decide (a.key = k)) = [] := by
      rw [List.filter_eq_nil_iff]; intro a _ h; simp at h; exact e (h.2.symm.trans h.1)
    have h2 : (ms.filter fun a => decide (a.key = k2) && !decide (a.key = k)) = ms.filter fun m => decide (m.key = k2) := by
      congr 1; funext a
      by_cases h : a.key = k2
      · have : ¬ a.key = k := fun h3 => e (h3.symm.trans h)
        simp [h, this]; exact fun h => e h.symm
      · simp [h]
    rw [h1, h2, List.append_nil]
/-- Messages in another order, but each key's in its own. -/
theorem with_order {l : List Item} {a b : List Msg} (hr : RiseI l) (ho : ∀ x ∈ l, okI x = true) (ha : ∀ x ∈ a, isMsg x = true) (hb : ∀ x ∈ b, isMsg x = true) (h : ∀ k, (a.filter fun m => decide (m.key = k)) = b.filter fun m => decide (m.key = k)) : withI l a = withI l b := by
  obtain ⟨r1, _, _, q1⟩ := withI_ok a l hr ho ha
  obtain ⟨r2, _, _, q2⟩ := withI_ok b l hr ho hb
  refine rise_ext r1 r2 fun k => ?_
  rw [q1 k, q2 k]
  have e1 := putsK_filter k a (lookI k l)
  have e2 := putsK_filter k b (lookI k l)
  unfold putsK at e1 e2
  rw [e1, e2, h k]
theorem act_fst (m : Msg) (v : Str) (hb : Bool) (h : (applyM m v hb).2 = false) : (applyM m v hb).1 = ⟨#[]⟩ := by
  unfold applyM at *
  split at h
  · rename_i h1; rw [if_pos h1]; split at h
    · cases h
    · rename_i h2; rw [if_neg h2]
  · rename_i h1; rw [if_neg h1]; split at h
    · rename_i h2; rw [if_pos h2]
    · split at h <;> cases h
/-- The pair that the law keeps. -/
theorem act_pair (s : Option Str) (m : Msg) : (applyM m (s.getD ⟨#[]⟩) s.isSome).1 = (actM s m).getD ⟨#[]⟩ ∧ (applyM m (s.getD ⟨#[]⟩) s.isSome).2 = (actM s m).isSome := by
  unfold actM
  cases h : (applyM m (s.getD ⟨#[]⟩) s.isSome).2 with
  | true => simp
  | false => simp [act_fst _ _ _ h]
end Go.Proofs.Ytemijcjgdgdhjaa
