/- Leaves, plainly: rows that rise and have the same values are the same; messages of one key. -/
import Derived.Test.YtemijcjgdgdhjaaGreatPoi
namespace Go.Proofs.YtemijcjgdgdhjaaGreat
open Go.RowKit
set_option linter.unusedSimpArgs false
theorem lookI_ahead {l : List Item} {k : Str} (h : ∀ x ∈ l, slt k x.key = true) : lookI k l = none := lookI_none fun x hx => (slt_ne (h x hx)).symm
theorem rise_ext : ∀ {a b : List Item}, RiseI a → RiseI b → (∀ k, lookI k a = lookI k b) → a = b
  | [], [], _, _, _ => rfl
  | [], y :: b, _, hb, h => by
    have hb := List.pairwise_cons.1 hb
    have := h y.key
    rw [lookI_cons, lookI_ahead hb.1, if_pos rfl] at this
    cases this
  | x :: a, [], ha, _, h => by
    have ha := List.pairwise_cons.1 ha
    have := h x.key
    rw [lookI_cons, lookI_ahead ha.1, if_pos rfl] at this
    cases this
  | x :: a, y :: b, ha, hb, h => by
    have ha' := List.pairwise_cons.1 ha
    have hb' := List.pairwise_cons.1 hb
    have hx := h x.key
    have hy := h y.key
    rw [lookI_cons, lookI_ahead ha'.1, if_pos rfl, lookI_cons] at hx
    rw [lookI_cons, lookI_cons, lookI_ahead hb'.1, if_pos rfl] at hy
    have hk : x.key = y.key := by
      cases e1 : slt x.key y.key with
      | true =>
        rw [lookI_ahead fun z hz => slt_trans e1 (hb'.1 z hz), if_neg (slt_ne e1).symm] at hx
        cases hx
      | false =>
        cases e2 : slt y.key x.key with
        | true =>
          rw [lookI_ahead fun z hz => slt_trans e2 (ha'.1 z hz), if_neg (slt_ne e2).symm] at hy
          cases hy
        | false => exact slt_tri e1 e2
    have hv : x.val = y.val := by
      rw [hk, lookI_ahead hb'.1, if_pos rfl] at hx
      simpa using hx
    have hxy : x = y := by cases x; cases y; simp_all
    subst hxy
    rw [rise_ext ha'.2 hb'.2 fun k => ?_]
    have hk2 := h k
    rw [lookI_cons, lookI_cons] at hk2
    by_cases e : x.key = k
    · subst e
      rw [lookI_ahead ha'.1, lookI_ahead hb'.1]
    · rw [if_neg e, Option.or_none, Option.or_none] at hk2
      exact hk2
/-- What messages of a key make of its value. -/
def putsK (k : Str) (ms : List Msg) (s : Option Str) : Option Str := ms.foldl (fun s m => if m.key = k then actM s m else s) s
theorem act_fst (m : Msg) (v : Str) (hb : Bool) (h : (applyM m v hb).2 = false) : (applyM m v hb).1 = ⟨#[]⟩ := by
  unfold applyM at *
  split at h
  · rename_i h1; rw [if_pos h1]; split at h
    · cases h
    · rename_i h2; rw [if_neg h2]
  · rename_i h1; rw [if_neg h1]; split at h
    · rename_i h2; rw [if_pos h2]
    · split at h <;> cases h
/-- The pair that the law keeps. -/
theorem act_pair (s : Option Str) (m : Msg) : (applyM m (s.getD ⟨#[]⟩) s.isSome).1 = (actM s m).getD ⟨#[]⟩ ∧ (applyM m (s.getD ⟨#[]⟩) s.isSome).2 = (actM s m).isSome := by
  unfold actM
  cases h : (applyM m (s.getD ⟨#[]⟩) s.isSome).2 with
  | true => simp
  | false => simp [act_fst _ _ _ h]
end Go.Proofs.YtemijcjgdgdhjaaGreat
