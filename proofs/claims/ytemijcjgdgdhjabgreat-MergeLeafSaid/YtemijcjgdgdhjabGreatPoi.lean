/- Items, plainly: those that rise, a key's value, what a message makes of them. -/
import Derived.Test.YtemijcjgdgdhjabGreatWap
namespace Go.Proofs.YtemijcjgdgdhjabGreat
open Go.RowKit
set_option linter.unusedSimpArgs false
def RiseI (l : List Item) : Prop := l.Pairwise (fun x y => slt x.key y.key = true)
/-- A key's value, of items. -/
def lookI (k : Str) (l : List Item) : Option Str := l.foldl (fun s x => if x.key = k then some x.val else s) none
def actM (s : Option Str) (m : Msg) : Option Str := if (applyM m (s.getD ⟨#[]⟩) s.isSome).2 = true then some (applyM m (s.getD ⟨#[]⟩) s.isSome).1 else none
def gtAt (l : List Item) (k : Str) : Nat := l.findIdx fun y => slt k y.key
def insO (l : List Item) (x : Item) : List Item := l.take (gtAt l x.key) ++ x :: l.drop (gtAt l x.key)
def ofO (o : Option (List Item)) (x : Item) : Option (List Item) := o.bind fun l => if l.any (fun y => decide (y.key = x.key)) = true then none else some (insO l x)
def ofL (l : List Item) : Option (List Item) := l.foldl ofO (some [])
def restI (k : Str) (l : List Item) : List Item := l.filter fun x => !decide (x.key = k)
def stepI (l : List Item) (m : Msg) : List Item := (ofL (restI m.key l ++ match actM (lookI m.key l) m with
  | some v => [⟨m.key, v⟩]
  | none => [])).getD []
def withI (l : List Item) (ms : List Msg) : List Item := ms.foldl stepI l
theorem lookI_from (k : Str) : ∀ (l : List Item) (s : Option Str), l.foldl (fun s x => if x.key = k then some x.val else s) s = (lookI k l).or s := by
  intro l
  induction l with
  | nil => intro s; simp [lookI]
  | cons x l ih =>
    intro s
    unfold lookI
    rw [List.foldl_cons, List.foldl_cons, ih, ih]
    by_cases h : x.key = k
    · simp only [if_pos h]; cases lookI k l <;> rfl
    · simp only [if_neg h]; cases lookI k l <;> rfl
theorem lookI_app (k : Str) (a b : List Item) : lookI k (a ++ b) = (lookI k b).or (lookI k a) := by
  unfold lookI
  rw [List.foldl_append, lookI_from]
  rfl
theorem lookI_cons (k : Str) (x : Item) (l : List Item) : lookI k (x :: l) = (lookI k l).or (if x.key = k then some x.val else none) := by
  have := lookI_app k [x] l
  simpa [lookI] using this
theorem lookI_none {k : Str} {l : List Item} (h : ∀ x ∈ l, x.key ≠ k) : lookI k l = none := by
  induction l with
  | nil => rfl
  | cons x l ih => rw [lookI_cons, ih fun y hy => h y (by simp [hy]), if_neg (h x (by simp))]; rfl
theorem lookI_rest (k k' : Str) (l : List Item) : lookI k (restI k' l) = if k = k' then none else lookI k l := by
  induction l with
  | nil => simp [restI, lookI]
  | cons x l ih =>
    unfold restI at ih ⊢
    rw [List.filter_cons]
    by_cases hx : x.key = k'
    · simp only [hx, decide_true, Bool.not_true, Bool.false_eq_true, if_false]
      rw [ih, lookI_cons, hx]
      by_cases hk : k = k'
      · simp [hk]
      · rw [if_neg hk, if_neg hk, if_neg (fun e => hk e.symm)]; cases lookI k l <;> rfl
    · simp only [hx, decide_false, Bool.not_false, if_true]
      rw [lookI_cons, ih, lookI_cons]
      by_cases hk : k = k'
      · subst hk; simp [hx]
      · rw [if_neg hk, if_neg hk]
theorem restI_rise {k : Str} {l : List Item} (h : RiseI l) : RiseI (restI k l) := h.sublist List.filter_sublist
theorem restI_mem {k : Str} {l : List Item} {x : Item} (h : x ∈ restI k l) : x ∈ l ∧ x.key ≠ k := by
  unfold restI at h
  rw [List.mem_filter] at h
  exact ⟨h.1, by simpa using h.2⟩
theorem gtAt_le (l : List Item) (k : Str) : gtAt l k ≤ l.length := List.findIdx_le_length
theorem gtAt_spec {l : List Item} {k : Str} (hr : RiseI l) (hn : ∀ x ∈ l, x.key ≠ k) : (∀ x ∈ l.take (gtAt l k), slt x.key k = true) ∧ ∀ x ∈ l.drop (gtAt l k), slt k x.key = true := by
  constructor
  · intro x hx
    obtain ⟨i, hi, rfl⟩ := List.mem_iff_getElem.1 hx
    simp at hi
    have h1 : ¬ slt k l[i].key = true := by
      have := List.not_of_lt_findIdx (p := fun y : Item => slt k y.key) (xs := l) (i := i) (by unfold gtAt at hi; omega)
      simpa using this
    rw [List.getElem_take]
    cases e : slt l[i].key k with
    | true => rfl
    | false => exact absurd (slt_tri e (by simpa using h1)) (hn _ (List.getElem_mem _))
  · intro x hx
    obtain ⟨i, hi, rfl⟩ := List.mem_iff_getElem.1 hx
    simp at hi
    rw [List.getElem_drop]
    have hlt : gtAt l k < l.length := by omega
    have h0 : slt k l[gtAt l k].key = true := by
      have := List.findIdx_getElem (p := fun y : Item => slt k y.key) (xs := l) (w := hlt)
      exact this
    rcases Nat.eq_zero_or_pos i with rfl | hp
    · simpa using h0
    · exact slt_trans h0 ((List.pairwise_iff_getElem.1 hr) _ _ hlt (by omega) (by omega))
theorem insO_rise {l : List Item} {x : Item} (hr : RiseI l) (hn : ∀ y ∈ l, y.key ≠ x.key) : RiseI (insO l x) := by
  obtain ⟨h1, h2⟩ := gtAt_spec hr hn
  unfold RiseI insO
  have hr' : RiseI (l.take (gtAt l x.key) ++ l.drop (gtAt l x.key)) := by rw [List.take_append_drop]; exact hr
  unfold RiseI at hr'
  rw [List.pairwise_append] at hr' ⊢
  refine ⟨hr'.1, List.pairwise_cons.2 ⟨h2, hr'.2.1⟩, fun a ha b hb => ?_⟩
  rcases List.mem_cons.1 hb with rfl | hb
  · exact h1 a ha
  · exact hr'.2.2 a ha b hb
theorem insO_mem {l : List Item} {x y : Item} (h : y ∈ insO l x) : y = x ∨ y ∈ l := by
  unfold insO at h
  rcases List.mem_append.1 h with h | h
  · exact .inr (List.mem_of_mem_take h)
  · rcases List.mem_cons.1 h with h | h
    · exact .inl h
    · exact .inr (List.mem_of_mem_drop h)
theorem insO_len (l : List Item) (x : Item) : (insO l x).length = l.length + 1 := by
  have := gtAt_le l x.key
  simp [insO]; omega
theorem lookI_ins {k : Str} {l : List Item} {x : Item} (hn : ∀ y ∈ l, y.key ≠ x.key) : lookI k (insO l x) = if x.key = k then some x.val else lookI k l := by
  have e : lookI k l = (lookI k (l.drop (gtAt l x.key))).or (lookI k (l.take (gtAt l x.key))) := by rw [← lookI_app, List.take_append_drop]
  unfold insO
  rw [lookI_app, lookI_cons]
  by_cases hk : x.key = k
  · rw [if_pos hk, if_pos hk, lookI_none fun y hy => hk ▸ hn y (List.mem_of_mem_drop hy)]; rfl
  · rw [if_neg hk, if_neg hk, e]; cases lookI k (l.drop (gtAt l x.key)) <;> rfl
theorem ofL_from : ∀ (b a : List Item), RiseI (a ++ b) → b.foldl ofO (some a) = some (a ++ b) := by
  intro b
  induction b with
  | nil => intro a _; simp
  | cons x b ih =>
    intro a h
    have h' : RiseI ((a ++ [x]) ++ b) := by simpa using h
    have hp : ∀ y ∈ a, slt y.key x.key = true := by
      unfold RiseI at h
      rw [List.pairwise_append] at h
      exact fun y hy => h.2.2 y hy x (by simp)
    have h1 : ofO (some a) x = some (a ++ [x]) := by
      unfold ofO
      have hany : a.any (fun y => decide (y.key = x.key)) = false := by
        rw [List.any_eq_false]
        intro y hy
        have := slt_ne (hp y hy)
        simpa using this
      have hg : gtAt a x.key = a.length := by
        unfold gtAt
        rw [List.findIdx_eq_length]
        intro y hy
        have := slt_asymm (hp y hy)
        simpa using this
      simp only [Option.bind_some]
      rw [if_neg (by rw [hany]; simp)]
      simp [insO, hg]
    rw [List.foldl_cons, h1, ih _ h']
    simp
theorem ofL_rise {l : List Item} (h : RiseI l) : ofL l = some l := by
  have := ofL_from l [] (by simpa using h)
  simpa [ofL] using this
theorem ofL_last {l : List Item} {x : Item} (hr : RiseI l) (hn : ∀ y ∈ l, y.key ≠ x.key) : ofL (l ++ [x]) = some (insO l x) := by
  unfold ofL
  rw [List.foldl_append]
  have := ofL_rise hr
  unfold ofL at this
  rw [this]
  have hany : l.any (fun y => decide (y.key = x.key)) = false := by
    rw [List.any_eq_false]
    intro y hy
    simpa using hn y hy
  show ofO (some l) x = _
  unfold ofO
  simp only [Option.bind_some]
  rw [if_neg (by rw [hany]; simp)]
/-- What a message makes of items that rise. -/
theorem stepI_is {l : List Item} {m : Msg} (hr : RiseI l) : stepI l m = match actM (lookI m.key l) m with
    | some v => insO (restI m.key l) ⟨m.key, v⟩
    | none => restI m.key l := by
  unfold stepI
  cases actM (lookI m.key l) m with
  | none => simp only [List.append_nil]; rw [ofL_rise (restI_rise hr)]; rfl
  | some v => dsimp only; rw [ofL_last (x := ⟨m.key, v⟩) (restI_rise hr) fun y hy => (restI_mem hy).2]; rfl
theorem actM_small {s : Option Str} {m : Msg} {v : Str} (hm : isMsg m = true) (hs : ∀ u, s = some u → isVal u = true) (h : actM s m = some v) : isVal v = true := by
  unfold actM applyM at h
  have hsum : ∀ a b : Str, isVal a = true → isVal (sumS a b) = true := fun a b ha => by
    unfold sumS isVal at *
    split
    · simp [val8, be_length, ByteArray.size]
    · exact ha
  have hmv : isVal m.val = true := by
    have h0 := hm
    unfold isMsg at h0
    unfold isVal
    simp only [Bool.and_eq_true, decide_eq_true_eq] at h0 ⊢
    have := h0.2
    omega
  simp only [hm, Bool.true_eq_false, if_false] at h
  by_cases h2 : m.kind = 2
  · simp [h2] at h
  · by_cases h1 : m.kind = 1 ∨ s.isSome = false
    · simp only [h2, h1, if_true, if_false] at h
      cases h; exact hmv
    · simp only [h2, h1, if_true, if_false] at h
      cases h
      cases s with
      | none => simp at h1
      | some u => exact hsum _ _ (hs u rfl)
theorem lookI_mem {k : Str} {l : List Item} {v : Str} (h : lookI k l = some v) : ∃ x ∈ l, x.key = k ∧ x.val = v := by
  induction l with
  | nil => simp [lookI] at h
  | cons x l ih =>
    rw [lookI_cons] at h
    cases e : lookI k l with
    | some u => rw [e] at h; obtain ⟨y, h1, h2⟩ := ih (by rw [e]; exact h); exact ⟨y, by simp [h1], h2⟩
    | none =>
      rw [e] at h
      by_cases hx : x.key = k
      · simp [hx] at h; exact ⟨x, by simp, hx, h⟩
      · simp [hx] at h
theorem isMsg_key {m : Msg} (h : isMsg m = true) : isKey m.key = true := by unfold isMsg at h; simp at h; unfold isKey; simp; simp [isKey] at h; exact h.1
theorem stepI_ok {l : List Item} {m : Msg} (hr : RiseI l) (ho : ∀ x ∈ l, okI x = true) (hm : isMsg m = true) : RiseI (stepI l m) ∧ (∀ x ∈ stepI l m, okI x = true) ∧ (stepI l m).length ≤ l.length + 1 ∧ ∀ k, lookI k (stepI l m) = if m.key = k then actM (lookI k l) m else lookI k l := by
  have hlen : (restI m.key l).length ≤ l.length := List.length_filter_le _ _
  rw [stepI_is hr]
  cases e : actM (lookI m.key l) m with
  | none =>
    refine ⟨restI_rise hr, fun x hx => ho x (restI_mem hx).1, by dsimp only; omega, fun k => ?_⟩
    dsimp only
    rw [lookI_rest]
    by_cases hk : m.key = k
    · subst hk; rw [if_pos rfl, if_pos rfl, e]
    · rw [if_neg hk, if_neg fun e => hk e.symm]
  | some v =>
    have hn : ∀ y ∈ restI m.key l, y.key ≠ (⟨m.key, v⟩ : Item).key := fun y hy => (restI_mem hy).2
    refine ⟨insO_rise (restI_rise hr) hn, fun x hx => ?_, by dsimp only; rw [insO_len]; omega, fun k => ?_⟩
    · rcases insO_mem hx with rfl | hx
      · rw [okI_is, Bool.and_eq_true]
        refine ⟨isMsg_key hm, actM_small hm (fun u hu => ?_) e⟩
        obtain ⟨y, h1, h2, h3⟩ := lookI_mem hu
        have := ho y h1
        rw [okI_is, Bool.and_eq_true, h3] at this
        exact this.2
      · exact ho x (restI_mem hx).1
    · dsimp only
      rw [lookI_ins hn, lookI_rest]
      by_cases hk : m.key = k
      · subst hk; rw [if_pos rfl, if_pos rfl, e]
      · rw [if_neg hk, if_neg hk, if_neg fun e => hk e.symm]
theorem withI_ok : ∀ (ms : List Msg) (l : List Item), RiseI l → (∀ x ∈ l, okI x = true) → (∀ x ∈ ms, isMsg x = true) → RiseI (withI l ms) ∧ (∀ x ∈ withI l ms, okI x = true) ∧ (withI l ms).length ≤ l.length + ms.length ∧ ∀ k, lookI k (withI l ms) = ms.foldl (fun s m => if m.key = k then actM s m else s) (lookI k l)
  | [], l, hr, ho, _ => ⟨hr, ho, by simp [withI], fun k => rfl⟩
  | m :: ms, l, hr, ho, hm => by
    obtain ⟨h1, h2, h3, h4⟩ := stepI_ok hr ho (hm m (by simp))
    obtain ⟨i1, i2, i3, i4⟩ := withI_ok ms (stepI l m) h1 h2 fun x hx => hm x (by simp [hx])
    refine ⟨i1, i2, ?_, fun k => ?_⟩
    · have : (withI l (m :: ms)).length = (withI (stepI l m) ms).length := rfl
      rw [this, List.length_cons]; omega
    · have := i4 k
      rw [h4 k] at this
      exact this
end Go.Proofs.YtemijcjgdgdhjabGreat
