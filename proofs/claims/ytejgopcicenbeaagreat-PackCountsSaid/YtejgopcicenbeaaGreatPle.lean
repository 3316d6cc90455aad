/- Leaves, plainly: sorted items without twins are what the reference's Of tells. -/
import Derived.Test.YtejgopcicenbeaaGreatPoi
import Derived.Test.YtejgopcicenbeaaGreatRd
namespace Go.Proofs.YtejgopcicenbeaaGreat
open Go.RowKit
set_option linter.unusedSimpArgs false
theorem insO_perm (l : List Item) (x : Item) : (insO l x).Perm (x :: l) := by
  unfold insO
  have := List.perm_middle (a := x) (l₁ := l.take (gtAt l x.key)) (l₂ := l.drop (gtAt l x.key))
  rwa [List.take_append_drop] at this
theorem ofL_go : ∀ (b a o : List Item), RiseI a → b.foldl ofO (some a) = some o → RiseI o ∧ o.Perm (b ++ a)
  | [], a, o, hr, h => by cases h; exact ⟨hr, .refl _⟩
  | x :: b, a, o, hr, h => by
    rw [List.foldl_cons] at h
    by_cases hy : a.any (fun y => decide (y.key = x.key)) = true
    · have e : ofO (some a) x = none := by show (if _ then _ else _) = _; rw [if_pos hy]
      have hno : ∀ (l : List Item), l.foldl ofO none = none := fun l => by
        induction l with
        | nil => rfl
        | cons y l ih => exact ih
      rw [e, hno] at h; cases h
    · have e : ofO (some a) x = some (insO a x) := by show (if _ then _ else _) = _; rw [if_neg hy]
      have hn : ∀ y ∈ a, y.key ≠ x.key := by
        intro y hm hk
        exact hy (List.any_eq_true.2 ⟨y, hm, by simpa using hk⟩)
      rw [e] at h
      obtain ⟨h1, h2⟩ := ofL_go b _ o (insO_rise hr hn) h
      refine ⟨h1, h2.trans ?_⟩
      exact ((insO_perm a x).append_left b).trans List.perm_middle
theorem ofL_some {l o : List Item} (h : ofL l = some o) : RiseI o ∧ o.Perm l := by
  have := ofL_go l [] o List.Pairwise.nil h
  simpa using this
/-- No two of one key. -/
def Uniq (l : List Item) : Prop := l.Pairwise fun x y => x.key ≠ y.key
theorem Uniq.perm {l m : List Item} (h : Uniq l) (hp : l.Perm m) : Uniq m := List.Pairwise.perm h hp fun e => Ne.symm e
theorem RiseI.uniq {l : List Item} (h : RiseI l) : Uniq l := h.imp fun e => slt_ne e
theorem ofL_go2 : ∀ (b a : List Item), RiseI a → Uniq (b ++ a) → ∃ o, b.foldl ofO (some a) = some o
  | [], a, hr, h => ⟨a, rfl⟩
  | x :: b, a, hr, h => by
    have h0 := h
    unfold Uniq at h
    rw [List.cons_append, List.pairwise_cons] at h
    have hn : ∀ y ∈ a, y.key ≠ x.key := fun y hy => (h.1 y (by simp [hy])).symm
    have hy : ¬ a.any (fun y => decide (y.key = x.key)) = true := by
      intro hy
      obtain ⟨y, hm, hk⟩ := List.any_eq_true.1 hy
      exact hn y hm (by simpa using hk)
    have e : ofO (some a) x = some (insO a x) := by show (if _ then _ else _) = _; rw [if_neg hy]
    rw [List.foldl_cons, e]
    refine ofL_go2 b _ (insO_rise hr hn) (h0.perm ?_)
    exact (List.perm_middle.symm).trans ((insO_perm a x).symm.append_left b)
theorem ofL_uniq {l : List Item} (h : Uniq l) : ∃ o, ofL l = some o := ofL_go2 l [] List.Pairwise.nil (by simpa using h)
/-- Rows that rise and have the same items are the same. -/
theorem rise_eq {a b : List Item} (ha : RiseI a) (hb : RiseI b) (hp : a.Perm b) : a = b := by
  unfold RiseI at ha hb
  exact List.Perm.eq_of_pairwise (le := fun x y => slt x.key y.key = true) (fun x y _ _ h1 h2 => by have := slt_asymm h1; rw [h2] at this; cases this) ha hb hp
theorem sorted_rise {l : List Item} (hs : SortedL l) (ht : ∀ k (h : k + 1 < l.length), l[k + 1].key ≠ l[k].key) : RiseI l := by
  have step : ∀ k (h : k + 1 < l.length), slt l[k].key l[k + 1].key = true := fun k h => by
    cases e : slt l[k].key l[k + 1].key with
    | true => rfl
    | false => exact absurd (slt_tri e ((List.pairwise_iff_getElem.1 hs) k (k + 1) (by omega) h (by omega))).symm (ht k h)
  refine List.pairwise_iff_getElem.2 fun i j hi hj hij => ?_
  obtain ⟨d, rfl⟩ : ∃ d, j = i + 1 + d := ⟨j - (i + 1), by omega⟩
  clear hij
  induction d with
  | zero => exact step i hj
  | succ d ih => exact slt_trans (ih (by omega)) (step (i + 1 + d) hj)
theorem of_sorted {l l' : List Item} (hp : l'.Perm l) (hs : SortedL l') : (∀ k (h : k + 1 < l'.length), l'[k + 1].key ≠ l'[k].key) ∧ ofL l = some l' ∨ (∃ k, ∃ h : k + 1 < l'.length, l'[k + 1].key = l'[k].key) ∧ ofL l = none := by
  by_cases ht : ∀ k (h : k + 1 < l'.length), l'[k + 1].key ≠ l'[k].key
  · refine .inl ⟨ht, ?_⟩
    have hr := sorted_rise hs ht
    obtain ⟨o, ho⟩ := ofL_uniq (hr.uniq.perm hp)
    obtain ⟨h1, h2⟩ := ofL_some ho
    rw [ho, rise_eq h1 hr (h2.trans hp.symm)]
  · refine .inr ?_
    have ⟨k, h, hk⟩ : ∃ k, ∃ h : k + 1 < l'.length, l'[k + 1].key = l'[k].key := by
      apply Classical.byContradiction
      intro hn
      exact ht fun k h e => hn ⟨k, h, e⟩
    refine ⟨⟨k, h, hk⟩, ?_⟩
    cases e : ofL l with
    | none => rfl
    | some o =>
      obtain ⟨h1, h2⟩ := ofL_some e
      have hu := h1.uniq.perm (h2.trans hp.symm)
      exact absurd hk.symm ((List.pairwise_iff_getElem.1 hu) k (k + 1) (by omega) h (by omega))
end Go.Proofs.YtejgopcicenbeaaGreat
