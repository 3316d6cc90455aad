/- Places apart, by a sorted row; the document's best place: plain. -/
import Derived.Test.YtgdefllblcmgpaaPsq
namespace Go.Proofs.Ytgdefllblcmgpaa
open Go.RowKit
theorem apart_perm {l l' : List Ext} (h : l'.Perm l) : Apart l' ↔ Apart l := List.Perm.pairwise_iff (fun h => Or.symm h) h
theorem apart_sorted {l l' : List Ext} (hp : l'.Perm l) (hs : l'.Pairwise fun x y => ¬ y.lo < x.lo) (h1 : ∀ x ∈ l, 1 ≤ x.sz) : (∀ (i : Nat) (h : i + 1 < l'.length), xe l'[i] ≤ l'[i + 1].lo) ↔ Apart l := by
  rw [← apart_perm hp]
  have h1' : ∀ x ∈ l', 1 ≤ x.sz := fun x hx => h1 x (hp.mem_iff.1 hx)
  constructor
  · intro h
    have key : ∀ (m : List Ext), (∀ x ∈ m, 1 ≤ x.sz) → (∀ (i : Nat) (h : i + 1 < m.length), xe m[i] ≤ m[i + 1].lo) → m.Pairwise fun x y => xe x ≤ y.lo := by
      intro m
      induction m with
      | nil => intro _ _; exact .nil
      | cons x m ih =>
        intro hz ha
        have ih := ih (fun y hy => hz y (by simp [hy])) fun i hi => ha (i + 1) (by simpa using hi)
        refine List.pairwise_cons.2 ⟨fun y hy => ?_, ih⟩
        cases m with
        | nil => cases hy
        | cons z m =>
          have h0 := ha 0 (by simp)
          have hz1 := hz z (by simp)
          rcases List.mem_cons.1 hy with rfl | hy
          · exact h0
          · have h2 := (List.pairwise_cons.1 ih).1 y hy
            have h3 : xe x ≤ z.lo := h0
            have e : xe z = z.lo + z.sz := rfl
            omega
    exact (key l' h1' h).imp fun h => .inl h
  · intro h i hi
    have ha := List.pairwise_iff_getElem.1 h i (i + 1) (by omega) hi (by omega)
    have hb := List.pairwise_iff_getElem.1 hs i (i + 1) (by omega) hi (by omega)
    have hz := h1' l'[i + 1] (List.getElem_mem hi)
    have e : xe l'[i + 1] = l'[i + 1].lo + l'[i + 1].sz := rfl
    omega
/-- The first of the smallest places that have so many blocks. -/
def bestS (size : Int) (o : Ext) (x : Ext) : Ext := if size ≤ x.sz ∧ (o.sz = 0 ∨ x.sz < o.sz) then x else o
def bestX (l : List Ext) (size : Int) : Ext := l.foldl (bestS size) ⟨0, 0⟩
theorem bestX_succ {l : List Ext} {k : Nat} (size : Int) (h : k < l.length) : bestX (l.take (k + 1)) size = bestS size (bestX (l.take k) size) l[k] := by
  unfold bestX
  rw [List.take_add_one, List.getElem?_eq_getElem h, List.foldl_append]
  rfl
theorem bestX_ok (size : Int) (hs : 1 ≤ size) : ∀ (l : List Ext) (o : Ext), (o.sz = 0 ∨ size ≤ o.sz) → ((l.foldl (bestS size) o).sz = 0 ∨ size ≤ (l.foldl (bestS size) o).sz) ∧ (l.foldl (bestS size) o = o ∨ l.foldl (bestS size) o ∈ l) ∧ ((l.foldl (bestS size) o).sz = 0 → o.sz = 0 ∧ ∀ x ∈ l, x.sz < size)
  | [], o, h => ⟨h, .inl rfl, fun e => ⟨e, fun x hx => by cases hx⟩⟩
  | y :: l, o, h => by
    rw [List.foldl_cons]
    have hb : (bestS size o y).sz = 0 ∨ size ≤ (bestS size o y).sz := by
      unfold bestS
      split
      · rename_i h2; exact .inr h2.1
      · exact h
    obtain ⟨i1, i2, i3⟩ := bestX_ok size hs l (bestS size o y) hb
    refine ⟨i1, ?_, fun e => ?_⟩
    · rcases i2 with i2 | i2
      · rw [i2]
        unfold bestS
        split
        · exact .inr (by simp)
        · exact .inl rfl
      · exact .inr (by simp [i2])
    · obtain ⟨j1, j2⟩ := i3 e
      unfold bestS at j1
      split at j1
      · rename_i h2; omega
      · rename_i h2
        refine ⟨j1, fun x hx => ?_⟩
        rcases List.mem_cons.1 hx with rfl | hx
        · apply Int.not_le.1
          intro h3
          exact h2 ⟨h3, .inl j1⟩
        · exact j2 x hx
end Go.Proofs.Ytgdefllblcmgpaa
