/- Items, plainly: those that rise, a key's value, what a message makes of them. -/
import Derived.Test.YtejgopcicenbeaaGreatWap
namespace Go.Proofs.YtejgopcicenbeaaGreat
open Go.RowKit
set_option linter.unusedSimpArgs false
def RiseI (l : List Item) : Prop := l.Pairwise (fun x y => slt x.key y.key = true)
def gtAt (l : List Item) (k : Str) : Nat := l.findIdx fun y => slt k y.key
def insO (l : List Item) (x : Item) : List Item := l.take (gtAt l x.key) ++ x :: l.drop (gtAt l x.key)
def ofO (o : Option (List Item)) (x : Item) : Option (List Item) := o.bind fun l => if l.any (fun y => decide (y.key = x.key)) = true then none else some (insO l x)
def ofL (l : List Item) : Option (List Item) := l.foldl ofO (some [])
theorem gtAt_spec {l : List Item} {k : Str} (hr : RiseI l) (hn : ∀ x ∈ l, x.key ≠ k) : (∀ x ∈ l.take (gtAt l k), slt x.key k = true) ∧ ∀ x ∈ l.drop (gtAt l k), slt k x.key = true := by
  constructor
  · intro x hx
    obtain ⟨i, hi, rfl⟩ := List.mem_iff_getElem.1 hx
    simp at hi
    have h1 : ¬ slt k l[i].key = true := by
      have := List.not_of_lt_findIdx (p := fun y : Item => slt k y.key) (xs := l) (i := i) (by unfold gtAt at hi; omega)
      simpa using this
    rw [List.getElem_take]
    cases e : slt l[i].key k with
    | true => rfl
    | false => exact absurd (slt_tri e (by simpa using h1)) (hn _ (List.getElem_mem _))
  · intro x hx
    obtain ⟨i, hi, rfl⟩ := List.mem_iff_getElem.1 hx
    simp at hi
    rw [List.getElem_drop]
    have hlt : gtAt l k < l.length := by omega
    have h0 : slt k l[gtAt l k].key = true := by
      have := List.findIdx_getElem (p := fun y : Item => slt k y.key) (xs := l) (w := hlt)
      exact this
    rcases Nat.eq_zero_or_pos i with rfl | hp
    · simpa using h0
    · exact slt_trans h0 ((List.pairwise_iff_getElem.1 hr) _ _ hlt (by omega) (by omega))
theorem insO_rise {l : List Item} {x : Item} (hr : RiseI l) (hn : ∀ y ∈ l, y.key ≠ x.key) : RiseI (insO l x) := by
  obtain ⟨h1, h2⟩ := gtAt_spec hr hn
  unfold RiseI insO
  have hr' : RiseI (l.take (gtAt l x.key) ++ l.drop (gtAt l x.key)) := by rw [List.take_append_drop]; exact hr
  unfold RiseI at hr'
  rw [List.pairwise_append] at hr' ⊢
  refine ⟨hr'.1, List.pairwise_cons.2 ⟨h2, hr'.2.1⟩, fun a ha b hb => ?_⟩
  rcases List.mem_cons.1 hb with rfl | hb
  · exact h1 a ha
  · exact hr'.2.2 a ha b hb
theorem ofL_from : ∀ (b a : List Item), RiseI (a ++ b) → b.foldl ofO (some a) = some (a ++ b) := by
  intro b
  induction b with
  | nil => intro a _; simp
  | cons x b ih =>
    intro a h
    have h' : RiseI ((a ++ [x]) ++ b) := by simpa using h
    have hp : ∀ y ∈ a, slt y.key x.key = true := by
      unfold RiseI at h
      rw [List.pairwise_append] at h
      exact fun y hy => h.2.2 y hy x (by simp)
    have h1 : ofO (some a) x = some (a ++ [x]) := by
      unfold ofO
      have hany : a.any (fun y => decide (y.key = x.key)) = false := by
        rw [List.any_eq_false]
        intro y hy
        have := slt_ne (hp y hy)
        simpa using this
      have hg : gtAt a x.key = a.length := by
        unfold gtAt
        rw [List.findIdx_eq_length]
        intro y hy
        have := slt_asymm (hp y hy)
        simpa using this
      simp only [Option.bind_some]
      rw [if_neg (by rw [hany]; simp)]
      simp [insO, hg]
    rw [List.foldl_cons, h1, ih _ h']
    simp
theorem ofL_rise {l : List Item} (h : RiseI l) : ofL l = some l := by
  have := ofL_from l [] (by simpa using h)
  simpa [ofL] using this
end Go.Proofs.YtejgopcicenbeaaGreat
