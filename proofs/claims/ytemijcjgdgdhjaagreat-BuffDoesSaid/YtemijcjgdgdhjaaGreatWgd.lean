/- Guards of the laws of layers 9, 10. -/
import Derived.Test.YtemijcjgdgdhjaaGreatWap
namespace Go.Proofs.YtemijcjgdgdhjaaGreat
open Go.RowKit
set_option linter.unusedSimpArgs false
set_option maxRecDepth 10000
@[simp] theorem gI_at0 (l : List Item) (k : Nat) (h : k * 2 < (flatI l).length) : (flatI l)[k * 2] = .sc (.string (l[k]'(by simp at h; omega)).key) := by
  have := flatI_0 l k (by simp at h; omega)
  rw [List.getElem?_eq_getElem h] at this
  exact Option.some.inj this
@[simp] theorem gI_at1 (l : List Item) (k : Nat) (h : k * 2 + 1 < (flatI l).length) : (flatI l)[k * 2 + 1] = .sc (.string (l[k]'(by simp at h; omega)).val) := by
  have := flatI_1 l k (by simp at h; omega)
  rw [List.getElem?_eq_getElem h] at this
  exact Option.some.inj this
def bigM (m : Msg) : Bool := decide (512 < m.key.size) || decide (512 < m.val.size)
def heavyM (l : List Msg) : Bool := (l.take 41).any bigM || decide (40 < l.length)
theorem heavyM_no {l : List Msg} (h : heavyM l = false) : l.length ≤ 40 ∧ MSmall l := by
  unfold heavyM at h
  rw [Bool.or_eq_false_iff] at h
  have h1 : l.length ≤ 40 := by have := h.2; simp at this; omega
  refine ⟨h1, fun m hm => ?_⟩
  have h2 := h.1
  rw [List.take_of_length_le (by omega)] at h2
  have h3 : bigM m = false := by
    cases e : bigM m with
    | false => rfl
    | true => rw [List.any_eq_true.2 ⟨m, hm, e⟩] at h2; cases h2
  simp [bigM] at h3
  omega
end Go.Proofs.YtemijcjgdgdhjaaGreat
