/- Guards of the laws of layers 9, 10. -/
import Derived.Test.YticpnfgiidljlaaGreatWap
import Derived.Test.YticpnfgiidljlaaGreatLw
namespace Go.Proofs.YticpnfgiidljlaaGreat
open Go.RowKit
set_option linter.unusedSimpArgs false
set_option maxRecDepth 10000
@[simp] theorem gI_at0 (l : List Item) (k : Nat) (h : k * 2 < (flatI l).length) : (flatI l)[k * 2] = .sc (.string (l[k]'(by simp at h; omega)).key) := by
  have := flatI_0 l k (by simp at h; omega)
  rw [List.getElem?_eq_getElem h] at this
  exact Option.some.inj this
@[simp] theorem gI_at1 (l : List Item) (k : Nat) (h : k * 2 + 1 < (flatI l).length) : (flatI l)[k * 2 + 1] = .sc (.string (l[k]'(by simp at h; omega)).val) := by
  have := flatI_1 l k (by simp at h; omega)
  rw [List.getElem?_eq_getElem h] at this
  exact Option.some.inj this
def bigM (m : Msg) : Bool := decide (512 < m.key.size) || decide (512 < m.val.size)
def bigI (m : Item) : Bool := decide (512 < m.key.size) || decide (512 < m.val.size)
end Go.Proofs.YticpnfgiidljlaaGreat
