/- The reference of layer 9: Of, Same. -/
import Derived.Test.YtejgopcicenbeaaGreatPoi
import Derived.Test.YtejgopcicenbeaaGreatLw
namespace Go.Proofs.YtejgopcicenbeaaGreat
open Go.RowKit
set_option linter.unusedSimpArgs false
set_option maxRecDepth 10000
theorem segI {c : List AV} {l : List Item} {off : Nat} (h3 : (c.drop off).take (l.length * 2) = flatI l) (k : Nat) (h : k < l.length) : List.take 2 (List.drop (off + k * 2) c) = cI l[k] := by
  rw [← flatC_seg cI_length l k h, show flatC cI l = flatI l from rfl, ← h3, List.drop_take, List.take_take, List.drop_drop]
  congr 1; omega
@[simp] theorem flatI_at0 (l : List Item) (k : Nat) (h : k * 2 < (flatI l).length) : (flatI l)[k * 2] = .sc (.string (l[k]'(by simp at h; omega)).key) := by
  have := flatI_0 l k (by simp at h; omega)
  rw [List.getElem?_eq_getElem h] at this
  exact Option.some.inj this
@[simp] theorem flatI_at1 (l : List Item) (k : Nat) (h : k * 2 + 1 < (flatI l).length) : (flatI l)[k * 2 + 1] = .sc (.string (l[k]'(by simp at h; omega)).val) := by
  have := flatI_1 l k (by simp at h; omega)
  rw [List.getElem?_eq_getElem h] at this
  exact Option.some.inj this
end Go.Proofs.YtejgopcicenbeaaGreat
