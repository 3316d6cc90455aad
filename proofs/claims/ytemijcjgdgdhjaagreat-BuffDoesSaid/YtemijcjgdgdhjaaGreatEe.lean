/- Leaves: slices.Grow, slices.Concat, Join, Parts. -/
import Derived.Test.YtemijcjgdgdhjaaGreatEd
namespace Go.Proofs.YtemijcjgdgdhjaaGreat
open Go.RowKit Go.Sort
set_option linter.unusedSimpArgs false
set_option maxRecDepth 10000
/-- Rows of rows. -/
def cY (l : List Item) : List AV := [.fs (flatI l) l.length]
def flatY (l : List (List Item)) : List AV := flatC cY l
theorem cY_length (r : List Item) : (cY r).length = 1 := rfl
theorem cY_flat (r : List Item) : flatL (cY r) = true := by simp [cY, AV.flat, flatL]
theorem cY_one (r : List Item) : (cY r).all AV.one = true := rfl
@[simp] theorem flatY_length (l : List (List Item)) : (flatY l).length = l.length := by have := flatC_length cY_length l; rw [Nat.mul_one] at this; exact this
@[simp] theorem flatY_flat (l : List (List Item)) : flatL (flatY l) = true := flatC_flat cY_flat l
@[simp] theorem flatY_one (l : List (List Item)) : (flatY l).all AV.one = true := flatC_one' cY_one l
theorem flatY_get (l : List (List Item)) (k : Nat) (h : k < l.length) : (flatY l)[k]? = some (.fs (flatI l[k]) l[k].length) := by have := flatC_get cY_length l k 0 h (by omega); rw [Nat.mul_one] at this; exact this
@[simp] theorem flatY_at (l : List (List Item)) (k : Nat) (h : k < (flatY l).length) : (flatY l)[k] = .fs (flatI (l[k]'(by simpa using h))) (l[k]'(by simpa using h)).length := by
  have := flatY_get l k (by simpa using h)
  rw [List.getElem?_eq_getElem h] at this
  exact Option.some.inj this
end Go.Proofs.YtemijcjgdgdhjaaGreat
