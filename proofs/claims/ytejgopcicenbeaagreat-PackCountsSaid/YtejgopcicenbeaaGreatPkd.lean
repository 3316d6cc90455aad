/- Items into leaves, as few as can be, plainly. No program. -/
import Derived.Test.YtejgopcicenbeaaGreatPle
import Derived.Test.YtejgopcicenbeaaGreatEa
namespace Go.Proofs.YtejgopcicenbeaaGreat
open Go.RowKit
set_option linter.unusedSimpArgs false
set_option linter.unusedVariables false
/-- How many of the items one leaf has, if so much is in it. -/
def fillN : List Item → Int → Nat
  | [], _ => 0
  | x :: l, s => if 240 < s + iwt x then 0 else fillN l (s + iwt x) + 1
theorem fillN_le : ∀ (l : List Item) (s : Int), fillN l s ≤ l.length
  | [], _ => by simp [fillN]
  | x :: l, s => by
    unfold fillN
    split
    · omega
    · have := fillN_le l (s + iwt x)
      simp
      omega
theorem fillN_pos {l : List Item} (hl : l ≠ []) (hw : ∀ x ∈ l, iwt x ≤ 26) : 0 < fillN l 0 := by
  match l, hl with
  | x :: l, _ =>
    have := hw x List.mem_cons_self
    unfold fillN
    rw [if_neg (by omega)]
    omega
/-- The leaves' items. -/
def leavesF : Nat → List Item → List (List Item)
  | 0, _ => []
  | n + 1, l => if l = [] then [] else l.take (fillN l 0) :: leavesF n (l.drop (fillN l 0))
def leavesP (l : List Item) : List (List Item) := if l = [] then [[]] else leavesF l.length l
theorem iwt_nn (x : Item) : 2 ≤ iwt x := by unfold iwt; omega
end Go.Proofs.YtejgopcicenbeaaGreat
