/- Arguments, opened: what is read of a world, as AVs. No program. -/
import Derived.Test.YtejgopcicenbeaaGreatLc
import Derived.Deep.Slices
import Derived.Deep.Fields
import Derived.ChangeSame
import Derived.ChangeArms
import Derived.ChangeBears
import Derived.Carry
namespace Go.Proofs.YtejgopcicenbeaaGreat
open Go.ChangeShapes Go.WideShapes Go.Deep Go.RowKit
def ImAll (w : World) (b : Nat) : Prop := b < w.heap.size
section
variable {H : Type} {enc : TypeId × Value → H} {P : Program} {w : World} {spare : Nat → Bool} {held : Bool}
theorem relL_one {v : Value} {x : AV} (h : Rel w (ImAll w) [] v x) : RelL w (ImAll w) [] [v] [x] := by
  refine ⟨rfl, fun i y u hy hu => ?_⟩
  match i with
  | 0 => simp at hy hu; subst hy hu; exact h
  | i + 1 => simp at hy
end
end Go.Proofs.YtejgopcicenbeaaGreat
