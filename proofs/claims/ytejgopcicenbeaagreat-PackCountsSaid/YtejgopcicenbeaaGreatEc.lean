/- Leaves: Len, Weight, Items, place, Find, Low, Within, half, Same. -/
import Derived.Test.YtejgopcicenbeaaGreatEb
import Derived.Test.YtejgopcicenbeaaGreatLw
namespace Go.Proofs.YtejgopcicenbeaaGreat
open Go.RowKit Go.Sort
set_option linter.unusedSimpArgs false
set_option maxRecDepth 10000
theorem lLen_spec (l : List Item) : PSpec Tryz.prog 14 [.fp (cL l) 0] (.sc (.int .i64 l.length)) := by
  refine spec_pure (by simp) (by simp) ?_
  refine spec_intro Tryz.func14 good14 rfl (by simp [Tryz.ntmps14]) ?_
  exact go0 [] [] (cns Tryz.results14 (cns cL.eq_1 trivial))
end Go.Proofs.YtejgopcicenbeaaGreat
