/- PackCounts, PackSteps: whole. -/
import Derived.Test.YtejgopcicenbeaaGreatPkl
import Derived.Test.YtejgopcicenbeaaGreatPkh
namespace Go.Proofs.YtejgopcicenbeaaGreat
open Go.RowKit
theorem packCounts_full (a : Int) (hw : (Lit.int .i64 a).wf = true) : PSpec Tryz.prog 3 [.sc (.int .i64 a)] (.sc (.bool true)) := packCounts_spec wAw15_spec a hw
theorem packSteps_full (a : Int) : PSpec Tryz.prog 5 [.sc (.int .i64 a)] (.sc (.bool true)) := packSteps_spec wAw15_spec a
end Go.Proofs.YtejgopcicenbeaaGreat
