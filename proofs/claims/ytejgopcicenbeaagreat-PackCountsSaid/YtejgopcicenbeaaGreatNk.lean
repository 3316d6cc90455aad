/- Nodes: what they are, Fits, Same. -/
import Derived.Test.YtejgopcicenbeaaGreatNj
import Derived.Test.YtejgopcicenbeaaGreatEc
import Derived.Test.YtejgopcicenbeaaGreatEb
namespace Go.Proofs.YtejgopcicenbeaaGreat
open Go.RowKit
set_option linter.unusedSimpArgs false
set_option linter.unusedVariables false
set_option maxRecDepth 10000
def cNl (l : List Item) : List AV := [.fp (cL l) 0, .sc (.pointer none)]
def cNi (k : List Int) (p : List Str) (m : List Msg) : List AV := [.sc (.pointer none), .fp (cIn k p m) 0]
@[simp] theorem cNl_flat (l : List Item) : flatL (cNl l) = true := by simp [cNl, cL, flatL, AV.flat]
@[simp] theorem cNi_flat (k : List Int) (p : List Str) (m : List Msg) : flatL (cNi k p m) = true := by simp [cNi, flatL, AV.flat]
theorem dOfLeaf_spec (l : List Item) : PSpec Tryz.prog 65 [.fp (cL l) 0] (.fp (cNl l) 0) := by
  have hf : flatL (cL l) = true := by simp [cL, flatL, AV.flat]
  refine spec_pure (by simp) (by simp) ?_
  refine spec_intro Tryz.func65 good65 rfl (by simp [Tryz.ntmps65]) ?_
  exact go0 [] [] (cns Tryz.results65 (cns cNl.eq_1 trivial))
theorem dIsLeaf_l (l : List Item) : PSpec Tryz.prog 28 [.fp (cNl l) 0] (.sc (.bool true)) := by
  refine spec_pure (by simp) (by simp) ?_
  refine spec_intro Tryz.func28 good28 rfl (by simp [Tryz.ntmps28]) ?_
  exact go0 [] [] (cns Tryz.results28 (cns cNl.eq_1 trivial))
theorem dLeaf_l (l : List Item) : PSpec Tryz.prog 29 [.fp (cNl l) 0] (.fp (cL l) 0) := by
  refine spec_pure (by simp) (by simp) ?_
  refine spec_intro Tryz.func29 good29 rfl (by simp [Tryz.ntmps29]) ?_
  exact go0 [] [] (cns Tryz.results29 (cns cNl.eq_1 trivial))
end Go.Proofs.YtejgopcicenbeaaGreat
