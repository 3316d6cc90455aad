/- The law's helpers: made, sound, form. -/
import Derived.Test.YticpnfgiidljlaaGreatNp
import Derived.Test.YticpnfgiidljlaaGreatNi
import Derived.Test.YticpnfgiidljlaaGreatNg
import Derived.Test.YticpnfgiidljlaaGreatNn
import Derived.Test.YticpnfgiidljlaaGreatWmh
namespace Go.Proofs.YticpnfgiidljlaaGreat
open Go.RowKit
set_option linter.unusedSimpArgs false
set_option linter.unusedVariables false
set_option maxRecDepth 10000
end Go.Proofs.YticpnfgiidljlaaGreat
namespace Go.Proofs.YticpnfgiidljlaaGreat
open Go.RowKit
set_option linter.unusedSimpArgs false
set_option linter.unusedVariables false
set_option maxRecDepth 10000
/-- A node as the reference's. -/
def NodeV.c5 : NodeV → List AV
  | .l o => cN5 true o [] [] []
  | .i k p m => cN5 false [] k p m
theorem wk5 {a : AV} {x y z u : AV} {x' y' z' u' : AV} (h1 : Wk x x') (h2 : Wk y y') (h3 : Wk z z') (h4 : Wk u u') : Wk (.agg [a, x, y, z, u]) (.agg [a, x', y', z', u']) := by
  have h : WkL [a, x, y, z, u] [a, x', y', z', u'] := .cons (.refl _) (.cons h1 (.cons h2 (.cons h3 (.cons h4 .nil))))
  exact .agg _ _ h.1 h.2
def nS : AV := .sc (.slice none 0 0)
theorem wForm_l (o : List Item) (ho : o.length ≤ 900000) : PSpec Tryz.prog 16 [.fp (cNl o) 0] (.agg (NodeV.l o).c5) := by
  have h1 := dIsLeaf_l o
  have h2 := dLeaf_l o
  have h3 := lItems_spec o (by omega)
  have : PSpec Tryz.prog 16 [.fp (cNl o) 0] (.agg [.sc (.bool true), .fs (flatI o) o.length, nS, nS, nS]) := by
    unfold nS
    refine spec_pure (by simp) (by simp) ?_
    refine spec_intro Tryz.func16 good16 rfl (by simp [Tryz.ntmps16]) ?_
    exact go0 [2] [] (cns h1 (cns h2 (cns h3 (cns Tryz.results16 trivial))))
  exact pspec_wk this (wk5 (.refl _) .nil .nil .nil)
theorem wForm_i (k : List Int) (p : List Str) (m : List Msg) (h1 : k.length ≤ 900000) (h2 : p.length ≤ 900000) (h3 : m.length ≤ 900000) : PSpec Tryz.prog 16 [.fp (cNi k p m) 0] (.agg (NodeV.i k p m).c5) := by
  have e1 := dIsLeaf_i k p m
  have e2 := dInner_i k p m
  have e3 := nKids_spec k p m h1
  have e4 := nPivots_spec k p m h2
  have e5 := nBuff_spec k p m
  have e6 := bList_spec m (by omega)
  have : PSpec Tryz.prog 16 [.fp (cNi k p m) 0] (.agg [.sc (.bool false), nS, .fs (flatN k) k.length, .fs (flatS p) p.length, .fs (flatM m) m.length]) := by
    unfold nS
    refine spec_pure (by simp) (by simp) ?_
    refine spec_intro Tryz.func16 good16 rfl (by simp [Tryz.ntmps16]) ?_
    exact go0 [2] [] (cns e1 (cns e2 (cns e3 (cns e4 (cns e5 (cns e6 (cns Tryz.results16 trivial)))))))
  exact pspec_wk this (wk5 .nil (.refl _) (.refl _) (.refl _))
end Go.Proofs.YticpnfgiidljlaaGreat
