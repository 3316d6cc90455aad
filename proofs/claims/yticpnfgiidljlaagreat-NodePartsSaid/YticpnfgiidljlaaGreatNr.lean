/- The law's helpers: made, sound, form. -/
import Derived.Test.YticpnfgiidljlaaGreatNp
import Derived.Test.YticpnfgiidljlaaGreatNi
import Derived.Test.YticpnfgiidljlaaGreatNg
import Derived.Test.YticpnfgiidljlaaGreatNn
import Derived.Test.YticpnfgiidljlaaGreatWmh
namespace Go.Proofs.YticpnfgiidljlaaGreat
open Go.RowKit
set_option linter.unusedSimpArgs false
set_option linter.unusedVariables false
set_option maxRecDepth 10000
end Go.Proofs.YticpnfgiidljlaaGreat
namespace Go.Proofs.YticpnfgiidljlaaGreat
open Go.RowKit
set_option linter.unusedSimpArgs false
set_option linter.unusedVariables false
set_option maxRecDepth 10000
/-- The node of a description. -/
def madeV (b : Bool) (o : List Item) (k : List Int) (p : List Str) (m : List Msg) : Option NodeV := if b = true then nodeL o else nodeI k p m
def avO (n : Option NodeV) : AV := (n.map NodeV.av).getD nP
theorem wMade_spec (b : Bool) (o : List Item) (k : List Int) (p : List Str) (m : List Msg) (h0 : o.length ≤ 900000) (h1 : k.length ≤ 900000) (h2 : p.length ≤ 900000) (h3 : m.length ≤ 900000) : PSpec Tryz.prog 12 [.agg (cN5 b o k p m)] (avO (madeV b o k p m)) := by
  have hln := dOfLeaf_nil
  have hin := dOfInner_nil
  unfold nP at hln hin
  cases b with
  | true =>
    have hof := lOf_spec o (by omega)
    unfold leafR at hof
    unfold avO madeV nodeL
    rw [if_pos rfl]
    cases ha : o.all okI with
    | false =>
      rw [ha, if_pos rfl] at hof
      rw [if_neg (by simp)]
      simp only [Option.map_none, Option.getD_none, nP]
      clear ha
      refine spec_pure (by simp) (by simp) ?_
      refine spec_intro Tryz.func12 good12 rfl (by simp [Tryz.ntmps12]) ?_
      exact go0 [] [] (cns hof (cns hln (cns Tryz.results12 (cns cN5.eq_1 trivial))))
    | true =>
      rw [ha, if_neg (by simp)] at hof
      rw [if_pos rfl]
      cases ho : ofL o with
      | none =>
        rw [ho] at hof
        simp only [Option.map_none, Option.getD_none, nP] at hof ⊢
        clear ha ho
        refine spec_pure (by simp) (by simp) ?_
        refine spec_intro Tryz.func12 good12 rfl (by simp [Tryz.ntmps12]) ?_
        exact go0 [] [] (cns hof (cns hln (cns Tryz.results12 (cns cN5.eq_1 trivial))))
      | some q =>
        rw [ho] at hof
        simp only [Option.map_some, Option.getD_some, NodeV.av] at hof ⊢
        have hl := dOfLeaf_spec q
        clear ha ho
        refine spec_pure (by simp) (by simp) ?_
        refine spec_intro Tryz.func12 good12 rfl (by simp [Tryz.ntmps12]) ?_
        exact go0 [] [] (cns hof (cns hl (cns Tryz.results12 (cns cN5.eq_1 trivial))))
  | false =>
    have hof := nOf_spec k p m h1 h2 h3
    unfold nOfR innerR at hof
    unfold avO madeV nodeI
    rw [if_neg (by simp)]
    cases ha : m.all isMsg with
    | false =>
      rw [ha, if_neg (by simp)] at hof
      rw [if_neg (by simp)]
      simp only [Option.map_none, Option.getD_none, nP]
      clear ha
      refine spec_pure (by simp) (by simp) ?_
      refine spec_intro Tryz.func12 good12 rfl (by simp [Tryz.ntmps12]) ?_
      exact go0 [] [] (cns hof (cns hin (cns Tryz.results12 (cns cN5.eq_1 trivial))))
    | true =>
      rw [ha, if_pos rfl] at hof
      cases hg : goodIn k p with
      | false =>
        rw [hg, if_neg (by simp)] at hof
        rw [if_neg (by simp)]
        simp only [Option.map_none, Option.getD_none, nP]
        clear ha hg
        refine spec_pure (by simp) (by simp) ?_
        refine spec_intro Tryz.func12 good12 rfl (by simp [Tryz.ntmps12]) ?_
        exact go0 [] [] (cns hof (cns hin (cns Tryz.results12 (cns cN5.eq_1 trivial))))
      | true =>
        rw [hg, if_pos rfl] at hof
        rw [if_pos ⟨rfl, rfl⟩]
        simp only [Option.map_some, Option.getD_some, NodeV.av]
        have hl := dOfInner_spec k p (withM [] m)
        clear ha hg
        refine spec_pure (by simp) (by simp) ?_
        refine spec_intro Tryz.func12 good12 rfl (by simp [Tryz.ntmps12]) ?_
        exact go0 [] [] (cns hof (cns hl (cns Tryz.results12 (cns cN5.eq_1 trivial))))
/-- A node as the reference's. -/
def NodeV.c5 : NodeV → List AV
  | .l o => cN5 true o [] [] []
  | .i k p m => cN5 false [] k p m
end Go.Proofs.YticpnfgiidljlaaGreat
