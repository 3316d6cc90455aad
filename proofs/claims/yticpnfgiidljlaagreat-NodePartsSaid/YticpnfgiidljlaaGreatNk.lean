/- Nodes: what they are, Fits, Same. -/
import Derived.Test.YticpnfgiidljlaaGreatNj
import Derived.Test.YticpnfgiidljlaaGreatEc
import Derived.Test.YticpnfgiidljlaaGreatEb
namespace Go.Proofs.YticpnfgiidljlaaGreat
open Go.RowKit
set_option linter.unusedSimpArgs false
set_option linter.unusedVariables false
set_option maxRecDepth 10000
def nP : AV := .sc (.pointer none)
def cNl (l : List Item) : List AV := [.fp (cL l) 0, .sc (.pointer none)]
def cNi (k : List Int) (p : List Str) (m : List Msg) : List AV := [.sc (.pointer none), .fp (cIn k p m) 0]
@[simp] theorem cNl_flat (l : List Item) : flatL (cNl l) = true := by simp [cNl, cL, flatL, AV.flat]
@[simp] theorem cNi_flat (k : List Int) (p : List Str) (m : List Msg) : flatL (cNi k p m) = true := by simp [cNi, flatL, AV.flat]
theorem dOfLeaf_spec (l : List Item) : PSpec Tryz.prog 27 [.fp (cL l) 0] (.fp (cNl l) 0) := by
  have hf : flatL (cL l) = true := by simp [cL, flatL, AV.flat]
  refine spec_pure (by simp) (by simp) ?_
  refine spec_intro Tryz.func27 good27 rfl (by simp [Tryz.ntmps27]) ?_
  exact go0 [] [] (cns Tryz.results27 (cns cNl.eq_1 trivial))
theorem dOfLeaf_nil : PSpec Tryz.prog 27 [nP] nP := by
  unfold nP
  refine spec_pure (by simp) (by simp) ?_
  refine spec_intro Tryz.func27 good27 rfl (by simp [Tryz.ntmps27]) ?_
  exact go0 [] [] (cns Tryz.results27 trivial)
theorem dOfInner_spec (k : List Int) (p : List Str) (m : List Msg) : PSpec Tryz.prog 24 [.fp (cIn k p m) 0] (.fp (cNi k p m) 0) := by
  refine spec_pure (by simp) (by simp) ?_
  refine spec_intro Tryz.func24 good24 rfl (by simp [Tryz.ntmps24]) ?_
  exact go0 [] [] (cns Tryz.results24 (cns cNi.eq_1 trivial))
theorem dOfInner_nil : PSpec Tryz.prog 24 [nP] nP := by
  unfold nP
  refine spec_pure (by simp) (by simp) ?_
  refine spec_intro Tryz.func24 good24 rfl (by simp [Tryz.ntmps24]) ?_
  exact go0 [] [] (cns Tryz.results24 trivial)
theorem dIsLeaf_l (l : List Item) : PSpec Tryz.prog 18 [.fp (cNl l) 0] (.sc (.bool true)) := by
  refine spec_pure (by simp) (by simp) ?_
  refine spec_intro Tryz.func18 good18 rfl (by simp [Tryz.ntmps18]) ?_
  exact go0 [] [] (cns Tryz.results18 (cns cNl.eq_1 trivial))
theorem dIsLeaf_i (k : List Int) (p : List Str) (m : List Msg) : PSpec Tryz.prog 18 [.fp (cNi k p m) 0] (.sc (.bool false)) := by
  refine spec_pure (by simp) (by simp) ?_
  refine spec_intro Tryz.func18 good18 rfl (by simp [Tryz.ntmps18]) ?_
  exact go0 [] [] (cns Tryz.results18 (cns cNi.eq_1 trivial))
theorem dLeaf_l (l : List Item) : PSpec Tryz.prog 22 [.fp (cNl l) 0] (.fp (cL l) 0) := by
  refine spec_pure (by simp) (by simp) ?_
  refine spec_intro Tryz.func22 good22 rfl (by simp [Tryz.ntmps22]) ?_
  exact go0 [] [] (cns Tryz.results22 (cns cNl.eq_1 trivial))
theorem dLeaf_i (k : List Int) (p : List Str) (m : List Msg) : PSpec Tryz.prog 22 [.fp (cNi k p m) 0] nP := by
  unfold nP
  refine spec_pure (by simp) (by simp) ?_
  refine spec_intro Tryz.func22 good22 rfl (by simp [Tryz.ntmps22]) ?_
  exact go0 [] [] (cns Tryz.results22 (cns cNi.eq_1 trivial))
theorem dInner_l (l : List Item) : PSpec Tryz.prog 23 [.fp (cNl l) 0] nP := by
  unfold nP
  refine spec_pure (by simp) (by simp) ?_
  refine spec_intro Tryz.func23 good23 rfl (by simp [Tryz.ntmps23]) ?_
  exact go0 [] [] (cns Tryz.results23 (cns cNl.eq_1 trivial))
theorem dInner_i (k : List Int) (p : List Str) (m : List Msg) : PSpec Tryz.prog 23 [.fp (cNi k p m) 0] (.fp (cIn k p m) 0) := by
  refine spec_pure (by simp) (by simp) ?_
  refine spec_intro Tryz.func23 good23 rfl (by simp [Tryz.ntmps23]) ?_
  exact go0 [] [] (cns Tryz.results23 (cns cNi.eq_1 trivial))
theorem dKids_i (k : List Int) (p : List Str) (m : List Msg) (hk : k.length ≤ 900000) : PSpec Tryz.prog 20 [.fp (cNi k p m) 0] (.fs (flatN k) k.length) := by
  refine spec_pure (by simp) (by simp) ?_
  refine spec_intro Tryz.func20 good20 rfl (by simp [Tryz.ntmps20]) ?_
  exact go0 [] [] (cns (dInner_i k p m) (cns (nKids_spec k p m hk) (cns Tryz.results20 trivial)))
theorem dIsFar_spec (x : Int) : PSpec Tryz.prog 45 [.sc (.int .i64 x)] (.sc (.bool (!decide (x < 512)))) := by
  have : (!decide (x < 512)) = decide (512 ≤ x) := by rw [Bool.eq_iff_iff]; simp
  rw [this]
  refine spec_pure (by simp) (by simp) ?_
  refine spec_intro Tryz.func45 good45 rfl (by simp [Tryz.ntmps45]) ?_
  exact go0 [] [] (cns Tryz.results45 trivial)
/-- Whether an inner node's bytes fit. -/
def fitsIn (k : List Int) (m : List Msg) : Bool := decide (k.length ≤ 6) && decide (mwts m ≤ 180) && k.all (fun x => decide (x < 512))
theorem dFits_l (l : List Item) : PSpec Tryz.prog 11 [.fp (cNl l) 0] (.sc (.bool (decide (iwts l ≤ 240)))) := by
  refine spec_pure (by simp) (by simp) ?_
  refine spec_intro Tryz.func11 good11 rfl (by simp [Tryz.ntmps11]) ?_
  exact go0 [] [] (cns (lWeight_spec l) (cns Tryz.results11 (cns cNl.eq_1 trivial)))
theorem dFits_nil : PSpec Tryz.prog 11 [nP] (.sc (.bool false)) := by
  unfold nP
  refine spec_pure (by simp) (by simp) ?_
  refine spec_intro Tryz.func11 good11 rfl (by simp [Tryz.ntmps11]) ?_
  exact go0 [] [] (cns Tryz.results11 trivial)
theorem dFits_i (k : List Int) (p : List Str) (m : List Msg) (hk : k.length ≤ 900000) : PSpec Tryz.prog 11 [.fp (cNi k p m) 0] (.sc (.bool (fitsIn k m))) := by
  have h1 := nLen_spec k p m
  have h2 := nBuff_spec k p m
  have h3 := bWeight_spec m
  have h4 := nKids_spec k p m hk
  have h5 := contN_of 45 [] (by simp [flatL]) (fun x => decide (x < 512)) k (by omega) fun x _ => dIsFar_spec x
  unfold fitsIn
  generalize k.all (fun x => decide (x < 512)) = b at *
  by_cases c1 : k.length ≤ 6
  · by_cases c2 : mwts m ≤ 180
    · rw [decide_eq_true c1, decide_eq_true c2]
      refine spec_pure (by simp) (by simp) ?_
      refine spec_intro Tryz.func11 good11 rfl (by simp [Tryz.ntmps11]) ?_
      exact go0 [] [] (cns h1 (cns h2 (cns h3 (cns h4 (cns h5 (cns Tryz.results11 (cns cNi.eq_1 trivial)))))))
    · rw [decide_eq_true c1, decide_eq_false c2]
      clear h5 h4
      refine spec_pure (by simp) (by simp) ?_
      refine spec_intro Tryz.func11 good11 rfl (by simp [Tryz.ntmps11]) ?_
      exact go0 [] [] (cns h1 (cns h2 (cns h3 (cns Tryz.results11 (cns cNi.eq_1 trivial)))))
  · rw [decide_eq_false c1]
    have c3 : ¬ (k.length : Int) ≤ 6 := by omega
    clear h5 h4 h3 h2
    refine spec_pure (by simp) (by simp) ?_
    refine spec_intro Tryz.func11 good11 rfl (by simp [Tryz.ntmps11]) ?_
    exact go0 [] [] (cns h1 (cns Tryz.results11 (cns cNi.eq_1 trivial)))
end Go.Proofs.YticpnfgiidljlaaGreat
