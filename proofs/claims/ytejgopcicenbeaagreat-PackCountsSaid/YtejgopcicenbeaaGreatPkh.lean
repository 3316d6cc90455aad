/- The law of chapter 15: awake. -/
import Derived.Test.YtejgopcicenbeaaGreatPkg
import Derived.Test.YtejgopcicenbeaaGreatPka
namespace Go.Proofs.YtejgopcicenbeaaGreat
open Go.RowKit
set_option linter.unusedSimpArgs false
set_option linter.unusedVariables false
set_option maxRecDepth 10000
def iA : Item := ⟨⟨#[97]⟩, ⟨#[]⟩⟩
def iB : Item := ⟨⟨#[98]⟩, ⟨#[]⟩⟩
def nestN (es : List Ent) (c : Nat) (next : Int) : Sto := [oMap es c, oMap [] 0, oMap [] 0, oNest (.fp (cDev 1) 0) 0 next (.mm 1) (.sc (.slice none 0 0)) (.sc (.int .i64 0)) (.mm 2)]
theorem wAw15_spec : PSpec Tryz.prog 8 [] (.sc (.bool true)) := by
  have hN : Spec Tryz.prog 15 [.fp (cDev 1) 0] [] fun v s => v = .mp 3 0 0 ∧ s = nestN [] 0 512 := kNew_spec (cDev 1) []
  have hB1 : Spec Tryz.prog 18 [.mp 3 0 0, .fs [.sc (.string ⟨#[97]⟩), .sc (.string ⟨#[]⟩), .sc (.string ⟨#[98]⟩), .sc (.string ⟨#[]⟩)] 2] (nestN [] 0 512) fun v s => v = .tup [.sc (.int .i64 512), .sc (.int .i64 0)] ∧ ∃ X, s = nestN [(512, .fp (cNl [iA, iB]) 0, 0)] 1 513 ++ X :=
    pBuild_one (q := 3) (f := 0) (σ := nestN [] 0 512) rfl rfl [iA, iB] [iA, iB] (by simp) (by decide) (by decide) (by omega)
  have hG : ∀ X, Spec Tryz.prog 27 [.mp 3 0 0, .sc (.int .i64 512)] (nestN [(512, .fp (cNl [iA, iB]) 0, 0)] 1 513 ++ X) fun v s => v = .tup [.fp (cNl [iA, iB]) 0, .sc (.int .i64 0)] ∧ s = nestN [(512, .fp (cNl [iA, iB]) 0, 0)] 1 513 ++ X := fun X =>
    kGet_spec (q := 3) (f := 0) (σ := nestN [(512, .fp (cNl [iA, iB]) 0, 0)] 1 513 ++ X) rfl rfl rfl
  have hB2 : ∀ X, Spec Tryz.prog 18 [.mp 3 0 0, .fs [.sc (.string ⟨#[98]⟩), .sc (.string ⟨#[]⟩), .sc (.string ⟨#[97]⟩), .sc (.string ⟨#[]⟩)] 2] (nestN [(512, .fp (cNl [iA, iB]) 0, 0)] 1 513 ++ X) fun v s => v = .tup [.sc (.int .i64 0), .sc (.int .i64 11)] ∧ s = nestN [(512, .fp (cNl [iA, iB]) 0, 0)] 1 513 ++ X := fun X =>
    pBuild_no [iB, iA] (by simp) (by decide)
  have c7 := pCount_spec 7 (by omega)
  have c1 := pCount_spec 1 (by omega)
  have c0 := pCount_spec 0 (by omega)
  have l7 := pLevels_spec 7 (by omega)
  have e7 : cntN 7 = 10 := by rw [cntN_gt (by omega), show upN 7 = 2 from rfl, cntN_gt (by omega), show upN 2 = 1 from rfl, cntN_le (by omega)]
  have e1 : cntN 1 = 1 := cntN_le (by omega)
  have e0 : cntN 0 = 0 := cntN_le (by omega)
  have f7 : lvlN 7 = 3 := by rw [lvlN_gt (by omega), show upN 7 = 2 from rfl, lvlN_gt (by omega), show upN 2 = 1 from rfl, lvlN_le (by omega)]
  rw [e7] at c7
  rw [e1] at c1
  rw [e0] at c0
  rw [f7] at l7
  have hL := dLeaf_l [iA, iB]
  have hI := dIsLeaf_l [iA, iB]
  have hn := lLen_spec [iA, iB]
  clear e7 e1 e0 f7
  refine spec_pure (by simp) (by simp) ?_
  refine spec_intro Tryz.func8 good8 rfl (by simp [Tryz.ntmps8]) ?_
  refine go1 [] [] (cns vNew_one (cns Tryz.results8 trivial)) ?_
  refine rwf_ca rfl fun C' hC hP => ?_
  clear hP
  (try simp [*, -List.all_eq_true]); (try (simp (disch := first | assumption | omega) only [wrap_id, wrapu_id, wrapb_id, tmod_nn, tdiv_nn, ite_yes, flatM_seg, flatM_0, flatM_1, flatM_2, flatI_seg, flatI_0, flatI_1, flatS_get]; (try simp [*, -List.all_eq_true])))
  refine hC.out _ _ _ (hN) fun r s hq => ?_
  clear hC C'
  obtain ⟨rfl, rfl⟩ := hq
  refine go1 [] [] (cns Tryz.results8 trivial) ?_
  refine rwf_ca rfl fun C' hC hP => ?_
  clear hP
  (try simp [*, -List.all_eq_true]); (try (simp (disch := first | assumption | omega) only [wrap_id, wrapu_id, wrapb_id, tmod_nn, tdiv_nn, ite_yes, flatM_seg, flatM_0, flatM_1, flatM_2, flatI_seg, flatI_0, flatI_1, flatS_get]; (try simp [*, -List.all_eq_true])))
  refine hC.out _ _ _ (hB1) fun r s hq => ?_
  clear hC C'
  obtain ⟨rfl, X, rfl⟩ := hq
  repeat' (first
   | (with_reducible first | refine Stp.pf ?_ | refine block_x (by decide) ?_ | refine ret_n ?_)
   | refine tri_reg [] ?_ | refine tri_regc [] [] mixed (by decide +kernel) ?_
   | (refine rwf_nilt rfl (by decide +kernel) fun B hB => ?_; (try simp [*]); refine hB.out _ fun b => ?_; clear hB B)
   | (refine Rul.pf ⟨rfl, rfl⟩ fun B C hB => ?_; (try simp [*, -List.all_eq_true, Tryz.results8]); (try (simp (disch := first | assumption | omega) only [wc, ite_yes]; (try simp [*, -List.all_eq_true, Tryz.results8]))); first | (first | refine hB.out.1 _ (fun hb => ?_) fun hb => ⟨rfl, ?_⟩ | refine hB.out.1 _ (fun hb => ?_) fun hb => ?_) <;> clear hB C B <;> (try simp only [Bool.not_true, Bool.not_false] at hb) <;> (first | (exfalso; simp at hb; done) | (exfalso; simp at hb; omega) | (rw [hb]; (try simp at hb)) | (try simp at hb)) | ((first | refine hB.out.1 _ _ ?_ | refine hB.out.1 _ ?_ | refine hB.out.2 ⟨rfl, ?_⟩); clear hB C B) | (refine hB.out.2 _ ?_; clear hB C B; (try rfl)))
   | refine rwf_o ?_ | refine rwc_o .n rfl ?_ | refine rwc_o .z rfl ?_ | refine rwc_o .w rfl ?_ | refine rwc_o .b rfl ?_ | refine rwc_o _ rfl ?_)
  refine rwf_ca rfl fun C' hC hP => ?_
  clear hP
  (try simp [*, -List.all_eq_true]); (try (simp (disch := first | assumption | omega) only [wrap_id, wrapu_id, wrapb_id, tmod_nn, tdiv_nn, ite_yes, flatM_seg, flatM_0, flatM_1, flatM_2, flatI_seg, flatI_0, flatI_1, flatS_get]; (try simp [*, -List.all_eq_true])))
  refine hC.out _ _ _ (hG X) fun r s hq => ?_
  clear hC C'
  obtain ⟨rfl, rfl⟩ := hq
  repeat' (first
   | (with_reducible first | refine Stp.pf ?_ | refine block_x (by decide) ?_ | refine ret_n ?_)
   | refine tri_reg [] ?_ | refine tri_regc [] [] mixed (by decide +kernel) ?_
   | (refine rwf_nilt rfl (by decide +kernel) fun B hB => ?_; (try simp [*]); refine hB.out _ fun b => ?_; clear hB B)
   | (refine Rul.pf ⟨rfl, rfl⟩ fun B C hB => ?_; (try simp [*, -List.all_eq_true, Tryz.results8]); (try (simp (disch := first | assumption | omega) only [wc, ite_yes]; (try simp [*, -List.all_eq_true, Tryz.results8]))); first | (first | refine hB.out.1 _ (fun hb => ?_) fun hb => ⟨rfl, ?_⟩ | refine hB.out.1 _ (fun hb => ?_) fun hb => ?_) <;> clear hB C B <;> (try simp only [Bool.not_true, Bool.not_false] at hb) <;> (first | (exfalso; simp at hb; done) | (exfalso; simp at hb; omega) | (rw [hb]; (try simp at hb)) | (try simp at hb)) | ((first | refine hB.out.1 _ _ ?_ | refine hB.out.1 _ ?_ | refine hB.out.2 ⟨rfl, ?_⟩); clear hB C B) | (refine hB.out.2 _ ?_; clear hB C B; (try rfl)))
   | refine rwf_o ?_ | refine rwc_o .n rfl ?_ | refine rwc_o .z rfl ?_ | refine rwc_o .w rfl ?_ | refine rwc_o .b rfl ?_ | refine rwc_o _ rfl ?_)
  refine rwf_ca rfl fun C' hC hP => ?_
  clear hP
  (try simp [*, -List.all_eq_true]); (try (simp (disch := first | assumption | omega) only [wrap_id, wrapu_id, wrapb_id, tmod_nn, tdiv_nn, ite_yes, flatM_seg, flatM_0, flatM_1, flatM_2, flatI_seg, flatI_0, flatI_1, flatS_get]; (try simp [*, -List.all_eq_true])))
  refine hC.out _ _ _ (hB2 X) fun r s hq => ?_
  clear hC C'
  obtain ⟨rfl, rfl⟩ := hq
  clear hN hB1 hG hB2
  repeat' (first
   | (with_reducible first | refine Stp.pf ?_ | refine block_x (by decide) ?_ | refine ret_n ?_)
   | refine tri_reg [] ?_ | refine tri_regc [] [] mixed (by decide +kernel) ?_
   | (refine rwf_nilt rfl (by decide +kernel) fun B hB => ?_; (try simp [*]); refine hB.out _ fun b => ?_; clear hB B)
   | (refine Rul.pf ⟨rfl, rfl⟩ fun B C hB => ?_; (try simp [*, -List.all_eq_true, Tryz.results8]); (try (simp (disch := first | assumption | omega) only [wc, ite_yes]; (try simp [*, -List.all_eq_true, Tryz.results8]))); first | (first | refine hB.out.1 _ (fun hb => ?_) fun hb => ⟨rfl, ?_⟩ | refine hB.out.1 _ (fun hb => ?_) fun hb => ?_) <;> clear hB C B <;> (try simp only [Bool.not_true, Bool.not_false] at hb) <;> (first | (exfalso; simp at hb; done) | (exfalso; simp at hb; omega) | (rw [hb]; (try simp at hb)) | (try simp at hb)) | ((first | refine hB.out.1 _ _ ?_ | refine hB.out.1 _ ?_ | refine hB.out.2.1 _ _ _ (hI) ?_ | refine hB.out.2.2 _ _ _ (hI) ?_ | refine hB.out.2.1 _ _ _ (hL) ?_ | refine hB.out.2.2 _ _ _ (hL) ?_ | refine hB.out.2.1 _ _ _ (hn) ?_ | refine hB.out.2.2 _ _ _ (hn) ?_ | refine hB.out.2.1 _ _ _ (c7) ?_ | refine hB.out.2.2 _ _ _ (c7) ?_ | refine hB.out.2.1 _ _ _ (l7) ?_ | refine hB.out.2.2 _ _ _ (l7) ?_ | refine hB.out.2.1 _ _ _ (c1) ?_ | refine hB.out.2.2 _ _ _ (c1) ?_ | refine hB.out.2.1 _ _ _ (c0) ?_ | refine hB.out.2.2 _ _ _ (c0) ?_ | refine hB.out.2 ⟨rfl, ?_⟩); clear hB C B) | (refine hB.out.2 _ ?_; clear hB C B; (try rfl)))
   | refine rwf_o ?_ | refine rwc_o .n rfl ?_ | refine rwc_o .z rfl ?_ | refine rwc_o .w rfl ?_ | refine rwc_o .b rfl ?_ | refine rwc_o _ rfl ?_)
end Go.Proofs.YtejgopcicenbeaaGreat
