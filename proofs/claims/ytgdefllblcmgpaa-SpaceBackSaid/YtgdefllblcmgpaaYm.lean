/- Spaces: awake. -/
import Derived.Test.YtgdefllblcmgpaaYl
namespace Go.Proofs.Ytgdefllblcmgpaa
open Go.RowKit
set_option linter.unusedSimpArgs false
set_option maxRecDepth 10000
theorem sNew_ok (n : Int) (h : 1 ≤ n ∧ n ≤ 512) (σ : Sto) : Spec Try.prog 8 [.sc (.int .i64 n)] σ (fun r s => r = .mp σ.length 0 0 ∧ s = σ ++ [⟨[.sc (.int .i64 n), .sc (.slice none 0 0)], 0, false, false⟩]) :=
  (sNew_spec n σ).mono fun _ _ h' => h'.elim (fun q => by omega) fun q => q.2
theorem sNew_no (n : Int) (h : n < 1 ∨ 512 < n) : PSpec Try.prog 8 [.sc (.int .i64 n)] (.sc (.pointer none)) := fun σ =>
  (sNew_spec n σ).mono fun _ _ h' => h'.elim (fun q => q.2) fun q => by omega
theorem SpV.new (n : Int) (σ : Sto) : SpV σ.length n (.sc (.slice none 0 0)) [] (σ ++ [⟨[.sc (.int .i64 n), .sc (.slice none 0 0)], 0, false, false⟩]) := ⟨by simp, .inl ⟨rfl, rfl, rfl⟩⟩
def aw1 : List Ext := [⟨0, 3⟩, ⟨5, 2⟩]
def aw2 : List Ext := [⟨2, 2⟩]
def aw3 : List Ext := [⟨0, 3⟩]
theorem norm_dec {n : Int} {e : List Ext} (h : decide (e.Pairwise (fun x y => x.lo + x.sz < y.lo)) = true) (k : e.all (fun x => decide (0 ≤ x.lo) && decide (1 ≤ x.sz) && decide (x.lo + x.sz ≤ n)) = true) : Norm n e :=
  ⟨of_decide_eq_true h, fun x hx => by
    have := List.all_eq_true.1 k x hx
    simp at this
    exact ⟨this.1.1, this.1.2, this.2⟩⟩
set_option maxHeartbeats 1000000 in
theorem awake_spec : PSpec Try.prog 7 [] (.sc (.bool true)) := by
  have hN0 := sNew_no 0 (.inl (by omega))
  have hN := sNew_ok 10 (by omega) []
  have e1 := ext_spec 0 3
  have e2 := ext_spec 5 2
  have e3 := ext_spec 2 2
  have hS := SpV.new 10 []
  have g1 := sGiveA_spec 0 10 [] aw1 _ _ hS (norm_nil 10) (by omega) (by decide)
  rw [show chkR 10 aw1 (fun x => !touchX [] x) = 0 by decide +kernel, show foldR 0 [] (aw1.foldl giveX []) = aw1 by decide +kernel] at g1
  refine spec_pure (by simp [flatL]) (by simp [AV.flat]) ?_
  refine spec_intro Try.func7 good7 rfl (by simp [Try.ntmps7]) ?_
  have flat1 : flatE aw1 = [.sc (.int .i64 0), .sc (.int .i64 3), .sc (.int .i64 5), .sc (.int .i64 2)] := rfl
  have flat2 : flatE aw2 = [.sc (.int .i64 2), .sc (.int .i64 2)] := rfl
  have len1 : aw1.length = 2 := rfl
  have len2 : aw2.length = 1 := rfl
  rw [flat1, len1] at g1
  simp only [cE] at e1 e2 e3
  repeat' (first
   | (with_reducible first | refine Stp.pf ?_ | refine block_x (by decide) ?_ | refine ret_n ?_)
   | refine tri_reg [] ?_ | refine tri_regc [] [] mixed (by decide +kernel) ?_
   | (refine rwf_nilt rfl (by decide +kernel) fun B hB => ?_; (try simp [*]); refine hB.out _ fun b => ?_; clear hB B)
   | (refine Rul.pf ⟨rfl, rfl⟩ fun B C hB => ?_; (try simp [*, -List.all_eq_true, Try.results7]); (try (simp (disch := first | assumption | omega) only [wc, ite_yes]; (try simp [*, -List.all_eq_true, Try.results7]))); first | (first | refine hB.out.1 _ (fun hb => ?_) fun hb => ⟨rfl, ?_⟩ | refine hB.out.1 _ (fun hb => ?_) fun hb => ?_) <;> clear hB C B <;> (try simp only [Bool.not_true, Bool.not_false] at hb) <;> (first | (exfalso; simp at hb; done) | (exfalso; simp at hb; omega) | (rw [hb]; (try simp at hb)) | (try simp at hb)) | ((first | refine hB.out.1 _ _ ?_ | refine hB.out.1 _ ?_ | refine hB.out.2 ⟨rfl, ?_⟩); clear hB C B) | (refine hB.out.2 _ ?_; clear hB C B; (try rfl)))
   | refine rwf_o ?_ | refine rwc_o .n rfl ?_ | refine rwc_o .z rfl ?_ | refine rwc_o .w rfl ?_ | refine rwc_o .b rfl ?_ | refine rwc_o _ rfl ?_)
  refine rwf_ca rfl fun C' hC hP => ?_
  clear hP
  (try simp [*, -List.all_eq_true]); (try (simp (disch := first | assumption | omega) only [wrap_id, wrapu_id, wrapb_id, tmod_nn, tdiv_nn, ite_yes, flatM_seg, flatM_0, flatM_1, flatM_2, flatI_seg, flatI_0, flatI_1, flatS_get]; (try simp [*, -List.all_eq_true])))
  refine hC.out _ _ _ (hN) fun r s hq => ?_
  clear hC C'
  obtain ⟨rfl, rfl⟩ := hq
  clear hN
  repeat' (first
   | (with_reducible first | refine Stp.pf ?_ | refine block_x (by decide) ?_ | refine ret_n ?_)
   | refine tri_reg [] ?_ | refine tri_regc [] [] mixed (by decide +kernel) ?_
   | (refine rwf_nilt rfl (by decide +kernel) fun B hB => ?_; (try simp [*]); refine hB.out _ fun b => ?_; clear hB B)
   | (refine Rul.pf ⟨rfl, rfl⟩ fun B C hB => ?_; (try simp [*, -List.all_eq_true, Try.results7]); (try (simp (disch := first | assumption | omega) only [wc, ite_yes]; (try simp [*, -List.all_eq_true, Try.results7]))); first | (first | refine hB.out.1 _ (fun hb => ?_) fun hb => ⟨rfl, ?_⟩ | refine hB.out.1 _ (fun hb => ?_) fun hb => ?_) <;> clear hB C B <;> (try simp only [Bool.not_true, Bool.not_false] at hb) <;> (first | (exfalso; simp at hb; done) | (exfalso; simp at hb; omega) | (rw [hb]; (try simp at hb)) | (try simp at hb)) | ((first | refine hB.out.1 _ _ ?_ | refine hB.out.1 _ ?_ | refine hB.out.2.1 _ _ _ (hN0) ?_ | refine hB.out.2.2 _ _ _ (hN0) ?_ | refine hB.out.2.1 _ _ _ (e1) ?_ | refine hB.out.2.2 _ _ _ (e1) ?_ | refine hB.out.2.1 _ _ _ (e2) ?_ | refine hB.out.2.2 _ _ _ (e2) ?_ | refine hB.out.2.1 _ _ _ (e3) ?_ | refine hB.out.2.2 _ _ _ (e3) ?_ | refine hB.out.2 ⟨rfl, ?_⟩); clear hB C B) | (refine hB.out.2 _ ?_; clear hB C B; (try rfl)))
   | refine rwf_o ?_ | refine rwc_o .n rfl ?_ | refine rwc_o .z rfl ?_ | refine rwc_o .w rfl ?_ | refine rwc_o .b rfl ?_ | refine rwc_o _ rfl ?_)
  refine rwf_ca rfl fun C' hC hP => ?_
  clear hP
  (try simp [*, -List.all_eq_true]); (try (simp (disch := first | assumption | omega) only [wrap_id, wrapu_id, wrapb_id, tmod_nn, tdiv_nn, ite_yes, flatM_seg, flatM_0, flatM_1, flatM_2, flatI_seg, flatI_0, flatI_1, flatS_get]; (try simp [*, -List.all_eq_true])))
  refine hC.out _ _ _ (g1) fun r s hq => ?_
  clear hC C'
  obtain ⟨rfl, v1, hS1, _⟩ := hq
  have n1 : Norm 10 aw1 := norm_dec (by decide) (by decide)
  have g2 := sGiveA_spec 0 10 aw1 aw2 _ _ hS1 n1 (by omega) (by decide)
  rw [show chkR 10 aw2 (fun x => !touchX aw1 x) = 11 by decide +kernel, show foldR 11 aw1 (aw2.foldl giveX aw1) = aw1 by decide +kernel, flat2, len2] at g2
  clear g1 hS hS1
  repeat' (first
   | (with_reducible first | refine Stp.pf ?_ | refine block_x (by decide) ?_ | refine ret_n ?_)
   | refine tri_reg [] ?_ | refine tri_regc [] [] mixed (by decide +kernel) ?_
   | (refine rwf_nilt rfl (by decide +kernel) fun B hB => ?_; (try simp [*]); refine hB.out _ fun b => ?_; clear hB B)
   | (refine Rul.pf ⟨rfl, rfl⟩ fun B C hB => ?_; (try simp [*, -List.all_eq_true, Try.results7]); (try (simp (disch := first | assumption | omega) only [wc, ite_yes]; (try simp [*, -List.all_eq_true, Try.results7]))); first | (first | refine hB.out.1 _ (fun hb => ?_) fun hb => ⟨rfl, ?_⟩ | refine hB.out.1 _ (fun hb => ?_) fun hb => ?_) <;> clear hB C B <;> (try simp only [Bool.not_true, Bool.not_false] at hb) <;> (first | (exfalso; simp at hb; done) | (exfalso; simp at hb; omega) | (rw [hb]; (try simp at hb)) | (try simp at hb)) | ((first | refine hB.out.1 _ _ ?_ | refine hB.out.1 _ ?_ | refine hB.out.2.1 _ _ _ (e1) ?_ | refine hB.out.2.2 _ _ _ (e1) ?_ | refine hB.out.2.1 _ _ _ (e2) ?_ | refine hB.out.2.2 _ _ _ (e2) ?_ | refine hB.out.2.1 _ _ _ (e3) ?_ | refine hB.out.2.2 _ _ _ (e3) ?_ | refine hB.out.2 ⟨rfl, ?_⟩); clear hB C B) | (refine hB.out.2 _ ?_; clear hB C B; (try rfl)))
   | refine rwf_o ?_ | refine rwc_o .n rfl ?_ | refine rwc_o .z rfl ?_ | refine rwc_o .w rfl ?_ | refine rwc_o .b rfl ?_ | refine rwc_o _ rfl ?_)
  refine rwf_ca rfl fun C' hC hP => ?_
  clear hP
  (try simp [*, -List.all_eq_true]); (try (simp (disch := first | assumption | omega) only [wrap_id, wrapu_id, wrapb_id, tmod_nn, tdiv_nn, ite_yes, flatM_seg, flatM_0, flatM_1, flatM_2, flatI_seg, flatI_0, flatI_1, flatS_get]; (try simp [*, -List.all_eq_true])))
  refine hC.out _ _ _ (g2) fun r s hq => ?_
  clear hC C'
  obtain ⟨rfl, v2, hS2, _⟩ := hq
  have t1 := sTake_spec 0 10 aw1 2 _ _ hS2 n1 (by omega)
  rw [show takeX aw1 2 = (⟨5, 2⟩, 0, aw3) by decide +kernel] at t1
  clear g2 hS2
  repeat' (first
   | (with_reducible first | refine Stp.pf ?_ | refine block_x (by decide) ?_ | refine ret_n ?_)
   | refine tri_reg [] ?_ | refine tri_regc [] [] mixed (by decide +kernel) ?_
   | (refine rwf_nilt rfl (by decide +kernel) fun B hB => ?_; (try simp [*]); refine hB.out _ fun b => ?_; clear hB B)
   | (refine Rul.pf ⟨rfl, rfl⟩ fun B C hB => ?_; (try simp [*, -List.all_eq_true, Try.results7]); (try (simp (disch := first | assumption | omega) only [wc, ite_yes]; (try simp [*, -List.all_eq_true, Try.results7]))); first | (first | refine hB.out.1 _ (fun hb => ?_) fun hb => ⟨rfl, ?_⟩ | refine hB.out.1 _ (fun hb => ?_) fun hb => ?_) <;> clear hB C B <;> (try simp only [Bool.not_true, Bool.not_false] at hb) <;> (first | (exfalso; simp at hb; done) | (exfalso; simp at hb; omega) | (rw [hb]; (try simp at hb)) | (try simp at hb)) | ((first | refine hB.out.1 _ _ ?_ | refine hB.out.1 _ ?_ | refine hB.out.2 ⟨rfl, ?_⟩); clear hB C B) | (refine hB.out.2 _ ?_; clear hB C B; (try rfl)))
   | refine rwf_o ?_ | refine rwc_o .n rfl ?_ | refine rwc_o .z rfl ?_ | refine rwc_o .w rfl ?_ | refine rwc_o .b rfl ?_ | refine rwc_o _ rfl ?_)
  refine rwf_ca rfl fun C' hC hP => ?_
  clear hP
  (try simp [*, -List.all_eq_true]); (try (simp (disch := first | assumption | omega) only [wrap_id, wrapu_id, wrapb_id, tmod_nn, tdiv_nn, ite_yes, flatM_seg, flatM_0, flatM_1, flatM_2, flatI_seg, flatI_0, flatI_1, flatS_get]; (try simp [*, -List.all_eq_true])))
  refine hC.out _ _ _ (t1) fun r s hq => ?_
  clear hC C'
  obtain ⟨rfl, v3, hS3, _⟩ := hq
  have n3 : Norm 10 aw3 := norm_dec (by decide) (by decide)
  have t2 := sTake_spec 0 10 aw3 4 _ _ hS3 n3 (by omega)
  rw [show takeX aw3 4 = (⟨0, 0⟩, 9, aw3) by decide +kernel] at t2
  clear t1 hS3 n1
  repeat' (first
   | (with_reducible first | refine Stp.pf ?_ | refine block_x (by decide) ?_ | refine ret_n ?_)
   | refine tri_reg [] ?_ | refine tri_regc [] [] mixed (by decide +kernel) ?_
   | (refine rwf_nilt rfl (by decide +kernel) fun B hB => ?_; (try simp [*]); refine hB.out _ fun b => ?_; clear hB B)
   | (refine Rul.pf ⟨rfl, rfl⟩ fun B C hB => ?_; (try simp [*, -List.all_eq_true, cE, Try.results7]); (try (simp (disch := first | assumption | omega) only [wc, ite_yes]; (try simp [*, -List.all_eq_true, cE, Try.results7]))); first | (first | refine hB.out.1 _ (fun hb => ?_) fun hb => ⟨rfl, ?_⟩ | refine hB.out.1 _ (fun hb => ?_) fun hb => ?_) <;> clear hB C B <;> (try simp only [Bool.not_true, Bool.not_false] at hb) <;> (first | (exfalso; simp at hb; done) | (exfalso; simp at hb; omega) | (rw [hb]; (try simp at hb)) | (try simp at hb)) | ((first | refine hB.out.1 _ _ ?_ | refine hB.out.1 _ ?_ | refine hB.out.2 ⟨rfl, ?_⟩); clear hB C B) | (refine hB.out.2 _ ?_; clear hB C B; (try rfl)))
   | refine rwf_o ?_ | refine rwc_o .n rfl ?_ | refine rwc_o .z rfl ?_ | refine rwc_o .w rfl ?_ | refine rwc_o .b rfl ?_ | refine rwc_o _ rfl ?_)
  refine rwf_ca rfl fun C' hC hP => ?_
  clear hP
  (try simp [*, -List.all_eq_true, cE]); (try (simp (disch := first | assumption | omega) only [wrap_id, wrapu_id, wrapb_id, tmod_nn, tdiv_nn, ite_yes, flatM_seg, flatM_0, flatM_1, flatM_2, flatI_seg, flatI_0, flatI_1, flatS_get]; (try simp [*, -List.all_eq_true, cE])))
  refine hC.out _ _ _ (t2) fun r s hq => ?_
  clear hC C'
  obtain ⟨rfl, v4, hS4, _⟩ := hq
  have q1 := qFree hS4 n3 (by omega)
  have q2 := qLargest hS4 n3 (by omega)
  have q3 := qText hS4 n3 (by omega) (m := 2) (by decide)
  have q4 := qHas hS4 n3 (by omega) 2
  have q5 := qHas hS4 n3 (by omega) 5
  rw [show freeX aw3 = 3 by decide] at q1
  rw [show largeX aw3 = 3 by decide] at q2
  rw [show textF (fun i : Nat => hasX aw3 i) 2 = [224, 0] by decide +kernel] at q3
  rw [show hasX aw3 2 = true by decide] at q4
  rw [show hasX aw3 5 = false by decide] at q5
  clear t2 hS4
  repeat' (first
   | (with_reducible first | refine Stp.pf ?_ | refine block_x (by decide) ?_ | refine ret_n ?_)
   | refine tri_reg [] ?_ | refine tri_regc [] [] mixed (by decide +kernel) ?_
   | (refine rwf_nilt rfl (by decide +kernel) fun B hB => ?_; (try simp [*]); refine hB.out _ fun b => ?_; clear hB B)
   | (refine Rul.pf ⟨rfl, rfl⟩ fun B C hB => ?_; (try simp [*, -List.all_eq_true, cE, Try.results7]); (try (simp (disch := first | assumption | omega) only [wc, ite_yes]; (try simp [*, -List.all_eq_true, cE, Try.results7]))); first | (first | refine hB.out.1 _ (fun hb => ?_) fun hb => ⟨rfl, ?_⟩ | refine hB.out.1 _ (fun hb => ?_) fun hb => ?_) <;> clear hB C B <;> (try simp only [Bool.not_true, Bool.not_false] at hb) <;> (first | (exfalso; simp at hb; done) | (exfalso; simp at hb; omega) | (rw [hb]; (try simp at hb)) | (try simp at hb)) | ((first | refine hB.out.1 _ _ ?_ | refine hB.out.1 _ ?_ | refine hB.out.2.1 _ _ _ (q1) ?_ | refine hB.out.2.2 _ _ _ (q1) ?_ | refine hB.out.2.1 _ _ _ (q2) ?_ | refine hB.out.2.2 _ _ _ (q2) ?_ | refine hB.out.2.1 _ _ _ (q3) ?_ | refine hB.out.2.2 _ _ _ (q3) ?_ | refine hB.out.2.1 _ _ _ (q4) ?_ | refine hB.out.2.2 _ _ _ (q4) ?_ | refine hB.out.2.1 _ _ _ (q5) ?_ | refine hB.out.2.2 _ _ _ (q5) ?_ | refine hB.out.2.1 _ _ _ (e2) ?_ | refine hB.out.2.2 _ _ _ (e2) ?_ | refine hB.out.2 ⟨rfl, ?_⟩); clear hB C B) | (refine hB.out.2 _ ?_; clear hB C B; (try rfl)))
   | refine rwf_o ?_ | refine rwc_o .n rfl ?_ | refine rwc_o .z rfl ?_ | refine rwc_o .w rfl ?_ | refine rwc_o .b rfl ?_ | refine rwc_o _ rfl ?_)
end Go.Proofs.Ytgdefllblcmgpaa
