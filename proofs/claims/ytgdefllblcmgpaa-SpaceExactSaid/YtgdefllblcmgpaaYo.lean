/- The law SpaceExact's body. -/
import Derived.Test.YtgdefllblcmgpaaYm
import Derived.Test.YtgdefllblcmgpaaYn
import Derived.Test.YtgdefllblcmgpaaOpt
namespace Go.Proofs.Ytgdefllblcmgpaa
open Go.RowKit
set_option linter.unusedSimpArgs false
set_option maxRecDepth 10000
/-- What holds from deed to deed. -/
def ExI (nn : Nat) (l : List Bool) (σ : Sto) : Prop := l.length = nn ∧ ∃ v es, SpV 0 nn v es σ ∧ Rep l es
set_option maxHeartbeats 2000000 in
theorem exact_spec (n : Int) (acts : List Act) (hl : acts.length ≤ 9223372036854775807) : PSpec Try.prog 4 [.sc (.int .i64 n), .fs (flatA acts) acts.length] (.sc (.bool true)) := by
  have haw := awake_spec
  refine spec_pure (by simp) (by simp) ?_
  refine spec_intro Try.func4 good4 rfl (by simp [Try.ntmps4]) ?_
  by_cases hn : 1 ≤ n ∧ n ≤ 512
  · obtain ⟨nn, rfl⟩ := Int.eq_ofNat_of_zero_le (show 0 ≤ n by omega)
    have hnew := sNew_ok nn (by omega) []
    have hS := SpV.new nn []
    repeat' (first
     | (with_reducible first | refine Stp.pf ?_ | refine block_x (by decide) ?_ | refine ret_n ?_)
     | refine tri_reg [] ?_ | refine tri_regc [] [] mixed (by decide +kernel) ?_
     | (refine rwf_nilt rfl (by decide +kernel) fun B hB => ?_; (try simp [*]); refine hB.out _ fun b => ?_; clear hB B)
     | (refine Rul.pf ⟨rfl, rfl⟩ fun B C hB => ?_; (try simp [*, -List.all_eq_true, Try.results4]); (try (simp (disch := first | assumption | omega) only [wc, ite_yes]; (try simp [*, -List.all_eq_true, Try.results4]))); first | (first | refine hB.out.1 _ (fun hb => ?_) fun hb => ⟨rfl, ?_⟩ | refine hB.out.1 _ (fun hb => ?_) fun hb => ?_) <;> clear hB C B <;> (try simp only [Bool.not_true, Bool.not_false] at hb) <;> (first | (exfalso; simp at hb; done) | (exfalso; simp at hb; omega) | (rw [hb]; (try simp at hb)) | (try simp at hb)) | ((first | refine hB.out.1 _ _ ?_ | refine hB.out.1 _ ?_ | refine hB.out.2.1 _ _ _ (haw) ?_ | refine hB.out.2.2 _ _ _ (haw) ?_ | refine hB.out.2 ⟨rfl, ?_⟩); clear hB C B) | (refine hB.out.2 _ ?_; clear hB C B; (try rfl)))
     | refine rwf_o ?_ | refine rwc_o .n rfl ?_ | refine rwc_o .z rfl ?_ | refine rwc_o .w rfl ?_ | refine rwc_o .b rfl ?_ | refine rwc_o _ rfl ?_)
    refine rwf_ca rfl fun C' hC hP => ?_
    clear hP
    (try simp [*, -List.all_eq_true]); (try (simp (disch := first | assumption | omega) only [wrap_id, wrapu_id, wrapb_id, tmod_nn, tdiv_nn, ite_yes, flatM_seg, flatM_0, flatM_1, flatM_2, flatI_seg, flatI_0, flatI_1, flatS_get]; (try simp [*, -List.all_eq_true])))
    refine hC.out _ _ _ (hnew) fun r s hq => ?_
    clear hC C'
    obtain ⟨rfl, rfl⟩ := hq
    clear hnew haw
    obtain ⟨N, hN1, hN2, hN3⟩ : ∃ N, N ≤ acts.length ∧ N ≤ 50 ∧ (acts.length ≤ N ∨ 50 ≤ N) := ⟨min acts.length 50, by omega, by omega, by omega⟩
    have hI0 : ExI nn (List.replicate nn false) [⟨[.sc (.int .i64 nn), .sc (.slice none 0 0)], 0, false, false⟩] := ⟨by simp, _, _, hS, rep_new nn⟩
    replace hI0 := Lib.hid hI0
    clear hS
    repeat' (first
     | (with_reducible first | refine Stp.pf ?_ | refine block_x (by decide) ?_ | refine ret_n ?_)
     | refine tri_reg [] ?_ | refine tri_regc [] [] mixed (by decide +kernel) ?_
     | (refine rwf_nilt rfl (by decide +kernel) fun B hB => ?_; (try simp [*]); refine hB.out _ fun b => ?_; clear hB B)
     | (refine Rul.pf ⟨rfl, rfl⟩ fun B C hB => ?_; (try simp [*, -List.all_eq_true, Try.results4]); (try (simp (disch := first | assumption | omega) only [wc, ite_yes]; (try simp [*, -List.all_eq_true, Try.results4]))); first | (first | refine hB.out.1 _ (fun hb => ?_) fun hb => ⟨rfl, ?_⟩ | refine hB.out.1 _ (fun hb => ?_) fun hb => ?_) <;> clear hB C B <;> (try simp only [Bool.not_true, Bool.not_false] at hb) <;> (first | (exfalso; simp at hb; done) | (exfalso; simp at hb; omega) | (rw [hb]; (try simp at hb)) | (try simp at hb)) | ((first | refine hB.out.1 _ _ ?_ | refine hB.out.1 _ ?_ | refine hB.out.2 ⟨rfl, ?_⟩); clear hB C B) | (refine hB.out.2 _ ?_; clear hB C B; (try rfl)))
     | refine rwf_o ?_ | refine rwc_o .n rfl ?_ | refine rwc_o .z rfl ?_ | refine rwc_o .w rfl ?_ | refine rwc_o .b rfl ?_ | refine rwc_o _ rfl ?_)
    refine tri_for [0, 1, 5] N (fun k_ e σ => e 7 = .sc (.int .i64 k_) ∧ ∃ l, e 6 = .fs (flatB l) nn ∧ ExI nn l σ) ?_ (fun j env' σ' hlt hk hI => ?_) (fun env' σ' hk hI => ?_)
    · refine ⟨by simp, List.replicate nn false, by simp [flatB, cB], hI0.out⟩
    · skip
      (try simp at hk)
      obtain ⟨h7, l, h6, hI⟩ := hI
      clear hI0
      have sg := flatA_seg acts j (by omega)
      generalize acts[j] = x at *
      refine tri_seq_k fun K0 hK0 => ?_
      repeat' (first
       | (with_reducible first | refine Stp.pf ?_ | refine block_x (by decide) ?_ | refine ret_n ?_)
       | refine tri_reg [] ?_ | refine tri_regc [] [] mixed (by decide +kernel) ?_
       | (refine rwf_nilt rfl (by decide +kernel) fun B hB => ?_; (try simp [*]); refine hB.out _ fun b => ?_; clear hB B)
       | (refine Rul.pf ⟨rfl, rfl⟩ fun B C hB => ?_; (try simp [*, -List.all_eq_true, Try.results4]); (try (simp (disch := first | assumption | omega) only [wc, ite_yes]; (try simp [*, -List.all_eq_true, Try.results4]))); first | (first | refine hB.out.1 _ (fun hb => ?_) fun hb => ⟨rfl, ?_⟩ | refine hB.out.1 _ (fun hb => ?_) fun hb => ?_) <;> clear hB C B <;> (try simp only [Bool.not_true, Bool.not_false] at hb) <;> (first | (exfalso; simp at hb; done) | (exfalso; simp at hb; omega) | (rw [hb]; (try simp at hb)) | (try simp at hb)) | ((first | refine hB.out.1 _ _ ?_ | refine hB.out.1 _ ?_ | refine hB.out.2 ⟨rfl, ?_⟩); clear hB C B) | (refine hB.out.2 _ ?_; clear hB C B; (try rfl)))
       | refine rwf_o ?_ | refine rwc_o .n rfl ?_ | refine rwc_o .z rfl ?_ | refine rwc_o .w rfl ?_ | refine rwc_o .b rfl ?_ | refine rwc_o _ rfl ?_)
      refine hK0 _ _ ?_
      clear hK0 K0
      refine tri_seq ?_
      refine tri_block ?_
      refine tri_seq_k fun K0 hK0 => ?_
      repeat' (first
       | (with_reducible first | refine Stp.pf ?_ | refine block_x (by decide) ?_ | refine ret_n ?_)
       | refine tri_reg [] ?_ | refine tri_regc [] [] mixed (by decide +kernel) ?_
       | (refine rwf_nilt rfl (by decide +kernel) fun B hB => ?_; (try simp [*]); refine hB.out _ fun b => ?_; clear hB B)
       | (refine Rul.pf ⟨rfl, rfl⟩ fun B C hB => ?_; (try simp [*, -List.all_eq_true, cA.eq_1, Try.results4]); (try (simp (disch := first | assumption | omega) only [wc, ite_yes]; (try simp [*, -List.all_eq_true, cA.eq_1, Try.results4]))); first | (first | refine hB.out.1 _ (fun hb => ?_) fun hb => ⟨rfl, ?_⟩ | refine hB.out.1 _ (fun hb => ?_) fun hb => ?_) <;> clear hB C B <;> (try simp only [Bool.not_true, Bool.not_false] at hb) <;> (first | (exfalso; simp at hb; done) | (exfalso; simp at hb; omega) | (rw [hb]; (try simp at hb)) | (try simp at hb)) | ((first | refine hB.out.1 _ _ ?_ | refine hB.out.1 _ ?_ | refine hB.out.2 ⟨rfl, ?_⟩); clear hB C B) | (refine hB.out.2 _ ?_; clear hB C B; (try rfl)))
       | refine rwf_o ?_ | refine rwc_o .n rfl ?_ | refine rwc_o .z rfl ?_ | refine rwc_o .w rfl ?_ | refine rwc_o .b rfl ?_ | refine rwc_o _ rfl ?_)
      refine hK0 _ _ ?_
      clear hK0 K0 sg
      by_cases hx : x.l.length ≤ 10
      · refine tri_seq_k fun K0 hK0 => ?_
        repeat' (first
         | (with_reducible first | refine Stp.pf ?_ | refine block_x (by decide) ?_ | refine ret_n ?_)
         | refine tri_reg [] ?_ | refine tri_regc [] [] mixed (by decide +kernel) ?_
         | (refine rwf_nilt rfl (by decide +kernel) fun B hB => ?_; (try simp [*]); refine hB.out _ fun b => ?_; clear hB B)
         | (refine Rul.pf ⟨rfl, rfl⟩ fun B C hB => ?_; (try simp [*, -List.all_eq_true, Try.results4]); (try (simp (disch := first | assumption | omega) only [wc, ite_yes]; (try simp [*, -List.all_eq_true, Try.results4]))); first | (first | refine hB.out.1 _ (fun hb => ?_) fun hb => ⟨rfl, ?_⟩ | refine hB.out.1 _ (fun hb => ?_) fun hb => ?_) <;> clear hB C B <;> (try simp only [Bool.not_true, Bool.not_false] at hb) <;> (first | (exfalso; simp at hb; done) | (exfalso; simp at hb; omega) | (rw [hb]; (try simp at hb)) | (try simp at hb)) | ((first | refine hB.out.1 _ _ ?_ | refine hB.out.1 _ ?_ | refine hB.out.2 ⟨rfl, ?_⟩); clear hB C B) | (refine hB.out.2 _ ?_; clear hB C B; (try rfl)))
         | refine rwf_o ?_ | refine rwc_o .n rfl ?_ | refine rwc_o .z rfl ?_ | refine rwc_o .w rfl ?_ | refine rwc_o .b rfl ?_ | refine rwc_o _ rfl ?_)
        refine hK0 _ _ ?_
        clear hK0 K0
        refine tri_seq_k fun K0 hK0 => ?_
        repeat' (first
         | (with_reducible first | refine Stp.pf ?_ | refine block_x (by decide) ?_ | refine ret_n ?_)
         | refine tri_reg [] ?_ | refine tri_regc [] [] mixed (by decide +kernel) ?_
         | (refine rwf_nilt rfl (by decide +kernel) fun B hB => ?_; (try simp [*]); refine hB.out _ fun b => ?_; clear hB B)
         | (refine Rul.pf ⟨rfl, rfl⟩ fun B C hB => ?_; (try simp [*, -List.all_eq_true, Try.results4]); (try (simp (disch := first | assumption | omega) only [wc, ite_yes]; (try simp [*, -List.all_eq_true, Try.results4]))); first | (first | refine hB.out.1 _ (fun hb => ?_) fun hb => ⟨rfl, ?_⟩ | refine hB.out.1 _ (fun hb => ?_) fun hb => ?_) <;> clear hB C B <;> (try simp only [Bool.not_true, Bool.not_false] at hb) <;> (first | (exfalso; simp at hb; done) | (exfalso; simp at hb; omega) | (rw [hb]; (try simp at hb)) | (try simp at hb)) | ((first | refine hB.out.1 _ _ ?_ | refine hB.out.1 _ ?_ | refine hB.out.2 ⟨rfl, ?_⟩); clear hB C B) | (refine hB.out.2 _ ?_; clear hB C B; (try rfl)))
         | refine rwf_o ?_ | refine rwc_o .n rfl ?_ | refine rwc_o .z rfl ?_ | refine rwc_o .w rfl ?_ | refine rwc_o .b rfl ?_ | refine rwc_o _ rfl ?_)
        refine hK0 _ _ ?_
        clear hK0 K0
        obtain ⟨hlen, v, es, hSp, hrep⟩ := hI
        have hnn : Norm (nn : Int) es := by rw [← hlen]; exact hrep.1
        refine tri_cut (fun e s => e 0 = .sc (.int .i64 nn) ∧ e 1 = .fs (flatA acts) acts.length ∧ e 5 = .mp 0 0 0 ∧ e 7 = .sc (.int .i64 j) ∧ e 8 = .fp (cA x) 0 ∧ ∃ l, e 6 = .fs (flatB l) nn ∧ ExI nn l s) ?_ ?_
        · by_cases hk34 : x.kind = 3 ∨ x.kind = 4
          · have ht := sTake_spec 0 nn es x.n _ v hSp hnn (by omega)
            have hbe := rBest_spec l (by omega) x.n
            have hes := rep_row hrep
            rw [← hes] at hbe
            rw [hlen] at hbe
            clear hes hSp
            by_cases hx1 : x.n < 1
            · have htk : takeX es x.n = (⟨0, 0⟩, 1, es) := by unfold takeX; rw [if_pos hx1]
              rw [htk] at ht
              generalize bestR es x.n = br at *
              obtain ⟨w, is⟩ := br
              rcases hk34 with hk3 | hk3
              · skip
                repeat' (first
                 | (with_reducible first | refine Stp.pf ?_ | refine block_x (by decide) ?_ | refine ret_n ?_)
                 | refine tri_reg [] ?_ | refine tri_regc [] [] mixed (by decide +kernel) ?_
                 | (refine rwf_nilt rfl (by decide +kernel) fun B hB => ?_; (try simp [*]); refine hB.out _ fun b => ?_; clear hB B)
                 | (refine Rul.pf ⟨rfl, rfl⟩ fun B C hB => ?_; (try simp [*, -List.all_eq_true, cA, cE, Try.results4]); (try (simp (disch := first | assumption | omega) only [wc, ite_yes]; (try simp [*, -List.all_eq_true, cA, cE, Try.results4]))); first | (first | refine hB.out.1 _ (fun hb => ?_) fun hb => ⟨rfl, ?_⟩ | refine hB.out.1 _ (fun hb => ?_) fun hb => ?_) <;> clear hB C B <;> (try simp only [Bool.not_true, Bool.not_false] at hb) <;> (first | (exfalso; simp at hb; done) | (exfalso; simp at hb; omega) | (rw [hb]; (try simp at hb)) | (try simp at hb)) | ((first | refine hB.out.1 _ _ ?_ | refine hB.out.1 _ ?_ | refine hB.out.2 ⟨rfl, ?_⟩); clear hB C B) | (refine hB.out.2 _ ?_; clear hB C B; (try rfl)))
                 | refine rwf_o ?_ | refine rwc_o .n rfl ?_ | refine rwc_o .z rfl ?_ | refine rwc_o .w rfl ?_ | refine rwc_o .b rfl ?_ | refine rwc_o _ rfl ?_)
                refine rwf_ca rfl fun C' hC hP => ?_
                clear hP
                (try simp [*, -List.all_eq_true, cA, cE]); (try (simp (disch := first | assumption | omega) only [wrap_id, wrapu_id, wrapb_id, tmod_nn, tdiv_nn, ite_yes, flatM_seg, flatM_0, flatM_1, flatM_2, flatI_seg, flatI_0, flatI_1, flatS_get]; (try simp [*, -List.all_eq_true, cA, cE])))
                refine hC.out _ _ _ (ht) fun r s1 hq => ?_
                clear hC C'
                obtain ⟨rfl, v1, hSp, _⟩ := hq
                clear ht
                have hI1 : Hid (ExI nn l s1) := Lib.hid ⟨hlen, v1, es, hSp, hrep⟩
                clear hSp hrep hnn
                repeat' (first
                 | (with_reducible first | refine Stp.pf ?_ | refine block_x (by decide) ?_ | refine ret_n ?_)
                 | refine tri_reg [] ?_ | refine tri_regc [] [] mixed (by decide +kernel) ?_
                 | (refine rwf_nilt rfl (by decide +kernel) fun B hB => ?_; (try simp [*]); refine hB.out _ fun b => ?_; clear hB B)
                 | (refine Rul.pf ⟨rfl, rfl⟩ fun B C hB => ?_; (try simp [*, -List.all_eq_true, cA, cE, Try.results4]); (try (simp (disch := first | assumption | omega) only [wc, ite_yes]; (try simp [*, -List.all_eq_true, cA, cE, Try.results4]))); first | (first | refine hB.out.1 _ (fun hb => ?_) fun hb => ⟨rfl, ?_⟩ | refine hB.out.1 _ (fun hb => ?_) fun hb => ?_) <;> clear hB C B <;> (try simp only [Bool.not_true, Bool.not_false] at hb) <;> (first | (exfalso; simp at hb; done) | (exfalso; simp at hb; omega) | (rw [hb]; (try simp at hb)) | (try simp at hb)) | ((first | refine hB.out.1 _ _ ?_ | refine hB.out.1 _ ?_ | refine hB.out.2.1 _ _ _ (hbe) ?_ | refine hB.out.2.2 _ _ _ (hbe) ?_ | refine hB.out.2 ⟨rfl, ?_⟩); clear hB C B) | (refine hB.out.2 _ ?_; clear hB C B; (try rfl)))
                 | refine rwf_o ?_ | refine rwc_o .n rfl ?_ | refine rwc_o .z rfl ?_ | refine rwc_o .w rfl ?_ | refine rwc_o .b rfl ?_ | refine rwc_o _ rfl ?_)
                exact ⟨by simp [*], by simp, l, by simp [*], hI1.out⟩
              · skip
                repeat' (first
                 | (with_reducible first | refine Stp.pf ?_ | refine block_x (by decide) ?_ | refine ret_n ?_)
                 | refine tri_reg [] ?_ | refine tri_regc [] [] mixed (by decide +kernel) ?_
                 | (refine rwf_nilt rfl (by decide +kernel) fun B hB => ?_; (try simp [*]); refine hB.out _ fun b => ?_; clear hB B)
                 | (refine Rul.pf ⟨rfl, rfl⟩ fun B C hB => ?_; (try simp [*, -List.all_eq_true, cA, cE, Try.results4]); (try (simp (disch := first | assumption | omega) only [wc, ite_yes]; (try simp [*, -List.all_eq_true, cA, cE, Try.results4]))); first | (first | refine hB.out.1 _ (fun hb => ?_) fun hb => ⟨rfl, ?_⟩ | refine hB.out.1 _ (fun hb => ?_) fun hb => ?_) <;> clear hB C B <;> (try simp only [Bool.not_true, Bool.not_false] at hb) <;> (first | (exfalso; simp at hb; done) | (exfalso; simp at hb; omega) | (rw [hb]; (try simp at hb)) | (try simp at hb)) | ((first | refine hB.out.1 _ _ ?_ | refine hB.out.1 _ ?_ | refine hB.out.2 ⟨rfl, ?_⟩); clear hB C B) | (refine hB.out.2 _ ?_; clear hB C B; (try rfl)))
                 | refine rwf_o ?_ | refine rwc_o .n rfl ?_ | refine rwc_o .z rfl ?_ | refine rwc_o .w rfl ?_ | refine rwc_o .b rfl ?_ | refine rwc_o _ rfl ?_)
                refine rwf_ca rfl fun C' hC hP => ?_
                clear hP
                (try simp [*, -List.all_eq_true, cA, cE]); (try (simp (disch := first | assumption | omega) only [wrap_id, wrapu_id, wrapb_id, tmod_nn, tdiv_nn, ite_yes, flatM_seg, flatM_0, flatM_1, flatM_2, flatI_seg, flatI_0, flatI_1, flatS_get]; (try simp [*, -List.all_eq_true, cA, cE])))
                refine hC.out _ _ _ (ht) fun r s1 hq => ?_
                clear hC C'
                obtain ⟨rfl, v1, hSp, _⟩ := hq
                clear ht
                have hI1 : Hid (ExI nn l s1) := Lib.hid ⟨hlen, v1, es, hSp, hrep⟩
                clear hSp hrep hnn
                repeat' (first
                 | (with_reducible first | refine Stp.pf ?_ | refine block_x (by decide) ?_ | refine ret_n ?_)
                 | refine tri_reg [] ?_ | refine tri_regc [] [] mixed (by decide +kernel) ?_
                 | (refine rwf_nilt rfl (by decide +kernel) fun B hB => ?_; (try simp [*]); refine hB.out _ fun b => ?_; clear hB B)
                 | (refine Rul.pf ⟨rfl, rfl⟩ fun B C hB => ?_; (try simp [*, -List.all_eq_true, cA, cE, Try.results4]); (try (simp (disch := first | assumption | omega) only [wc, ite_yes]; (try simp [*, -List.all_eq_true, cA, cE, Try.results4]))); first | (first | refine hB.out.1 _ (fun hb => ?_) fun hb => ⟨rfl, ?_⟩ | refine hB.out.1 _ (fun hb => ?_) fun hb => ?_) <;> clear hB C B <;> (try simp only [Bool.not_true, Bool.not_false] at hb) <;> (first | (exfalso; simp at hb; done) | (exfalso; simp at hb; omega) | (rw [hb]; (try simp at hb)) | (try simp at hb)) | ((first | refine hB.out.1 _ _ ?_ | refine hB.out.1 _ ?_ | refine hB.out.2.1 _ _ _ (hbe) ?_ | refine hB.out.2.2 _ _ _ (hbe) ?_ | refine hB.out.2 ⟨rfl, ?_⟩); clear hB C B) | (refine hB.out.2 _ ?_; clear hB C B; (try rfl)))
                 | refine rwf_o ?_ | refine rwc_o .n rfl ?_ | refine rwc_o .z rfl ?_ | refine rwc_o .w rfl ?_ | refine rwc_o .b rfl ?_ | refine rwc_o _ rfl ?_)
                exact ⟨by simp [*], by simp, l, by simp [*], hI1.out⟩
            · obtain ⟨t1, t2⟩ := take_best es x.n (by omega)
              have hr2 := fun h => take_rep hrep (k := x.n) (by omega) h
              have hr3 := fun h => take_same (es := es) (k := x.n) (.inr h)
              rw [t1, t2] at ht
              generalize (takeX es x.n).2.2 = es2 at *
              generalize bestR es x.n = br at *
              obtain ⟨w, is⟩ := br
              have hset := rSet_spec l [w] false (by omega) (by omega) (by simp)
              rw [hlen, show flatE [w] = [.sc (.int .i64 w.lo), .sc (.int .i64 w.sz)] from rfl, show [w].length = 1 from rfl] at hset
              clear t1 t2
              cases is with
              | true =>
                have hr2 := hr2 rfl
                simp only [if_true] at ht hr2
                clear hr3
                rcases hk34 with hk3 | hk3
                · skip
                  repeat' (first
                   | (with_reducible first | refine Stp.pf ?_ | refine block_x (by decide) ?_ | refine ret_n ?_)
                   | refine tri_reg [] ?_ | refine tri_regc [] [] mixed (by decide +kernel) ?_
                   | (refine rwf_nilt rfl (by decide +kernel) fun B hB => ?_; (try simp [*]); refine hB.out _ fun b => ?_; clear hB B)
                   | (refine Rul.pf ⟨rfl, rfl⟩ fun B C hB => ?_; (try simp [*, -List.all_eq_true, cA, cE, Try.results4]); (try (simp (disch := first | assumption | omega) only [wc, ite_yes]; (try simp [*, -List.all_eq_true, cA, cE, Try.results4]))); first | (first | refine hB.out.1 _ (fun hb => ?_) fun hb => ⟨rfl, ?_⟩ | refine hB.out.1 _ (fun hb => ?_) fun hb => ?_) <;> clear hB C B <;> (try simp only [Bool.not_true, Bool.not_false] at hb) <;> (first | (exfalso; simp at hb; done) | (exfalso; simp at hb; omega) | (rw [hb]; (try simp at hb)) | (try simp at hb)) | ((first | refine hB.out.1 _ _ ?_ | refine hB.out.1 _ ?_ | refine hB.out.2 ⟨rfl, ?_⟩); clear hB C B) | (refine hB.out.2 _ ?_; clear hB C B; (try rfl)))
                   | refine rwf_o ?_ | refine rwc_o .n rfl ?_ | refine rwc_o .z rfl ?_ | refine rwc_o .w rfl ?_ | refine rwc_o .b rfl ?_ | refine rwc_o _ rfl ?_)
                  refine rwf_ca rfl fun C' hC hP => ?_
                  clear hP
                  (try simp [*, -List.all_eq_true, cA, cE]); (try (simp (disch := first | assumption | omega) only [wrap_id, wrapu_id, wrapb_id, tmod_nn, tdiv_nn, ite_yes, flatM_seg, flatM_0, flatM_1, flatM_2, flatI_seg, flatI_0, flatI_1, flatS_get]; (try simp [*, -List.all_eq_true, cA, cE])))
                  refine hC.out _ _ _ (ht) fun r s1 hq => ?_
                  clear hC C'
                  obtain ⟨rfl, v1, hSp, _⟩ := hq
                  clear ht
                  have hI1 : Hid (ExI nn (setB l [w] false).1 s1) := Lib.hid ⟨by rw [setB_len]; exact hlen, v1, _, hSp, hr2⟩
                  clear hSp hrep hnn hr2
                  repeat' (first
                   | (with_reducible first | refine Stp.pf ?_ | refine block_x (by decide) ?_ | refine ret_n ?_)
                   | refine tri_reg [] ?_ | refine tri_regc [] [] mixed (by decide +kernel) ?_
                   | (refine rwf_nilt rfl (by decide +kernel) fun B hB => ?_; (try simp [*]); refine hB.out _ fun b => ?_; clear hB B)
                   | (refine Rul.pf ⟨rfl, rfl⟩ fun B C hB => ?_; (try simp [*, -List.all_eq_true, cA, cE, Try.results4]); (try (simp (disch := first | assumption | omega) only [wc, ite_yes]; (try simp [*, -List.all_eq_true, cA, cE, Try.results4]))); first | (first | refine hB.out.1 _ (fun hb => ?_) fun hb => ⟨rfl, ?_⟩ | refine hB.out.1 _ (fun hb => ?_) fun hb => ?_) <;> clear hB C B <;> (try simp only [Bool.not_true, Bool.not_false] at hb) <;> (first | (exfalso; simp at hb; done) | (exfalso; simp at hb; omega) | (rw [hb]; (try simp at hb)) | (try simp at hb)) | ((first | refine hB.out.1 _ _ ?_ | refine hB.out.1 _ ?_ | refine hB.out.2.1 _ _ _ (hbe) ?_ | refine hB.out.2.2 _ _ _ (hbe) ?_ | refine hB.out.2.1 _ _ _ (hset) ?_ | refine hB.out.2.2 _ _ _ (hset) ?_ | refine hB.out.2 ⟨rfl, ?_⟩); clear hB C B) | (refine hB.out.2 _ ?_; clear hB C B; (try rfl)))
                   | refine rwf_o ?_ | refine rwc_o .n rfl ?_ | refine rwc_o .z rfl ?_ | refine rwc_o .w rfl ?_ | refine rwc_o .b rfl ?_ | refine rwc_o _ rfl ?_)
                  exact ⟨by simp [*], by simp [*], by simp [*], by simp [*], by simp [*, cA], _, by simp, hI1.out⟩
                · skip
                  repeat' (first
                   | (with_reducible first | refine Stp.pf ?_ | refine block_x (by decide) ?_ | refine ret_n ?_)
                   | refine tri_reg [] ?_ | refine tri_regc [] [] mixed (by decide +kernel) ?_
                   | (refine rwf_nilt rfl (by decide +kernel) fun B hB => ?_; (try simp [*]); refine hB.out _ fun b => ?_; clear hB B)
                   | (refine Rul.pf ⟨rfl, rfl⟩ fun B C hB => ?_; (try simp [*, -List.all_eq_true, cA, cE, Try.results4]); (try (simp (disch := first | assumption | omega) only [wc, ite_yes]; (try simp [*, -List.all_eq_true, cA, cE, Try.results4]))); first | (first | refine hB.out.1 _ (fun hb => ?_) fun hb => ⟨rfl, ?_⟩ | refine hB.out.1 _ (fun hb => ?_) fun hb => ?_) <;> clear hB C B <;> (try simp only [Bool.not_true, Bool.not_false] at hb) <;> (first | (exfalso; simp at hb; done) | (exfalso; simp at hb; omega) | (rw [hb]; (try simp at hb)) | (try simp at hb)) | ((first | refine hB.out.1 _ _ ?_ | refine hB.out.1 _ ?_ | refine hB.out.2 ⟨rfl, ?_⟩); clear hB C B) | (refine hB.out.2 _ ?_; clear hB C B; (try rfl)))
                   | refine rwf_o ?_ | refine rwc_o .n rfl ?_ | refine rwc_o .z rfl ?_ | refine rwc_o .w rfl ?_ | refine rwc_o .b rfl ?_ | refine rwc_o _ rfl ?_)
                  refine rwf_ca rfl fun C' hC hP => ?_
                  clear hP
                  (try simp [*, -List.all_eq_true, cA, cE]); (try (simp (disch := first | assumption | omega) only [wrap_id, wrapu_id, wrapb_id, tmod_nn, tdiv_nn, ite_yes, flatM_seg, flatM_0, flatM_1, flatM_2, flatI_seg, flatI_0, flatI_1, flatS_get]; (try simp [*, -List.all_eq_true, cA, cE])))
                  refine hC.out _ _ _ (ht) fun r s1 hq => ?_
                  clear hC C'
                  obtain ⟨rfl, v1, hSp, _⟩ := hq
                  clear ht
                  have hI1 : Hid (ExI nn (setB l [w] false).1 s1) := Lib.hid ⟨by rw [setB_len]; exact hlen, v1, _, hSp, hr2⟩
                  clear hSp hrep hnn hr2
                  repeat' (first
                   | (with_reducible first | refine Stp.pf ?_ | refine block_x (by decide) ?_ | refine ret_n ?_)
                   | refine tri_reg [] ?_ | refine tri_regc [] [] mixed (by decide +kernel) ?_
                   | (refine rwf_nilt rfl (by decide +kernel) fun B hB => ?_; (try simp [*]); refine hB.out _ fun b => ?_; clear hB B)
                   | (refine Rul.pf ⟨rfl, rfl⟩ fun B C hB => ?_; (try simp [*, -List.all_eq_true, cA, cE, Try.results4]); (try (simp (disch := first | assumption | omega) only [wc, ite_yes]; (try simp [*, -List.all_eq_true, cA, cE, Try.results4]))); first | (first | refine hB.out.1 _ (fun hb => ?_) fun hb => ⟨rfl, ?_⟩ | refine hB.out.1 _ (fun hb => ?_) fun hb => ?_) <;> clear hB C B <;> (try simp only [Bool.not_true, Bool.not_false] at hb) <;> (first | (exfalso; simp at hb; done) | (exfalso; simp at hb; omega) | (rw [hb]; (try simp at hb)) | (try simp at hb)) | ((first | refine hB.out.1 _ _ ?_ | refine hB.out.1 _ ?_ | refine hB.out.2.1 _ _ _ (hbe) ?_ | refine hB.out.2.2 _ _ _ (hbe) ?_ | refine hB.out.2.1 _ _ _ (hset) ?_ | refine hB.out.2.2 _ _ _ (hset) ?_ | refine hB.out.2 ⟨rfl, ?_⟩); clear hB C B) | (refine hB.out.2 _ ?_; clear hB C B; (try rfl)))
                   | refine rwf_o ?_ | refine rwc_o .n rfl ?_ | refine rwc_o .z rfl ?_ | refine rwc_o .w rfl ?_ | refine rwc_o .b rfl ?_ | refine rwc_o _ rfl ?_)
                  exact ⟨by simp [*], by simp [*], by simp [*], by simp [*], by simp [*, cA], _, by simp, hI1.out⟩
              | false =>
                have hr3 := hr3 rfl
                subst hr3
                simp only [Bool.false_eq_true, if_false] at ht
                clear hr2 hset
                rcases hk34 with hk3 | hk3
                · skip
                  repeat' (first
                   | (with_reducible first | refine Stp.pf ?_ | refine block_x (by decide) ?_ | refine ret_n ?_)
                   | refine tri_reg [] ?_ | refine tri_regc [] [] mixed (by decide +kernel) ?_
                   | (refine rwf_nilt rfl (by decide +kernel) fun B hB => ?_; (try simp [*]); refine hB.out _ fun b => ?_; clear hB B)
                   | (refine Rul.pf ⟨rfl, rfl⟩ fun B C hB => ?_; (try simp [*, -List.all_eq_true, cA, cE, Try.results4]); (try (simp (disch := first | assumption | omega) only [wc, ite_yes]; (try simp [*, -List.all_eq_true, cA, cE, Try.results4]))); first | (first | refine hB.out.1 _ (fun hb => ?_) fun hb => ⟨rfl, ?_⟩ | refine hB.out.1 _ (fun hb => ?_) fun hb => ?_) <;> clear hB C B <;> (try simp only [Bool.not_true, Bool.not_false] at hb) <;> (first | (exfalso; simp at hb; done) | (exfalso; simp at hb; omega) | (rw [hb]; (try simp at hb)) | (try simp at hb)) | ((first | refine hB.out.1 _ _ ?_ | refine hB.out.1 _ ?_ | refine hB.out.2 ⟨rfl, ?_⟩); clear hB C B) | (refine hB.out.2 _ ?_; clear hB C B; (try rfl)))
                   | refine rwf_o ?_ | refine rwc_o .n rfl ?_ | refine rwc_o .z rfl ?_ | refine rwc_o .w rfl ?_ | refine rwc_o .b rfl ?_ | refine rwc_o _ rfl ?_)
                  refine rwf_ca rfl fun C' hC hP => ?_
                  clear hP
                  (try simp [*, -List.all_eq_true, cA, cE]); (try (simp (disch := first | assumption | omega) only [wrap_id, wrapu_id, wrapb_id, tmod_nn, tdiv_nn, ite_yes, flatM_seg, flatM_0, flatM_1, flatM_2, flatI_seg, flatI_0, flatI_1, flatS_get]; (try simp [*, -List.all_eq_true, cA, cE])))
                  refine hC.out _ _ _ (ht) fun r s1 hq => ?_
                  clear hC C'
                  obtain ⟨rfl, v1, hSp, _⟩ := hq
                  clear ht
                  have hI1 : Hid (ExI nn l s1) := Lib.hid ⟨hlen, v1, _, hSp, hrep⟩
                  clear hSp hrep hnn
                  repeat' (first
                   | (with_reducible first | refine Stp.pf ?_ | refine block_x (by decide) ?_ | refine ret_n ?_)
                   | refine tri_reg [] ?_ | refine tri_regc [] [] mixed (by decide +kernel) ?_
                   | (refine rwf_nilt rfl (by decide +kernel) fun B hB => ?_; (try simp [*]); refine hB.out _ fun b => ?_; clear hB B)
                   | (refine Rul.pf ⟨rfl, rfl⟩ fun B C hB => ?_; (try simp [*, -List.all_eq_true, cA, cE, Try.results4]); (try (simp (disch := first | assumption | omega) only [wc, ite_yes]; (try simp [*, -List.all_eq_true, cA, cE, Try.results4]))); first | (first | refine hB.out.1 _ (fun hb => ?_) fun hb => ⟨rfl, ?_⟩ | refine hB.out.1 _ (fun hb => ?_) fun hb => ?_) <;> clear hB C B <;> (try simp only [Bool.not_true, Bool.not_false] at hb) <;> (first | (exfalso; simp at hb; done) | (exfalso; simp at hb; omega) | (rw [hb]; (try simp at hb)) | (try simp at hb)) | ((first | refine hB.out.1 _ _ ?_ | refine hB.out.1 _ ?_ | refine hB.out.2.1 _ _ _ (hbe) ?_ | refine hB.out.2.2 _ _ _ (hbe) ?_ | refine hB.out.2 ⟨rfl, ?_⟩); clear hB C B) | (refine hB.out.2 _ ?_; clear hB C B; (try rfl)))
                   | refine rwf_o ?_ | refine rwc_o .n rfl ?_ | refine rwc_o .z rfl ?_ | refine rwc_o .w rfl ?_ | refine rwc_o .b rfl ?_ | refine rwc_o _ rfl ?_)
                  exact ⟨by simp [*], by simp [*], by simp [*], by simp [*], by simp [*, cA], l, by simp [*], hI1.out⟩
                · skip
                  repeat' (first
                   | (with_reducible first | refine Stp.pf ?_ | refine block_x (by decide) ?_ | refine ret_n ?_)
                   | refine tri_reg [] ?_ | refine tri_regc [] [] mixed (by decide +kernel) ?_
                   | (refine rwf_nilt rfl (by decide +kernel) fun B hB => ?_; (try simp [*]); refine hB.out _ fun b => ?_; clear hB B)
                   | (refine Rul.pf ⟨rfl, rfl⟩ fun B C hB => ?_; (try simp [*, -List.all_eq_true, cA, cE, Try.results4]); (try (simp (disch := first | assumption | omega) only [wc, ite_yes]; (try simp [*, -List.all_eq_true, cA, cE, Try.results4]))); first | (first | refine hB.out.1 _ (fun hb => ?_) fun hb => ⟨rfl, ?_⟩ | refine hB.out.1 _ (fun hb => ?_) fun hb => ?_) <;> clear hB C B <;> (try simp only [Bool.not_true, Bool.not_false] at hb) <;> (first | (exfalso; simp at hb; done) | (exfalso; simp at hb; omega) | (rw [hb]; (try simp at hb)) | (try simp at hb)) | ((first | refine hB.out.1 _ _ ?_ | refine hB.out.1 _ ?_ | refine hB.out.2 ⟨rfl, ?_⟩); clear hB C B) | (refine hB.out.2 _ ?_; clear hB C B; (try rfl)))
                   | refine rwf_o ?_ | refine rwc_o .n rfl ?_ | refine rwc_o .z rfl ?_ | refine rwc_o .w rfl ?_ | refine rwc_o .b rfl ?_ | refine rwc_o _ rfl ?_)
                  refine rwf_ca rfl fun C' hC hP => ?_
                  clear hP
                  (try simp [*, -List.all_eq_true, cA, cE]); (try (simp (disch := first | assumption | omega) only [wrap_id, wrapu_id, wrapb_id, tmod_nn, tdiv_nn, ite_yes, flatM_seg, flatM_0, flatM_1, flatM_2, flatI_seg, flatI_0, flatI_1, flatS_get]; (try simp [*, -List.all_eq_true, cA, cE])))
                  refine hC.out _ _ _ (ht) fun r s1 hq => ?_
                  clear hC C'
                  obtain ⟨rfl, v1, hSp, _⟩ := hq
                  clear ht
                  have hI1 : Hid (ExI nn l s1) := Lib.hid ⟨hlen, v1, _, hSp, hrep⟩
                  clear hSp hrep hnn
                  repeat' (first
                   | (with_reducible first | refine Stp.pf ?_ | refine block_x (by decide) ?_ | refine ret_n ?_)
                   | refine tri_reg [] ?_ | refine tri_regc [] [] mixed (by decide +kernel) ?_
                   | (refine rwf_nilt rfl (by decide +kernel) fun B hB => ?_; (try simp [*]); refine hB.out _ fun b => ?_; clear hB B)
                   | (refine Rul.pf ⟨rfl, rfl⟩ fun B C hB => ?_; (try simp [*, -List.all_eq_true, cA, cE, Try.results4]); (try (simp (disch := first | assumption | omega) only [wc, ite_yes]; (try simp [*, -List.all_eq_true, cA, cE, Try.results4]))); first | (first | refine hB.out.1 _ (fun hb => ?_) fun hb => ⟨rfl, ?_⟩ | refine hB.out.1 _ (fun hb => ?_) fun hb => ?_) <;> clear hB C B <;> (try simp only [Bool.not_true, Bool.not_false] at hb) <;> (first | (exfalso; simp at hb; done) | (exfalso; simp at hb; omega) | (rw [hb]; (try simp at hb)) | (try simp at hb)) | ((first | refine hB.out.1 _ _ ?_ | refine hB.out.1 _ ?_ | refine hB.out.2.1 _ _ _ (hbe) ?_ | refine hB.out.2.2 _ _ _ (hbe) ?_ | refine hB.out.2 ⟨rfl, ?_⟩); clear hB C B) | (refine hB.out.2 _ ?_; clear hB C B; (try rfl)))
                   | refine rwf_o ?_ | refine rwc_o .n rfl ?_ | refine rwc_o .z rfl ?_ | refine rwc_o .w rfl ?_ | refine rwc_o .b rfl ?_ | refine rwc_o _ rfl ?_)
                  exact ⟨by simp [*], by simp [*], by simp [*], by simp [*], by simp [*, cA], l, by simp [*], hI1.out⟩
          · have hk3 : ¬ x.kind = 3 := fun q => hk34 (.inl q)
            have hk4 : ¬ x.kind = 4 := fun q => hk34 (.inr q)
            clear hk34
            by_cases hk5 : x.kind = 5
            · skip
              obtain ⟨d1, d2⟩ := cut_do hrep x.l
              have hset := rSet_spec l x.l false (by omega) (by omega) (by omega)
              have ht := sTakeA_spec 0 nn es x.l _ v hSp hnn (by omega) (by omega)
              rw [d1] at hset
              rw [hlen] at hset d2
              generalize chkR (nn : Int) x.l (fun y => coverX es y) = c at *
              generalize foldR c es _ = es2 at *
              generalize hs1 : (setB l x.l false).1 = l2 at *
              have hl2 : l2.length = nn := by rw [← hs1, setB_len]; exact hlen
              clear d1 hs1 hSp
              repeat' (first
               | (with_reducible first | refine Stp.pf ?_ | refine block_x (by decide) ?_ | refine ret_n ?_)
               | refine tri_reg [] ?_ | refine tri_regc [] [] mixed (by decide +kernel) ?_
               | (refine rwf_nilt rfl (by decide +kernel) fun B hB => ?_; (try simp [*]); refine hB.out _ fun b => ?_; clear hB B)
               | (refine Rul.pf ⟨rfl, rfl⟩ fun B C hB => ?_; (try simp [*, -List.all_eq_true, cA, Try.results4]); (try (simp (disch := first | assumption | omega) only [wc, ite_yes]; (try simp [*, -List.all_eq_true, cA, Try.results4]))); first | (first | refine hB.out.1 _ (fun hb => ?_) fun hb => ⟨rfl, ?_⟩ | refine hB.out.1 _ (fun hb => ?_) fun hb => ?_) <;> clear hB C B <;> (try simp only [Bool.not_true, Bool.not_false] at hb) <;> (first | (exfalso; simp at hb; done) | (exfalso; simp at hb; omega) | (rw [hb]; (try simp at hb)) | (try simp at hb)) | ((first | refine hB.out.1 _ _ ?_ | refine hB.out.1 _ ?_ | refine hB.out.2.1 _ _ _ (hset) ?_ | refine hB.out.2.2 _ _ _ (hset) ?_ | refine hB.out.2 ⟨rfl, ?_⟩); clear hB C B) | (refine hB.out.2 _ ?_; clear hB C B; (try rfl)))
               | refine rwf_o ?_ | refine rwc_o .n rfl ?_ | refine rwc_o .z rfl ?_ | refine rwc_o .w rfl ?_ | refine rwc_o .b rfl ?_ | refine rwc_o _ rfl ?_)
              refine rwf_ca rfl fun C' hC hP => ?_
              clear hP
              (try simp [*, -List.all_eq_true, cA]); (try (simp (disch := first | assumption | omega) only [wrap_id, wrapu_id, wrapb_id, tmod_nn, tdiv_nn, ite_yes, flatM_seg, flatM_0, flatM_1, flatM_2, flatI_seg, flatI_0, flatI_1, flatS_get]; (try simp [*, -List.all_eq_true, cA])))
              refine hC.out _ _ _ (ht) fun r s1 hq => ?_
              clear hC C'
              obtain ⟨rfl, v1, hSp, _⟩ := hq
              clear ht
              have hI1 : Hid (ExI nn l2 s1) := Lib.hid ⟨hl2, v1, _, hSp, d2⟩
              clear hSp d2 hrep hnn
              repeat' (first
               | (with_reducible first | refine Stp.pf ?_ | refine block_x (by decide) ?_ | refine ret_n ?_)
               | refine tri_reg [] ?_ | refine tri_regc [] [] mixed (by decide +kernel) ?_
               | (refine rwf_nilt rfl (by decide +kernel) fun B hB => ?_; (try simp [*]); refine hB.out _ fun b => ?_; clear hB B)
               | (refine Rul.pf ⟨rfl, rfl⟩ fun B C hB => ?_; (try simp [*, -List.all_eq_true, cA, Try.results4]); (try (simp (disch := first | assumption | omega) only [wc, ite_yes]; (try simp [*, -List.all_eq_true, cA, Try.results4]))); first | (first | refine hB.out.1 _ (fun hb => ?_) fun hb => ⟨rfl, ?_⟩ | refine hB.out.1 _ (fun hb => ?_) fun hb => ?_) <;> clear hB C B <;> (try simp only [Bool.not_true, Bool.not_false] at hb) <;> (first | (exfalso; simp at hb; done) | (exfalso; simp at hb; omega) | (rw [hb]; (try simp at hb)) | (try simp at hb)) | ((first | refine hB.out.1 _ _ ?_ | refine hB.out.1 _ ?_ | refine hB.out.2 ⟨rfl, ?_⟩); clear hB C B) | (refine hB.out.2 _ ?_; clear hB C B; (try rfl)))
               | refine rwf_o ?_ | refine rwc_o .n rfl ?_ | refine rwc_o .z rfl ?_ | refine rwc_o .w rfl ?_ | refine rwc_o .b rfl ?_ | refine rwc_o _ rfl ?_)
              exact ⟨by simp [*], by simp [*], by simp [*], by simp [*], by simp [*, cA], l2, by simp, hI1.out⟩
            · skip
              obtain ⟨d1, d2⟩ := give_do hrep x.l
              have hset := rSet_spec l x.l true (by omega) (by omega) (by omega)
              have ht := sGiveA_spec 0 nn es x.l _ v hSp hnn (by omega) (by omega)
              rw [d1] at hset
              rw [hlen] at hset d2
              generalize chkR (nn : Int) x.l (fun y => !touchX es y) = c at *
              generalize foldR c es _ = es2 at *
              generalize hs1 : (setB l x.l true).1 = l2 at *
              have hl2 : l2.length = nn := by rw [← hs1, setB_len]; exact hlen
              clear d1 hs1 hSp
              repeat' (first
               | (with_reducible first | refine Stp.pf ?_ | refine block_x (by decide) ?_ | refine ret_n ?_)
               | refine tri_reg [] ?_ | refine tri_regc [] [] mixed (by decide +kernel) ?_
               | (refine rwf_nilt rfl (by decide +kernel) fun B hB => ?_; (try simp [*]); refine hB.out _ fun b => ?_; clear hB B)
               | (refine Rul.pf ⟨rfl, rfl⟩ fun B C hB => ?_; (try simp [*, -List.all_eq_true, cA, Try.results4]); (try (simp (disch := first | assumption | omega) only [wc, ite_yes]; (try simp [*, -List.all_eq_true, cA, Try.results4]))); first | (first | refine hB.out.1 _ (fun hb => ?_) fun hb => ⟨rfl, ?_⟩ | refine hB.out.1 _ (fun hb => ?_) fun hb => ?_) <;> clear hB C B <;> (try simp only [Bool.not_true, Bool.not_false] at hb) <;> (first | (exfalso; simp at hb; done) | (exfalso; simp at hb; omega) | (rw [hb]; (try simp at hb)) | (try simp at hb)) | ((first | refine hB.out.1 _ _ ?_ | refine hB.out.1 _ ?_ | refine hB.out.2.1 _ _ _ (hset) ?_ | refine hB.out.2.2 _ _ _ (hset) ?_ | refine hB.out.2 ⟨rfl, ?_⟩); clear hB C B) | (refine hB.out.2 _ ?_; clear hB C B; (try rfl)))
               | refine rwf_o ?_ | refine rwc_o .n rfl ?_ | refine rwc_o .z rfl ?_ | refine rwc_o .w rfl ?_ | refine rwc_o .b rfl ?_ | refine rwc_o _ rfl ?_)
              refine rwf_ca rfl fun C' hC hP => ?_
              clear hP
              (try simp [*, -List.all_eq_true, cA]); (try (simp (disch := first | assumption | omega) only [wrap_id, wrapu_id, wrapb_id, tmod_nn, tdiv_nn, ite_yes, flatM_seg, flatM_0, flatM_1, flatM_2, flatI_seg, flatI_0, flatI_1, flatS_get]; (try simp [*, -List.all_eq_true, cA])))
              refine hC.out _ _ _ (ht) fun r s1 hq => ?_
              clear hC C'
              obtain ⟨rfl, v1, hSp, _⟩ := hq
              clear ht
              have hI1 : Hid (ExI nn l2 s1) := Lib.hid ⟨hl2, v1, _, hSp, d2⟩
              clear hSp d2 hrep hnn
              repeat' (first
               | (with_reducible first | refine Stp.pf ?_ | refine block_x (by decide) ?_ | refine ret_n ?_)
               | refine tri_reg [] ?_ | refine tri_regc [] [] mixed (by decide +kernel) ?_
               | (refine rwf_nilt rfl (by decide +kernel) fun B hB => ?_; (try simp [*]); refine hB.out _ fun b => ?_; clear hB B)
               | (refine Rul.pf ⟨rfl, rfl⟩ fun B C hB => ?_; (try simp [*, -List.all_eq_true, cA, Try.results4]); (try (simp (disch := first | assumption | omega) only [wc, ite_yes]; (try simp [*, -List.all_eq_true, cA, Try.results4]))); first | (first | refine hB.out.1 _ (fun hb => ?_) fun hb => ⟨rfl, ?_⟩ | refine hB.out.1 _ (fun hb => ?_) fun hb => ?_) <;> clear hB C B <;> (try simp only [Bool.not_true, Bool.not_false] at hb) <;> (first | (exfalso; simp at hb; done) | (exfalso; simp at hb; omega) | (rw [hb]; (try simp at hb)) | (try simp at hb)) | ((first | refine hB.out.1 _ _ ?_ | refine hB.out.1 _ ?_ | refine hB.out.2 ⟨rfl, ?_⟩); clear hB C B) | (refine hB.out.2 _ ?_; clear hB C B; (try rfl)))
               | refine rwf_o ?_ | refine rwc_o .n rfl ?_ | refine rwc_o .z rfl ?_ | refine rwc_o .w rfl ?_ | refine rwc_o .b rfl ?_ | refine rwc_o _ rfl ?_)
              exact ⟨by simp [*], by simp [*], by simp [*], by simp [*], by simp [*, cA], l2, by simp, hI1.out⟩
        · clear hSp hrep hnn hlen h6
          rintro E S ⟨h0', h1', h5', h7', h8', l2, h6', hlen2, v2, es2, hSp2, hrep2⟩
          have hnn2 : Norm (nn : Int) es2 := by rw [← hlen2]; exact hrep2.1
          have hel2 := norm_len hnn2 (by omega)
          have hrow := rRow_spec l2 (by omega)
          rw [← rep_row hrep2, hlen2] at hrow
          have hsame := same_spec es2 es2 (by omega) (by omega)
          rw [decide_eq_true rfl] at hsame
          have q0 := qRow hSp2 (by omega)
          have q1 := qFree hSp2 hnn2 (by omega)
          have q2 := qLargest hSp2 hnn2 (by omega)
          have q3 := qLen hSp2
          have q4 := qText hSp2 hnn2 (by omega) (m := (nn + 7) / 8) (by omega)
          have q5 := rText_spec l2 (by omega) ((nn + 7) / 8) (by rw [hlen2])
          have q6 := qHas hSp2 hnn2 (by omega) x.n
          rw [rep_text hrep2] at q4
          rw [hlen2] at q5
          generalize textF _ _ = TT at *
          have hI1 : Hid (ExI nn l2 S) := Lib.hid ⟨hlen2, v2, es2, hSp2, hrep2⟩
          have hroom := norm_room hnn2 (by omega)
          have hfb := freeX_room hroom
          replace hroom := Lib.hid hroom
          replace hfb := Lib.hid hfb
          clear hSp2 hnn2
          simp only [cA] at h8'
          repeat' (first
           | (with_reducible first | refine Stp.pf ?_ | refine block_x (by decide) ?_ | refine ret_n ?_)
           | refine tri_reg [] ?_ | refine tri_regc [] [] mixed (by decide +kernel) ?_
           | (refine rwf_nilt rfl (by decide +kernel) fun B hB => ?_; (try simp [*]); refine hB.out _ fun b => ?_; clear hB B)
           | (refine Rul.pf ⟨rfl, rfl⟩ fun B C hB => ?_; (try simp [*, -List.all_eq_true, cA, Try.results4]); (try (simp (disch := first | assumption | omega) only [wc, ite_yes]; (try simp [*, -List.all_eq_true, cA, Try.results4]))); first | (first | refine hB.out.1 _ (fun hb => ?_) fun hb => ⟨rfl, ?_⟩ | refine hB.out.1 _ (fun hb => ?_) fun hb => ?_) <;> clear hB C B <;> (try simp only [Bool.not_true, Bool.not_false] at hb) <;> (first | (exfalso; simp at hb; done) | (exfalso; simp at hb; omega) | (rw [hb]; (try simp at hb)) | (try simp at hb)) | ((first | refine hB.out.1 _ _ ?_ | refine hB.out.1 _ ?_ | refine hB.out.2.1 _ _ _ (hrow) ?_ | refine hB.out.2.2 _ _ _ (hrow) ?_ | refine hB.out.2 ⟨rfl, ?_⟩); clear hB C B) | (refine hB.out.2 _ ?_; clear hB C B; (try rfl)))
           | refine rwf_o ?_ | refine rwc_o .n rfl ?_ | refine rwc_o .z rfl ?_ | refine rwc_o .w rfl ?_ | refine rwc_o .b rfl ?_ | refine rwc_o _ rfl ?_)
          refine tri_for [0, 1, 4, 5, 6, 7, 8, 9, 10, 11, 12, 13, 14, 54] es2.length (fun k e σ => σ = S ∧ e 17 = .sc (.int .i64 k) ∧ e 15 = .sc (.int .i64 (freeX (es2.take k))) ∧ e 16 = .sc (.int .i64 (largeX (es2.take k)))) ?_ (fun k env' σ' hlt hk hI => ?_) (fun env' σ' hk hI => ?_)
          · exact ⟨rfl, by simp, by simp [freeX], by simp [largeX]⟩
          · skip
            (try simp at hk)
            obtain ⟨rfl, h17, h15, h16⟩ := hI
            have a1 := flatE_1 es2 k hlt
            have sg := flatE_seg es2 k hlt
            have b1 := hfb.out k (by omega)
            have b2 := hroom.out _ (List.getElem_mem hlt)
            unfold Room xe at b2
            rw [freeX_succ hlt, largeX_succ hlt]
            clear q0 q1 q2 q3 q4 q5 q6 hrow hsame hrep2
            repeat' (first
             | (with_reducible first | refine Stp.pf ?_ | refine block_x (by decide) ?_ | refine ret_n ?_)
             | refine tri_reg [] ?_ | refine tri_regc [] [] mixed (by decide +kernel) ?_
             | (refine rwf_nilt rfl (by decide +kernel) fun B hB => ?_; (try simp [*]); refine hB.out _ fun b => ?_; clear hB B)
             | (refine Rul.pf ⟨rfl, rfl⟩ fun B C hB => ?_; (try simp [*, -List.all_eq_true, Try.results4]); (try (simp (disch := first | assumption | omega) only [wc, ite_yes]; (try simp [*, -List.all_eq_true, Try.results4]))); first | (first | refine hB.out.1 _ (fun hb => ?_) fun hb => ⟨rfl, ?_⟩ | refine hB.out.1 _ (fun hb => ?_) fun hb => ?_) <;> clear hB C B <;> (try simp only [Bool.not_true, Bool.not_false] at hb) <;> (first | (exfalso; simp at hb; done) | (exfalso; simp at hb; omega) | (rw [hb]; (try simp at hb)) | (try simp at hb)) | ((first | refine hB.out.1 _ _ ?_ | refine hB.out.1 _ ?_ | refine hB.out.2 ⟨rfl, ?_⟩); clear hB C B) | (refine hB.out.2 _ ?_; clear hB C B; (try rfl)))
             | refine rwf_o ?_ | refine rwc_o .n rfl ?_ | refine rwc_o .z rfl ?_ | refine rwc_o .w rfl ?_ | refine rwc_o .b rfl ?_ | refine rwc_o _ rfl ?_)
            exact ⟨by simp [*], rfl, by simp, by simp, by simp; split <;> omega⟩
          · skip
            (try simp at hk)
            obtain ⟨rfl, h17, h15, h16⟩ := hI
            rw [List.take_length] at h15 h16
            by_cases hr : 0 ≤ x.n ∧ x.n < nn
            · obtain ⟨r1, r2⟩ := hr
              obtain ⟨b, hbn⟩ := Int.eq_ofNat_of_zero_le r1
              have hb2 : b < l2.length := by omega
              have e1 := rep_has hrep2 b hb2
              have e2 := flatB_get l2 b hb2
              rw [hbn] at q6 r1 r2 h8'
              rw [e1] at q6
              clear e1 hrep2 hrow
              repeat' (first
               | (with_reducible first | refine Stp.pf ?_ | refine block_x (by decide) ?_ | refine ret_n ?_)
               | refine tri_reg [] ?_ | refine tri_regc [] [] mixed (by decide +kernel) ?_
               | (refine rwf_nilt rfl (by decide +kernel) fun B hB => ?_; (try simp [*]); refine hB.out _ fun b => ?_; clear hB B)
               | (refine Rul.pf ⟨rfl, rfl⟩ fun B C hB => ?_; (try simp [*, -List.all_eq_true, Try.results4]); (try (simp (disch := first | assumption | omega) only [wc, ite_yes]; (try simp [*, -List.all_eq_true, Try.results4]))); first | (first | refine hB.out.1 _ (fun hb => ?_) fun hb => ⟨rfl, ?_⟩ | refine hB.out.1 _ (fun hb => ?_) fun hb => ?_) <;> clear hB C B <;> (try simp only [Bool.not_true, Bool.not_false] at hb) <;> (first | (exfalso; simp at hb; done) | (exfalso; simp at hb; omega) | (rw [hb]; (try simp at hb)) | (try simp at hb)) | ((first | refine hB.out.1 _ _ ?_ | refine hB.out.1 _ ?_ | refine hB.out.2.1 _ _ _ (q0) ?_ | refine hB.out.2.2 _ _ _ (q0) ?_ | refine hB.out.2.1 _ _ _ (hsame) ?_ | refine hB.out.2.2 _ _ _ (hsame) ?_ | refine hB.out.2.1 _ _ _ (q1) ?_ | refine hB.out.2.2 _ _ _ (q1) ?_ | refine hB.out.2.1 _ _ _ (q2) ?_ | refine hB.out.2.2 _ _ _ (q2) ?_ | refine hB.out.2.1 _ _ _ (q3) ?_ | refine hB.out.2.2 _ _ _ (q3) ?_ | refine hB.out.2.1 _ _ _ (q4) ?_ | refine hB.out.2.2 _ _ _ (q4) ?_ | refine hB.out.2.1 _ _ _ (q5) ?_ | refine hB.out.2.2 _ _ _ (q5) ?_ | refine hB.out.2.1 _ _ _ (q6) ?_ | refine hB.out.2.2 _ _ _ (q6) ?_ | refine hB.out.2 ⟨rfl, ?_⟩); clear hB C B) | (refine hB.out.2 _ ?_; clear hB C B; (try rfl)))
               | refine rwf_o ?_ | refine rwc_o .n rfl ?_ | refine rwc_o .z rfl ?_ | refine rwc_o .w rfl ?_ | refine rwc_o .b rfl ?_ | refine rwc_o _ rfl ?_)
              exact ⟨by simp [*], by simp, l2, by simp [*], hI1.out⟩
            · have e1 := rep_has_no hrep2 x.n (by omega)
              rw [e1] at q6
              clear e1 hrep2 hrow
              by_cases r1 : 0 ≤ x.n
              · have r2 : ¬ x.n < nn := fun q => hr ⟨r1, q⟩
                clear hr
                repeat' (first
                 | (with_reducible first | refine Stp.pf ?_ | refine block_x (by decide) ?_ | refine ret_n ?_)
                 | refine tri_reg [] ?_ | refine tri_regc [] [] mixed (by decide +kernel) ?_
                 | (refine rwf_nilt rfl (by decide +kernel) fun B hB => ?_; (try simp [*]); refine hB.out _ fun b => ?_; clear hB B)
                 | (refine Rul.pf ⟨rfl, rfl⟩ fun B C hB => ?_; (try simp [*, -List.all_eq_true, Try.results4]); (try (simp (disch := first | assumption | omega) only [wc, ite_yes]; (try simp [*, -List.all_eq_true, Try.results4]))); first | (first | refine hB.out.1 _ (fun hb => ?_) fun hb => ⟨rfl, ?_⟩ | refine hB.out.1 _ (fun hb => ?_) fun hb => ?_) <;> clear hB C B <;> (try simp only [Bool.not_true, Bool.not_false] at hb) <;> (first | (exfalso; simp at hb; done) | (exfalso; simp at hb; omega) | (rw [hb]; (try simp at hb)) | (try simp at hb)) | ((first | refine hB.out.1 _ _ ?_ | refine hB.out.1 _ ?_ | refine hB.out.2.1 _ _ _ (q0) ?_ | refine hB.out.2.2 _ _ _ (q0) ?_ | refine hB.out.2.1 _ _ _ (hsame) ?_ | refine hB.out.2.2 _ _ _ (hsame) ?_ | refine hB.out.2.1 _ _ _ (q1) ?_ | refine hB.out.2.2 _ _ _ (q1) ?_ | refine hB.out.2.1 _ _ _ (q2) ?_ | refine hB.out.2.2 _ _ _ (q2) ?_ | refine hB.out.2.1 _ _ _ (q3) ?_ | refine hB.out.2.2 _ _ _ (q3) ?_ | refine hB.out.2.1 _ _ _ (q4) ?_ | refine hB.out.2.2 _ _ _ (q4) ?_ | refine hB.out.2.1 _ _ _ (q5) ?_ | refine hB.out.2.2 _ _ _ (q5) ?_ | refine hB.out.2.1 _ _ _ (q6) ?_ | refine hB.out.2.2 _ _ _ (q6) ?_ | refine hB.out.2 ⟨rfl, ?_⟩); clear hB C B) | (refine hB.out.2 _ ?_; clear hB C B; (try rfl)))
                 | refine rwf_o ?_ | refine rwc_o .n rfl ?_ | refine rwc_o .z rfl ?_ | refine rwc_o .w rfl ?_ | refine rwc_o .b rfl ?_ | refine rwc_o _ rfl ?_)
                exact ⟨by simp [*], by simp, l2, by simp [*], hI1.out⟩
              · clear hr
                repeat' (first
                 | (with_reducible first | refine Stp.pf ?_ | refine block_x (by decide) ?_ | refine ret_n ?_)
                 | refine tri_reg [] ?_ | refine tri_regc [] [] mixed (by decide +kernel) ?_
                 | (refine rwf_nilt rfl (by decide +kernel) fun B hB => ?_; (try simp [*]); refine hB.out _ fun b => ?_; clear hB B)
                 | (refine Rul.pf ⟨rfl, rfl⟩ fun B C hB => ?_; (try simp [*, -List.all_eq_true, Try.results4]); (try (simp (disch := first | assumption | omega) only [wc, ite_yes]; (try simp [*, -List.all_eq_true, Try.results4]))); first | (first | refine hB.out.1 _ (fun hb => ?_) fun hb => ⟨rfl, ?_⟩ | refine hB.out.1 _ (fun hb => ?_) fun hb => ?_) <;> clear hB C B <;> (try simp only [Bool.not_true, Bool.not_false] at hb) <;> (first | (exfalso; simp at hb; done) | (exfalso; simp at hb; omega) | (rw [hb]; (try simp at hb)) | (try simp at hb)) | ((first | refine hB.out.1 _ _ ?_ | refine hB.out.1 _ ?_ | refine hB.out.2.1 _ _ _ (q0) ?_ | refine hB.out.2.2 _ _ _ (q0) ?_ | refine hB.out.2.1 _ _ _ (hsame) ?_ | refine hB.out.2.2 _ _ _ (hsame) ?_ | refine hB.out.2.1 _ _ _ (q1) ?_ | refine hB.out.2.2 _ _ _ (q1) ?_ | refine hB.out.2.1 _ _ _ (q2) ?_ | refine hB.out.2.2 _ _ _ (q2) ?_ | refine hB.out.2.1 _ _ _ (q3) ?_ | refine hB.out.2.2 _ _ _ (q3) ?_ | refine hB.out.2.1 _ _ _ (q4) ?_ | refine hB.out.2.2 _ _ _ (q4) ?_ | refine hB.out.2.1 _ _ _ (q5) ?_ | refine hB.out.2.2 _ _ _ (q5) ?_ | refine hB.out.2.1 _ _ _ (q6) ?_ | refine hB.out.2.2 _ _ _ (q6) ?_ | refine hB.out.2 ⟨rfl, ?_⟩); clear hB C B) | (refine hB.out.2 _ ?_; clear hB C B; (try rfl)))
                 | refine rwf_o ?_ | refine rwc_o .n rfl ?_ | refine rwc_o .z rfl ?_ | refine rwc_o .w rfl ?_ | refine rwc_o .b rfl ?_ | refine rwc_o _ rfl ?_)
                exact ⟨by simp [*], by simp, l2, by simp [*], hI1.out⟩
      · skip
        repeat' (first
         | (with_reducible first | refine Stp.pf ?_ | refine block_x (by decide) ?_ | refine ret_n ?_)
         | refine tri_reg [] ?_ | refine tri_regc [] [] mixed (by decide +kernel) ?_
         | (refine rwf_nilt rfl (by decide +kernel) fun B hB => ?_; (try simp [*]); refine hB.out _ fun b => ?_; clear hB B)
         | (refine Rul.pf ⟨rfl, rfl⟩ fun B C hB => ?_; (try simp [*, -List.all_eq_true, Try.results4]); (try (simp (disch := first | assumption | omega) only [wc, ite_yes]; (try simp [*, -List.all_eq_true, Try.results4]))); first | (first | refine hB.out.1 _ (fun hb => ?_) fun hb => ⟨rfl, ?_⟩ | refine hB.out.1 _ (fun hb => ?_) fun hb => ?_) <;> clear hB C B <;> (try simp only [Bool.not_true, Bool.not_false] at hb) <;> (first | (exfalso; simp at hb; done) | (exfalso; simp at hb; omega) | (rw [hb]; (try simp at hb)) | (try simp at hb)) | ((first | refine hB.out.1 _ _ ?_ | refine hB.out.1 _ ?_ | refine hB.out.2 ⟨rfl, ?_⟩); clear hB C B) | (refine hB.out.2 _ ?_; clear hB C B; (try rfl)))
         | refine rwf_o ?_ | refine rwc_o .n rfl ?_ | refine rwc_o .z rfl ?_ | refine rwc_o .w rfl ?_ | refine rwc_o .b rfl ?_ | refine rwc_o _ rfl ?_)
    · skip
      (try simp at hk)
      obtain ⟨h7, l, h6, hI⟩ := hI
      clear hI hI0
      have g1 := sGive_nil
      have g2 := sTakeAt_nil
      have g3 := sTake_nil 1
      have g4 := sHas_nil 0
      have g5 := sFree_nil
      have g6 := sLen_nil
      have g7 := sLargest_nil
      have g8 := sRow_nil
      have g9 := sText_nil
      simp only [cE.eq_1] at g3
      rcases hN3 with hN3 | hN3
      · have hN4 : ¬ N < acts.length := by omega
        repeat' (first
         | (with_reducible first | refine Stp.pf ?_ | refine block_x (by decide) ?_ | refine ret_n ?_)
         | refine tri_reg [] ?_ | refine tri_regc [] [] mixed (by decide +kernel) ?_
         | (refine rwf_nilt rfl (by decide +kernel) fun B hB => ?_; (try simp [*]); refine hB.out _ fun b => ?_; clear hB B)
         | (refine Rul.pf ⟨rfl, rfl⟩ fun B C hB => ?_; (try simp [*, -List.all_eq_true, Try.results4]); (try (simp (disch := first | assumption | omega) only [wc, ite_yes]; (try simp [*, -List.all_eq_true, Try.results4]))); first | (first | refine hB.out.1 _ (fun hb => ?_) fun hb => ⟨rfl, ?_⟩ | refine hB.out.1 _ (fun hb => ?_) fun hb => ?_) <;> clear hB C B <;> (try simp only [Bool.not_true, Bool.not_false] at hb) <;> (first | (exfalso; simp at hb; done) | (exfalso; simp at hb; omega) | (rw [hb]; (try simp at hb)) | (try simp at hb)) | ((first | refine hB.out.1 _ _ ?_ | refine hB.out.1 _ ?_ | refine hB.out.2.1 _ _ _ (g1) ?_ | refine hB.out.2.2 _ _ _ (g1) ?_ | refine hB.out.2.1 _ _ _ (g2) ?_ | refine hB.out.2.2 _ _ _ (g2) ?_ | refine hB.out.2.1 _ _ _ (g3) ?_ | refine hB.out.2.2 _ _ _ (g3) ?_ | refine hB.out.2.1 _ _ _ (g4) ?_ | refine hB.out.2.2 _ _ _ (g4) ?_ | refine hB.out.2.1 _ _ _ (g5) ?_ | refine hB.out.2.2 _ _ _ (g5) ?_ | refine hB.out.2.1 _ _ _ (g6) ?_ | refine hB.out.2.2 _ _ _ (g6) ?_ | refine hB.out.2.1 _ _ _ (g7) ?_ | refine hB.out.2.2 _ _ _ (g7) ?_ | refine hB.out.2.1 _ _ _ (g8) ?_ | refine hB.out.2.2 _ _ _ (g8) ?_ | refine hB.out.2.1 _ _ _ (g9) ?_ | refine hB.out.2.2 _ _ _ (g9) ?_ | refine hB.out.2 ⟨rfl, ?_⟩); clear hB C B) | (refine hB.out.2 _ ?_; clear hB C B; (try rfl)))
         | refine rwf_o ?_ | refine rwc_o .n rfl ?_ | refine rwc_o .z rfl ?_ | refine rwc_o .w rfl ?_ | refine rwc_o .b rfl ?_ | refine rwc_o _ rfl ?_)
      · have hN4 : ¬ N < 50 := by omega
        repeat' (first
         | (with_reducible first | refine Stp.pf ?_ | refine block_x (by decide) ?_ | refine ret_n ?_)
         | refine tri_reg [] ?_ | refine tri_regc [] [] mixed (by decide +kernel) ?_
         | (refine rwf_nilt rfl (by decide +kernel) fun B hB => ?_; (try simp [*]); refine hB.out _ fun b => ?_; clear hB B)
         | (refine Rul.pf ⟨rfl, rfl⟩ fun B C hB => ?_; (try simp [*, -List.all_eq_true, Try.results4]); (try (simp (disch := first | assumption | omega) only [wc, ite_yes]; (try simp [*, -List.all_eq_true, Try.results4]))); first | (first | refine hB.out.1 _ (fun hb => ?_) fun hb => ⟨rfl, ?_⟩ | refine hB.out.1 _ (fun hb => ?_) fun hb => ?_) <;> clear hB C B <;> (try simp only [Bool.not_true, Bool.not_false] at hb) <;> (first | (exfalso; simp at hb; done) | (exfalso; simp at hb; omega) | (rw [hb]; (try simp at hb)) | (try simp at hb)) | ((first | refine hB.out.1 _ _ ?_ | refine hB.out.1 _ ?_ | refine hB.out.2.1 _ _ _ (g1) ?_ | refine hB.out.2.2 _ _ _ (g1) ?_ | refine hB.out.2.1 _ _ _ (g2) ?_ | refine hB.out.2.2 _ _ _ (g2) ?_ | refine hB.out.2.1 _ _ _ (g3) ?_ | refine hB.out.2.2 _ _ _ (g3) ?_ | refine hB.out.2.1 _ _ _ (g4) ?_ | refine hB.out.2.2 _ _ _ (g4) ?_ | refine hB.out.2.1 _ _ _ (g5) ?_ | refine hB.out.2.2 _ _ _ (g5) ?_ | refine hB.out.2.1 _ _ _ (g6) ?_ | refine hB.out.2.2 _ _ _ (g6) ?_ | refine hB.out.2.1 _ _ _ (g7) ?_ | refine hB.out.2.2 _ _ _ (g7) ?_ | refine hB.out.2.1 _ _ _ (g8) ?_ | refine hB.out.2.2 _ _ _ (g8) ?_ | refine hB.out.2.1 _ _ _ (g9) ?_ | refine hB.out.2.2 _ _ _ (g9) ?_ | refine hB.out.2 ⟨rfl, ?_⟩); clear hB C B) | (refine hB.out.2 _ ?_; clear hB C B; (try rfl)))
         | refine rwf_o ?_ | refine rwc_o .n rfl ?_ | refine rwc_o .z rfl ?_ | refine rwc_o .w rfl ?_ | refine rwc_o .b rfl ?_ | refine rwc_o _ rfl ?_)
  · have hnew := sNew_no n (by omega)
    by_cases h1 : n < 1
    · skip
      repeat' (first
       | (with_reducible first | refine Stp.pf ?_ | refine block_x (by decide) ?_ | refine ret_n ?_)
       | refine tri_reg [] ?_ | refine tri_regc [] [] mixed (by decide +kernel) ?_
       | (refine rwf_nilt rfl (by decide +kernel) fun B hB => ?_; (try simp [*]); refine hB.out _ fun b => ?_; clear hB B)
       | (refine Rul.pf ⟨rfl, rfl⟩ fun B C hB => ?_; (try simp [*, -List.all_eq_true, Try.results4]); (try (simp (disch := first | assumption | omega) only [wc, ite_yes]; (try simp [*, -List.all_eq_true, Try.results4]))); first | (first | refine hB.out.1 _ (fun hb => ?_) fun hb => ⟨rfl, ?_⟩ | refine hB.out.1 _ (fun hb => ?_) fun hb => ?_) <;> clear hB C B <;> (try simp only [Bool.not_true, Bool.not_false] at hb) <;> (first | (exfalso; simp at hb; done) | (exfalso; simp at hb; omega) | (rw [hb]; (try simp at hb)) | (try simp at hb)) | ((first | refine hB.out.1 _ _ ?_ | refine hB.out.1 _ ?_ | refine hB.out.2.1 _ _ _ (haw) ?_ | refine hB.out.2.2 _ _ _ (haw) ?_ | refine hB.out.2.1 _ _ _ (hnew) ?_ | refine hB.out.2.2 _ _ _ (hnew) ?_ | refine hB.out.2 ⟨rfl, ?_⟩); clear hB C B) | (refine hB.out.2 _ ?_; clear hB C B; (try rfl)))
       | refine rwf_o ?_ | refine rwc_o .n rfl ?_ | refine rwc_o .z rfl ?_ | refine rwc_o .w rfl ?_ | refine rwc_o .b rfl ?_ | refine rwc_o _ rfl ?_)
    · have h2 : 512 < n := by omega
      repeat' (first
       | (with_reducible first | refine Stp.pf ?_ | refine block_x (by decide) ?_ | refine ret_n ?_)
       | refine tri_reg [] ?_ | refine tri_regc [] [] mixed (by decide +kernel) ?_
       | (refine rwf_nilt rfl (by decide +kernel) fun B hB => ?_; (try simp [*]); refine hB.out _ fun b => ?_; clear hB B)
       | (refine Rul.pf ⟨rfl, rfl⟩ fun B C hB => ?_; (try simp [*, -List.all_eq_true, Try.results4]); (try (simp (disch := first | assumption | omega) only [wc, ite_yes]; (try simp [*, -List.all_eq_true, Try.results4]))); first | (first | refine hB.out.1 _ (fun hb => ?_) fun hb => ⟨rfl, ?_⟩ | refine hB.out.1 _ (fun hb => ?_) fun hb => ?_) <;> clear hB C B <;> (try simp only [Bool.not_true, Bool.not_false] at hb) <;> (first | (exfalso; simp at hb; done) | (exfalso; simp at hb; omega) | (rw [hb]; (try simp at hb)) | (try simp at hb)) | ((first | refine hB.out.1 _ _ ?_ | refine hB.out.1 _ ?_ | refine hB.out.2.1 _ _ _ (haw) ?_ | refine hB.out.2.2 _ _ _ (haw) ?_ | refine hB.out.2.1 _ _ _ (hnew) ?_ | refine hB.out.2.2 _ _ _ (hnew) ?_ | refine hB.out.2 ⟨rfl, ?_⟩); clear hB C B) | (refine hB.out.2 _ ?_; clear hB C B; (try rfl)))
       | refine rwf_o ?_ | refine rwc_o .n rfl ?_ | refine rwc_o .z rfl ?_ | refine rwc_o .w rfl ?_ | refine rwc_o .b rfl ?_ | refine rwc_o _ rfl ?_)
end Go.Proofs.Ytgdefllblcmgpaa
