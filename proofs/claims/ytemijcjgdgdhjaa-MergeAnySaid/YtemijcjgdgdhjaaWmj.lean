/- The law MergeAny. -/
import Derived.Test.YtemijcjgdgdhjaaPma
namespace Go.Proofs.Ytemijcjgdgdhjaa
open Go.RowKit
set_option linter.unusedSimpArgs false
set_option maxRecDepth 10000

theorem mMsgs_good {rs : List (List Msg)} (hg : GoodQ rs) (hl : rs.length ≤ 1000) (hn : ∀ l ∈ rs, l.length ≤ 10000) : PSpec Try.prog 35 [.fs (flatX rs) rs.length] (.tup [.fs (flatM (foldR rs)) (foldR rs).length, .sc (.int .i64 0)]) := by
  have := mMsgs_spec rs hl hn
  unfold msgsR at this
  rw [if_pos (good_err hg), merged_fold hg] at this
  exact this
theorem flatX_take (l : List (List Msg)) (k : Nat) : (flatX l).take k = flatX (l.take k) := by have := flatC_take cX_length l k; rw [Nat.mul_one] at this; exact this
theorem flatX_drop (l : List (List Msg)) (k : Nat) : (flatX l).drop k = flatX (l.drop k) := by have := flatC_drop cX_length l k; rw [Nat.mul_one] at this; exact this
set_option maxHeartbeats 4000000 in
theorem mergeAny_body (rs : List (List Msg)) (at_ : Int) (hl : rs.length ≤ 9223372036854775807) (hn : ∀ l ∈ rs, l.length ≤ 9223372036854775807) :
    PSpec Try.prog 7 [.fs (flatX rs) rs.length, .sc (.int .i64 at_)] (.sc (.bool true)) := by
  have e1 := great13_spec rs hl hn
  have haw := awake13_spec
  refine spec_pure (by simp) (by simp) ?_
  refine spec_intro Try.func7 good7 rfl (by simp [Try.ntmps7]) ?_
  cases hgr : greatM rs with
  | true =>
    rw [hgr] at e1
    repeat' (first
     | (with_reducible first | refine Stp.pf ?_ | refine block_x (by decide) ?_ | refine ret_n ?_)
     | refine tri_reg [] ?_ | refine tri_regc [] [] mixed (by decide +kernel) ?_
     | (refine rwf_nilt rfl (by decide +kernel) fun B hB => ?_; (try simp [*]); refine hB.out _ fun b => ?_; clear hB B)
     | (refine Rul.pf ⟨rfl, rfl⟩ fun B C hB => ?_; (try simp [*, -List.all_eq_true, Try.results7]); (try (simp (disch := first | assumption | omega) only [wc, ite_yes]; (try simp [*, -List.all_eq_true, Try.results7]))); first | (first | refine hB.out.1 _ (fun hb => ?_) fun hb => ⟨rfl, ?_⟩ | refine hB.out.1 _ (fun hb => ?_) fun hb => ?_) <;> clear hB C B <;> (try simp only [Bool.not_true, Bool.not_false] at hb) <;> (first | (exfalso; simp at hb; done) | (exfalso; simp at hb; omega) | (rw [hb]; (try simp at hb)) | (try simp at hb)) | ((first | refine hB.out.1 _ _ ?_ | refine hB.out.1 _ ?_ | refine hB.out.2.1 _ _ _ (haw) ?_ | refine hB.out.2.2 _ _ _ (haw) ?_ | refine hB.out.2.1 _ _ _ (e1) ?_ | refine hB.out.2.2 _ _ _ (e1) ?_ | refine hB.out.2 ⟨rfl, ?_⟩); clear hB C B) | (refine hB.out.2 _ ?_; clear hB C B; (try rfl)))
     | refine rwf_o ?_ | refine rwc_o .n rfl ?_ | refine rwc_o .z rfl ?_ | refine rwc_o .w rfl ?_ | refine rwc_o .b rfl ?_ | refine rwc_o _ rfl ?_)
    all_goals done
  | false =>
    rw [hgr] at e1
    obtain ⟨n1, n2⟩ := greatM_no hgr
    have n3 : ∀ l ∈ rs, l.length ≤ 30 := fun l h => (n2 l h).1
    clear hl hn n2 hgr
    have e2 := mMsgs_spec rs (by omega) (fun l hl => by have := n3 l hl; omega)
    unfold msgsR at e2
    by_cases he : errU rs = 0
    · rw [if_pos he] at e2
      have hg := err_good he
      rw [merged_fold hg] at e2
      clear he
      obtain ⟨n, hnn⟩ : ∃ n : Nat, (IntKind.u64.wrap at_) % ((rs.length : Int) + 1) = (n : Int) := ⟨((IntKind.u64.wrap at_) % ((rs.length : Int) + 1)).toNat, (Int.toNat_of_nonneg (Int.emod_nonneg _ (by omega))).symm⟩
      have hnl : n ≤ rs.length := by
        have : (IntKind.u64.wrap at_) % ((rs.length : Int) + 1) < (rs.length : Int) + 1 := Int.emod_lt_of_pos _ (by omega)
        omega
      have hw0 : 0 ≤ IntKind.u64.wrap at_ := by rw [IntKind.wrap_u64]; omega
      have hA : GoodQ (rs.take n) := fun q hq => hg q (List.mem_of_mem_take hq)
      have hB : GoodQ (rs.drop n) := fun q hq => hg q (List.mem_of_mem_drop hq)
      have nA : ∀ l ∈ rs.take n, l.length ≤ 30 := fun l h => n3 l (List.mem_of_mem_take h)
      have nB : ∀ l ∈ rs.drop n, l.length ≤ 30 := fun l h => n3 l (List.mem_of_mem_drop h)
      have lA : (rs.take n).length = n := by simp; omega
      have lB : (rs.drop n).length = rs.length - n := by simp
      have bA := foldR_bd hA (by omega) nA
      have bB := foldR_bd hB (by omega) nB
      have bC := foldR_bd hg n1 n3
      obtain ⟨a1, a2, -⟩ := foldR_good hA
      obtain ⟨b1, b2, -⟩ := foldR_good hB
      obtain ⟨c1, -, -⟩ := foldR_good hg
      have f1 := foldR_both hA hB
      have f2 := foldR_step hA hB
      rw [List.take_append_drop] at f1 f2
      have m1 := mMsgs_good hA (by omega) fun l hl => by have := nA l hl; omega
      have m2 := mMsgs_good hB (by omega) fun l hl => by have := nB l hl; omega
      have m3 := mMsgs_good (rs := [foldR (rs.take n), foldR (rs.drop n)]) (fun q hq => by
        simp at hq
        rcases hq with rfl | rfl
        · exact ⟨a1, a2⟩
        · exact ⟨b1, b2⟩) (by simp) (fun l hl => by
        simp at hl
        rcases hl with rfl | rfl <;> omega)
      have m4 := mMsgs_good (rs := foldR (rs.take n) :: rs.drop n) (fun q hq => by
        rcases List.mem_cons.1 hq with rfl | hq
        · exact ⟨a1, a2⟩
        · exact hB q hq) (by simp; omega) (fun l hl => by
        rcases List.mem_cons.1 hl with rfl | hl
        · omega
        · have := nB l hl; omega)
      rw [f1] at m3
      rw [f2] at m4
      have ht := flatX_take rs n
      have hd := flatX_drop rs n
      rw [lA] at m1
      rw [lB] at m2
      have hd2 : (flatX (rs.drop n)).take (rs.length - n) = flatX (rs.drop n) := List.take_of_length_le (by simp)
      have e5 := rSame_spec (foldR rs) (foldR rs) (by omega) (by omega)
      rw [decide_eq_true rfl] at e5
      have hX : [.fs (flatM (foldR (rs.take n))) (foldR (rs.take n)).length] ++ flatX (rs.drop n) = flatX (foldR (rs.take n) :: rs.drop n) := by simp [flatX, flatC, cX]
      have hX2 : flatX [foldR (rs.take n), foldR (rs.drop n)] = [.fs (flatM (foldR (rs.take n))) (foldR (rs.take n)).length, .fs (flatM (foldR (rs.drop n))) (foldR (rs.drop n)).length] := by simp [flatX, flatC, cX]
      rw [hX2] at m3
      clear hA hB nA nB a1 a2 b1 b2 f1 f2 hg lA n3 hX2
      generalize foldR (rs.take n) = F at *
      generalize foldR (rs.drop n) = R at *
      generalize foldR rs = M at *
      replace c1 := Lib.hid c1
      have hO : Own 1 [(⟨[.fs (flatM F) F.length], 0, false, false⟩ : MO)] (.ms 0 0 0 1 1) 1 [.fs (flatM F) F.length] := .inr ⟨0, 0, 0, _, rfl, rfl, by simp, by simp⟩
      repeat' (first
       | (with_reducible first | refine Stp.pf ?_ | refine block_x (by decide) ?_ | refine ret_n ?_)
       | refine tri_reg [62,66] ?_ | refine tri_regc [62,66] [] mixed (by decide +kernel) ?_
       | (refine rwf_nilt rfl (by decide +kernel) fun B hB => ?_; (try simp [*]); refine hB.out _ fun b => ?_; clear hB B)
       | (refine Rul.pf ⟨rfl, rfl⟩ fun B C hB => ?_; (try simp [*, -List.all_eq_true, Try.results7]); (try (simp (disch := first | assumption | omega) only [wc, ite_yes]; (try simp [*, -List.all_eq_true, Try.results7]))); first | (first | refine hB.out.1 _ (fun hb => ?_) fun hb => ⟨rfl, ?_⟩ | refine hB.out.1 _ (fun hb => ?_) fun hb => ?_) <;> clear hB C B <;> (try simp only [Bool.not_true, Bool.not_false] at hb) <;> (first | (exfalso; simp at hb; done) | (exfalso; simp at hb; omega) | (rw [hb]; (try simp at hb)) | (try simp at hb)) | ((first | refine hB.out.1 _ _ ?_ | refine hB.out.1 _ ?_ | refine hB.out.2.1 _ _ _ (haw) ?_ | refine hB.out.2.2 _ _ _ (haw) ?_ | refine hB.out.2.1 _ _ _ (e1) ?_ | refine hB.out.2.2 _ _ _ (e1) ?_ | refine hB.out.2.1 _ _ _ (e2) ?_ | refine hB.out.2.2 _ _ _ (e2) ?_ | refine hB.out.2.1 _ _ _ (m1) ?_ | refine hB.out.2.2 _ _ _ (m1) ?_ | refine hB.out.2.1 _ _ _ (m2) ?_ | refine hB.out.2.2 _ _ _ (m2) ?_ | refine hB.out.2.1 _ _ _ (m3) ?_ | refine hB.out.2.2 _ _ _ (m3) ?_ | refine hB.out.2 ⟨rfl, ?_⟩); clear hB C B) | (refine hB.out.2 _ ?_; clear hB C B; (try rfl)))
       | refine rwf_o ?_ | refine rwc_o .n rfl ?_ | refine rwc_o .z rfl ?_ | refine rwc_o .w rfl ?_ | refine rwc_o .b rfl ?_ | refine rwc_o _ rfl ?_)
      refine rwf_app rfl rfl elem56 zero22 rfl bytes22 (by decide) slc56 fun G hG => ?_
      (try simp [*, -List.all_eq_true])
      refine hG.out _ _ _ _ _ (hO) (by simp) (by simp) (by omega) fun v1 σ1 q1 q2 => ?_
      clear hG G
      rw [hX, show 1 + (rs.length - n) = (F :: rs.drop n).length by simp; omega] at q1
      have hm4 := spec_own1 q1 (by simp) (m4 _)
      clear q1 q2 hO hX m4 m1 m2 m3 e1 e2 haw ht hd hd2
      repeat' (first
       | (with_reducible first | refine Stp.pf ?_ | refine block_x (by decide) ?_ | refine ret_n ?_)
       | refine tri_reg [62,66] ?_ | refine tri_regc [62,66] [] mixed (by decide +kernel) ?_
       | (refine rwf_nilt rfl (by decide +kernel) fun B hB => ?_; (try simp [*]); refine hB.out _ fun b => ?_; clear hB B)
       | (refine Rul.pf ⟨rfl, rfl⟩ fun B C hB => ?_; (try simp [*, -List.all_eq_true, Try.results7]); (try (simp (disch := first | assumption | omega) only [wc, ite_yes]; (try simp [*, -List.all_eq_true, Try.results7]))); first | (first | refine hB.out.1 _ (fun hb => ?_) fun hb => ⟨rfl, ?_⟩ | refine hB.out.1 _ (fun hb => ?_) fun hb => ?_) <;> clear hB C B <;> (try simp only [Bool.not_true, Bool.not_false] at hb) <;> (first | (exfalso; simp at hb; done) | (exfalso; simp at hb; omega) | (rw [hb]; (try simp at hb)) | (try simp at hb)) | ((first | refine hB.out.1 _ _ ?_ | refine hB.out.1 _ ?_ | refine hB.out.2 ⟨rfl, ?_⟩); clear hB C B) | (refine hB.out.2 _ ?_; clear hB C B; (try rfl)))
       | refine rwf_o ?_ | refine rwc_o .n rfl ?_ | refine rwc_o .z rfl ?_ | refine rwc_o .w rfl ?_ | refine rwc_o .b rfl ?_ | refine rwc_o _ rfl ?_)
      refine rwf_ca rfl fun C' hC hP => ?_
      clear hP
      (try simp [*, -List.all_eq_true]); (try (simp (disch := first | assumption | omega) only [wrap_id, wrapu_id, wrapb_id, tmod_nn, tdiv_nn, ite_yes, flatM_seg, flatM_0, flatM_1, flatM_2, flatI_seg, flatI_0, flatI_1, flatS_get]; (try simp [*, -List.all_eq_true])))
      refine hC.out _ _ _ (hm4) fun r s hq => ?_
      clear hC C'
      obtain ⟨rfl, rfl⟩ := hq
      clear hm4
      generalize freezeL σ1 (List.range σ1.length) = S at *
      repeat' (first
       | (with_reducible first | refine Stp.pf ?_ | refine block_x (by decide) ?_ | refine ret_n ?_)
       | refine tri_reg [62,66] ?_ | refine tri_regc [62,66] [] mixed (by decide +kernel) ?_
       | (refine rwf_nilt rfl (by decide +kernel) fun B hB => ?_; (try simp [*]); refine hB.out _ fun b => ?_; clear hB B)
       | (refine Rul.pf ⟨rfl, rfl⟩ fun B C hB => ?_; (try simp [*, -List.all_eq_true, Try.results7]); (try (simp (disch := first | assumption | omega) only [wc, ite_yes]; (try simp [*, -List.all_eq_true, Try.results7]))); first | (first | refine hB.out.1 _ (fun hb => ?_) fun hb => ⟨rfl, ?_⟩ | refine hB.out.1 _ (fun hb => ?_) fun hb => ?_) <;> clear hB C B <;> (try simp only [Bool.not_true, Bool.not_false] at hb) <;> (first | (exfalso; simp at hb; done) | (exfalso; simp at hb; omega) | (rw [hb]; (try simp at hb)) | (try simp at hb)) | ((first | refine hB.out.1 _ _ ?_ | refine hB.out.1 _ ?_ | refine hB.out.2 ⟨rfl, ?_⟩); clear hB C B) | (refine hB.out.2 _ ?_; clear hB C B; (try rfl)))
       | refine rwf_o ?_ | refine rwc_o .n rfl ?_ | refine rwc_o .z rfl ?_ | refine rwc_o .w rfl ?_ | refine rwc_o .b rfl ?_ | refine rwc_o _ rfl ?_)
      refine tri_for [5, 12, 14] (M.length - 1) (fun k e σ => σ = S ∧ e 16 = .sc (.int .i64 (k + 1 : Nat))) ?_ (fun k env' σ' hlt hk hI => ?_) (fun env' σ' hk hI => ?_)
      · exact ⟨by simp, by simp⟩
      · skip
        (try simp at hk)
        obtain ⟨rfl, h8⟩ := hI
        have hk1 : k + 1 < M.length := by omega
        have hk0 : k < M.length := by omega
        have hS := (List.pairwise_iff_getElem.1 c1.out) k (k + 1) hk0 hk1 (by omega)
        have hc : ((k + 1 : Nat) : Int) - 1 = (k : Nat) := by omega
        have a1 := flatM_1 M k hk0
        have a2 := flatM_1 M (k + 1) hk1
        generalize hj : k + 1 = j at *
        repeat' (first
         | (with_reducible first | refine Stp.pf ?_ | refine block_x (by decide) ?_ | refine ret_n ?_)
         | refine tri_reg [] ?_ | refine tri_regc [] [] mixed (by decide +kernel) ?_
         | (refine rwf_nilt rfl (by decide +kernel) fun B hB => ?_; (try simp [*]); refine hB.out _ fun b => ?_; clear hB B)
         | (refine Rul.pf ⟨rfl, rfl⟩ fun B C hB => ?_; (try simp [*, -List.all_eq_true, Try.results7]); (try (simp (disch := first | assumption | omega) only [wc, ite_yes]; (try simp [*, -List.all_eq_true, Try.results7]))); first | (first | refine hB.out.1 _ (fun hb => ?_) fun hb => ⟨rfl, ?_⟩ | refine hB.out.1 _ (fun hb => ?_) fun hb => ?_) <;> clear hB C B <;> (try simp only [Bool.not_true, Bool.not_false] at hb) <;> (first | (exfalso; simp at hb; done) | (exfalso; simp at hb; omega) | (rw [hb]; (try simp at hb)) | (try simp at hb)) | ((first | refine hB.out.1 _ _ ?_ | refine hB.out.1 _ ?_ | refine hB.out.2 ⟨rfl, ?_⟩); clear hB C B) | (refine hB.out.2 _ ?_; clear hB C B; (try rfl)))
         | refine rwf_o ?_ | refine rwc_o .n rfl ?_ | refine rwc_o .z rfl ?_ | refine rwc_o .w rfl ?_ | refine rwc_o .b rfl ?_ | refine rwc_o _ rfl ?_)
        exact ⟨by simp [*], rfl, by simp⟩
      · skip
        (try simp at hk)
        obtain ⟨rfl, h8⟩ := hI
        have hno : ¬ (((M.length - 1 + 1 : Nat) : Int) < M.length) := by omega
        repeat' (first
         | (with_reducible first | refine Stp.pf ?_ | refine block_x (by decide) ?_ | refine ret_n ?_)
         | refine tri_reg [] ?_ | refine tri_regc [] [] mixed (by decide +kernel) ?_
         | (refine rwf_nilt rfl (by decide +kernel) fun B hB => ?_; (try simp [*]); refine hB.out _ fun b => ?_; clear hB B)
         | (refine Rul.pf ⟨rfl, rfl⟩ fun B C hB => ?_; (try simp [*, -List.all_eq_true, Try.results7]); (try (simp (disch := first | assumption | omega) only [wc, ite_yes]; (try simp [*, -List.all_eq_true, Try.results7]))); first | (first | refine hB.out.1 _ (fun hb => ?_) fun hb => ⟨rfl, ?_⟩ | refine hB.out.1 _ (fun hb => ?_) fun hb => ?_) <;> clear hB C B <;> (try simp only [Bool.not_true, Bool.not_false] at hb) <;> (first | (exfalso; simp at hb; done) | (exfalso; simp at hb; omega) | (rw [hb]; (try simp at hb)) | (try simp at hb)) | ((first | refine hB.out.1 _ _ ?_ | refine hB.out.1 _ ?_ | refine hB.out.2.1 _ _ _ (e5) ?_ | refine hB.out.2.2 _ _ _ (e5) ?_ | refine hB.out.2 ⟨rfl, ?_⟩); clear hB C B) | (refine hB.out.2 _ ?_; clear hB C B; (try rfl)))
         | refine rwf_o ?_ | refine rwc_o .n rfl ?_ | refine rwc_o .z rfl ?_ | refine rwc_o .w rfl ?_ | refine rwc_o .b rfl ?_ | refine rwc_o _ rfl ?_)
        all_goals done
    · rw [if_neg he] at e2
      generalize errU rs = er at *
      repeat' (first
       | (with_reducible first | refine Stp.pf ?_ | refine block_x (by decide) ?_ | refine ret_n ?_)
       | refine tri_reg [62,66] ?_ | refine tri_regc [62,66] [] mixed (by decide +kernel) ?_
       | (refine rwf_nilt rfl (by decide +kernel) fun B hB => ?_; (try simp [*]); refine hB.out _ fun b => ?_; clear hB B)
       | (refine Rul.pf ⟨rfl, rfl⟩ fun B C hB => ?_; (try simp [*, -List.all_eq_true, Try.results7]); (try (simp (disch := first | assumption | omega) only [wc, ite_yes]; (try simp [*, -List.all_eq_true, Try.results7]))); first | (first | refine hB.out.1 _ (fun hb => ?_) fun hb => ⟨rfl, ?_⟩ | refine hB.out.1 _ (fun hb => ?_) fun hb => ?_) <;> clear hB C B <;> (try simp only [Bool.not_true, Bool.not_false] at hb) <;> (first | (exfalso; simp at hb; done) | (exfalso; simp at hb; omega) | (rw [hb]; (try simp at hb)) | (try simp at hb)) | ((first | refine hB.out.1 _ _ ?_ | refine hB.out.1 _ ?_ | refine hB.out.2.1 _ _ _ (haw) ?_ | refine hB.out.2.2 _ _ _ (haw) ?_ | refine hB.out.2.1 _ _ _ (e1) ?_ | refine hB.out.2.2 _ _ _ (e1) ?_ | refine hB.out.2.1 _ _ _ (e2) ?_ | refine hB.out.2.2 _ _ _ (e2) ?_ | refine hB.out.2 ⟨rfl, ?_⟩); clear hB C B) | (refine hB.out.2 _ ?_; clear hB C B; (try rfl)))
       | refine rwf_o ?_ | refine rwc_o .n rfl ?_ | refine rwc_o .z rfl ?_ | refine rwc_o .w rfl ?_ | refine rwc_o .b rfl ?_ | refine rwc_o _ rfl ?_)
      all_goals done
end Go.Proofs.Ytemijcjgdgdhjaa
