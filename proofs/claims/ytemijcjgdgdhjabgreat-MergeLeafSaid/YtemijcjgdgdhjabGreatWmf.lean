/- Merging: the law's awake. -/
import Derived.Test.YtemijcjgdgdhjabGreatWmc
import Derived.Test.YtemijcjgdgdhjabGreatOd
namespace Go.Proofs.YtemijcjgdgdhjabGreat
open Go.RowKit
set_option linter.unusedSimpArgs false
set_option maxRecDepth 10000
def aw1 : List Msg := [⟨3, ⟨#[98]⟩, val8 5⟩, ⟨2, ⟨#[99]⟩, ⟨#[]⟩⟩]
def aw2 : List Msg := [⟨1, ⟨#[97]⟩, ⟨#[120]⟩⟩, ⟨3, ⟨#[98]⟩, val8 7⟩]
def awU : List Run := heapInit lessU (runsU [aw1, aw2])
theorem aw_err : errU [aw1, aw2] = 0 := by decide +kernel
theorem aw_cnt : countU awU = 4 := by decide +kernel
theorem aw_n1 : (nextU awU).1 = ⟨1, ⟨#[97]⟩, ⟨#[120]⟩⟩ := by decide +kernel
theorem aw_n2 : (nextU (nextU awU).2).1 = ⟨3, ⟨#[98]⟩, val8 12⟩ := by decide +kernel
theorem aw_c2 : countU (nextU (nextU awU).2).2 = 1 := by decide +kernel
theorem aw_oe : overE [⟨⟨#[98]⟩, ⟨#[118]⟩⟩, ⟨⟨#[99]⟩, ⟨#[119]⟩⟩] [aw1, aw2] = 0 := by decide +kernel
theorem aw_ol : (overL [⟨⟨#[98]⟩, ⟨#[118]⟩⟩, ⟨⟨#[99]⟩, ⟨#[119]⟩⟩] [aw1, aw2]).map (fun x => (x.key, x.val)) = [(⟨#[97]⟩, ⟨#[120]⟩), (⟨#[98]⟩, ⟨#[118]⟩)] := by decide +kernel
theorem aw_e2 : errU [[⟨2, ⟨#[98]⟩, ⟨#[]⟩⟩, ⟨2, ⟨#[98]⟩, ⟨#[]⟩⟩]] = 11 := by decide +kernel
end Go.Proofs.YtemijcjgdgdhjabGreat
namespace Go.Proofs.YtemijcjgdgdhjabGreat
open Go.RowKit
set_option linter.unusedSimpArgs false
theorem keyValue_spec (n : Nat) (hn : n < 2 ^ 64) : PSpec Tryz.prog 34 [.sc (.int .u64 n)] (.sc (.string (val8 n))) :=
  pspec_gives [.int .u64 n] good34 fun w => Old.keyValue_calls n w hn
theorem ofAdd_spec (k : Str) (n : Nat) (hn : n < 2 ^ 64) : PSpec Tryz.prog 11 [.sc (.string k), .sc (.int .u64 n)] (.agg (cM ⟨3, k, val8 n⟩)) := by
  refine spec_pure (by simp) (by simp) ?_
  refine spec_intro Tryz.func11 good11 rfl (by simp [Tryz.ntmps11]) ?_
  repeat' (first
   | (with_reducible first | refine Stp.pf ?_ | refine block_x (by decide) ?_ | refine ret_n ?_)
   | refine tri_reg [4] ?_ | refine tri_regc [4] [] mixed (by decide +kernel) ?_
   | (refine rwf_nilt rfl (by decide +kernel) fun B hB => ?_; (try simp [*]); refine hB.out _ fun b => ?_; clear hB B)
   | (refine Rul.pf ⟨rfl, rfl⟩ fun B C hB => ?_; (try simp [*, -List.all_eq_true, Tryz.results11]); (try (simp (disch := first | assumption | omega) only [wc, ite_yes]; (try simp [*, -List.all_eq_true, Tryz.results11]))); first | (first | refine hB.out.1 _ (fun hb => ?_) fun hb => ⟨rfl, ?_⟩ | refine hB.out.1 _ (fun hb => ?_) fun hb => ?_) <;> clear hB C B <;> (try simp only [Bool.not_true, Bool.not_false] at hb) <;> (first | (exfalso; simp at hb; done) | (exfalso; simp at hb; omega) | (rw [hb]; (try simp at hb)) | (try simp at hb)) | ((first | refine hB.out.1 _ _ ?_ | refine hB.out.1 _ ?_ | refine hB.out.2.1 _ _ _ (keyValue_spec _ hn) ?_ | refine hB.out.2.2 _ _ _ (keyValue_spec _ hn) ?_ | refine hB.out.2 ⟨rfl, ?_⟩); clear hB C B) | (refine hB.out.2 _ ?_; clear hB C B; (try rfl)))
   | refine rwf_o ?_ | refine rwc_o .n rfl ?_ | refine rwc_o .z rfl ?_ | refine rwc_o .w rfl ?_ | refine rwc_o .b rfl ?_ | refine rwc_o _ rfl ?_)
end Go.Proofs.YtemijcjgdgdhjabGreat
namespace Go.Proofs.YtemijcjgdgdhjabGreat
open Go.RowKit
set_option linter.unusedSimpArgs false
set_option maxRecDepth 10000
theorem aw_ol2 : overL [⟨⟨#[98]⟩, ⟨#[118]⟩⟩, ⟨⟨#[99]⟩, ⟨#[119]⟩⟩] [aw1, aw2] = [⟨⟨#[97]⟩, ⟨#[120]⟩⟩, ⟨⟨#[98]⟩, ⟨#[118]⟩⟩] := by
  have h := aw_ol
  generalize overL [⟨⟨#[98]⟩, ⟨#[118]⟩⟩, ⟨⟨#[99]⟩, ⟨#[119]⟩⟩] [aw1, aw2] = L at h
  match L, h with
  | [⟨a, b⟩, ⟨c, d⟩], h => simp at h; obtain ⟨⟨rfl, rfl⟩, rfl, rfl⟩ := h; rfl
set_option maxHeartbeats 4000000 in
theorem awake13_spec : PSpec Tryz.prog 4 [] (.sc (.bool true)) := by
  have a1 := ofAdd_spec ⟨#[98]⟩ 5 (by decide)
  have a2 := ofAdd_spec ⟨#[98]⟩ 7 (by decide)
  have a3 := ofAdd_spec ⟨#[98]⟩ 12 (by decide)
  have hnew := fun σ => mNew_spec [aw1, aw2] (by simp) (by simp [aw1, aw2]) σ
  have hov := mOver_spec [⟨⟨#[98]⟩, ⟨#[118]⟩⟩, ⟨⟨#[99]⟩, ⟨#[119]⟩⟩] [aw1, aw2] (by simp) (by simp) (by simp [aw1, aw2])
  unfold overR at hov
  rw [aw_oe, if_pos rfl, aw_ol2] at hov
  have hms := mMsgs_spec [[⟨2, ⟨#[98]⟩, ⟨#[]⟩⟩, ⟨2, ⟨#[98]⟩, ⟨#[]⟩⟩]] (by simp) (by simp)
  unfold msgsR at hms
  rw [aw_e2, if_neg (by decide)] at hms
  have hok : OkU awU := (heapInit_ok (l := runsU [aw1, aw2]) ⟨by decide +kernel, runsU_ok (by simp [aw1, aw2])⟩).1
  have hok1 : OkU (nextU awU).2 := (nextU_ok hok (by decide +kernel)).1
  have l0 : 0 < awU.length := by decide +kernel
  have l1 : 0 < (nextU awU).2.length := by decide +kernel
  have c0 := aw_cnt
  have c2 := aw_c2
  have m1 := aw_n1
  have m2 := aw_n2
  refine spec_pure (by simp) (by simp) ?_
  refine spec_intro Tryz.func4 good4 rfl (by simp [Tryz.ntmps4]) ?_
  repeat' (first
   | (with_reducible first | refine Stp.pf ?_ | refine block_x (by decide) ?_ | refine ret_n ?_)
   | refine tri_reg [] ?_ | refine tri_regc [] [] mixed (by decide +kernel) ?_
   | (refine rwf_nilt rfl (by decide +kernel) fun B hB => ?_; (try simp [*]); refine hB.out _ fun b => ?_; clear hB B)
   | (refine Rul.pf ⟨rfl, rfl⟩ fun B C hB => ?_; (try simp [*, -List.all_eq_true, Tryz.results4]); (try (simp (disch := first | assumption | omega) only [wc, ite_yes]; (try simp [*, -List.all_eq_true, Tryz.results4]))); first | (first | refine hB.out.1 _ (fun hb => ?_) fun hb => ⟨rfl, ?_⟩ | refine hB.out.1 _ (fun hb => ?_) fun hb => ?_) <;> clear hB C B <;> (try simp only [Bool.not_true, Bool.not_false] at hb) <;> (first | (exfalso; simp at hb; done) | (exfalso; simp at hb; omega) | (rw [hb]; (try simp at hb)) | (try simp at hb)) | ((first | refine hB.out.1 _ _ ?_ | refine hB.out.1 _ ?_ | refine hB.out.2.1 _ _ _ (a1) ?_ | refine hB.out.2.2 _ _ _ (a1) ?_ | refine hB.out.2.1 _ _ _ (a2) ?_ | refine hB.out.2.2 _ _ _ (a2) ?_ | refine hB.out.2.1 _ _ _ (ofDel_spec _) ?_ | refine hB.out.2.2 _ _ _ (ofDel_spec _) ?_ | refine hB.out.2.1 _ _ _ (ofPut_spec _ _) ?_ | refine hB.out.2.2 _ _ _ (ofPut_spec _ _) ?_ | refine hB.out.2 ⟨rfl, ?_⟩); clear hB C B) | (refine hB.out.2 _ ?_; clear hB C B; (try rfl)))
   | refine rwf_o ?_ | refine rwc_o .n rfl ?_ | refine rwc_o .z rfl ?_ | refine rwc_o .w rfl ?_ | refine rwc_o .b rfl ?_ | refine rwc_o _ rfl ?_)
  refine rwf_ca rfl fun C' hC hP => ?_
  clear hP
  (try simp [*, -List.all_eq_true]); (try (simp (disch := first | assumption | omega) only [wrap_id, wrapu_id, wrapb_id, tmod_nn, tdiv_nn, ite_yes, flatM_seg, flatM_0, flatM_1, flatM_2, flatI_seg, flatI_0, flatI_1, flatS_get]; (try simp [*, -List.all_eq_true])))
  refine hC.out _ _ _ (hnew _) fun r s hq => ?_
  clear hC C'
  obtain hq := hq
  obtain ⟨hq, -⟩ := hq
  obtain ⟨p, q, hpq1, hpq2, hql, rfl, hH⟩ := hq aw_err
  clear hnew hql hpq1 hpq2 hq
  change HeadsQ p q _ awU s at hH
  generalize awU = U at *
  have hLf := mLeft_spec p q _ _ _ hH
  rw [c0] at hLf
  have hNx := mNext_spec p q _ _ _ hH l0
  rw [m1] at hNx
  repeat' (first
   | (with_reducible first | refine Stp.pf ?_ | refine block_x (by decide) ?_ | refine ret_n ?_)
   | refine tri_reg [] ?_ | refine tri_regc [] [] mixed (by decide +kernel) ?_
   | (refine rwf_nilt rfl (by decide +kernel) fun B hB => ?_; (try simp [*]); refine hB.out _ fun b => ?_; clear hB B)
   | (refine Rul.pf ⟨rfl, rfl⟩ fun B C hB => ?_; (try simp [*, -List.all_eq_true, Tryz.results4]); (try (simp (disch := first | assumption | omega) only [wc, ite_yes]; (try simp [*, -List.all_eq_true, Tryz.results4]))); first | (first | refine hB.out.1 _ (fun hb => ?_) fun hb => ⟨rfl, ?_⟩ | refine hB.out.1 _ (fun hb => ?_) fun hb => ?_) <;> clear hB C B <;> (try simp only [Bool.not_true, Bool.not_false] at hb) <;> (first | (exfalso; simp at hb; done) | (exfalso; simp at hb; omega) | (rw [hb]; (try simp at hb)) | (try simp at hb)) | ((first | refine hB.out.1 _ _ ?_ | refine hB.out.1 _ ?_ | refine hB.out.2.1 _ _ _ (hLf) ?_ | refine hB.out.2.2 _ _ _ (hLf) ?_ | refine hB.out.2 ⟨rfl, ?_⟩); clear hB C B) | (refine hB.out.2 _ ?_; clear hB C B; (try rfl)))
   | refine rwf_o ?_ | refine rwc_o .n rfl ?_ | refine rwc_o .z rfl ?_ | refine rwc_o .w rfl ?_ | refine rwc_o .b rfl ?_ | refine rwc_o _ rfl ?_)
  refine rwf_ca rfl fun C' hC hP => ?_
  clear hP
  (try simp [*, -List.all_eq_true]); (try (simp (disch := first | assumption | omega) only [wrap_id, wrapu_id, wrapb_id, tmod_nn, tdiv_nn, ite_yes, flatM_seg, flatM_0, flatM_1, flatM_2, flatI_seg, flatI_0, flatI_1, flatS_get]; (try simp [*, -List.all_eq_true])))
  refine hC.out _ _ _ (hNx) fun r s2 hq => ?_
  clear hC C'
  obtain ⟨rfl, hI2⟩ := hq
  have hNy := mNext_spec p q _ _ _ hI2 l1
  rw [m2] at hNy
  repeat' (first
   | (with_reducible first | refine Stp.pf ?_ | refine block_x (by decide) ?_ | refine ret_n ?_)
   | refine tri_reg [] ?_ | refine tri_regc [] [] mixed (by decide +kernel) ?_
   | (refine rwf_nilt rfl (by decide +kernel) fun B hB => ?_; (try simp [*]); refine hB.out _ fun b => ?_; clear hB B)
   | (refine Rul.pf ⟨rfl, rfl⟩ fun B C hB => ?_; (try simp [*, -List.all_eq_true, Tryz.results4]); (try (simp (disch := first | assumption | omega) only [wc, ite_yes]; (try simp [*, -List.all_eq_true, Tryz.results4]))); first | (first | refine hB.out.1 _ (fun hb => ?_) fun hb => ⟨rfl, ?_⟩ | refine hB.out.1 _ (fun hb => ?_) fun hb => ?_) <;> clear hB C B <;> (try simp only [Bool.not_true, Bool.not_false] at hb) <;> (first | (exfalso; simp at hb; done) | (exfalso; simp at hb; omega) | (rw [hb]; (try simp at hb)) | (try simp at hb)) | ((first | refine hB.out.1 _ _ ?_ | refine hB.out.1 _ ?_ | refine hB.out.2 ⟨rfl, ?_⟩); clear hB C B) | (refine hB.out.2 _ ?_; clear hB C B; (try rfl)))
   | refine rwf_o ?_ | refine rwc_o .n rfl ?_ | refine rwc_o .z rfl ?_ | refine rwc_o .w rfl ?_ | refine rwc_o .b rfl ?_ | refine rwc_o _ rfl ?_)
  refine rwf_ca rfl fun C' hC hP => ?_
  clear hP
  (try simp [*, -List.all_eq_true]); (try (simp (disch := first | assumption | omega) only [wrap_id, wrapu_id, wrapb_id, tmod_nn, tdiv_nn, ite_yes, flatM_seg, flatM_0, flatM_1, flatM_2, flatI_seg, flatI_0, flatI_1, flatS_get]; (try simp [*, -List.all_eq_true])))
  refine hC.out _ _ _ (hNy) fun r s3 hq => ?_
  clear hC C'
  obtain ⟨rfl, hI3⟩ := hq
  have hLn : ∀ X, Spec Tryz.prog 15 [.mp p 0 0] (s3 ++ X) (fun r s => r = .sc (.int .i64 1) ∧ s = s3 ++ X) := fun X => by
    have := mLeft_spec p q _ _ _ (hI3.append X)
    rw [c2] at this
    exact this
  clear hLf hNx hNy hH hI2 hI3 hok hok1 l0 l1
  generalize val8 12 = V at *
  repeat' (first
   | (with_reducible first | refine Stp.pf ?_ | refine block_x (by decide) ?_ | refine ret_n ?_)
   | refine tri_reg [] ?_ | refine tri_regc [] [] mixed (by decide +kernel) ?_
   | (refine rwf_nilt rfl (by decide +kernel) fun B hB => ?_; (try simp [*]); refine hB.out _ fun b => ?_; clear hB B)
   | (refine Rul.pf ⟨rfl, rfl⟩ fun B C hB => ?_; (try simp [*, -List.all_eq_true, Tryz.results4]); (try (simp (disch := first | assumption | omega) only [wc, ite_yes]; (try simp [*, -List.all_eq_true, Tryz.results4]))); first | (first | refine hB.out.1 _ (fun hb => ?_) fun hb => ⟨rfl, ?_⟩ | refine hB.out.1 _ (fun hb => ?_) fun hb => ?_) <;> clear hB C B <;> (try simp only [Bool.not_true, Bool.not_false] at hb) <;> (first | (exfalso; simp at hb; done) | (exfalso; simp at hb; omega) | (rw [hb]; (try simp at hb)) | (try simp at hb)) | ((first | refine hB.out.1 _ _ ?_ | refine hB.out.1 _ ?_ | refine hB.out.2.1 _ _ _ (a3) ?_ | refine hB.out.2.2 _ _ _ (a3) ?_ | refine hB.out.2.1 _ _ _ (ofDel_spec _) ?_ | refine hB.out.2.2 _ _ _ (ofDel_spec _) ?_ | refine hB.out.2.1 _ _ _ (ofPut_spec _ _) ?_ | refine hB.out.2.2 _ _ _ (ofPut_spec _ _) ?_ | refine hB.out.2.1 _ _ _ (hov) ?_ | refine hB.out.2.2 _ _ _ (hov) ?_ | refine hB.out.2.1 _ _ _ (hms) ?_ | refine hB.out.2.2 _ _ _ (hms) ?_ | refine hB.out.2.1 _ _ _ (hLn) ?_ | refine hB.out.2.2 _ _ _ (hLn) ?_ | refine hB.out.2 ⟨rfl, ?_⟩); clear hB C B) | (refine hB.out.2 _ ?_; clear hB C B; (try rfl)))
   | refine rwf_o ?_ | refine rwc_o .n rfl ?_ | refine rwc_o .z rfl ?_ | refine rwc_o .w rfl ?_ | refine rwc_o .b rfl ?_ | refine rwc_o _ rfl ?_)
  all_goals done
end Go.Proofs.YtemijcjgdgdhjabGreat
