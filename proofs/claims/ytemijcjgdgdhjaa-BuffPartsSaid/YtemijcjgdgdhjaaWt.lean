/- Buffers: sort, Take, Without, Same. -/
import Derived.Test.YtemijcjgdgdhjaaWw
import Derived.Test.YtemijcjgdgdhjaaLogS
namespace Go.Proofs.Ytemijcjgdgdhjaa
open Go.RowKit
set_option linter.unusedSimpArgs false
set_option maxRecDepth 10000

/-- One more of a row of messages, as a row's cells. -/
theorem oneM (m : Msg) : wr (zerosA [AV.sc (Value.int IntKind.i64 0), AV.sc (Value.string { data := #[] }), AV.sc (Value.string { data := #[] })] 3) 0 (List.take 3 (cM m)) = cM m := rfl
@[simp] theorem oneM2 (m : Msg) : wr (zerosA [AV.sc (Value.int IntKind.i64 0), AV.sc (Value.string { data := #[] }), AV.sc (Value.string { data := #[] })] 3) 0 (cM m) = cM m := rfl
theorem mk_empty : ({ data := #[] } : ByteArray) = ByteArray.empty := rfl
theorem is_empty (s : Str) : s = ByteArray.empty ↔ s.size = 0 := size_nil s
set_option maxHeartbeats 1000000 in
theorem bSort_spec (l : List Msg) (hl : l.length ≤ 900000) (lo hi : Str) : PSpec Try.prog 67 [.fp (cB l) 0, .agg [.sc (.string lo), .sc (.string hi)]] (.tup [.fs (flatM (takeM l lo hi true)) (takeM l lo hi true).length, .fs (flatM (takeM l lo hi false)) (takeM l lo hi false).length]) := by
  refine spec_pureFW (by simp) ?_
  refine spec_intro Try.func67 good67 rfl (by simp [Try.ntmps67]) ?_
  repeat' (first
   | (with_reducible first | refine tri_seq ?_ | refine then_n ?_ | refine then_e ?_ | refine then_r ?_ | refine block_n ?_ | refine block_r ?_ | refine block_e ?_ | refine block_x (by decide) ?_ | refine tri_block ?_ | refine tri_skip ?_ | refine tri_ret ?_ | refine tri_exit ?_ | refine rwf_nil ?_ | refine rwc_nil ?_ | refine ret_n ?_)
   | refine tri_reg [22,26] ?_
   | refine tri_regc [22,26] [] mixed (by decide +kernel) ?_
   | (refine rwf_boxm rfl fun B hB => ?_; (try simp [*, -List.all_eq_true]); (try (simp (disch := first | assumption | omega) only [wrap_id, wrapu_id, wrapb_id, tmod_nn, tdiv_nn, ite_yes, flatM_seg, flatM_0, flatM_1, flatM_2, flatI_seg, flatI_0, flatI_1, flatS_get]; (try simp [*, -List.all_eq_true]))); refine hB.out _ _ ?_; clear hB B)
   | refine rwf_o ?_
   | refine rwc_o _ rfl ?_
   | (refine rwf_nilt rfl (by decide +kernel) fun G hG => ?_; (try simp [*, -List.all_eq_true]); refine hG.out _ fun b => ?_; clear hG G)
   | ((first | refine rwf_a rfl fun B hB => ?_ | refine rwc_n rfl fun B hB => ?_ | refine rwc_z rfl fun B hB => ?_ | refine rwc_b rfl fun B hB => ?_ | refine rwc_w rfl fun B hB => ?_ | refine rwf_z rfl fun B hB => ?_); (try simp [*, -List.all_eq_true]); (try (simp (disch := first | assumption | omega) only [wrap_id, wrapu_id, wrapb_id, tmod_nn, tdiv_nn, ite_yes, flatM_seg, flatM_0, flatM_1, flatM_2, flatI_seg, flatI_0, flatI_1, flatS_get]; (try simp [*, -List.all_eq_true]))); (first | refine hB.out _ _ ?_ | refine hB.out _ ?_); clear hB B)
   | ((first | refine rwf_g rfl fun G hG hU => ?_ | refine rwc_g rfl fun G hG hU => ?_); (try simp [*, -List.all_eq_true]); first | (refine hU.out ⟨rfl, ?_⟩; clear hG hU G) | (refine hG.out _ (fun hb => ?_) (fun hb => ⟨rfl, ?_⟩) <;> clear hG hU G <;> (try simp only [Bool.not_true, Bool.not_false] at hb) <;> first | (exfalso; simp at hb; done) | (exfalso; simp at hb; omega) | (rw [hb]; (try simp at hb)) | (try simp at hb)))
   | (refine tri_if fun G hG => ?_; (try simp [*, -List.all_eq_true]); refine hG.out _ (fun hb => ?_) (fun hb => ?_) <;> clear hG G <;> (try simp only [Bool.not_true, Bool.not_false] at hb) <;> first | (exfalso; simp at hb; done) | (exfalso; simp at hb; omega) | (rw [hb]; (try simp at hb)) | (try simp at hb))
   | (refine ret_q fun R hR => ?_; (try simp [*, -List.all_eq_true, Try.results67]); (try (simp (disch := first | assumption | omega) only [wrap_id, wrapu_id, wrapb_id, tmod_nn, tdiv_nn, ite_yes, flatM_seg, flatM_0, flatM_1, flatM_2, flatI_seg, flatI_0, flatI_1, flatS_get]; (try simp [*, -List.all_eq_true, Try.results67]))); refine hR.out _ ?_; clear hR R; (try rfl))
   | (refine rwf_ca rfl fun C' hC hP => ?_; (try simp [*, -List.all_eq_true]); (first | refine hP.out _ _ _ (bList_spec l (by omega)) ?_ | (refine hC.out _ _ _ (bList_spec l (by omega)) fun r s hq => ?_; obtain ⟨hq1, hq2⟩ := hq; rw [hq1, hq2]; clear hq1 hq2 s r)); clear hP hC C')
   | ((first | refine rwf_cz rfl fun C' hC hP => ?_ | refine rwc_cz rfl fun C' hC hP => ?_); (try simp [*, -List.all_eq_true]); (first | refine hC.out _ _ _ (bList_spec l (by omega)) ?_ | refine hP.out _ _ _ (bList_spec l (by omega)) ?_); clear hP hC C'))
  refine tri_loopk [3, 9, 10] (fun m env σ => ∃ k : Nat, k + m = l.length ∧ env 11 = .sc (.int .i64 k) ∧ ∃ v1 v2, env 4 = v1 ∧ env 5 = v2 ∧ Own 3 σ v1 (takeM (l.take k) lo hi true).length (flatM (takeM (l.take k) lo hi true)) ∧ Own 3 σ v2 (takeM (l.take k) lo hi false).length (flatM (takeM (l.take k) lo hi false)) ∧ ∀ j, isH j v1 → ¬ isH j v2) l.length ⟨0, by simp, by simp, _, _, rfl, rfl, .inl ⟨by simp, rfl, rfl⟩, .inl ⟨by simp, rfl, rfl⟩, fun j _ => by simpa using isH_nil j⟩ ?_
  intro m env' σ' hk hI
  simp at hk
  obtain ⟨k, hkm, h11, v1, v2, h4, h5, o1, o2, hd⟩ := hI
  have t1 := takeM_len (l.take k) lo hi true
  have t2 := takeM_len (l.take k) lo hi false
  have t3 : (l.take k).length ≤ l.length := by simp; omega
  by_cases hlt : k < l.length
  · have hs := fun b => takeM_succ (lo := lo) (hi := hi) (h := b) (List.getElem?_eq_getElem hlt)
    have hone := oneM l[k]
    cases hh : hasM lo hi l[k].key with
    | true =>
      repeat' (first
       | (with_reducible first | refine tri_seq ?_ | refine then_n ?_ | refine then_e ?_ | refine then_r ?_ | refine block_n ?_ | refine block_r ?_ | refine block_e ?_ | refine block_x (by decide) ?_ | refine tri_block ?_ | refine tri_skip ?_ | refine tri_ret ?_ | refine tri_exit ?_ | refine rwf_nil ?_ | refine rwc_nil ?_ | refine ret_n ?_)
       | refine tri_reg [22,26] ?_
       | refine tri_regc [22,26] [] mixed (by decide +kernel) ?_
       | (refine rwf_boxm rfl fun B hB => ?_; (try simp [*, -List.all_eq_true]); (try (simp (disch := first | assumption | omega) only [wrap_id, wrapu_id, wrapb_id, tmod_nn, tdiv_nn, ite_yes, flatM_seg, flatM_0, flatM_1, flatM_2, flatI_seg, flatI_0, flatI_1, flatS_get]; (try simp [*, -List.all_eq_true]))); refine hB.out _ _ ?_; clear hB B)
       | refine rwf_o ?_
       | refine rwc_o _ rfl ?_
       | (refine rwf_nilt rfl (by decide +kernel) fun G hG => ?_; (try simp [*, -List.all_eq_true]); refine hG.out _ fun b => ?_; clear hG G)
       | ((first | refine rwf_a rfl fun B hB => ?_ | refine rwc_n rfl fun B hB => ?_ | refine rwc_z rfl fun B hB => ?_ | refine rwc_b rfl fun B hB => ?_ | refine rwc_w rfl fun B hB => ?_ | refine rwf_z rfl fun B hB => ?_); (try simp [*, -List.all_eq_true]); (try (simp (disch := first | assumption | omega) only [wrap_id, wrapu_id, wrapb_id, tmod_nn, tdiv_nn, ite_yes, flatM_seg, flatM_0, flatM_1, flatM_2, flatI_seg, flatI_0, flatI_1, flatS_get]; (try simp [*, -List.all_eq_true]))); (first | refine hB.out _ _ ?_ | refine hB.out _ ?_); clear hB B)
       | ((first | refine rwf_g rfl fun G hG hU => ?_ | refine rwc_g rfl fun G hG hU => ?_); (try simp [*, -List.all_eq_true]); first | (refine hU.out ⟨rfl, ?_⟩; clear hG hU G) | (refine hG.out _ (fun hb => ?_) (fun hb => ⟨rfl, ?_⟩) <;> clear hG hU G <;> (try simp only [Bool.not_true, Bool.not_false] at hb) <;> first | (exfalso; simp at hb; done) | (exfalso; simp at hb; omega) | (rw [hb]; (try simp at hb)) | (try simp at hb)))
       | (refine tri_if fun G hG => ?_; (try simp [*, -List.all_eq_true]); refine hG.out _ (fun hb => ?_) (fun hb => ?_) <;> clear hG G <;> (try simp only [Bool.not_true, Bool.not_false] at hb) <;> first | (exfalso; simp at hb; done) | (exfalso; simp at hb; omega) | (rw [hb]; (try simp at hb)) | (try simp at hb))
       | (refine ret_q fun R hR => ?_; (try simp [*, -List.all_eq_true, Try.results67]); (try (simp (disch := first | assumption | omega) only [wrap_id, wrapu_id, wrapb_id, tmod_nn, tdiv_nn, ite_yes, flatM_seg, flatM_0, flatM_1, flatM_2, flatI_seg, flatI_0, flatI_1, flatS_get]; (try simp [*, -List.all_eq_true, Try.results67]))); refine hR.out _ ?_; clear hR R; (try rfl))
       | (refine rwf_ca rfl fun C' hC hP => ?_; (try simp [*, -List.all_eq_true]); (first | refine hP.out _ _ _ (rangeHas_spec _ _ _) ?_ | (refine hC.out _ _ _ (rangeHas_spec _ _ _) fun r s hq => ?_; obtain ⟨hq1, hq2⟩ := hq; rw [hq1, hq2]; clear hq1 hq2 s r)); clear hP hC C')
       | ((first | refine rwf_cz rfl fun C' hC hP => ?_ | refine rwc_cz rfl fun C' hC hP => ?_); (try simp [*, -List.all_eq_true]); (first | refine hC.out _ _ _ (rangeHas_spec _ _ _) ?_ | refine hP.out _ _ _ (rangeHas_spec _ _ _) ?_); clear hP hC C'))
      refine rwf_app rfl rfl elem22 zero43 rfl bytes43 (by decide) slc22 fun G hG => ?_
      (try simp [*, -List.all_eq_true])
      refine hG.out _ _ _ _ _ (o1) (by simp) (by simp) (by omega) fun v1' σ1 q1 q2 => ?_
      clear hG G
      obtain ⟨f1, f2⟩ := o2.frame (fun j h2 h1 => hd j h1 h2) q2
      repeat' (first
       | (with_reducible first | refine tri_seq ?_ | refine then_n ?_ | refine then_e ?_ | refine then_r ?_ | refine block_n ?_ | refine block_r ?_ | refine block_e ?_ | refine block_x (by decide) ?_ | refine tri_block ?_ | refine tri_skip ?_ | refine tri_ret ?_ | refine tri_exit ?_ | refine rwf_nil ?_ | refine rwc_nil ?_ | refine ret_n ?_)
       | refine tri_reg [22,26] ?_
       | refine tri_regc [22,26] [] mixed (by decide +kernel) ?_
       | (refine rwf_boxm rfl fun B hB => ?_; (try simp [*, -List.all_eq_true]); (try (simp (disch := first | assumption | omega) only [wrap_id, wrapu_id, wrapb_id, tmod_nn, tdiv_nn, ite_yes, flatM_seg, flatM_0, flatM_1, flatM_2, flatI_seg, flatI_0, flatI_1, flatS_get]; (try simp [*, -List.all_eq_true]))); refine hB.out _ _ ?_; clear hB B)
       | refine rwf_o ?_
       | refine rwc_o _ rfl ?_
       | (refine rwf_nilt rfl (by decide +kernel) fun G hG => ?_; (try simp [*, -List.all_eq_true]); refine hG.out _ fun b => ?_; clear hG G)
       | ((first | refine rwf_a rfl fun B hB => ?_ | refine rwc_n rfl fun B hB => ?_ | refine rwc_z rfl fun B hB => ?_ | refine rwc_b rfl fun B hB => ?_ | refine rwc_w rfl fun B hB => ?_ | refine rwf_z rfl fun B hB => ?_); (try simp [*, -List.all_eq_true]); (try (simp (disch := first | assumption | omega) only [wrap_id, wrapu_id, wrapb_id, tmod_nn, tdiv_nn, ite_yes, flatM_seg, flatM_0, flatM_1, flatM_2, flatI_seg, flatI_0, flatI_1, flatS_get]; (try simp [*, -List.all_eq_true]))); (first | refine hB.out _ _ ?_ | refine hB.out _ ?_); clear hB B)
       | ((first | refine rwf_g rfl fun G hG hU => ?_ | refine rwc_g rfl fun G hG hU => ?_); (try simp [*, -List.all_eq_true]); first | (refine hU.out ⟨rfl, ?_⟩; clear hG hU G) | (refine hG.out _ (fun hb => ?_) (fun hb => ⟨rfl, ?_⟩) <;> clear hG hU G <;> (try simp only [Bool.not_true, Bool.not_false] at hb) <;> first | (exfalso; simp at hb; done) | (exfalso; simp at hb; omega) | (rw [hb]; (try simp at hb)) | (try simp at hb)))
       | (refine tri_if fun G hG => ?_; (try simp [*, -List.all_eq_true]); refine hG.out _ (fun hb => ?_) (fun hb => ?_) <;> clear hG G <;> (try simp only [Bool.not_true, Bool.not_false] at hb) <;> first | (exfalso; simp at hb; done) | (exfalso; simp at hb; omega) | (rw [hb]; (try simp at hb)) | (try simp at hb))
       | (refine ret_q fun R hR => ?_; (try simp [*, -List.all_eq_true, Try.results67]); (try (simp (disch := first | assumption | omega) only [wrap_id, wrapu_id, wrapb_id, tmod_nn, tdiv_nn, ite_yes, flatM_seg, flatM_0, flatM_1, flatM_2, flatI_seg, flatI_0, flatI_1, flatS_get]; (try simp [*, -List.all_eq_true, Try.results67]))); refine hR.out _ ?_; clear hR R; (try rfl)))
      refine ⟨by simp [*], m - 1, by omega, k + 1, by omega, by simp, v1', v2, by simp, by simp [*], ?_, ?_, fun j h1 h2 => f2 j h2 h1⟩
      · rw [hs true, hh]; simpa [flatM_append, flatM, flatC] using q1
      · rw [hs false, hh]; simpa using f1
    | false =>
      repeat' (first
       | (with_reducible first | refine tri_seq ?_ | refine then_n ?_ | refine then_e ?_ | refine then_r ?_ | refine block_n ?_ | refine block_r ?_ | refine block_e ?_ | refine block_x (by decide) ?_ | refine tri_block ?_ | refine tri_skip ?_ | refine tri_ret ?_ | refine tri_exit ?_ | refine rwf_nil ?_ | refine rwc_nil ?_ | refine ret_n ?_)
       | refine tri_reg [22,26] ?_
       | refine tri_regc [22,26] [] mixed (by decide +kernel) ?_
       | (refine rwf_boxm rfl fun B hB => ?_; (try simp [*, -List.all_eq_true]); (try (simp (disch := first | assumption | omega) only [wrap_id, wrapu_id, wrapb_id, tmod_nn, tdiv_nn, ite_yes, flatM_seg, flatM_0, flatM_1, flatM_2, flatI_seg, flatI_0, flatI_1, flatS_get]; (try simp [*, -List.all_eq_true]))); refine hB.out _ _ ?_; clear hB B)
       | refine rwf_o ?_
       | refine rwc_o _ rfl ?_
       | (refine rwf_nilt rfl (by decide +kernel) fun G hG => ?_; (try simp [*, -List.all_eq_true]); refine hG.out _ fun b => ?_; clear hG G)
       | ((first | refine rwf_a rfl fun B hB => ?_ | refine rwc_n rfl fun B hB => ?_ | refine rwc_z rfl fun B hB => ?_ | refine rwc_b rfl fun B hB => ?_ | refine rwc_w rfl fun B hB => ?_ | refine rwf_z rfl fun B hB => ?_); (try simp [*, -List.all_eq_true]); (try (simp (disch := first | assumption | omega) only [wrap_id, wrapu_id, wrapb_id, tmod_nn, tdiv_nn, ite_yes, flatM_seg, flatM_0, flatM_1, flatM_2, flatI_seg, flatI_0, flatI_1, flatS_get]; (try simp [*, -List.all_eq_true]))); (first | refine hB.out _ _ ?_ | refine hB.out _ ?_); clear hB B)
       | ((first | refine rwf_g rfl fun G hG hU => ?_ | refine rwc_g rfl fun G hG hU => ?_); (try simp [*, -List.all_eq_true]); first | (refine hU.out ⟨rfl, ?_⟩; clear hG hU G) | (refine hG.out _ (fun hb => ?_) (fun hb => ⟨rfl, ?_⟩) <;> clear hG hU G <;> (try simp only [Bool.not_true, Bool.not_false] at hb) <;> first | (exfalso; simp at hb; done) | (exfalso; simp at hb; omega) | (rw [hb]; (try simp at hb)) | (try simp at hb)))
       | (refine tri_if fun G hG => ?_; (try simp [*, -List.all_eq_true]); refine hG.out _ (fun hb => ?_) (fun hb => ?_) <;> clear hG G <;> (try simp only [Bool.not_true, Bool.not_false] at hb) <;> first | (exfalso; simp at hb; done) | (exfalso; simp at hb; omega) | (rw [hb]; (try simp at hb)) | (try simp at hb))
       | (refine ret_q fun R hR => ?_; (try simp [*, -List.all_eq_true, Try.results67]); (try (simp (disch := first | assumption | omega) only [wrap_id, wrapu_id, wrapb_id, tmod_nn, tdiv_nn, ite_yes, flatM_seg, flatM_0, flatM_1, flatM_2, flatI_seg, flatI_0, flatI_1, flatS_get]; (try simp [*, -List.all_eq_true, Try.results67]))); refine hR.out _ ?_; clear hR R; (try rfl))
       | (refine rwf_ca rfl fun C' hC hP => ?_; (try simp [*, -List.all_eq_true]); (first | refine hP.out _ _ _ (rangeHas_spec _ _ _) ?_ | (refine hC.out _ _ _ (rangeHas_spec _ _ _) fun r s hq => ?_; obtain ⟨hq1, hq2⟩ := hq; rw [hq1, hq2]; clear hq1 hq2 s r)); clear hP hC C')
       | ((first | refine rwf_cz rfl fun C' hC hP => ?_ | refine rwc_cz rfl fun C' hC hP => ?_); (try simp [*, -List.all_eq_true]); (first | refine hC.out _ _ _ (rangeHas_spec _ _ _) ?_ | refine hP.out _ _ _ (rangeHas_spec _ _ _) ?_); clear hP hC C'))
      refine rwf_app rfl rfl elem22 zero43 rfl bytes43 (by decide) slc22 fun G hG => ?_
      (try simp [*, -List.all_eq_true])
      refine hG.out _ _ _ _ _ (o2) (by simp) (by simp) (by omega) fun v2' σ1 q1 q2 => ?_
      clear hG G
      obtain ⟨f1, f2⟩ := o1.frame hd q2
      repeat' (first
       | (with_reducible first | refine tri_seq ?_ | refine then_n ?_ | refine then_e ?_ | refine then_r ?_ | refine block_n ?_ | refine block_r ?_ | refine block_e ?_ | refine block_x (by decide) ?_ | refine tri_block ?_ | refine tri_skip ?_ | refine tri_ret ?_ | refine tri_exit ?_ | refine rwf_nil ?_ | refine rwc_nil ?_ | refine ret_n ?_)
       | refine tri_reg [22,26] ?_
       | refine tri_regc [22,26] [] mixed (by decide +kernel) ?_
       | (refine rwf_boxm rfl fun B hB => ?_; (try simp [*, -List.all_eq_true]); (try (simp (disch := first | assumption | omega) only [wrap_id, wrapu_id, wrapb_id, tmod_nn, tdiv_nn, ite_yes, flatM_seg, flatM_0, flatM_1, flatM_2, flatI_seg, flatI_0, flatI_1, flatS_get]; (try simp [*, -List.all_eq_true]))); refine hB.out _ _ ?_; clear hB B)
       | refine rwf_o ?_
       | refine rwc_o _ rfl ?_
       | (refine rwf_nilt rfl (by decide +kernel) fun G hG => ?_; (try simp [*, -List.all_eq_true]); refine hG.out _ fun b => ?_; clear hG G)
       | ((first | refine rwf_a rfl fun B hB => ?_ | refine rwc_n rfl fun B hB => ?_ | refine rwc_z rfl fun B hB => ?_ | refine rwc_b rfl fun B hB => ?_ | refine rwc_w rfl fun B hB => ?_ | refine rwf_z rfl fun B hB => ?_); (try simp [*, -List.all_eq_true]); (try (simp (disch := first | assumption | omega) only [wrap_id, wrapu_id, wrapb_id, tmod_nn, tdiv_nn, ite_yes, flatM_seg, flatM_0, flatM_1, flatM_2, flatI_seg, flatI_0, flatI_1, flatS_get]; (try simp [*, -List.all_eq_true]))); (first | refine hB.out _ _ ?_ | refine hB.out _ ?_); clear hB B)
       | ((first | refine rwf_g rfl fun G hG hU => ?_ | refine rwc_g rfl fun G hG hU => ?_); (try simp [*, -List.all_eq_true]); first | (refine hU.out ⟨rfl, ?_⟩; clear hG hU G) | (refine hG.out _ (fun hb => ?_) (fun hb => ⟨rfl, ?_⟩) <;> clear hG hU G <;> (try simp only [Bool.not_true, Bool.not_false] at hb) <;> first | (exfalso; simp at hb; done) | (exfalso; simp at hb; omega) | (rw [hb]; (try simp at hb)) | (try simp at hb)))
       | (refine tri_if fun G hG => ?_; (try simp [*, -List.all_eq_true]); refine hG.out _ (fun hb => ?_) (fun hb => ?_) <;> clear hG G <;> (try simp only [Bool.not_true, Bool.not_false] at hb) <;> first | (exfalso; simp at hb; done) | (exfalso; simp at hb; omega) | (rw [hb]; (try simp at hb)) | (try simp at hb))
       | (refine ret_q fun R hR => ?_; (try simp [*, -List.all_eq_true, Try.results67]); (try (simp (disch := first | assumption | omega) only [wrap_id, wrapu_id, wrapb_id, tmod_nn, tdiv_nn, ite_yes, flatM_seg, flatM_0, flatM_1, flatM_2, flatI_seg, flatI_0, flatI_1, flatS_get]; (try simp [*, -List.all_eq_true, Try.results67]))); refine hR.out _ ?_; clear hR R; (try rfl)))
      refine ⟨by simp [*], m - 1, by omega, k + 1, by omega, by simp, v1, v2', by simp [*], by simp, ?_, ?_, f2⟩
      · rw [hs true, hh]; simpa using f1
      · rw [hs false, hh]; simpa [flatM_append, flatM, flatC] using q1
  · skip
    repeat' (first
     | (with_reducible first | refine tri_seq ?_ | refine then_n ?_ | refine then_e ?_ | refine then_r ?_ | refine block_n ?_ | refine block_r ?_ | refine block_e ?_ | refine block_x (by decide) ?_ | refine tri_block ?_ | refine tri_skip ?_ | refine tri_ret ?_ | refine tri_exit ?_ | refine rwf_nil ?_ | refine rwc_nil ?_ | refine ret_n ?_)
     | refine tri_reg [] ?_
     | refine tri_regc [] [] mixed (by decide +kernel) ?_
     | (refine rwf_boxm rfl fun B hB => ?_; (try simp [*, -List.all_eq_true]); (try (simp (disch := first | assumption | omega) only [wrap_id, wrapu_id, wrapb_id, tmod_nn, tdiv_nn, ite_yes, flatM_seg, flatM_0, flatM_1, flatM_2, flatI_seg, flatI_0, flatI_1, flatS_get]; (try simp [*, -List.all_eq_true]))); refine hB.out _ _ ?_; clear hB B)
     | refine rwf_o ?_
     | refine rwc_o _ rfl ?_
     | (refine rwf_nilt rfl (by decide +kernel) fun G hG => ?_; (try simp [*, -List.all_eq_true]); refine hG.out _ fun b => ?_; clear hG G)
     | ((first | refine rwf_a rfl fun B hB => ?_ | refine rwc_n rfl fun B hB => ?_ | refine rwc_z rfl fun B hB => ?_ | refine rwc_b rfl fun B hB => ?_ | refine rwc_w rfl fun B hB => ?_ | refine rwf_z rfl fun B hB => ?_); (try simp [*, -List.all_eq_true]); (try (simp (disch := first | assumption | omega) only [wrap_id, wrapu_id, wrapb_id, tmod_nn, tdiv_nn, ite_yes, flatM_seg, flatM_0, flatM_1, flatM_2, flatI_seg, flatI_0, flatI_1, flatS_get]; (try simp [*, -List.all_eq_true]))); (first | refine hB.out _ _ ?_ | refine hB.out _ ?_); clear hB B)
     | ((first | refine rwf_g rfl fun G hG hU => ?_ | refine rwc_g rfl fun G hG hU => ?_); (try simp [*, -List.all_eq_true]); first | (refine hU.out ⟨rfl, ?_⟩; clear hG hU G) | (refine hG.out _ (fun hb => ?_) (fun hb => ⟨rfl, ?_⟩) <;> clear hG hU G <;> (try simp only [Bool.not_true, Bool.not_false] at hb) <;> first | (exfalso; simp at hb; done) | (exfalso; simp at hb; omega) | (rw [hb]; (try simp at hb)) | (try simp at hb)))
     | (refine tri_if fun G hG => ?_; (try simp [*, -List.all_eq_true]); refine hG.out _ (fun hb => ?_) (fun hb => ?_) <;> clear hG G <;> (try simp only [Bool.not_true, Bool.not_false] at hb) <;> first | (exfalso; simp at hb; done) | (exfalso; simp at hb; omega) | (rw [hb]; (try simp at hb)) | (try simp at hb))
     | (refine ret_q fun R hR => ?_; (try simp [*, -List.all_eq_true, Try.results67]); (try (simp (disch := first | assumption | omega) only [wrap_id, wrapu_id, wrapb_id, tmod_nn, tdiv_nn, ite_yes, flatM_seg, flatM_0, flatM_1, flatM_2, flatI_seg, flatI_0, flatI_1, flatS_get]; (try simp [*, -List.all_eq_true, Try.results67]))); refine hR.out _ ?_; clear hR R; (try rfl)))
    rw [List.take_of_length_le (by omega)] at o1 o2
    exact out_own2 o1 (by simp) o2 (by simp)
theorem bTake_spec (l : List Msg) (hl : l.length ≤ 900000) (lo hi : Str) : PSpec Try.prog 21 [.fp (cB l) 0, .agg [.sc (.string lo), .sc (.string hi)]] (.fs (flatM (takeM l lo hi true)) (takeM l lo hi true).length) := by
  refine spec_pure (by simp) (by simp) ?_
  refine spec_intro Try.func21 good21 rfl (by simp [Try.ntmps21]) ?_
  repeat' (first
   | (with_reducible first | refine tri_seq ?_ | refine then_n ?_ | refine then_e ?_ | refine then_r ?_ | refine block_n ?_ | refine block_r ?_ | refine block_e ?_ | refine block_x (by decide) ?_ | refine tri_block ?_ | refine tri_skip ?_ | refine tri_ret ?_ | refine tri_exit ?_ | refine rwf_nil ?_ | refine rwc_nil ?_ | refine ret_n ?_)
   | refine tri_reg [] ?_
   | refine tri_regc [] [] mixed (by decide +kernel) ?_
   | (refine rwf_boxm rfl fun B hB => ?_; (try simp [*, -List.all_eq_true]); (try (simp (disch := first | assumption | omega) only [wrap_id, wrapu_id, wrapb_id, tmod_nn, tdiv_nn, ite_yes, flatM_seg, flatM_0, flatM_1, flatM_2, flatI_seg, flatI_0, flatI_1, flatS_get]; (try simp [*, -List.all_eq_true]))); refine hB.out _ _ ?_; clear hB B)
   | refine rwf_o ?_
   | refine rwc_o _ rfl ?_
   | (refine rwf_nilt rfl (by decide +kernel) fun G hG => ?_; (try simp [*, -List.all_eq_true]); refine hG.out _ fun b => ?_; clear hG G)
   | ((first | refine rwf_a rfl fun B hB => ?_ | refine rwc_n rfl fun B hB => ?_ | refine rwc_z rfl fun B hB => ?_ | refine rwc_b rfl fun B hB => ?_ | refine rwc_w rfl fun B hB => ?_ | refine rwf_z rfl fun B hB => ?_); (try simp [*, -List.all_eq_true]); (try (simp (disch := first | assumption | omega) only [wrap_id, wrapu_id, wrapb_id, tmod_nn, tdiv_nn, ite_yes, flatM_seg, flatM_0, flatM_1, flatM_2, flatI_seg, flatI_0, flatI_1, flatS_get]; (try simp [*, -List.all_eq_true]))); (first | refine hB.out _ _ ?_ | refine hB.out _ ?_); clear hB B)
   | ((first | refine rwf_g rfl fun G hG hU => ?_ | refine rwc_g rfl fun G hG hU => ?_); (try simp [*, -List.all_eq_true]); first | (refine hU.out ⟨rfl, ?_⟩; clear hG hU G) | (refine hG.out _ (fun hb => ?_) (fun hb => ⟨rfl, ?_⟩) <;> clear hG hU G <;> (try simp only [Bool.not_true, Bool.not_false] at hb) <;> first | (exfalso; simp at hb; done) | (exfalso; simp at hb; omega) | (rw [hb]; (try simp at hb)) | (try simp at hb)))
   | (refine tri_if fun G hG => ?_; (try simp [*, -List.all_eq_true]); refine hG.out _ (fun hb => ?_) (fun hb => ?_) <;> clear hG G <;> (try simp only [Bool.not_true, Bool.not_false] at hb) <;> first | (exfalso; simp at hb; done) | (exfalso; simp at hb; omega) | (rw [hb]; (try simp at hb)) | (try simp at hb))
   | (refine ret_q fun R hR => ?_; (try simp [*, -List.all_eq_true, Try.results21]); (try (simp (disch := first | assumption | omega) only [wrap_id, wrapu_id, wrapb_id, tmod_nn, tdiv_nn, ite_yes, flatM_seg, flatM_0, flatM_1, flatM_2, flatI_seg, flatI_0, flatI_1, flatS_get]; (try simp [*, -List.all_eq_true, Try.results21]))); refine hR.out _ ?_; clear hR R; (try rfl))
   | (refine rwf_ca rfl fun C' hC hP => ?_; (try simp [*, -List.all_eq_true]); (first | refine hP.out _ _ _ (bSort_spec l hl lo hi) ?_ | (refine hC.out _ _ _ (bSort_spec l hl lo hi) fun r s hq => ?_; obtain ⟨hq1, hq2⟩ := hq; rw [hq1, hq2]; clear hq1 hq2 s r)); clear hP hC C')
   | ((first | refine rwf_cz rfl fun C' hC hP => ?_ | refine rwc_cz rfl fun C' hC hP => ?_); (try simp [*, -List.all_eq_true]); (first | refine hC.out _ _ _ (bSort_spec l hl lo hi) ?_ | refine hP.out _ _ _ (bSort_spec l hl lo hi) ?_); clear hP hC C'))
theorem bWithout_spec (l : List Msg) (hl : l.length ≤ 900000) (hs : MSmall l) (lo hi : Str) : PSpec Try.prog 23 [.fp (cB l) 0, .agg [.sc (.string lo), .sc (.string hi)]] (.fp (cB (takeM l lo hi false)) 0) := by
  have t2 := takeM_len l lo hi false
  have hm := made_spec (takeM l lo hi false) (by omega) (fun x hx => hs x (List.mem_filter.1 hx).1)
  refine spec_pure (by simp) (by simp) ?_
  refine spec_intro Try.func23 good23 rfl (by simp [Try.ntmps23]) ?_
  repeat' (first
   | (with_reducible first | refine tri_seq ?_ | refine then_n ?_ | refine then_e ?_ | refine then_r ?_ | refine block_n ?_ | refine block_r ?_ | refine block_e ?_ | refine block_x (by decide) ?_ | refine tri_block ?_ | refine tri_skip ?_ | refine tri_ret ?_ | refine tri_exit ?_ | refine rwf_nil ?_ | refine rwc_nil ?_ | refine ret_n ?_)
   | refine tri_reg [] ?_
   | refine tri_regc [] [] mixed (by decide +kernel) ?_
   | (refine rwf_boxm rfl fun B hB => ?_; (try simp [*, -List.all_eq_true]); (try (simp (disch := first | assumption | omega) only [wrap_id, wrapu_id, wrapb_id, tmod_nn, tdiv_nn, ite_yes, flatM_seg, flatM_0, flatM_1, flatM_2, flatI_seg, flatI_0, flatI_1, flatS_get]; (try simp [*, -List.all_eq_true]))); refine hB.out _ _ ?_; clear hB B)
   | refine rwf_o ?_
   | refine rwc_o _ rfl ?_
   | (refine rwf_nilt rfl (by decide +kernel) fun G hG => ?_; (try simp [*, -List.all_eq_true]); refine hG.out _ fun b => ?_; clear hG G)
   | ((first | refine rwf_a rfl fun B hB => ?_ | refine rwc_n rfl fun B hB => ?_ | refine rwc_z rfl fun B hB => ?_ | refine rwc_b rfl fun B hB => ?_ | refine rwc_w rfl fun B hB => ?_ | refine rwf_z rfl fun B hB => ?_); (try simp [*, -List.all_eq_true]); (try (simp (disch := first | assumption | omega) only [wrap_id, wrapu_id, wrapb_id, tmod_nn, tdiv_nn, ite_yes, flatM_seg, flatM_0, flatM_1, flatM_2, flatI_seg, flatI_0, flatI_1, flatS_get]; (try simp [*, -List.all_eq_true]))); (first | refine hB.out _ _ ?_ | refine hB.out _ ?_); clear hB B)
   | ((first | refine rwf_g rfl fun G hG hU => ?_ | refine rwc_g rfl fun G hG hU => ?_); (try simp [*, -List.all_eq_true]); first | (refine hU.out ⟨rfl, ?_⟩; clear hG hU G) | (refine hG.out _ (fun hb => ?_) (fun hb => ⟨rfl, ?_⟩) <;> clear hG hU G <;> (try simp only [Bool.not_true, Bool.not_false] at hb) <;> first | (exfalso; simp at hb; done) | (exfalso; simp at hb; omega) | (rw [hb]; (try simp at hb)) | (try simp at hb)))
   | (refine tri_if fun G hG => ?_; (try simp [*, -List.all_eq_true]); refine hG.out _ (fun hb => ?_) (fun hb => ?_) <;> clear hG G <;> (try simp only [Bool.not_true, Bool.not_false] at hb) <;> first | (exfalso; simp at hb; done) | (exfalso; simp at hb; omega) | (rw [hb]; (try simp at hb)) | (try simp at hb))
   | (refine ret_q fun R hR => ?_; (try simp [*, -List.all_eq_true, Try.results23]); (try (simp (disch := first | assumption | omega) only [wrap_id, wrapu_id, wrapb_id, tmod_nn, tdiv_nn, ite_yes, flatM_seg, flatM_0, flatM_1, flatM_2, flatI_seg, flatI_0, flatI_1, flatS_get]; (try simp [*, -List.all_eq_true, Try.results23]))); refine hR.out _ ?_; clear hR R; (try rfl))
   | (refine rwf_ca rfl fun C' hC hP => ?_; (try simp [*, -List.all_eq_true]); (first | refine hP.out _ _ _ (bSort_spec l hl lo hi) ?_ | (refine hC.out _ _ _ (bSort_spec l hl lo hi) fun r s hq => ?_; obtain ⟨hq1, hq2⟩ := hq; rw [hq1, hq2]; clear hq1 hq2 s r) | refine hP.out _ _ _ (hm) ?_ | (refine hC.out _ _ _ (hm) fun r s hq => ?_; obtain ⟨hq1, hq2⟩ := hq; rw [hq1, hq2]; clear hq1 hq2 s r)); clear hP hC C')
   | ((first | refine rwf_cz rfl fun C' hC hP => ?_ | refine rwc_cz rfl fun C' hC hP => ?_); (try simp [*, -List.all_eq_true]); (first | refine hC.out _ _ _ (bSort_spec l hl lo hi) ?_ | refine hP.out _ _ _ (bSort_spec l hl lo hi) ?_ | refine hC.out _ _ _ (hm) ?_ | refine hP.out _ _ _ (hm) ?_); clear hP hC C'))
theorem msg_ext {a b : Msg} (h1 : a.kind = b.kind) (h2 : a.key = b.key) (h3 : a.val = b.val) : a = b := by cases a; cases b; simp_all
theorem equalM_spec (l l' : List Msg) (hl : l.length ≤ 900000) (hl' : l'.length ≤ 900000) : PSpec Try.prog 71 [.fs (flatM l) l.length, .fs (flatM l') l'.length] (.sc (.bool (decide (l = l')))) := by
  refine spec_pure (by simp) (by simp) ?_
  refine spec_intro Try.func71 good71 rfl (by simp [Try.ntmps71]) ?_
  by_cases hne : l.length = l'.length
  · skip
    repeat' (first
     | (with_reducible first | refine tri_seq ?_ | refine then_n ?_ | refine then_e ?_ | refine then_r ?_ | refine block_n ?_ | refine block_r ?_ | refine block_e ?_ | refine block_x (by decide) ?_ | refine tri_block ?_ | refine tri_skip ?_ | refine tri_ret ?_ | refine tri_exit ?_ | refine rwf_nil ?_ | refine rwc_nil ?_ | refine ret_n ?_)
     | refine tri_reg [] ?_
     | refine tri_regc [] [] mixed (by decide +kernel) ?_
     | (refine rwf_boxm rfl fun B hB => ?_; (try simp [*, -List.all_eq_true]); (try (simp (disch := first | assumption | omega) only [wrap_id, wrapu_id, wrapb_id, tmod_nn, tdiv_nn, ite_yes, flatM_seg, flatM_0, flatM_1, flatM_2, flatI_seg, flatI_0, flatI_1, flatS_get]; (try simp [*, -List.all_eq_true]))); refine hB.out _ _ ?_; clear hB B)
     | refine rwf_o ?_
     | refine rwc_o _ rfl ?_
     | (refine rwf_nilt rfl (by decide +kernel) fun G hG => ?_; (try simp [*, -List.all_eq_true]); refine hG.out _ fun b => ?_; clear hG G)
     | ((first | refine rwf_a rfl fun B hB => ?_ | refine rwc_n rfl fun B hB => ?_ | refine rwc_z rfl fun B hB => ?_ | refine rwc_b rfl fun B hB => ?_ | refine rwc_w rfl fun B hB => ?_ | refine rwf_z rfl fun B hB => ?_); (try simp [*, -List.all_eq_true]); (try (simp (disch := first | assumption | omega) only [wrap_id, wrapu_id, wrapb_id, tmod_nn, tdiv_nn, ite_yes, flatM_seg, flatM_0, flatM_1, flatM_2, flatI_seg, flatI_0, flatI_1, flatS_get]; (try simp [*, -List.all_eq_true]))); (first | refine hB.out _ _ ?_ | refine hB.out _ ?_); clear hB B)
     | ((first | refine rwf_g rfl fun G hG hU => ?_ | refine rwc_g rfl fun G hG hU => ?_); (try simp [*, -List.all_eq_true]); first | (refine hU.out ⟨rfl, ?_⟩; clear hG hU G) | (refine hG.out _ (fun hb => ?_) (fun hb => ⟨rfl, ?_⟩) <;> clear hG hU G <;> (try simp only [Bool.not_true, Bool.not_false] at hb) <;> first | (exfalso; simp at hb; done) | (exfalso; simp at hb; omega) | (rw [hb]; (try simp at hb)) | (try simp at hb)))
     | (refine tri_if fun G hG => ?_; (try simp [*, -List.all_eq_true]); refine hG.out _ (fun hb => ?_) (fun hb => ?_) <;> clear hG G <;> (try simp only [Bool.not_true, Bool.not_false] at hb) <;> first | (exfalso; simp at hb; done) | (exfalso; simp at hb; omega) | (rw [hb]; (try simp at hb)) | (try simp at hb))
     | (refine ret_q fun R hR => ?_; (try simp [*, -List.all_eq_true, Try.results71]); (try (simp (disch := first | assumption | omega) only [wrap_id, wrapu_id, wrapb_id, tmod_nn, tdiv_nn, ite_yes, flatM_seg, flatM_0, flatM_1, flatM_2, flatI_seg, flatI_0, flatI_1, flatS_get]; (try simp [*, -List.all_eq_true, Try.results71]))); refine hR.out _ ?_; clear hR R; (try rfl)))
    refine tri_loopk [0, 1, 12] (fun m env σ => σ = [] ∧ ∃ k : Nat, k + m = l.length ∧ env 13 = .sc (.int .i64 k) ∧ l.take k = l'.take k) l.length ⟨by simp, 0, by simp, by simp, by simp⟩ ?_
    intro m env' σ' hk hI
    simp at hk
    obtain ⟨rfl, k, hkm, h13, heq⟩ := hI
    by_cases hlt : k < l.length
    · have hlt' : k < l'.length := by omega
      by_cases hx : l[k] = l'[k]
      · skip
        repeat' (first
         | (with_reducible first | refine tri_seq ?_ | refine then_n ?_ | refine then_e ?_ | refine then_r ?_ | refine block_n ?_ | refine block_r ?_ | refine block_e ?_ | refine block_x (by decide) ?_ | refine tri_block ?_ | refine tri_skip ?_ | refine tri_ret ?_ | refine tri_exit ?_ | refine rwf_nil ?_ | refine rwc_nil ?_ | refine ret_n ?_)
         | refine tri_reg [] ?_
         | refine tri_regc [] [] mixed (by decide +kernel) ?_
         | (refine rwf_boxm rfl fun B hB => ?_; (try simp [*, -List.all_eq_true, cM]); (try (simp (disch := first | assumption | omega) only [wrap_id, wrapu_id, wrapb_id, tmod_nn, tdiv_nn, ite_yes, flatM_seg, flatM_0, flatM_1, flatM_2, flatI_seg, flatI_0, flatI_1, flatS_get]; (try simp [*, -List.all_eq_true, cM]))); refine hB.out _ _ ?_; clear hB B)
         | refine rwf_o ?_
         | refine rwc_o _ rfl ?_
         | (refine rwf_nilt rfl (by decide +kernel) fun G hG => ?_; (try simp [*, -List.all_eq_true, cM]); refine hG.out _ fun b => ?_; clear hG G)
         | ((first | refine rwf_a rfl fun B hB => ?_ | refine rwc_n rfl fun B hB => ?_ | refine rwc_z rfl fun B hB => ?_ | refine rwc_b rfl fun B hB => ?_ | refine rwc_w rfl fun B hB => ?_ | refine rwf_z rfl fun B hB => ?_); (try simp [*, -List.all_eq_true, cM]); (try (simp (disch := first | assumption | omega) only [wrap_id, wrapu_id, wrapb_id, tmod_nn, tdiv_nn, ite_yes, flatM_seg, flatM_0, flatM_1, flatM_2, flatI_seg, flatI_0, flatI_1, flatS_get]; (try simp [*, -List.all_eq_true, cM]))); (first | refine hB.out _ _ ?_ | refine hB.out _ ?_); clear hB B)
         | ((first | refine rwf_g rfl fun G hG hU => ?_ | refine rwc_g rfl fun G hG hU => ?_); (try simp [*, -List.all_eq_true, cM]); first | (refine hU.out ⟨rfl, ?_⟩; clear hG hU G) | (refine hG.out _ (fun hb => ?_) (fun hb => ⟨rfl, ?_⟩) <;> clear hG hU G <;> (try simp only [Bool.not_true, Bool.not_false] at hb) <;> first | (exfalso; simp at hb; done) | (exfalso; simp at hb; omega) | (rw [hb]; (try simp at hb)) | (try simp at hb)))
         | (refine tri_if fun G hG => ?_; (try simp [*, -List.all_eq_true, cM]); refine hG.out _ (fun hb => ?_) (fun hb => ?_) <;> clear hG G <;> (try simp only [Bool.not_true, Bool.not_false] at hb) <;> first | (exfalso; simp at hb; done) | (exfalso; simp at hb; omega) | (rw [hb]; (try simp at hb)) | (try simp at hb))
         | (refine ret_q fun R hR => ?_; (try simp [*, -List.all_eq_true, cM, Try.results71]); (try (simp (disch := first | assumption | omega) only [wrap_id, wrapu_id, wrapb_id, tmod_nn, tdiv_nn, ite_yes, flatM_seg, flatM_0, flatM_1, flatM_2, flatI_seg, flatI_0, flatI_1, flatS_get]; (try simp [*, -List.all_eq_true, cM, Try.results71]))); refine hR.out _ ?_; clear hR R; (try rfl)))
        exact ⟨by simp [*], m - 1, by omega, rfl, k + 1, by omega, by simp, by rw [List.take_add_one, List.take_add_one, List.getElem?_eq_getElem hlt, List.getElem?_eq_getElem hlt', heq, hx]⟩
      · have hll : ¬ l = l' := fun e => hx (by subst e; rfl)
        repeat' (first
         | (with_reducible first | refine tri_seq ?_ | refine then_n ?_ | refine then_e ?_ | refine then_r ?_ | refine block_n ?_ | refine block_r ?_ | refine block_e ?_ | refine block_x (by decide) ?_ | refine tri_block ?_ | refine tri_skip ?_ | refine tri_ret ?_ | refine tri_exit ?_ | refine rwf_nil ?_ | refine rwc_nil ?_ | refine ret_n ?_)
         | refine tri_reg [] ?_
         | refine tri_regc [] [] mixed (by decide +kernel) ?_
         | (refine rwf_boxm rfl fun B hB => ?_; (try simp [*, -List.all_eq_true, cM]); (try (simp (disch := first | assumption | omega) only [wrap_id, wrapu_id, wrapb_id, tmod_nn, tdiv_nn, ite_yes, flatM_seg, flatM_0, flatM_1, flatM_2, flatI_seg, flatI_0, flatI_1, flatS_get]; (try simp [*, -List.all_eq_true, cM]))); refine hB.out _ _ ?_; clear hB B)
         | refine rwf_o ?_
         | refine rwc_o _ rfl ?_
         | (refine rwf_nilt rfl (by decide +kernel) fun G hG => ?_; (try simp [*, -List.all_eq_true, cM]); refine hG.out _ fun b => ?_; clear hG G)
         | ((first | refine rwf_a rfl fun B hB => ?_ | refine rwc_n rfl fun B hB => ?_ | refine rwc_z rfl fun B hB => ?_ | refine rwc_b rfl fun B hB => ?_ | refine rwc_w rfl fun B hB => ?_ | refine rwf_z rfl fun B hB => ?_); (try simp [*, -List.all_eq_true, cM]); (try (simp (disch := first | assumption | omega) only [wrap_id, wrapu_id, wrapb_id, tmod_nn, tdiv_nn, ite_yes, flatM_seg, flatM_0, flatM_1, flatM_2, flatI_seg, flatI_0, flatI_1, flatS_get]; (try simp [*, -List.all_eq_true, cM]))); (first | refine hB.out _ _ ?_ | refine hB.out _ ?_); clear hB B)
         | ((first | refine rwf_g rfl fun G hG hU => ?_ | refine rwc_g rfl fun G hG hU => ?_); (try simp [*, -List.all_eq_true, cM]); first | (refine hU.out ⟨rfl, ?_⟩; clear hG hU G) | (refine hG.out _ (fun hb => ?_) (fun hb => ⟨rfl, ?_⟩) <;> clear hG hU G <;> (try simp only [Bool.not_true, Bool.not_false] at hb) <;> first | (exfalso; simp at hb; done) | (exfalso; simp at hb; omega) | (rw [hb]; (try simp at hb)) | (try simp at hb)))
         | (refine tri_if fun G hG => ?_; (try simp [*, -List.all_eq_true, cM]); refine hG.out _ (fun hb => ?_) (fun hb => ?_) <;> clear hG G <;> (try simp only [Bool.not_true, Bool.not_false] at hb) <;> first | (exfalso; simp at hb; done) | (exfalso; simp at hb; omega) | (rw [hb]; (try simp at hb)) | (try simp at hb))
         | (refine ret_q fun R hR => ?_; (try simp [*, -List.all_eq_true, cM, Try.results71]); (try (simp (disch := first | assumption | omega) only [wrap_id, wrapu_id, wrapb_id, tmod_nn, tdiv_nn, ite_yes, flatM_seg, flatM_0, flatM_1, flatM_2, flatI_seg, flatI_0, flatI_1, flatS_get]; (try simp [*, -List.all_eq_true, cM, Try.results71]))); refine hR.out _ ?_; clear hR R; (try rfl)))
        · simp [hll]
        · exact absurd (msg_ext hb.1 hb.2.1 hb.2.2) hx
    · rw [List.take_of_length_le (by omega), List.take_of_length_le (by omega)] at heq
      repeat' (first
       | (with_reducible first | refine tri_seq ?_ | refine then_n ?_ | refine then_e ?_ | refine then_r ?_ | refine block_n ?_ | refine block_r ?_ | refine block_e ?_ | refine block_x (by decide) ?_ | refine tri_block ?_ | refine tri_skip ?_ | refine tri_ret ?_ | refine tri_exit ?_ | refine rwf_nil ?_ | refine rwc_nil ?_ | refine ret_n ?_)
       | refine tri_reg [] ?_
       | refine tri_regc [] [] mixed (by decide +kernel) ?_
       | (refine rwf_boxm rfl fun B hB => ?_; (try simp [*, -List.all_eq_true]); (try (simp (disch := first | assumption | omega) only [wrap_id, wrapu_id, wrapb_id, tmod_nn, tdiv_nn, ite_yes, flatM_seg, flatM_0, flatM_1, flatM_2, flatI_seg, flatI_0, flatI_1, flatS_get]; (try simp [*, -List.all_eq_true]))); refine hB.out _ _ ?_; clear hB B)
       | refine rwf_o ?_
       | refine rwc_o _ rfl ?_
       | (refine rwf_nilt rfl (by decide +kernel) fun G hG => ?_; (try simp [*, -List.all_eq_true]); refine hG.out _ fun b => ?_; clear hG G)
       | ((first | refine rwf_a rfl fun B hB => ?_ | refine rwc_n rfl fun B hB => ?_ | refine rwc_z rfl fun B hB => ?_ | refine rwc_b rfl fun B hB => ?_ | refine rwc_w rfl fun B hB => ?_ | refine rwf_z rfl fun B hB => ?_); (try simp [*, -List.all_eq_true]); (try (simp (disch := first | assumption | omega) only [wrap_id, wrapu_id, wrapb_id, tmod_nn, tdiv_nn, ite_yes, flatM_seg, flatM_0, flatM_1, flatM_2, flatI_seg, flatI_0, flatI_1, flatS_get]; (try simp [*, -List.all_eq_true]))); (first | refine hB.out _ _ ?_ | refine hB.out _ ?_); clear hB B)
       | ((first | refine rwf_g rfl fun G hG hU => ?_ | refine rwc_g rfl fun G hG hU => ?_); (try simp [*, -List.all_eq_true]); first | (refine hU.out ⟨rfl, ?_⟩; clear hG hU G) | (refine hG.out _ (fun hb => ?_) (fun hb => ⟨rfl, ?_⟩) <;> clear hG hU G <;> (try simp only [Bool.not_true, Bool.not_false] at hb) <;> first | (exfalso; simp at hb; done) | (exfalso; simp at hb; omega) | (rw [hb]; (try simp at hb)) | (try simp at hb)))
       | (refine tri_if fun G hG => ?_; (try simp [*, -List.all_eq_true]); refine hG.out _ (fun hb => ?_) (fun hb => ?_) <;> clear hG G <;> (try simp only [Bool.not_true, Bool.not_false] at hb) <;> first | (exfalso; simp at hb; done) | (exfalso; simp at hb; omega) | (rw [hb]; (try simp at hb)) | (try simp at hb))
       | (refine ret_q fun R hR => ?_; (try simp [*, -List.all_eq_true, Try.results71]); (try (simp (disch := first | assumption | omega) only [wrap_id, wrapu_id, wrapb_id, tmod_nn, tdiv_nn, ite_yes, flatM_seg, flatM_0, flatM_1, flatM_2, flatI_seg, flatI_0, flatI_1, flatS_get]; (try simp [*, -List.all_eq_true, Try.results71]))); refine hR.out _ ?_; clear hR R; (try rfl)))
      simp [heq]
  · have hll : ¬ l = l' := fun e => hne (by rw [e])
    repeat' (first
     | (with_reducible first | refine tri_seq ?_ | refine then_n ?_ | refine then_e ?_ | refine then_r ?_ | refine block_n ?_ | refine block_r ?_ | refine block_e ?_ | refine block_x (by decide) ?_ | refine tri_block ?_ | refine tri_skip ?_ | refine tri_ret ?_ | refine tri_exit ?_ | refine rwf_nil ?_ | refine rwc_nil ?_ | refine ret_n ?_)
     | refine tri_reg [] ?_
     | refine tri_regc [] [] mixed (by decide +kernel) ?_
     | (refine rwf_boxm rfl fun B hB => ?_; (try simp [*, -List.all_eq_true]); (try (simp (disch := first | assumption | omega) only [wrap_id, wrapu_id, wrapb_id, tmod_nn, tdiv_nn, ite_yes, flatM_seg, flatM_0, flatM_1, flatM_2, flatI_seg, flatI_0, flatI_1, flatS_get]; (try simp [*, -List.all_eq_true]))); refine hB.out _ _ ?_; clear hB B)
     | refine rwf_o ?_
     | refine rwc_o _ rfl ?_
     | (refine rwf_nilt rfl (by decide +kernel) fun G hG => ?_; (try simp [*, -List.all_eq_true]); refine hG.out _ fun b => ?_; clear hG G)
     | ((first | refine rwf_a rfl fun B hB => ?_ | refine rwc_n rfl fun B hB => ?_ | refine rwc_z rfl fun B hB => ?_ | refine rwc_b rfl fun B hB => ?_ | refine rwc_w rfl fun B hB => ?_ | refine rwf_z rfl fun B hB => ?_); (try simp [*, -List.all_eq_true]); (try (simp (disch := first | assumption | omega) only [wrap_id, wrapu_id, wrapb_id, tmod_nn, tdiv_nn, ite_yes, flatM_seg, flatM_0, flatM_1, flatM_2, flatI_seg, flatI_0, flatI_1, flatS_get]; (try simp [*, -List.all_eq_true]))); (first | refine hB.out _ _ ?_ | refine hB.out _ ?_); clear hB B)
     | ((first | refine rwf_g rfl fun G hG hU => ?_ | refine rwc_g rfl fun G hG hU => ?_); (try simp [*, -List.all_eq_true]); first | (refine hU.out ⟨rfl, ?_⟩; clear hG hU G) | (refine hG.out _ (fun hb => ?_) (fun hb => ⟨rfl, ?_⟩) <;> clear hG hU G <;> (try simp only [Bool.not_true, Bool.not_false] at hb) <;> first | (exfalso; simp at hb; done) | (exfalso; simp at hb; omega) | (rw [hb]; (try simp at hb)) | (try simp at hb)))
     | (refine tri_if fun G hG => ?_; (try simp [*, -List.all_eq_true]); refine hG.out _ (fun hb => ?_) (fun hb => ?_) <;> clear hG G <;> (try simp only [Bool.not_true, Bool.not_false] at hb) <;> first | (exfalso; simp at hb; done) | (exfalso; simp at hb; omega) | (rw [hb]; (try simp at hb)) | (try simp at hb))
     | (refine ret_q fun R hR => ?_; (try simp [*, -List.all_eq_true, Try.results71]); (try (simp (disch := first | assumption | omega) only [wrap_id, wrapu_id, wrapb_id, tmod_nn, tdiv_nn, ite_yes, flatM_seg, flatM_0, flatM_1, flatM_2, flatI_seg, flatI_0, flatI_1, flatS_get]; (try simp [*, -List.all_eq_true, Try.results71]))); refine hR.out _ ?_; clear hR R; (try rfl)))
    simp [hll]
theorem bSame_spec (l l' : List Msg) (hl : l.length ≤ 900000) (hl' : l'.length ≤ 900000) : PSpec Try.prog 25 [.fp (cB l) 0, .fp (cB l') 0] (.sc (.bool (decide (l = l')))) := by
  refine spec_pure (by simp) (by simp) ?_
  refine spec_intro Try.func25 good25 rfl (by simp [Try.ntmps25]) ?_
  repeat' (first
   | (with_reducible first | refine tri_seq ?_ | refine then_n ?_ | refine then_e ?_ | refine then_r ?_ | refine block_n ?_ | refine block_r ?_ | refine block_e ?_ | refine block_x (by decide) ?_ | refine tri_block ?_ | refine tri_skip ?_ | refine tri_ret ?_ | refine tri_exit ?_ | refine rwf_nil ?_ | refine rwc_nil ?_ | refine ret_n ?_)
   | refine tri_reg [] ?_
   | refine tri_regc [] [] mixed (by decide +kernel) ?_
   | (refine rwf_boxm rfl fun B hB => ?_; (try simp [*, -List.all_eq_true, cB]); (try (simp (disch := first | assumption | omega) only [wrap_id, wrapu_id, wrapb_id, tmod_nn, tdiv_nn, ite_yes, flatM_seg, flatM_0, flatM_1, flatM_2, flatI_seg, flatI_0, flatI_1, flatS_get]; (try simp [*, -List.all_eq_true, cB]))); refine hB.out _ _ ?_; clear hB B)
   | refine rwf_o ?_
   | refine rwc_o _ rfl ?_
   | (refine rwf_nilt rfl (by decide +kernel) fun G hG => ?_; (try simp [*, -List.all_eq_true, cB]); refine hG.out _ fun b => ?_; clear hG G)
   | ((first | refine rwf_a rfl fun B hB => ?_ | refine rwc_n rfl fun B hB => ?_ | refine rwc_z rfl fun B hB => ?_ | refine rwc_b rfl fun B hB => ?_ | refine rwc_w rfl fun B hB => ?_ | refine rwf_z rfl fun B hB => ?_); (try simp [*, -List.all_eq_true, cB]); (try (simp (disch := first | assumption | omega) only [wrap_id, wrapu_id, wrapb_id, tmod_nn, tdiv_nn, ite_yes, flatM_seg, flatM_0, flatM_1, flatM_2, flatI_seg, flatI_0, flatI_1, flatS_get]; (try simp [*, -List.all_eq_true, cB]))); (first | refine hB.out _ _ ?_ | refine hB.out _ ?_); clear hB B)
   | ((first | refine rwf_g rfl fun G hG hU => ?_ | refine rwc_g rfl fun G hG hU => ?_); (try simp [*, -List.all_eq_true, cB]); first | (refine hU.out ⟨rfl, ?_⟩; clear hG hU G) | (refine hG.out _ (fun hb => ?_) (fun hb => ⟨rfl, ?_⟩) <;> clear hG hU G <;> (try simp only [Bool.not_true, Bool.not_false] at hb) <;> first | (exfalso; simp at hb; done) | (exfalso; simp at hb; omega) | (rw [hb]; (try simp at hb)) | (try simp at hb)))
   | (refine tri_if fun G hG => ?_; (try simp [*, -List.all_eq_true, cB]); refine hG.out _ (fun hb => ?_) (fun hb => ?_) <;> clear hG G <;> (try simp only [Bool.not_true, Bool.not_false] at hb) <;> first | (exfalso; simp at hb; done) | (exfalso; simp at hb; omega) | (rw [hb]; (try simp at hb)) | (try simp at hb))
   | (refine ret_q fun R hR => ?_; (try simp [*, -List.all_eq_true, cB, Try.results25]); (try (simp (disch := first | assumption | omega) only [wrap_id, wrapu_id, wrapb_id, tmod_nn, tdiv_nn, ite_yes, flatM_seg, flatM_0, flatM_1, flatM_2, flatI_seg, flatI_0, flatI_1, flatS_get]; (try simp [*, -List.all_eq_true, cB, Try.results25]))); refine hR.out _ ?_; clear hR R; (try rfl))
   | (refine rwf_ca rfl fun C' hC hP => ?_; (try simp [*, -List.all_eq_true, cB]); (first | refine hP.out _ _ _ (equalM_spec l l' hl hl') ?_ | (refine hC.out _ _ _ (equalM_spec l l' hl hl') fun r s hq => ?_; obtain ⟨hq1, hq2⟩ := hq; rw [hq1, hq2]; clear hq1 hq2 s r)); clear hP hC C')
   | ((first | refine rwf_cz rfl fun C' hC hP => ?_ | refine rwc_cz rfl fun C' hC hP => ?_); (try simp [*, -List.all_eq_true, cB]); (first | refine hC.out _ _ _ (equalM_spec l l' hl hl') ?_ | refine hP.out _ _ _ (equalM_spec l l' hl hl') ?_); clear hP hC C'))
end Go.Proofs.Ytemijcjgdgdhjaa
