/- The law's guard; awake; the law BuffExact. -/
import Derived.Test.YtemijcjgdgdhjaaWl
namespace Go.Proofs.Ytemijcjgdgdhjaa
open Go.RowKit
set_option linter.unusedSimpArgs false
set_option maxRecDepth 10000

def bigM (m : Msg) : Bool := decide (512 < m.key.size) || decide (512 < m.val.size)
def heavyM (l : List Msg) : Bool := (l.take 41).any bigM || decide (40 < l.length)
theorem heavyM_no {l : List Msg} (h : heavyM l = false) : l.length ≤ 40 ∧ MSmall l := by
  unfold heavyM at h
  rw [Bool.or_eq_false_iff] at h
  have h1 : l.length ≤ 40 := by have := h.2; simp at this; omega
  refine ⟨h1, fun m hm => ?_⟩
  have h2 := h.1
  rw [List.take_of_length_le (by omega)] at h2
  have h3 : bigM m = false := by
    cases e : bigM m with
    | false => rfl
    | true => rw [List.any_eq_true.2 ⟨m, hm, e⟩] at h2; cases h2
  simp [bigM] at h3
  omega
theorem heavy_spec (l : List Msg) (hl : l.length ≤ 9223372036854775807) : PSpec Try.prog 13 [.fs (flatM l) l.length] (.sc (.bool (heavyM l))) := by
  refine spec_pure (by simp) (by simp) ?_
  refine spec_intro Try.func13 good13 rfl (by simp [Try.ntmps13]) ?_
  repeat' (first
   | (with_reducible first | refine tri_seq ?_ | refine then_n ?_ | refine then_e ?_ | refine then_r ?_ | refine block_n ?_ | refine block_r ?_ | refine block_e ?_ | refine block_x (by decide) ?_ | refine tri_block ?_ | refine tri_skip ?_ | refine tri_ret ?_ | refine tri_exit ?_ | refine rwf_nil ?_ | refine rwc_nil ?_ | refine ret_n ?_)
   | refine tri_reg [] ?_
   | refine tri_regc [] [] mixed (by decide +kernel) ?_
   | (refine rwf_boxm rfl fun B hB => ?_; (try simp [*, -List.all_eq_true]); (try (simp (disch := first | assumption | omega) only [wrap_id, wrapu_id, wrapb_id, tmod_nn, tdiv_nn, ite_yes, flatM_seg, flatM_0, flatM_1, flatM_2, flatI_seg, flatI_0, flatI_1, flatS_get]; (try simp [*, -List.all_eq_true]))); refine hB.out _ _ ?_; clear hB B)
   | refine rwf_o ?_
   | refine rwc_o _ rfl ?_
   | (refine rwf_nilt rfl (by decide +kernel) fun G hG => ?_; (try simp [*, -List.all_eq_true]); refine hG.out _ fun b => ?_; clear hG G)
   | ((first | refine rwf_a rfl fun B hB => ?_ | refine rwc_n rfl fun B hB => ?_ | refine rwc_z rfl fun B hB => ?_ | refine rwc_b rfl fun B hB => ?_ | refine rwc_w rfl fun B hB => ?_ | refine rwf_z rfl fun B hB => ?_); (try simp [*, -List.all_eq_true]); (try (simp (disch := first | assumption | omega) only [wrap_id, wrapu_id, wrapb_id, tmod_nn, tdiv_nn, ite_yes, flatM_seg, flatM_0, flatM_1, flatM_2, flatI_seg, flatI_0, flatI_1, flatS_get]; (try simp [*, -List.all_eq_true]))); (first | refine hB.out _ _ ?_ | refine hB.out _ ?_); clear hB B)
   | ((first | refine rwf_g rfl fun G hG hU => ?_ | refine rwc_g rfl fun G hG hU => ?_); (try simp [*, -List.all_eq_true]); first | (refine hU.out ⟨rfl, ?_⟩; clear hG hU G) | (refine hG.out _ (fun hb => ?_) (fun hb => ⟨rfl, ?_⟩) <;> clear hG hU G <;> (try simp only [Bool.not_true, Bool.not_false] at hb) <;> first | (exfalso; simp at hb; done) | (exfalso; simp at hb; omega) | (rw [hb]; (try simp at hb)) | (try simp at hb)))
   | (refine tri_if fun G hG => ?_; (try simp [*, -List.all_eq_true]); refine hG.out _ (fun hb => ?_) (fun hb => ?_) <;> clear hG G <;> (try simp only [Bool.not_true, Bool.not_false] at hb) <;> first | (exfalso; simp at hb; done) | (exfalso; simp at hb; omega) | (rw [hb]; (try simp at hb)) | (try simp at hb))
   | (refine ret_q fun R hR => ?_; (try simp [*, -List.all_eq_true, Try.results13]); (try (simp (disch := first | assumption | omega) only [wrap_id, wrapu_id, wrapb_id, tmod_nn, tdiv_nn, ite_yes, flatM_seg, flatM_0, flatM_1, flatM_2, flatI_seg, flatI_0, flatI_1, flatS_get]; (try simp [*, -List.all_eq_true, Try.results13]))); refine hR.out _ ?_; clear hR R; (try rfl)))
  refine tri_for [0] 41 (fun k e σ => σ = [] ∧ e 3 = .sc (.int .i64 k) ∧ (l.take k).any bigM = false) ?_ (fun k env' σ' hlt hk hI => ?_) (fun env' σ' hk hI => ?_)
  · exact ⟨by simp, by simp, by simp⟩
  · skip
    (try simp at hk)
    obtain ⟨rfl, h3, ha⟩ := hI
    by_cases hl2 : k < l.length
    · have hm := flatM_seg l k hl2
      have h1 := flatM_1 l k hl2
      have h2 := flatM_2 l k hl2
      cases hb : bigM l[k] with
      | true =>
        have : heavyM l = true := by
          unfold heavyM
          rw [Bool.or_eq_true]; left
          rw [List.any_eq_true]
          refine ⟨l[k], ?_, hb⟩
          rw [List.mem_iff_getElem?]
          exact ⟨k, by rw [List.getElem?_take, if_pos (by omega), List.getElem?_eq_getElem hl2]⟩
        rw [this]
        simp [bigM] at hb
        by_cases hk1 : 512 < l[k].key.size
        · skip
          repeat' (first
           | (with_reducible first | refine tri_seq ?_ | refine then_n ?_ | refine then_e ?_ | refine then_r ?_ | refine block_n ?_ | refine block_r ?_ | refine block_e ?_ | refine block_x (by decide) ?_ | refine tri_block ?_ | refine tri_skip ?_ | refine tri_ret ?_ | refine tri_exit ?_ | refine rwf_nil ?_ | refine rwc_nil ?_ | refine ret_n ?_)
           | refine tri_reg [] ?_
           | refine tri_regc [] [] mixed (by decide +kernel) ?_
           | (refine rwf_boxm rfl fun B hB => ?_; (try simp [*, -List.all_eq_true]); (try (simp (disch := first | assumption | omega) only [wrap_id, wrapu_id, wrapb_id, tmod_nn, tdiv_nn, ite_yes, flatM_seg, flatM_0, flatM_1, flatM_2, flatI_seg, flatI_0, flatI_1, flatS_get]; (try simp [*, -List.all_eq_true]))); refine hB.out _ _ ?_; clear hB B)
           | refine rwf_o ?_
           | refine rwc_o _ rfl ?_
           | (refine rwf_nilt rfl (by decide +kernel) fun G hG => ?_; (try simp [*, -List.all_eq_true]); refine hG.out _ fun b => ?_; clear hG G)
           | ((first | refine rwf_a rfl fun B hB => ?_ | refine rwc_n rfl fun B hB => ?_ | refine rwc_z rfl fun B hB => ?_ | refine rwc_b rfl fun B hB => ?_ | refine rwc_w rfl fun B hB => ?_ | refine rwf_z rfl fun B hB => ?_); (try simp [*, -List.all_eq_true]); (try (simp (disch := first | assumption | omega) only [wrap_id, wrapu_id, wrapb_id, tmod_nn, tdiv_nn, ite_yes, flatM_seg, flatM_0, flatM_1, flatM_2, flatI_seg, flatI_0, flatI_1, flatS_get]; (try simp [*, -List.all_eq_true]))); (first | refine hB.out _ _ ?_ | refine hB.out _ ?_); clear hB B)
           | ((first | refine rwf_g rfl fun G hG hU => ?_ | refine rwc_g rfl fun G hG hU => ?_); (try simp [*, -List.all_eq_true]); first | (refine hU.out ⟨rfl, ?_⟩; clear hG hU G) | (refine hG.out _ (fun hb => ?_) (fun hb => ⟨rfl, ?_⟩) <;> clear hG hU G <;> (try simp only [Bool.not_true, Bool.not_false] at hb) <;> first | (exfalso; simp at hb; done) | (exfalso; simp at hb; omega) | (rw [hb]; (try simp at hb)) | (try simp at hb)))
           | (refine tri_if fun G hG => ?_; (try simp [*, -List.all_eq_true]); refine hG.out _ (fun hb => ?_) (fun hb => ?_) <;> clear hG G <;> (try simp only [Bool.not_true, Bool.not_false] at hb) <;> first | (exfalso; simp at hb; done) | (exfalso; simp at hb; omega) | (rw [hb]; (try simp at hb)) | (try simp at hb))
           | (refine ret_q fun R hR => ?_; (try simp [*, -List.all_eq_true, Try.results13]); (try (simp (disch := first | assumption | omega) only [wrap_id, wrapu_id, wrapb_id, tmod_nn, tdiv_nn, ite_yes, flatM_seg, flatM_0, flatM_1, flatM_2, flatI_seg, flatI_0, flatI_1, flatS_get]; (try simp [*, -List.all_eq_true, Try.results13]))); refine hR.out _ ?_; clear hR R; (try rfl)))
        · have hk2 : 512 < l[k].val.size := by omega
          repeat' (first
           | (with_reducible first | refine tri_seq ?_ | refine then_n ?_ | refine then_e ?_ | refine then_r ?_ | refine block_n ?_ | refine block_r ?_ | refine block_e ?_ | refine block_x (by decide) ?_ | refine tri_block ?_ | refine tri_skip ?_ | refine tri_ret ?_ | refine tri_exit ?_ | refine rwf_nil ?_ | refine rwc_nil ?_ | refine ret_n ?_)
           | refine tri_reg [] ?_
           | refine tri_regc [] [] mixed (by decide +kernel) ?_
           | (refine rwf_boxm rfl fun B hB => ?_; (try simp [*, -List.all_eq_true]); (try (simp (disch := first | assumption | omega) only [wrap_id, wrapu_id, wrapb_id, tmod_nn, tdiv_nn, ite_yes, flatM_seg, flatM_0, flatM_1, flatM_2, flatI_seg, flatI_0, flatI_1, flatS_get]; (try simp [*, -List.all_eq_true]))); refine hB.out _ _ ?_; clear hB B)
           | refine rwf_o ?_
           | refine rwc_o _ rfl ?_
           | (refine rwf_nilt rfl (by decide +kernel) fun G hG => ?_; (try simp [*, -List.all_eq_true]); refine hG.out _ fun b => ?_; clear hG G)
           | ((first | refine rwf_a rfl fun B hB => ?_ | refine rwc_n rfl fun B hB => ?_ | refine rwc_z rfl fun B hB => ?_ | refine rwc_b rfl fun B hB => ?_ | refine rwc_w rfl fun B hB => ?_ | refine rwf_z rfl fun B hB => ?_); (try simp [*, -List.all_eq_true]); (try (simp (disch := first | assumption | omega) only [wrap_id, wrapu_id, wrapb_id, tmod_nn, tdiv_nn, ite_yes, flatM_seg, flatM_0, flatM_1, flatM_2, flatI_seg, flatI_0, flatI_1, flatS_get]; (try simp [*, -List.all_eq_true]))); (first | refine hB.out _ _ ?_ | refine hB.out _ ?_); clear hB B)
           | ((first | refine rwf_g rfl fun G hG hU => ?_ | refine rwc_g rfl fun G hG hU => ?_); (try simp [*, -List.all_eq_true]); first | (refine hU.out ⟨rfl, ?_⟩; clear hG hU G) | (refine hG.out _ (fun hb => ?_) (fun hb => ⟨rfl, ?_⟩) <;> clear hG hU G <;> (try simp only [Bool.not_true, Bool.not_false] at hb) <;> first | (exfalso; simp at hb; done) | (exfalso; simp at hb; omega) | (rw [hb]; (try simp at hb)) | (try simp at hb)))
           | (refine tri_if fun G hG => ?_; (try simp [*, -List.all_eq_true]); refine hG.out _ (fun hb => ?_) (fun hb => ?_) <;> clear hG G <;> (try simp only [Bool.not_true, Bool.not_false] at hb) <;> first | (exfalso; simp at hb; done) | (exfalso; simp at hb; omega) | (rw [hb]; (try simp at hb)) | (try simp at hb))
           | (refine ret_q fun R hR => ?_; (try simp [*, -List.all_eq_true, Try.results13]); (try (simp (disch := first | assumption | omega) only [wrap_id, wrapu_id, wrapb_id, tmod_nn, tdiv_nn, ite_yes, flatM_seg, flatM_0, flatM_1, flatM_2, flatI_seg, flatI_0, flatI_1, flatS_get]; (try simp [*, -List.all_eq_true, Try.results13]))); refine hR.out _ ?_; clear hR R; (try rfl)))
      | false =>
        simp [bigM] at hb
        obtain ⟨hk1, hk2⟩ := hb
        repeat' (first
         | (with_reducible first | refine tri_seq ?_ | refine then_n ?_ | refine then_e ?_ | refine then_r ?_ | refine block_n ?_ | refine block_r ?_ | refine block_e ?_ | refine block_x (by decide) ?_ | refine tri_block ?_ | refine tri_skip ?_ | refine tri_ret ?_ | refine tri_exit ?_ | refine rwf_nil ?_ | refine rwc_nil ?_ | refine ret_n ?_)
         | refine tri_reg [] ?_
         | refine tri_regc [] [] mixed (by decide +kernel) ?_
         | (refine rwf_boxm rfl fun B hB => ?_; (try simp [*, -List.all_eq_true]); (try (simp (disch := first | assumption | omega) only [wrap_id, wrapu_id, wrapb_id, tmod_nn, tdiv_nn, ite_yes, flatM_seg, flatM_0, flatM_1, flatM_2, flatI_seg, flatI_0, flatI_1, flatS_get]; (try simp [*, -List.all_eq_true]))); refine hB.out _ _ ?_; clear hB B)
         | refine rwf_o ?_
         | refine rwc_o _ rfl ?_
         | (refine rwf_nilt rfl (by decide +kernel) fun G hG => ?_; (try simp [*, -List.all_eq_true]); refine hG.out _ fun b => ?_; clear hG G)
         | ((first | refine rwf_a rfl fun B hB => ?_ | refine rwc_n rfl fun B hB => ?_ | refine rwc_z rfl fun B hB => ?_ | refine rwc_b rfl fun B hB => ?_ | refine rwc_w rfl fun B hB => ?_ | refine rwf_z rfl fun B hB => ?_); (try simp [*, -List.all_eq_true]); (try (simp (disch := first | assumption | omega) only [wrap_id, wrapu_id, wrapb_id, tmod_nn, tdiv_nn, ite_yes, flatM_seg, flatM_0, flatM_1, flatM_2, flatI_seg, flatI_0, flatI_1, flatS_get]; (try simp [*, -List.all_eq_true]))); (first | refine hB.out _ _ ?_ | refine hB.out _ ?_); clear hB B)
         | ((first | refine rwf_g rfl fun G hG hU => ?_ | refine rwc_g rfl fun G hG hU => ?_); (try simp [*, -List.all_eq_true]); first | (refine hU.out ⟨rfl, ?_⟩; clear hG hU G) | (refine hG.out _ (fun hb => ?_) (fun hb => ⟨rfl, ?_⟩) <;> clear hG hU G <;> (try simp only [Bool.not_true, Bool.not_false] at hb) <;> first | (exfalso; simp at hb; done) | (exfalso; simp at hb; omega) | (rw [hb]; (try simp at hb)) | (try simp at hb)))
         | (refine tri_if fun G hG => ?_; (try simp [*, -List.all_eq_true]); refine hG.out _ (fun hb => ?_) (fun hb => ?_) <;> clear hG G <;> (try simp only [Bool.not_true, Bool.not_false] at hb) <;> first | (exfalso; simp at hb; done) | (exfalso; simp at hb; omega) | (rw [hb]; (try simp at hb)) | (try simp at hb))
         | (refine ret_q fun R hR => ?_; (try simp [*, -List.all_eq_true, Try.results13]); (try (simp (disch := first | assumption | omega) only [wrap_id, wrapu_id, wrapb_id, tmod_nn, tdiv_nn, ite_yes, flatM_seg, flatM_0, flatM_1, flatM_2, flatI_seg, flatI_0, flatI_1, flatS_get]; (try simp [*, -List.all_eq_true, Try.results13]))); refine hR.out _ ?_; clear hR R; (try rfl)))
        exact ⟨by simp [*], rfl, by simp, by rw [List.take_add_one, List.getElem?_eq_getElem hl2, List.any_append, ha]; simp [bigM]; omega⟩
    · rw [List.take_of_length_le (by omega)] at ha
      repeat' (first
       | (with_reducible first | refine tri_seq ?_ | refine then_n ?_ | refine then_e ?_ | refine then_r ?_ | refine block_n ?_ | refine block_r ?_ | refine block_e ?_ | refine block_x (by decide) ?_ | refine tri_block ?_ | refine tri_skip ?_ | refine tri_ret ?_ | refine tri_exit ?_ | refine rwf_nil ?_ | refine rwc_nil ?_ | refine ret_n ?_)
       | refine tri_reg [] ?_
       | refine tri_regc [] [] mixed (by decide +kernel) ?_
       | (refine rwf_boxm rfl fun B hB => ?_; (try simp [*, -List.all_eq_true]); (try (simp (disch := first | assumption | omega) only [wrap_id, wrapu_id, wrapb_id, tmod_nn, tdiv_nn, ite_yes, flatM_seg, flatM_0, flatM_1, flatM_2, flatI_seg, flatI_0, flatI_1, flatS_get]; (try simp [*, -List.all_eq_true]))); refine hB.out _ _ ?_; clear hB B)
       | refine rwf_o ?_
       | refine rwc_o _ rfl ?_
       | (refine rwf_nilt rfl (by decide +kernel) fun G hG => ?_; (try simp [*, -List.all_eq_true]); refine hG.out _ fun b => ?_; clear hG G)
       | ((first | refine rwf_a rfl fun B hB => ?_ | refine rwc_n rfl fun B hB => ?_ | refine rwc_z rfl fun B hB => ?_ | refine rwc_b rfl fun B hB => ?_ | refine rwc_w rfl fun B hB => ?_ | refine rwf_z rfl fun B hB => ?_); (try simp [*, -List.all_eq_true]); (try (simp (disch := first | assumption | omega) only [wrap_id, wrapu_id, wrapb_id, tmod_nn, tdiv_nn, ite_yes, flatM_seg, flatM_0, flatM_1, flatM_2, flatI_seg, flatI_0, flatI_1, flatS_get]; (try simp [*, -List.all_eq_true]))); (first | refine hB.out _ _ ?_ | refine hB.out _ ?_); clear hB B)
       | ((first | refine rwf_g rfl fun G hG hU => ?_ | refine rwc_g rfl fun G hG hU => ?_); (try simp [*, -List.all_eq_true]); first | (refine hU.out ⟨rfl, ?_⟩; clear hG hU G) | (refine hG.out _ (fun hb => ?_) (fun hb => ⟨rfl, ?_⟩) <;> clear hG hU G <;> (try simp only [Bool.not_true, Bool.not_false] at hb) <;> first | (exfalso; simp at hb; done) | (exfalso; simp at hb; omega) | (rw [hb]; (try simp at hb)) | (try simp at hb)))
       | (refine tri_if fun G hG => ?_; (try simp [*, -List.all_eq_true]); refine hG.out _ (fun hb => ?_) (fun hb => ?_) <;> clear hG G <;> (try simp only [Bool.not_true, Bool.not_false] at hb) <;> first | (exfalso; simp at hb; done) | (exfalso; simp at hb; omega) | (rw [hb]; (try simp at hb)) | (try simp at hb))
       | (refine ret_q fun R hR => ?_; (try simp [*, -List.all_eq_true, Try.results13]); (try (simp (disch := first | assumption | omega) only [wrap_id, wrapu_id, wrapb_id, tmod_nn, tdiv_nn, ite_yes, flatM_seg, flatM_0, flatM_1, flatM_2, flatI_seg, flatI_0, flatI_1, flatS_get]; (try simp [*, -List.all_eq_true, Try.results13]))); refine hR.out _ ?_; clear hR R; (try rfl)))
      simp [heavyM, List.take_of_length_le (show l.length ≤ 41 by omega), ha]
      omega
  · skip
    (try simp at hk)
    obtain ⟨rfl, h3, ha⟩ := hI
    by_cases hl2 : 41 < l.length
    · skip
      repeat' (first
       | (with_reducible first | refine tri_seq ?_ | refine then_n ?_ | refine then_e ?_ | refine then_r ?_ | refine block_n ?_ | refine block_r ?_ | refine block_e ?_ | refine block_x (by decide) ?_ | refine tri_block ?_ | refine tri_skip ?_ | refine tri_ret ?_ | refine tri_exit ?_ | refine rwf_nil ?_ | refine rwc_nil ?_ | refine ret_n ?_)
       | refine tri_reg [] ?_
       | refine tri_regc [] [] mixed (by decide +kernel) ?_
       | (refine rwf_boxm rfl fun B hB => ?_; (try simp [*, -List.all_eq_true]); (try (simp (disch := first | assumption | omega) only [wrap_id, wrapu_id, wrapb_id, tmod_nn, tdiv_nn, ite_yes, flatM_seg, flatM_0, flatM_1, flatM_2, flatI_seg, flatI_0, flatI_1, flatS_get]; (try simp [*, -List.all_eq_true]))); refine hB.out _ _ ?_; clear hB B)
       | refine rwf_o ?_
       | refine rwc_o _ rfl ?_
       | (refine rwf_nilt rfl (by decide +kernel) fun G hG => ?_; (try simp [*, -List.all_eq_true]); refine hG.out _ fun b => ?_; clear hG G)
       | ((first | refine rwf_a rfl fun B hB => ?_ | refine rwc_n rfl fun B hB => ?_ | refine rwc_z rfl fun B hB => ?_ | refine rwc_b rfl fun B hB => ?_ | refine rwc_w rfl fun B hB => ?_ | refine rwf_z rfl fun B hB => ?_); (try simp [*, -List.all_eq_true]); (try (simp (disch := first | assumption | omega) only [wrap_id, wrapu_id, wrapb_id, tmod_nn, tdiv_nn, ite_yes, flatM_seg, flatM_0, flatM_1, flatM_2, flatI_seg, flatI_0, flatI_1, flatS_get]; (try simp [*, -List.all_eq_true]))); (first | refine hB.out _ _ ?_ | refine hB.out _ ?_); clear hB B)
       | ((first | refine rwf_g rfl fun G hG hU => ?_ | refine rwc_g rfl fun G hG hU => ?_); (try simp [*, -List.all_eq_true]); first | (refine hU.out ⟨rfl, ?_⟩; clear hG hU G) | (refine hG.out _ (fun hb => ?_) (fun hb => ⟨rfl, ?_⟩) <;> clear hG hU G <;> (try simp only [Bool.not_true, Bool.not_false] at hb) <;> first | (exfalso; simp at hb; done) | (exfalso; simp at hb; omega) | (rw [hb]; (try simp at hb)) | (try simp at hb)))
       | (refine tri_if fun G hG => ?_; (try simp [*, -List.all_eq_true]); refine hG.out _ (fun hb => ?_) (fun hb => ?_) <;> clear hG G <;> (try simp only [Bool.not_true, Bool.not_false] at hb) <;> first | (exfalso; simp at hb; done) | (exfalso; simp at hb; omega) | (rw [hb]; (try simp at hb)) | (try simp at hb))
       | (refine ret_q fun R hR => ?_; (try simp [*, -List.all_eq_true, Try.results13]); (try (simp (disch := first | assumption | omega) only [wrap_id, wrapu_id, wrapb_id, tmod_nn, tdiv_nn, ite_yes, flatM_seg, flatM_0, flatM_1, flatM_2, flatI_seg, flatI_0, flatI_1, flatS_get]; (try simp [*, -List.all_eq_true, Try.results13]))); refine hR.out _ ?_; clear hR R; (try rfl)))
      simp [heavyM, ha]; omega
    · skip
      repeat' (first
       | (with_reducible first | refine tri_seq ?_ | refine then_n ?_ | refine then_e ?_ | refine then_r ?_ | refine block_n ?_ | refine block_r ?_ | refine block_e ?_ | refine block_x (by decide) ?_ | refine tri_block ?_ | refine tri_skip ?_ | refine tri_ret ?_ | refine tri_exit ?_ | refine rwf_nil ?_ | refine rwc_nil ?_ | refine ret_n ?_)
       | refine tri_reg [] ?_
       | refine tri_regc [] [] mixed (by decide +kernel) ?_
       | (refine rwf_boxm rfl fun B hB => ?_; (try simp [*, -List.all_eq_true]); (try (simp (disch := first | assumption | omega) only [wrap_id, wrapu_id, wrapb_id, tmod_nn, tdiv_nn, ite_yes, flatM_seg, flatM_0, flatM_1, flatM_2, flatI_seg, flatI_0, flatI_1, flatS_get]; (try simp [*, -List.all_eq_true]))); refine hB.out _ _ ?_; clear hB B)
       | refine rwf_o ?_
       | refine rwc_o _ rfl ?_
       | (refine rwf_nilt rfl (by decide +kernel) fun G hG => ?_; (try simp [*, -List.all_eq_true]); refine hG.out _ fun b => ?_; clear hG G)
       | ((first | refine rwf_a rfl fun B hB => ?_ | refine rwc_n rfl fun B hB => ?_ | refine rwc_z rfl fun B hB => ?_ | refine rwc_b rfl fun B hB => ?_ | refine rwc_w rfl fun B hB => ?_ | refine rwf_z rfl fun B hB => ?_); (try simp [*, -List.all_eq_true]); (try (simp (disch := first | assumption | omega) only [wrap_id, wrapu_id, wrapb_id, tmod_nn, tdiv_nn, ite_yes, flatM_seg, flatM_0, flatM_1, flatM_2, flatI_seg, flatI_0, flatI_1, flatS_get]; (try simp [*, -List.all_eq_true]))); (first | refine hB.out _ _ ?_ | refine hB.out _ ?_); clear hB B)
       | ((first | refine rwf_g rfl fun G hG hU => ?_ | refine rwc_g rfl fun G hG hU => ?_); (try simp [*, -List.all_eq_true]); first | (refine hU.out ⟨rfl, ?_⟩; clear hG hU G) | (refine hG.out _ (fun hb => ?_) (fun hb => ⟨rfl, ?_⟩) <;> clear hG hU G <;> (try simp only [Bool.not_true, Bool.not_false] at hb) <;> first | (exfalso; simp at hb; done) | (exfalso; simp at hb; omega) | (rw [hb]; (try simp at hb)) | (try simp at hb)))
       | (refine tri_if fun G hG => ?_; (try simp [*, -List.all_eq_true]); refine hG.out _ (fun hb => ?_) (fun hb => ?_) <;> clear hG G <;> (try simp only [Bool.not_true, Bool.not_false] at hb) <;> first | (exfalso; simp at hb; done) | (exfalso; simp at hb; omega) | (rw [hb]; (try simp at hb)) | (try simp at hb))
       | (refine ret_q fun R hR => ?_; (try simp [*, -List.all_eq_true, Try.results13]); (try (simp (disch := first | assumption | omega) only [wrap_id, wrapu_id, wrapb_id, tmod_nn, tdiv_nn, ite_yes, flatM_seg, flatM_0, flatM_1, flatM_2, flatI_seg, flatI_0, flatI_1, flatS_get]; (try simp [*, -List.all_eq_true, Try.results13]))); refine hR.out _ ?_; clear hR R; (try rfl)))
      simp [heavyM, ha]; omega
def awA : Msg := ⟨1, ⟨#[97]⟩, ⟨#[50]⟩⟩
def awX : Msg := ⟨2, ⟨#[120]⟩, ⟨#[]⟩⟩
def awL : List Msg := [awA, awX]
theorem awL_is : withM [] [⟨1, ⟨#[120]⟩, ⟨#[49]⟩⟩, ⟨1, ⟨#[97]⟩, ⟨#[50]⟩⟩, ⟨2, ⟨#[120]⟩, ⟨#[]⟩⟩] = awL := by rfl
theorem awL_rise : Rise awL := by rw [rise_iff]; simp [awL, awA, awX]; decide +kernel
theorem awL_msg : ∀ x ∈ awL, isMsg x = true := by simp [awL, awA, awX]; decide +kernel
theorem awL_small : MSmall awL := msmall awL_msg
theorem awL_loads : loadsL awL (partsM [⟨#[109]⟩]) = [5, 4] := by decide +kernel
theorem awL_heav : heavG [5, 4] = 0 := by decide +kernel
theorem awL_find : foundM awL ⟨#[120]⟩ = awX ∧ hit awL ⟨#[120]⟩ = true := ⟨by rfl, by decide +kernel⟩
theorem awL_take : takeM awL ⟨#[]⟩ ⟨#[98]⟩ true = [awA] := by rfl
theorem awake_spec : PSpec Try.prog 12 [] (.sc (.bool true)) := by
  have h1 := bOf_spec [⟨1, ⟨#[120]⟩, ⟨#[49]⟩⟩, ⟨1, ⟨#[97]⟩, ⟨#[50]⟩⟩, ⟨2, ⟨#[120]⟩, ⟨#[]⟩⟩] (by simp)
  unfold withR at h1
  rw [awL_is, if_pos (by decide +kernel)] at h1
  have h2 := bFind_spec awL (by simp [awL]) awL_rise ⟨#[120]⟩
  rw [awL_find.1, awL_find.2] at h2
  have h3 := bLoads_spec awL (by simp [awL]) awL_small [⟨#[109]⟩] (by simp)
  rw [awL_loads] at h3
  have h4 := bWith_spec awL [⟨0, ⟨#[]⟩, ⟨#[]⟩⟩] (by simp [awL]) awL_rise awL_msg
  unfold withR at h4
  rw [if_neg (by decide +kernel)] at h4
  have h5 := bHeav_spec awL (by simp [awL]) awL_small [⟨#[109]⟩] (by simp)
  rw [awL_loads, awL_heav] at h5
  have h6 := bTake_spec awL (by simp [awL]) ⟨#[]⟩ ⟨#[98]⟩
  rw [awL_take] at h6
  have h7 : mwts awL = 9 := by decide +kernel
  have h8 := bLen_spec awL
  have h9 := bWeight_spec awL
  rw [h7] at h9
  generalize cB awL = B at *
  refine spec_pure (by simp) (by simp) ?_
  refine spec_intro Try.func12 good12 rfl (by simp [Try.ntmps12]) ?_
  repeat' (first
   | (with_reducible first | refine tri_seq ?_ | refine then_n ?_ | refine then_e ?_ | refine then_r ?_ | refine block_n ?_ | refine block_r ?_ | refine block_e ?_ | refine block_x (by decide) ?_ | refine tri_block ?_ | refine tri_skip ?_ | refine tri_ret ?_ | refine tri_exit ?_ | refine rwf_nil ?_ | refine rwc_nil ?_ | refine ret_n ?_)
   | refine tri_reg [] ?_
   | refine tri_regc [] [] mixed (by decide +kernel) ?_
   | (refine rwf_boxm rfl fun B hB => ?_; (try simp [*, -List.all_eq_true, awX, awL]); (try (simp (disch := first | assumption | omega) only [wrap_id, wrapu_id, wrapb_id, tmod_nn, tdiv_nn, ite_yes, flatM_seg, flatM_0, flatM_1, flatM_2, flatI_seg, flatI_0, flatI_1, flatS_get]; (try simp [*, -List.all_eq_true, awX, awL]))); refine hB.out _ _ ?_; clear hB B)
   | refine rwf_o ?_
   | refine rwc_o _ rfl ?_
   | (refine rwf_nilt rfl (by decide +kernel) fun G hG => ?_; (try simp [*, -List.all_eq_true, awX, awL]); refine hG.out _ fun b => ?_; clear hG G)
   | ((first | refine rwf_a rfl fun B hB => ?_ | refine rwc_n rfl fun B hB => ?_ | refine rwc_z rfl fun B hB => ?_ | refine rwc_b rfl fun B hB => ?_ | refine rwc_w rfl fun B hB => ?_ | refine rwf_z rfl fun B hB => ?_); (try simp [*, -List.all_eq_true, awX, awL]); (try (simp (disch := first | assumption | omega) only [wrap_id, wrapu_id, wrapb_id, tmod_nn, tdiv_nn, ite_yes, flatM_seg, flatM_0, flatM_1, flatM_2, flatI_seg, flatI_0, flatI_1, flatS_get]; (try simp [*, -List.all_eq_true, awX, awL]))); (first | refine hB.out _ _ ?_ | refine hB.out _ ?_); clear hB B)
   | ((first | refine rwf_g rfl fun G hG hU => ?_ | refine rwc_g rfl fun G hG hU => ?_); (try simp [*, -List.all_eq_true, awX, awL]); first | (refine hU.out ⟨rfl, ?_⟩; clear hG hU G) | (refine hG.out _ (fun hb => ?_) (fun hb => ⟨rfl, ?_⟩) <;> clear hG hU G <;> (try simp only [Bool.not_true, Bool.not_false] at hb) <;> first | (exfalso; simp at hb; done) | (exfalso; simp at hb; omega) | (rw [hb]; (try simp at hb)) | (try simp at hb)))
   | (refine tri_if fun G hG => ?_; (try simp [*, -List.all_eq_true, awX, awL]); refine hG.out _ (fun hb => ?_) (fun hb => ?_) <;> clear hG G <;> (try simp only [Bool.not_true, Bool.not_false] at hb) <;> first | (exfalso; simp at hb; done) | (exfalso; simp at hb; omega) | (rw [hb]; (try simp at hb)) | (try simp at hb))
   | (refine ret_q fun R hR => ?_; (try simp [*, -List.all_eq_true, awX, awL, Try.results12]); (try (simp (disch := first | assumption | omega) only [wrap_id, wrapu_id, wrapb_id, tmod_nn, tdiv_nn, ite_yes, flatM_seg, flatM_0, flatM_1, flatM_2, flatI_seg, flatI_0, flatI_1, flatS_get]; (try simp [*, -List.all_eq_true, awX, awL, Try.results12]))); refine hR.out _ ?_; clear hR R; (try rfl))
   | (refine rwf_ca rfl fun C' hC hP => ?_; (try simp [*, -List.all_eq_true, awX, awL]); (first | refine hP.out _ _ _ (h1) ?_ | (refine hC.out _ _ _ (h1) fun r s hq => ?_; obtain ⟨hq1, hq2⟩ := hq; rw [hq1, hq2]; clear hq1 hq2 s r) | refine hP.out _ _ _ (h2) ?_ | (refine hC.out _ _ _ (h2) fun r s hq => ?_; obtain ⟨hq1, hq2⟩ := hq; rw [hq1, hq2]; clear hq1 hq2 s r) | refine hP.out _ _ _ (h3) ?_ | (refine hC.out _ _ _ (h3) fun r s hq => ?_; obtain ⟨hq1, hq2⟩ := hq; rw [hq1, hq2]; clear hq1 hq2 s r) | refine hP.out _ _ _ (h4) ?_ | (refine hC.out _ _ _ (h4) fun r s hq => ?_; obtain ⟨hq1, hq2⟩ := hq; rw [hq1, hq2]; clear hq1 hq2 s r) | refine hP.out _ _ _ (h5) ?_ | (refine hC.out _ _ _ (h5) fun r s hq => ?_; obtain ⟨hq1, hq2⟩ := hq; rw [hq1, hq2]; clear hq1 hq2 s r) | refine hP.out _ _ _ (h6) ?_ | (refine hC.out _ _ _ (h6) fun r s hq => ?_; obtain ⟨hq1, hq2⟩ := hq; rw [hq1, hq2]; clear hq1 hq2 s r) | refine hP.out _ _ _ (h8) ?_ | (refine hC.out _ _ _ (h8) fun r s hq => ?_; obtain ⟨hq1, hq2⟩ := hq; rw [hq1, hq2]; clear hq1 hq2 s r) | refine hP.out _ _ _ (h9) ?_ | (refine hC.out _ _ _ (h9) fun r s hq => ?_; obtain ⟨hq1, hq2⟩ := hq; rw [hq1, hq2]; clear hq1 hq2 s r) | refine hP.out _ _ _ (ofPut_spec _ _) ?_ | (refine hC.out _ _ _ (ofPut_spec _ _) fun r s hq => ?_; obtain ⟨hq1, hq2⟩ := hq; rw [hq1, hq2]; clear hq1 hq2 s r) | refine hP.out _ _ _ (ofDel_spec _) ?_ | (refine hC.out _ _ _ (ofDel_spec _) fun r s hq => ?_; obtain ⟨hq1, hq2⟩ := hq; rw [hq1, hq2]; clear hq1 hq2 s r)); clear hP hC C')
   | ((first | refine rwf_cz rfl fun C' hC hP => ?_ | refine rwc_cz rfl fun C' hC hP => ?_); (try simp [*, -List.all_eq_true, awX, awL]); (first | refine hC.out _ _ _ (h1) ?_ | refine hP.out _ _ _ (h1) ?_ | refine hC.out _ _ _ (h2) ?_ | refine hP.out _ _ _ (h2) ?_ | refine hC.out _ _ _ (h3) ?_ | refine hP.out _ _ _ (h3) ?_ | refine hC.out _ _ _ (h4) ?_ | refine hP.out _ _ _ (h4) ?_ | refine hC.out _ _ _ (h5) ?_ | refine hP.out _ _ _ (h5) ?_ | refine hC.out _ _ _ (h6) ?_ | refine hP.out _ _ _ (h6) ?_ | refine hC.out _ _ _ (h8) ?_ | refine hP.out _ _ _ (h8) ?_ | refine hC.out _ _ _ (h9) ?_ | refine hP.out _ _ _ (h9) ?_ | refine hC.out _ _ _ (ofPut_spec _ _) ?_ | refine hP.out _ _ _ (ofPut_spec _ _) ?_ | refine hC.out _ _ _ (ofDel_spec _) ?_ | refine hP.out _ _ _ (ofDel_spec _) ?_); clear hP hC C'))
end Go.Proofs.Ytemijcjgdgdhjaa
