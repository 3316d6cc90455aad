/- The law BuffParts, walked. -/
import Derived.Test.YtemijcjgdgdhjaaWbe
import Derived.Test.YtemijcjgdgdhjaaPbp
namespace Go.Proofs.Ytemijcjgdgdhjaa
open Go.RowKit
set_option linter.unusedSimpArgs false
set_option maxRecDepth 10000

def allAt (u : List Msg) (ps : List Str) (k : Nat) : List Msg := match (lows ps)[k]? with
  | some lo => u.filter (below lo)
  | none => u
def restAt (u : List Msg) (ps : List Str) (k : Nat) : List Msg := match (lows ps)[k]? with
  | some lo => u.filter fun m => !below lo m
  | none => []
theorem allAt_zero (u : List Msg) (ps : List Str) : allAt u ps 0 = [] := by
  simp [allAt, lows, below, slt_nil]
theorem restAt_zero (u : List Msg) (ps : List Str) : restAt u ps 0 = u := by
  simp [restAt, lows, below, slt_nil]
theorem allAt_end (u : List Msg) (ps : List Str) : allAt u ps (ps.length + 1) = u ∧ restAt u ps (ps.length + 1) = [] := by
  simp [allAt, restAt, lows]
theorem allAt_sub (u : List Msg) (ps : List Str) (k : Nat) : (allAt u ps k).Sublist u ∧ (restAt u ps k).Sublist u := by
  unfold allAt restAt
  split <;> simp
theorem parts_step {u : List Msg} {ps : List Str} (hr : Rise u) (hv : ∀ x ∈ u, isMsg x = true) (hp : RiseS ps) {k : Nat} (hk : k < (partsM ps).length) :
    takeM (restAt u ps k) (partsM ps)[k].1 (partsM ps)[k].2 true = takeM u (partsM ps)[k].1 (partsM ps)[k].2 true ∧ takeM (restAt u ps k) (partsM ps)[k].1 (partsM ps)[k].2 false = restAt u ps (k + 1) ∧
    allAt u ps k ++ takeM u (partsM ps)[k].1 (partsM ps)[k].2 true = allAt u ps (k + 1) := by
  have hkey : ∀ x ∈ u, isKey x.key = true := fun x hx => by have := hv x hx; simp [isMsg] at this; exact this.1
  have hpw := rise_iff.1 hr
  have e : (partsM ps)[k] = ((lows ps)[k]'(by rw [parts_plain hp] at hk; simp [lows, tops] at hk ⊢; omega), (tops ps)[k]'(by rw [parts_plain hp] at hk; simp [lows, tops] at hk ⊢; omega)) := by
    simp only [parts_plain hp, List.getElem_zip]
  rw [e]
  have hl : k < (lows ps).length := by rw [parts_plain hp] at hk; simp [lows, tops] at hk ⊢; omega
  rw [parts_plain hp] at hk
  simp [lows, tops] at hk
  unfold allAt restAt
  simp only [List.getElem?_eq_getElem hl]
  rcases Nat.lt_or_ge k ps.length with h | h
  · have e2 : (tops ps)[k]'(by simp [tops]; omega) = ps[k] := by simp [tops, List.getElem_append_left h]
    have e3 : (lows ps)[k + 1]? = some ps[k] := by simp [lows]
    rw [e2, e3]
    have hne : ps[k] ≠ ⟨#[]⟩ := isKey_ne (hp.1 _ (List.getElem_mem h))
    have hlh : slt ps[k] (lows ps)[k] = false := by
      cases k with
      | zero => exact slt_nil _
      | succ j => exact slt_asymm (List.pairwise_iff_getElem.1 hp.2 j (j + 1) (by omega) h (by omega))
    obtain ⟨t1, t2⟩ := take_mid hkey (lo := (lows ps)[k]) hne
    exact ⟨t1.trans t2.symm, rest_mid hkey hne hlh, (congrArg (fun z => List.filter (below (lows ps)[k]) u ++ z) t2).trans (cut_two _ _ hlh u hpw)⟩
  · obtain rfl : k = ps.length := by omega
    have e2 : (tops ps)[ps.length]'(by simp [tops]) = ⟨#[]⟩ := by simp [tops]
    have e3 : (lows ps)[ps.length + 1]? = none := by simp [lows]
    rw [e2, e3]
    obtain ⟨t1, t2, t3⟩ := take_end hkey (lo := (lows ps)[ps.length])
    exact ⟨t1.trans t2.symm, t3, (congrArg (fun z => List.filter (below (lows ps)[ps.length]) u ++ z) t2).trans (cut_last _ u hpw)⟩
theorem mwts_pos (u : List Msg) : 3 * (u.length : Int) ≤ mwts u := by
  induction u with
  | nil => simp [mwts]
  | cons x u ih =>
    have : mwts (x :: u) = mwt x + mwts u := by simp [mwts]
    rw [this, List.length_cons]
    have : 3 ≤ mwt x := by unfold mwt; omega
    omega
theorem riseS_succ {ps : List Str} {k : Nat} (h : k < ps.length) (hr : RiseS (ps.take k)) (h1 : isKey ps[k] = true) (h2 : ∀ h0 : 0 < k, slt (ps[k - 1]'(by omega)) ps[k] = true) : RiseS (ps.take (k + 1)) := by
  rw [List.take_add_one, List.getElem?_eq_getElem h]
  refine ⟨fun p hp => ?_, List.pairwise_append.2 ⟨hr.2, by simp, fun a ha b hb => ?_⟩⟩
  · rcases List.mem_append.1 hp with hp | hp
    · exact hr.1 p hp
    · simp at hp; rw [hp]; exact h1
  · simp at hb
    subst hb
    obtain ⟨j, hj, rfl⟩ := List.mem_iff_getElem.1 ha
    simp at hj
    have h0 : 0 < k := by omega
    rw [List.getElem_take]
    rcases Nat.lt_or_ge j (k - 1) with hlt | hge
    · have := List.pairwise_iff_getElem.1 hr.2 j (k - 1) (by simp; omega) (by simp; omega) hlt
      rw [List.getElem_take, List.getElem_take] at this
      exact slt_trans this (h2 h0)
    · obtain rfl : j = k - 1 := by omega
      exact h2 h0
def bigS (s : Str) : Bool := decide (512 < s.size)
def wideM (l : List Str) : Bool := (l.take 21).any bigS || decide (20 < l.length)
theorem wideM_no {l : List Str} (h : wideM l = false) : l.length ≤ 20 := by
  unfold wideM at h
  rw [Bool.or_eq_false_iff] at h
  have := h.2; simp at this; omega
theorem wide_spec (l : List Str) : PSpec Try.prog 27 [.fs (flatS l) l.length] (.sc (.bool (wideM l))) := by
  refine spec_pure (by simp) (by simp) ?_
  refine spec_intro Try.func27 good27 rfl (by simp [Try.ntmps27]) ?_
  repeat' (first
   | (with_reducible first | refine tri_seq ?_ | refine then_n ?_ | refine then_e ?_ | refine then_r ?_ | refine block_n ?_ | refine block_r ?_ | refine block_e ?_ | refine block_x (by decide) ?_ | refine tri_block ?_ | refine tri_skip ?_ | refine tri_ret ?_ | refine tri_exit ?_ | refine rwf_nil ?_ | refine rwc_nil ?_ | refine ret_n ?_)
   | refine tri_reg [] ?_
   | refine tri_regc [] [] mixed (by decide +kernel) ?_
   | (refine rwf_boxm rfl fun B hB => ?_; (try simp [*, -List.all_eq_true]); (try (simp (disch := first | assumption | omega) only [wrap_id, wrapu_id, wrapb_id, tmod_nn, tdiv_nn, ite_yes, flatM_seg, flatM_0, flatM_1, flatM_2, flatI_seg, flatI_0, flatI_1, flatS_get]; (try simp [*, -List.all_eq_true]))); refine hB.out _ _ ?_; clear hB B)
   | refine rwf_o ?_
   | refine rwc_o _ rfl ?_
   | (refine rwf_nilt rfl (by decide +kernel) fun G hG => ?_; (try simp [*, -List.all_eq_true]); refine hG.out _ fun b => ?_; clear hG G)
   | ((first | refine rwf_a rfl fun B hB => ?_ | refine rwc_n rfl fun B hB => ?_ | refine rwc_z rfl fun B hB => ?_ | refine rwc_b rfl fun B hB => ?_ | refine rwc_w rfl fun B hB => ?_ | refine rwf_z rfl fun B hB => ?_); (try simp [*, -List.all_eq_true]); (try (simp (disch := first | assumption | omega) only [wrap_id, wrapu_id, wrapb_id, tmod_nn, tdiv_nn, ite_yes, flatM_seg, flatM_0, flatM_1, flatM_2, flatI_seg, flatI_0, flatI_1, flatS_get]; (try simp [*, -List.all_eq_true]))); (first | refine hB.out _ _ ?_ | refine hB.out _ ?_); clear hB B)
   | ((first | refine rwf_g rfl fun G hG hU => ?_ | refine rwc_g rfl fun G hG hU => ?_); (try simp [*, -List.all_eq_true]); first | (refine hU.out ⟨rfl, ?_⟩; clear hG hU G) | (refine hG.out _ (fun hb => ?_) (fun hb => ⟨rfl, ?_⟩) <;> clear hG hU G <;> (try simp only [Bool.not_true, Bool.not_false] at hb) <;> first | (exfalso; simp at hb; done) | (exfalso; simp at hb; omega) | (rw [hb]; (try simp at hb)) | (try simp at hb)))
   | (refine tri_if fun G hG => ?_; (try simp [*, -List.all_eq_true]); refine hG.out _ (fun hb => ?_) (fun hb => ?_) <;> clear hG G <;> (try simp only [Bool.not_true, Bool.not_false] at hb) <;> first | (exfalso; simp at hb; done) | (exfalso; simp at hb; omega) | (rw [hb]; (try simp at hb)) | (try simp at hb))
   | (refine ret_q fun R hR => ?_; (try simp [*, -List.all_eq_true, Try.results27]); (try (simp (disch := first | assumption | omega) only [wrap_id, wrapu_id, wrapb_id, tmod_nn, tdiv_nn, ite_yes, flatM_seg, flatM_0, flatM_1, flatM_2, flatI_seg, flatI_0, flatI_1, flatS_get]; (try simp [*, -List.all_eq_true, Try.results27]))); refine hR.out _ ?_; clear hR R; (try rfl)))
  refine tri_for [0] 21 (fun k e σ => σ = [] ∧ e 3 = .sc (.int .i64 k) ∧ (l.take k).any bigS = false) ?_ (fun k env' σ' hlt hk hI => ?_) (fun env' σ' hk hI => ?_)
  · exact ⟨by simp, by simp, by simp⟩
  · skip
    (try simp at hk)
    obtain ⟨rfl, h3, ha⟩ := hI
    by_cases hl2 : k < l.length
    · cases hB : bigS l[k] with
      | true =>
        have : wideM l = true := by
          unfold wideM
          rw [Bool.or_eq_true]; left
          rw [List.any_eq_true]
          refine ⟨l[k], ?_, hB⟩
          rw [List.mem_iff_getElem?]
          exact ⟨k, by rw [List.getElem?_take, if_pos (by omega), List.getElem?_eq_getElem hl2]⟩
        rw [this]
        simp [bigS] at hB
        repeat' (first
         | (with_reducible first | refine tri_seq ?_ | refine then_n ?_ | refine then_e ?_ | refine then_r ?_ | refine block_n ?_ | refine block_r ?_ | refine block_e ?_ | refine block_x (by decide) ?_ | refine tri_block ?_ | refine tri_skip ?_ | refine tri_ret ?_ | refine tri_exit ?_ | refine rwf_nil ?_ | refine rwc_nil ?_ | refine ret_n ?_)
         | refine tri_reg [] ?_
         | refine tri_regc [] [] mixed (by decide +kernel) ?_
         | (refine rwf_boxm rfl fun B hB => ?_; (try simp [*, -List.all_eq_true]); (try (simp (disch := first | assumption | omega) only [wrap_id, wrapu_id, wrapb_id, tmod_nn, tdiv_nn, ite_yes, flatM_seg, flatM_0, flatM_1, flatM_2, flatI_seg, flatI_0, flatI_1, flatS_get]; (try simp [*, -List.all_eq_true]))); refine hB.out _ _ ?_; clear hB B)
         | refine rwf_o ?_
         | refine rwc_o _ rfl ?_
         | (refine rwf_nilt rfl (by decide +kernel) fun G hG => ?_; (try simp [*, -List.all_eq_true]); refine hG.out _ fun b => ?_; clear hG G)
         | ((first | refine rwf_a rfl fun B hB => ?_ | refine rwc_n rfl fun B hB => ?_ | refine rwc_z rfl fun B hB => ?_ | refine rwc_b rfl fun B hB => ?_ | refine rwc_w rfl fun B hB => ?_ | refine rwf_z rfl fun B hB => ?_); (try simp [*, -List.all_eq_true]); (try (simp (disch := first | assumption | omega) only [wrap_id, wrapu_id, wrapb_id, tmod_nn, tdiv_nn, ite_yes, flatM_seg, flatM_0, flatM_1, flatM_2, flatI_seg, flatI_0, flatI_1, flatS_get]; (try simp [*, -List.all_eq_true]))); (first | refine hB.out _ _ ?_ | refine hB.out _ ?_); clear hB B)
         | ((first | refine rwf_g rfl fun G hG hU => ?_ | refine rwc_g rfl fun G hG hU => ?_); (try simp [*, -List.all_eq_true]); first | (refine hU.out ⟨rfl, ?_⟩; clear hG hU G) | (refine hG.out _ (fun hb => ?_) (fun hb => ⟨rfl, ?_⟩) <;> clear hG hU G <;> (try simp only [Bool.not_true, Bool.not_false] at hb) <;> first | (exfalso; simp at hb; done) | (exfalso; simp at hb; omega) | (rw [hb]; (try simp at hb)) | (try simp at hb)))
         | (refine tri_if fun G hG => ?_; (try simp [*, -List.all_eq_true]); refine hG.out _ (fun hb => ?_) (fun hb => ?_) <;> clear hG G <;> (try simp only [Bool.not_true, Bool.not_false] at hb) <;> first | (exfalso; simp at hb; done) | (exfalso; simp at hb; omega) | (rw [hb]; (try simp at hb)) | (try simp at hb))
         | (refine ret_q fun R hR => ?_; (try simp [*, -List.all_eq_true, Try.results27]); (try (simp (disch := first | assumption | omega) only [wrap_id, wrapu_id, wrapb_id, tmod_nn, tdiv_nn, ite_yes, flatM_seg, flatM_0, flatM_1, flatM_2, flatI_seg, flatI_0, flatI_1, flatS_get]; (try simp [*, -List.all_eq_true, Try.results27]))); refine hR.out _ ?_; clear hR R; (try rfl)))
      | false =>
        simp [bigS] at hB
        repeat' (first
         | (with_reducible first | refine tri_seq ?_ | refine then_n ?_ | refine then_e ?_ | refine then_r ?_ | refine block_n ?_ | refine block_r ?_ | refine block_e ?_ | refine block_x (by decide) ?_ | refine tri_block ?_ | refine tri_skip ?_ | refine tri_ret ?_ | refine tri_exit ?_ | refine rwf_nil ?_ | refine rwc_nil ?_ | refine ret_n ?_)
         | refine tri_reg [] ?_
         | refine tri_regc [] [] mixed (by decide +kernel) ?_
         | (refine rwf_boxm rfl fun B hB => ?_; (try simp [*, -List.all_eq_true]); (try (simp (disch := first | assumption | omega) only [wrap_id, wrapu_id, wrapb_id, tmod_nn, tdiv_nn, ite_yes, flatM_seg, flatM_0, flatM_1, flatM_2, flatI_seg, flatI_0, flatI_1, flatS_get]; (try simp [*, -List.all_eq_true]))); refine hB.out _ _ ?_; clear hB B)
         | refine rwf_o ?_
         | refine rwc_o _ rfl ?_
         | (refine rwf_nilt rfl (by decide +kernel) fun G hG => ?_; (try simp [*, -List.all_eq_true]); refine hG.out _ fun b => ?_; clear hG G)
         | ((first | refine rwf_a rfl fun B hB => ?_ | refine rwc_n rfl fun B hB => ?_ | refine rwc_z rfl fun B hB => ?_ | refine rwc_b rfl fun B hB => ?_ | refine rwc_w rfl fun B hB => ?_ | refine rwf_z rfl fun B hB => ?_); (try simp [*, -List.all_eq_true]); (try (simp (disch := first | assumption | omega) only [wrap_id, wrapu_id, wrapb_id, tmod_nn, tdiv_nn, ite_yes, flatM_seg, flatM_0, flatM_1, flatM_2, flatI_seg, flatI_0, flatI_1, flatS_get]; (try simp [*, -List.all_eq_true]))); (first | refine hB.out _ _ ?_ | refine hB.out _ ?_); clear hB B)
         | ((first | refine rwf_g rfl fun G hG hU => ?_ | refine rwc_g rfl fun G hG hU => ?_); (try simp [*, -List.all_eq_true]); first | (refine hU.out ⟨rfl, ?_⟩; clear hG hU G) | (refine hG.out _ (fun hb => ?_) (fun hb => ⟨rfl, ?_⟩) <;> clear hG hU G <;> (try simp only [Bool.not_true, Bool.not_false] at hb) <;> first | (exfalso; simp at hb; done) | (exfalso; simp at hb; omega) | (rw [hb]; (try simp at hb)) | (try simp at hb)))
         | (refine tri_if fun G hG => ?_; (try simp [*, -List.all_eq_true]); refine hG.out _ (fun hb => ?_) (fun hb => ?_) <;> clear hG G <;> (try simp only [Bool.not_true, Bool.not_false] at hb) <;> first | (exfalso; simp at hb; done) | (exfalso; simp at hb; omega) | (rw [hb]; (try simp at hb)) | (try simp at hb))
         | (refine ret_q fun R hR => ?_; (try simp [*, -List.all_eq_true, Try.results27]); (try (simp (disch := first | assumption | omega) only [wrap_id, wrapu_id, wrapb_id, tmod_nn, tdiv_nn, ite_yes, flatM_seg, flatM_0, flatM_1, flatM_2, flatI_seg, flatI_0, flatI_1, flatS_get]; (try simp [*, -List.all_eq_true, Try.results27]))); refine hR.out _ ?_; clear hR R; (try rfl)))
        exact ⟨by simp [*], rfl, by simp, by rw [List.take_add_one, List.getElem?_eq_getElem hl2, List.any_append, ha]; simp [bigS]; omega⟩
    · rw [List.take_of_length_le (by omega)] at ha
      repeat' (first
       | (with_reducible first | refine tri_seq ?_ | refine then_n ?_ | refine then_e ?_ | refine then_r ?_ | refine block_n ?_ | refine block_r ?_ | refine block_e ?_ | refine block_x (by decide) ?_ | refine tri_block ?_ | refine tri_skip ?_ | refine tri_ret ?_ | refine tri_exit ?_ | refine rwf_nil ?_ | refine rwc_nil ?_ | refine ret_n ?_)
       | refine tri_reg [] ?_
       | refine tri_regc [] [] mixed (by decide +kernel) ?_
       | (refine rwf_boxm rfl fun B hB => ?_; (try simp [*, -List.all_eq_true]); (try (simp (disch := first | assumption | omega) only [wrap_id, wrapu_id, wrapb_id, tmod_nn, tdiv_nn, ite_yes, flatM_seg, flatM_0, flatM_1, flatM_2, flatI_seg, flatI_0, flatI_1, flatS_get]; (try simp [*, -List.all_eq_true]))); refine hB.out _ _ ?_; clear hB B)
       | refine rwf_o ?_
       | refine rwc_o _ rfl ?_
       | (refine rwf_nilt rfl (by decide +kernel) fun G hG => ?_; (try simp [*, -List.all_eq_true]); refine hG.out _ fun b => ?_; clear hG G)
       | ((first | refine rwf_a rfl fun B hB => ?_ | refine rwc_n rfl fun B hB => ?_ | refine rwc_z rfl fun B hB => ?_ | refine rwc_b rfl fun B hB => ?_ | refine rwc_w rfl fun B hB => ?_ | refine rwf_z rfl fun B hB => ?_); (try simp [*, -List.all_eq_true]); (try (simp (disch := first | assumption | omega) only [wrap_id, wrapu_id, wrapb_id, tmod_nn, tdiv_nn, ite_yes, flatM_seg, flatM_0, flatM_1, flatM_2, flatI_seg, flatI_0, flatI_1, flatS_get]; (try simp [*, -List.all_eq_true]))); (first | refine hB.out _ _ ?_ | refine hB.out _ ?_); clear hB B)
       | ((first | refine rwf_g rfl fun G hG hU => ?_ | refine rwc_g rfl fun G hG hU => ?_); (try simp [*, -List.all_eq_true]); first | (refine hU.out ⟨rfl, ?_⟩; clear hG hU G) | (refine hG.out _ (fun hb => ?_) (fun hb => ⟨rfl, ?_⟩) <;> clear hG hU G <;> (try simp only [Bool.not_true, Bool.not_false] at hb) <;> first | (exfalso; simp at hb; done) | (exfalso; simp at hb; omega) | (rw [hb]; (try simp at hb)) | (try simp at hb)))
       | (refine tri_if fun G hG => ?_; (try simp [*, -List.all_eq_true]); refine hG.out _ (fun hb => ?_) (fun hb => ?_) <;> clear hG G <;> (try simp only [Bool.not_true, Bool.not_false] at hb) <;> first | (exfalso; simp at hb; done) | (exfalso; simp at hb; omega) | (rw [hb]; (try simp at hb)) | (try simp at hb))
       | (refine ret_q fun R hR => ?_; (try simp [*, -List.all_eq_true, Try.results27]); (try (simp (disch := first | assumption | omega) only [wrap_id, wrapu_id, wrapb_id, tmod_nn, tdiv_nn, ite_yes, flatM_seg, flatM_0, flatM_1, flatM_2, flatI_seg, flatI_0, flatI_1, flatS_get]; (try simp [*, -List.all_eq_true, Try.results27]))); refine hR.out _ ?_; clear hR R; (try rfl)))
      simp [wideM, List.take_of_length_le (show l.length ≤ 21 by omega), ha]
      omega
  · skip
    (try simp at hk)
    obtain ⟨rfl, h3, ha⟩ := hI
    by_cases hl2 : 21 < l.length
    · skip
      repeat' (first
       | (with_reducible first | refine tri_seq ?_ | refine then_n ?_ | refine then_e ?_ | refine then_r ?_ | refine block_n ?_ | refine block_r ?_ | refine block_e ?_ | refine block_x (by decide) ?_ | refine tri_block ?_ | refine tri_skip ?_ | refine tri_ret ?_ | refine tri_exit ?_ | refine rwf_nil ?_ | refine rwc_nil ?_ | refine ret_n ?_)
       | refine tri_reg [] ?_
       | refine tri_regc [] [] mixed (by decide +kernel) ?_
       | (refine rwf_boxm rfl fun B hB => ?_; (try simp [*, -List.all_eq_true]); (try (simp (disch := first | assumption | omega) only [wrap_id, wrapu_id, wrapb_id, tmod_nn, tdiv_nn, ite_yes, flatM_seg, flatM_0, flatM_1, flatM_2, flatI_seg, flatI_0, flatI_1, flatS_get]; (try simp [*, -List.all_eq_true]))); refine hB.out _ _ ?_; clear hB B)
       | refine rwf_o ?_
       | refine rwc_o _ rfl ?_
       | (refine rwf_nilt rfl (by decide +kernel) fun G hG => ?_; (try simp [*, -List.all_eq_true]); refine hG.out _ fun b => ?_; clear hG G)
       | ((first | refine rwf_a rfl fun B hB => ?_ | refine rwc_n rfl fun B hB => ?_ | refine rwc_z rfl fun B hB => ?_ | refine rwc_b rfl fun B hB => ?_ | refine rwc_w rfl fun B hB => ?_ | refine rwf_z rfl fun B hB => ?_); (try simp [*, -List.all_eq_true]); (try (simp (disch := first | assumption | omega) only [wrap_id, wrapu_id, wrapb_id, tmod_nn, tdiv_nn, ite_yes, flatM_seg, flatM_0, flatM_1, flatM_2, flatI_seg, flatI_0, flatI_1, flatS_get]; (try simp [*, -List.all_eq_true]))); (first | refine hB.out _ _ ?_ | refine hB.out _ ?_); clear hB B)
       | ((first | refine rwf_g rfl fun G hG hU => ?_ | refine rwc_g rfl fun G hG hU => ?_); (try simp [*, -List.all_eq_true]); first | (refine hU.out ⟨rfl, ?_⟩; clear hG hU G) | (refine hG.out _ (fun hb => ?_) (fun hb => ⟨rfl, ?_⟩) <;> clear hG hU G <;> (try simp only [Bool.not_true, Bool.not_false] at hb) <;> first | (exfalso; simp at hb; done) | (exfalso; simp at hb; omega) | (rw [hb]; (try simp at hb)) | (try simp at hb)))
       | (refine tri_if fun G hG => ?_; (try simp [*, -List.all_eq_true]); refine hG.out _ (fun hb => ?_) (fun hb => ?_) <;> clear hG G <;> (try simp only [Bool.not_true, Bool.not_false] at hb) <;> first | (exfalso; simp at hb; done) | (exfalso; simp at hb; omega) | (rw [hb]; (try simp at hb)) | (try simp at hb))
       | (refine ret_q fun R hR => ?_; (try simp [*, -List.all_eq_true, Try.results27]); (try (simp (disch := first | assumption | omega) only [wrap_id, wrapu_id, wrapb_id, tmod_nn, tdiv_nn, ite_yes, flatM_seg, flatM_0, flatM_1, flatM_2, flatI_seg, flatI_0, flatI_1, flatS_get]; (try simp [*, -List.all_eq_true, Try.results27]))); refine hR.out _ ?_; clear hR R; (try rfl)))
      simp [wideM, ha]; omega
    · skip
      repeat' (first
       | (with_reducible first | refine tri_seq ?_ | refine then_n ?_ | refine then_e ?_ | refine then_r ?_ | refine block_n ?_ | refine block_r ?_ | refine block_e ?_ | refine block_x (by decide) ?_ | refine tri_block ?_ | refine tri_skip ?_ | refine tri_ret ?_ | refine tri_exit ?_ | refine rwf_nil ?_ | refine rwc_nil ?_ | refine ret_n ?_)
       | refine tri_reg [] ?_
       | refine tri_regc [] [] mixed (by decide +kernel) ?_
       | (refine rwf_boxm rfl fun B hB => ?_; (try simp [*, -List.all_eq_true]); (try (simp (disch := first | assumption | omega) only [wrap_id, wrapu_id, wrapb_id, tmod_nn, tdiv_nn, ite_yes, flatM_seg, flatM_0, flatM_1, flatM_2, flatI_seg, flatI_0, flatI_1, flatS_get]; (try simp [*, -List.all_eq_true]))); refine hB.out _ _ ?_; clear hB B)
       | refine rwf_o ?_
       | refine rwc_o _ rfl ?_
       | (refine rwf_nilt rfl (by decide +kernel) fun G hG => ?_; (try simp [*, -List.all_eq_true]); refine hG.out _ fun b => ?_; clear hG G)
       | ((first | refine rwf_a rfl fun B hB => ?_ | refine rwc_n rfl fun B hB => ?_ | refine rwc_z rfl fun B hB => ?_ | refine rwc_b rfl fun B hB => ?_ | refine rwc_w rfl fun B hB => ?_ | refine rwf_z rfl fun B hB => ?_); (try simp [*, -List.all_eq_true]); (try (simp (disch := first | assumption | omega) only [wrap_id, wrapu_id, wrapb_id, tmod_nn, tdiv_nn, ite_yes, flatM_seg, flatM_0, flatM_1, flatM_2, flatI_seg, flatI_0, flatI_1, flatS_get]; (try simp [*, -List.all_eq_true]))); (first | refine hB.out _ _ ?_ | refine hB.out _ ?_); clear hB B)
       | ((first | refine rwf_g rfl fun G hG hU => ?_ | refine rwc_g rfl fun G hG hU => ?_); (try simp [*, -List.all_eq_true]); first | (refine hU.out ⟨rfl, ?_⟩; clear hG hU G) | (refine hG.out _ (fun hb => ?_) (fun hb => ⟨rfl, ?_⟩) <;> clear hG hU G <;> (try simp only [Bool.not_true, Bool.not_false] at hb) <;> first | (exfalso; simp at hb; done) | (exfalso; simp at hb; omega) | (rw [hb]; (try simp at hb)) | (try simp at hb)))
       | (refine tri_if fun G hG => ?_; (try simp [*, -List.all_eq_true]); refine hG.out _ (fun hb => ?_) (fun hb => ?_) <;> clear hG G <;> (try simp only [Bool.not_true, Bool.not_false] at hb) <;> first | (exfalso; simp at hb; done) | (exfalso; simp at hb; omega) | (rw [hb]; (try simp at hb)) | (try simp at hb))
       | (refine ret_q fun R hR => ?_; (try simp [*, -List.all_eq_true, Try.results27]); (try (simp (disch := first | assumption | omega) only [wrap_id, wrapu_id, wrapb_id, tmod_nn, tdiv_nn, ite_yes, flatM_seg, flatM_0, flatM_1, flatM_2, flatI_seg, flatI_0, flatI_1, flatS_get]; (try simp [*, -List.all_eq_true, Try.results27]))); refine hR.out _ ?_; clear hR R; (try rfl)))
      simp [wideM, ha]; omega
theorem parts_len {ps : List Str} (hp : RiseS ps) : (partsM ps).length = ps.length + 1 := by rw [parts_plain hp]; simp [lows, tops]
set_option maxHeartbeats 8000000 in
theorem buffParts_spec (l : List Msg) (ps : List Str) (hl : l.length ≤ 9223372036854775807) :
    PSpec Try.prog 4 [.fs (flatM l) l.length, .fs (flatS ps) ps.length] (.sc (.bool true)) := by
  have e1 := heavy_spec l hl
  have e2 := wide_spec ps
  refine spec_pure (by simp) (by simp) ?_
  refine spec_intro Try.func4 good4 rfl (by simp [Try.ntmps4]) ?_
  cases g1 : heavyM l with
  | true =>
    rw [g1] at e1
    repeat' (first
     | (with_reducible first | refine tri_seq ?_ | refine then_n ?_ | refine then_e ?_ | refine then_r ?_ | refine block_n ?_ | refine block_r ?_ | refine block_e ?_ | refine block_x (by decide) ?_ | refine tri_block ?_ | refine tri_skip ?_ | refine tri_ret ?_ | refine tri_exit ?_ | refine rwf_nil ?_ | refine rwc_nil ?_ | refine ret_n ?_)
     | refine tri_reg [] ?_
     | refine tri_regc [] [] mixed (by decide +kernel) ?_
     | (refine rwf_boxm rfl fun B hB => ?_; (try simp [*, -List.all_eq_true]); (try (simp (disch := first | assumption | omega) only [wrap_id, wrapu_id, wrapb_id, tmod_nn, tdiv_nn, ite_yes, flatM_seg, flatM_0, flatM_1, flatM_2, flatI_seg, flatI_0, flatI_1, flatS_get]; (try simp [*, -List.all_eq_true]))); refine hB.out _ _ ?_; clear hB B)
     | refine rwf_o ?_
     | refine rwc_o _ rfl ?_
     | (refine rwf_nilt rfl (by decide +kernel) fun G hG => ?_; (try simp [*, -List.all_eq_true]); refine hG.out _ fun b => ?_; clear hG G)
     | ((first | refine rwf_a rfl fun B hB => ?_ | refine rwc_n rfl fun B hB => ?_ | refine rwc_z rfl fun B hB => ?_ | refine rwc_b rfl fun B hB => ?_ | refine rwc_w rfl fun B hB => ?_ | refine rwf_z rfl fun B hB => ?_); (try simp [*, -List.all_eq_true]); (try (simp (disch := first | assumption | omega) only [wrap_id, wrapu_id, wrapb_id, tmod_nn, tdiv_nn, ite_yes, flatM_seg, flatM_0, flatM_1, flatM_2, flatI_seg, flatI_0, flatI_1, flatS_get]; (try simp [*, -List.all_eq_true]))); (first | refine hB.out _ _ ?_ | refine hB.out _ ?_); clear hB B)
     | ((first | refine rwf_g rfl fun G hG hU => ?_ | refine rwc_g rfl fun G hG hU => ?_); (try simp [*, -List.all_eq_true]); first | (refine hU.out ⟨rfl, ?_⟩; clear hG hU G) | (refine hG.out _ (fun hb => ?_) (fun hb => ⟨rfl, ?_⟩) <;> clear hG hU G <;> (try simp only [Bool.not_true, Bool.not_false] at hb) <;> first | (exfalso; simp at hb; done) | (exfalso; simp at hb; omega) | (rw [hb]; (try simp at hb)) | (try simp at hb)))
     | (refine tri_if fun G hG => ?_; (try simp [*, -List.all_eq_true]); refine hG.out _ (fun hb => ?_) (fun hb => ?_) <;> clear hG G <;> (try simp only [Bool.not_true, Bool.not_false] at hb) <;> first | (exfalso; simp at hb; done) | (exfalso; simp at hb; omega) | (rw [hb]; (try simp at hb)) | (try simp at hb))
     | (refine ret_q fun R hR => ?_; (try simp [*, -List.all_eq_true, Try.results4]); (try (simp (disch := first | assumption | omega) only [wrap_id, wrapu_id, wrapb_id, tmod_nn, tdiv_nn, ite_yes, flatM_seg, flatM_0, flatM_1, flatM_2, flatI_seg, flatI_0, flatI_1, flatS_get]; (try simp [*, -List.all_eq_true, Try.results4]))); refine hR.out _ ?_; clear hR R; (try rfl))
     | (refine rwf_ca rfl fun C' hC hP => ?_; (try simp [*, -List.all_eq_true]); (first | refine hP.out _ _ _ (awake_spec) ?_ | (refine hC.out _ _ _ (awake_spec) fun r s hq => ?_; obtain ⟨hq1, hq2⟩ := hq; rw [hq1, hq2]; clear hq1 hq2 s r) | refine hP.out _ _ _ (e1) ?_ | (refine hC.out _ _ _ (e1) fun r s hq => ?_; obtain ⟨hq1, hq2⟩ := hq; rw [hq1, hq2]; clear hq1 hq2 s r)); clear hP hC C')
     | ((first | refine rwf_cz rfl fun C' hC hP => ?_ | refine rwc_cz rfl fun C' hC hP => ?_); (try simp [*, -List.all_eq_true]); (first | refine hC.out _ _ _ (awake_spec) ?_ | refine hP.out _ _ _ (awake_spec) ?_ | refine hC.out _ _ _ (e1) ?_ | refine hP.out _ _ _ (e1) ?_); clear hP hC C'))
  | false =>
  cases g2 : wideM ps with
  | true =>
    rw [g1] at e1
    rw [g2] at e2
    repeat' (first
     | (with_reducible first | refine tri_seq ?_ | refine then_n ?_ | refine then_e ?_ | refine then_r ?_ | refine block_n ?_ | refine block_r ?_ | refine block_e ?_ | refine block_x (by decide) ?_ | refine tri_block ?_ | refine tri_skip ?_ | refine tri_ret ?_ | refine tri_exit ?_ | refine rwf_nil ?_ | refine rwc_nil ?_ | refine ret_n ?_)
     | refine tri_reg [] ?_
     | refine tri_regc [] [] mixed (by decide +kernel) ?_
     | (refine rwf_boxm rfl fun B hB => ?_; (try simp [*, -List.all_eq_true]); (try (simp (disch := first | assumption | omega) only [wrap_id, wrapu_id, wrapb_id, tmod_nn, tdiv_nn, ite_yes, flatM_seg, flatM_0, flatM_1, flatM_2, flatI_seg, flatI_0, flatI_1, flatS_get]; (try simp [*, -List.all_eq_true]))); refine hB.out _ _ ?_; clear hB B)
     | refine rwf_o ?_
     | refine rwc_o _ rfl ?_
     | (refine rwf_nilt rfl (by decide +kernel) fun G hG => ?_; (try simp [*, -List.all_eq_true]); refine hG.out _ fun b => ?_; clear hG G)
     | ((first | refine rwf_a rfl fun B hB => ?_ | refine rwc_n rfl fun B hB => ?_ | refine rwc_z rfl fun B hB => ?_ | refine rwc_b rfl fun B hB => ?_ | refine rwc_w rfl fun B hB => ?_ | refine rwf_z rfl fun B hB => ?_); (try simp [*, -List.all_eq_true]); (try (simp (disch := first | assumption | omega) only [wrap_id, wrapu_id, wrapb_id, tmod_nn, tdiv_nn, ite_yes, flatM_seg, flatM_0, flatM_1, flatM_2, flatI_seg, flatI_0, flatI_1, flatS_get]; (try simp [*, -List.all_eq_true]))); (first | refine hB.out _ _ ?_ | refine hB.out _ ?_); clear hB B)
     | ((first | refine rwf_g rfl fun G hG hU => ?_ | refine rwc_g rfl fun G hG hU => ?_); (try simp [*, -List.all_eq_true]); first | (refine hU.out ⟨rfl, ?_⟩; clear hG hU G) | (refine hG.out _ (fun hb => ?_) (fun hb => ⟨rfl, ?_⟩) <;> clear hG hU G <;> (try simp only [Bool.not_true, Bool.not_false] at hb) <;> first | (exfalso; simp at hb; done) | (exfalso; simp at hb; omega) | (rw [hb]; (try simp at hb)) | (try simp at hb)))
     | (refine tri_if fun G hG => ?_; (try simp [*, -List.all_eq_true]); refine hG.out _ (fun hb => ?_) (fun hb => ?_) <;> clear hG G <;> (try simp only [Bool.not_true, Bool.not_false] at hb) <;> first | (exfalso; simp at hb; done) | (exfalso; simp at hb; omega) | (rw [hb]; (try simp at hb)) | (try simp at hb))
     | (refine ret_q fun R hR => ?_; (try simp [*, -List.all_eq_true, Try.results4]); (try (simp (disch := first | assumption | omega) only [wrap_id, wrapu_id, wrapb_id, tmod_nn, tdiv_nn, ite_yes, flatM_seg, flatM_0, flatM_1, flatM_2, flatI_seg, flatI_0, flatI_1, flatS_get]; (try simp [*, -List.all_eq_true, Try.results4]))); refine hR.out _ ?_; clear hR R; (try rfl))
     | (refine rwf_ca rfl fun C' hC hP => ?_; (try simp [*, -List.all_eq_true]); (first | refine hP.out _ _ _ (awake_spec) ?_ | (refine hC.out _ _ _ (awake_spec) fun r s hq => ?_; obtain ⟨hq1, hq2⟩ := hq; rw [hq1, hq2]; clear hq1 hq2 s r) | refine hP.out _ _ _ (e1) ?_ | (refine hC.out _ _ _ (e1) fun r s hq => ?_; obtain ⟨hq1, hq2⟩ := hq; rw [hq1, hq2]; clear hq1 hq2 s r) | refine hP.out _ _ _ (e2) ?_ | (refine hC.out _ _ _ (e2) fun r s hq => ?_; obtain ⟨hq1, hq2⟩ := hq; rw [hq1, hq2]; clear hq1 hq2 s r)); clear hP hC C')
     | ((first | refine rwf_cz rfl fun C' hC hP => ?_ | refine rwc_cz rfl fun C' hC hP => ?_); (try simp [*, -List.all_eq_true]); (first | refine hC.out _ _ _ (awake_spec) ?_ | refine hP.out _ _ _ (awake_spec) ?_ | refine hC.out _ _ _ (e1) ?_ | refine hP.out _ _ _ (e1) ?_ | refine hC.out _ _ _ (e2) ?_ | refine hP.out _ _ _ (e2) ?_); clear hP hC C'))
  | false =>
  rw [g1] at e1
  rw [g2] at e2
  obtain ⟨l1, l2⟩ := heavyM_no g1
  have p1 := wideM_no g2
  repeat' (first
   | (with_reducible first | refine tri_seq ?_ | refine then_n ?_ | refine then_e ?_ | refine then_r ?_ | refine block_n ?_ | refine block_r ?_ | refine block_e ?_ | refine block_x (by decide) ?_ | refine tri_block ?_ | refine tri_skip ?_ | refine tri_ret ?_ | refine tri_exit ?_ | refine rwf_nil ?_ | refine rwc_nil ?_ | refine ret_n ?_)
   | refine tri_reg [] ?_
   | refine tri_regc [] [] mixed (by decide +kernel) ?_
   | (refine rwf_boxm rfl fun B hB => ?_; (try simp [*, -List.all_eq_true]); (try (simp (disch := first | assumption | omega) only [wrap_id, wrapu_id, wrapb_id, tmod_nn, tdiv_nn, ite_yes, flatM_seg, flatM_0, flatM_1, flatM_2, flatI_seg, flatI_0, flatI_1, flatS_get]; (try simp [*, -List.all_eq_true]))); refine hB.out _ _ ?_; clear hB B)
   | refine rwf_o ?_
   | refine rwc_o _ rfl ?_
   | (refine rwf_nilt rfl (by decide +kernel) fun G hG => ?_; (try simp [*, -List.all_eq_true]); refine hG.out _ fun b => ?_; clear hG G)
   | ((first | refine rwf_a rfl fun B hB => ?_ | refine rwc_n rfl fun B hB => ?_ | refine rwc_z rfl fun B hB => ?_ | refine rwc_b rfl fun B hB => ?_ | refine rwc_w rfl fun B hB => ?_ | refine rwf_z rfl fun B hB => ?_); (try simp [*, -List.all_eq_true]); (try (simp (disch := first | assumption | omega) only [wrap_id, wrapu_id, wrapb_id, tmod_nn, tdiv_nn, ite_yes, flatM_seg, flatM_0, flatM_1, flatM_2, flatI_seg, flatI_0, flatI_1, flatS_get]; (try simp [*, -List.all_eq_true]))); (first | refine hB.out _ _ ?_ | refine hB.out _ ?_); clear hB B)
   | ((first | refine rwf_g rfl fun G hG hU => ?_ | refine rwc_g rfl fun G hG hU => ?_); (try simp [*, -List.all_eq_true]); first | (refine hU.out ⟨rfl, ?_⟩; clear hG hU G) | (refine hG.out _ (fun hb => ?_) (fun hb => ⟨rfl, ?_⟩) <;> clear hG hU G <;> (try simp only [Bool.not_true, Bool.not_false] at hb) <;> first | (exfalso; simp at hb; done) | (exfalso; simp at hb; omega) | (rw [hb]; (try simp at hb)) | (try simp at hb)))
   | (refine tri_if fun G hG => ?_; (try simp [*, -List.all_eq_true]); refine hG.out _ (fun hb => ?_) (fun hb => ?_) <;> clear hG G <;> (try simp only [Bool.not_true, Bool.not_false] at hb) <;> first | (exfalso; simp at hb; done) | (exfalso; simp at hb; omega) | (rw [hb]; (try simp at hb)) | (try simp at hb))
   | (refine ret_q fun R hR => ?_; (try simp [*, -List.all_eq_true, Try.results4]); (try (simp (disch := first | assumption | omega) only [wrap_id, wrapu_id, wrapb_id, tmod_nn, tdiv_nn, ite_yes, flatM_seg, flatM_0, flatM_1, flatM_2, flatI_seg, flatI_0, flatI_1, flatS_get]; (try simp [*, -List.all_eq_true, Try.results4]))); refine hR.out _ ?_; clear hR R; (try rfl))
   | (refine rwf_ca rfl fun C' hC hP => ?_; (try simp [*, -List.all_eq_true]); (first | refine hP.out _ _ _ (awake_spec) ?_ | (refine hC.out _ _ _ (awake_spec) fun r s hq => ?_; obtain ⟨hq1, hq2⟩ := hq; rw [hq1, hq2]; clear hq1 hq2 s r) | refine hP.out _ _ _ (e1) ?_ | (refine hC.out _ _ _ (e1) fun r s hq => ?_; obtain ⟨hq1, hq2⟩ := hq; rw [hq1, hq2]; clear hq1 hq2 s r) | refine hP.out _ _ _ (e2) ?_ | (refine hC.out _ _ _ (e2) fun r s hq => ?_; obtain ⟨hq1, hq2⟩ := hq; rw [hq1, hq2]; clear hq1 hq2 s r)); clear hP hC C')
   | ((first | refine rwf_cz rfl fun C' hC hP => ?_ | refine rwc_cz rfl fun C' hC hP => ?_); (try simp [*, -List.all_eq_true]); (first | refine hC.out _ _ _ (awake_spec) ?_ | refine hP.out _ _ _ (awake_spec) ?_ | refine hC.out _ _ _ (e1) ?_ | refine hP.out _ _ _ (e1) ?_ | refine hC.out _ _ _ (e2) ?_ | refine hP.out _ _ _ (e2) ?_); clear hP hC C'))
  clear e1 e2
  refine tri_for [0, 1] ps.length (fun k e σ => σ = [] ∧ e 5 = .sc (.int .i64 k) ∧ RiseS (ps.take k)) ?_ (fun k env' σ' hlt hk hI => ?_) (fun env' σ' hk hI => ?_)
  · exact ⟨by simp, by simp, by simp [RiseS]⟩
  · skip
    (try simp at hk)
    obtain ⟨rfl, h5, hr⟩ := hI
    cases hK : isKey ps[k] with
    | false =>
      have := keyIs_spec ps[k]
      rw [hK] at this
      repeat' (first
       | (with_reducible first | refine tri_seq ?_ | refine then_n ?_ | refine then_e ?_ | refine then_r ?_ | refine block_n ?_ | refine block_r ?_ | refine block_e ?_ | refine block_x (by decide) ?_ | refine tri_block ?_ | refine tri_skip ?_ | refine tri_ret ?_ | refine tri_exit ?_ | refine rwf_nil ?_ | refine rwc_nil ?_ | refine ret_n ?_)
       | refine tri_reg [] ?_
       | refine tri_regc [] [] mixed (by decide +kernel) ?_
       | (refine rwf_boxm rfl fun B hB => ?_; (try simp [*, -List.all_eq_true]); (try (simp (disch := first | assumption | omega) only [wrap_id, wrapu_id, wrapb_id, tmod_nn, tdiv_nn, ite_yes, flatM_seg, flatM_0, flatM_1, flatM_2, flatI_seg, flatI_0, flatI_1, flatS_get]; (try simp [*, -List.all_eq_true]))); refine hB.out _ _ ?_; clear hB B)
       | refine rwf_o ?_
       | refine rwc_o _ rfl ?_
       | (refine rwf_nilt rfl (by decide +kernel) fun G hG => ?_; (try simp [*, -List.all_eq_true]); refine hG.out _ fun b => ?_; clear hG G)
       | ((first | refine rwf_a rfl fun B hB => ?_ | refine rwc_n rfl fun B hB => ?_ | refine rwc_z rfl fun B hB => ?_ | refine rwc_b rfl fun B hB => ?_ | refine rwc_w rfl fun B hB => ?_ | refine rwf_z rfl fun B hB => ?_); (try simp [*, -List.all_eq_true]); (try (simp (disch := first | assumption | omega) only [wrap_id, wrapu_id, wrapb_id, tmod_nn, tdiv_nn, ite_yes, flatM_seg, flatM_0, flatM_1, flatM_2, flatI_seg, flatI_0, flatI_1, flatS_get]; (try simp [*, -List.all_eq_true]))); (first | refine hB.out _ _ ?_ | refine hB.out _ ?_); clear hB B)
       | ((first | refine rwf_g rfl fun G hG hU => ?_ | refine rwc_g rfl fun G hG hU => ?_); (try simp [*, -List.all_eq_true]); first | (refine hU.out ⟨rfl, ?_⟩; clear hG hU G) | (refine hG.out _ (fun hb => ?_) (fun hb => ⟨rfl, ?_⟩) <;> clear hG hU G <;> (try simp only [Bool.not_true, Bool.not_false] at hb) <;> first | (exfalso; simp at hb; done) | (exfalso; simp at hb; omega) | (rw [hb]; (try simp at hb)) | (try simp at hb)))
       | (refine tri_if fun G hG => ?_; (try simp [*, -List.all_eq_true]); refine hG.out _ (fun hb => ?_) (fun hb => ?_) <;> clear hG G <;> (try simp only [Bool.not_true, Bool.not_false] at hb) <;> first | (exfalso; simp at hb; done) | (exfalso; simp at hb; omega) | (rw [hb]; (try simp at hb)) | (try simp at hb))
       | (refine ret_q fun R hR => ?_; (try simp [*, -List.all_eq_true, Try.results4]); (try (simp (disch := first | assumption | omega) only [wrap_id, wrapu_id, wrapb_id, tmod_nn, tdiv_nn, ite_yes, flatM_seg, flatM_0, flatM_1, flatM_2, flatI_seg, flatI_0, flatI_1, flatS_get]; (try simp [*, -List.all_eq_true, Try.results4]))); refine hR.out _ ?_; clear hR R; (try rfl))
       | (refine rwf_ca rfl fun C' hC hP => ?_; (try simp [*, -List.all_eq_true]); (first | refine hP.out _ _ _ (this) ?_ | (refine hC.out _ _ _ (this) fun r s hq => ?_; obtain ⟨hq1, hq2⟩ := hq; rw [hq1, hq2]; clear hq1 hq2 s r)); clear hP hC C')
       | ((first | refine rwf_cz rfl fun C' hC hP => ?_ | refine rwc_cz rfl fun C' hC hP => ?_); (try simp [*, -List.all_eq_true]); (first | refine hC.out _ _ _ (this) ?_ | refine hP.out _ _ _ (this) ?_); clear hP hC C'))
    | true =>
      have hks := keyIs_spec ps[k]
      rw [hK] at hks
      by_cases h0 : 0 < k
      · have hc : (k : Int) - 1 = ((k - 1 : Nat) : Int) := by omega
        have hlt' : k - 1 < ps.length := by omega
        cases hS : slt ps[k - 1] ps[k] with
        | false =>
          repeat' (first
           | (with_reducible first | refine tri_seq ?_ | refine then_n ?_ | refine then_e ?_ | refine then_r ?_ | refine block_n ?_ | refine block_r ?_ | refine block_e ?_ | refine block_x (by decide) ?_ | refine tri_block ?_ | refine tri_skip ?_ | refine tri_ret ?_ | refine tri_exit ?_ | refine rwf_nil ?_ | refine rwc_nil ?_ | refine ret_n ?_)
           | refine tri_reg [] ?_
           | refine tri_regc [] [] mixed (by decide +kernel) ?_
           | (refine rwf_boxm rfl fun B hB => ?_; (try simp [*, -List.all_eq_true]); (try (simp (disch := first | assumption | omega) only [wrap_id, wrapu_id, wrapb_id, tmod_nn, tdiv_nn, ite_yes, flatM_seg, flatM_0, flatM_1, flatM_2, flatI_seg, flatI_0, flatI_1, flatS_get]; (try simp [*, -List.all_eq_true]))); refine hB.out _ _ ?_; clear hB B)
           | refine rwf_o ?_
           | refine rwc_o _ rfl ?_
           | (refine rwf_nilt rfl (by decide +kernel) fun G hG => ?_; (try simp [*, -List.all_eq_true]); refine hG.out _ fun b => ?_; clear hG G)
           | ((first | refine rwf_a rfl fun B hB => ?_ | refine rwc_n rfl fun B hB => ?_ | refine rwc_z rfl fun B hB => ?_ | refine rwc_b rfl fun B hB => ?_ | refine rwc_w rfl fun B hB => ?_ | refine rwf_z rfl fun B hB => ?_); (try simp [*, -List.all_eq_true]); (try (simp (disch := first | assumption | omega) only [wrap_id, wrapu_id, wrapb_id, tmod_nn, tdiv_nn, ite_yes, flatM_seg, flatM_0, flatM_1, flatM_2, flatI_seg, flatI_0, flatI_1, flatS_get]; (try simp [*, -List.all_eq_true]))); (first | refine hB.out _ _ ?_ | refine hB.out _ ?_); clear hB B)
           | ((first | refine rwf_g rfl fun G hG hU => ?_ | refine rwc_g rfl fun G hG hU => ?_); (try simp [*, -List.all_eq_true]); first | (refine hU.out ⟨rfl, ?_⟩; clear hG hU G) | (refine hG.out _ (fun hb => ?_) (fun hb => ⟨rfl, ?_⟩) <;> clear hG hU G <;> (try simp only [Bool.not_true, Bool.not_false] at hb) <;> first | (exfalso; simp at hb; done) | (exfalso; simp at hb; omega) | (rw [hb]; (try simp at hb)) | (try simp at hb)))
           | (refine tri_if fun G hG => ?_; (try simp [*, -List.all_eq_true]); refine hG.out _ (fun hb => ?_) (fun hb => ?_) <;> clear hG G <;> (try simp only [Bool.not_true, Bool.not_false] at hb) <;> first | (exfalso; simp at hb; done) | (exfalso; simp at hb; omega) | (rw [hb]; (try simp at hb)) | (try simp at hb))
           | (refine ret_q fun R hR => ?_; (try simp [*, -List.all_eq_true, Try.results4]); (try (simp (disch := first | assumption | omega) only [wrap_id, wrapu_id, wrapb_id, tmod_nn, tdiv_nn, ite_yes, flatM_seg, flatM_0, flatM_1, flatM_2, flatI_seg, flatI_0, flatI_1, flatS_get]; (try simp [*, -List.all_eq_true, Try.results4]))); refine hR.out _ ?_; clear hR R; (try rfl))
           | (refine rwf_ca rfl fun C' hC hP => ?_; (try simp [*, -List.all_eq_true]); (first | refine hP.out _ _ _ (hks) ?_ | (refine hC.out _ _ _ (hks) fun r s hq => ?_; obtain ⟨hq1, hq2⟩ := hq; rw [hq1, hq2]; clear hq1 hq2 s r)); clear hP hC C')
           | ((first | refine rwf_cz rfl fun C' hC hP => ?_ | refine rwc_cz rfl fun C' hC hP => ?_); (try simp [*, -List.all_eq_true]); (first | refine hC.out _ _ _ (hks) ?_ | refine hP.out _ _ _ (hks) ?_); clear hP hC C'))
          all_goals done
        | true =>
          have hS2 := slt_asymm hS
          have hS3 := slt_ne hS
          repeat' (first
           | (with_reducible first | refine tri_seq ?_ | refine then_n ?_ | refine then_e ?_ | refine then_r ?_ | refine block_n ?_ | refine block_r ?_ | refine block_e ?_ | refine block_x (by decide) ?_ | refine tri_block ?_ | refine tri_skip ?_ | refine tri_ret ?_ | refine tri_exit ?_ | refine rwf_nil ?_ | refine rwc_nil ?_ | refine ret_n ?_)
           | refine tri_reg [] ?_
           | refine tri_regc [] [] mixed (by decide +kernel) ?_
           | (refine rwf_boxm rfl fun B hB => ?_; (try simp [*, -List.all_eq_true]); (try (simp (disch := first | assumption | omega) only [wrap_id, wrapu_id, wrapb_id, tmod_nn, tdiv_nn, ite_yes, flatM_seg, flatM_0, flatM_1, flatM_2, flatI_seg, flatI_0, flatI_1, flatS_get]; (try simp [*, -List.all_eq_true]))); refine hB.out _ _ ?_; clear hB B)
           | refine rwf_o ?_
           | refine rwc_o _ rfl ?_
           | (refine rwf_nilt rfl (by decide +kernel) fun G hG => ?_; (try simp [*, -List.all_eq_true]); refine hG.out _ fun b => ?_; clear hG G)
           | ((first | refine rwf_a rfl fun B hB => ?_ | refine rwc_n rfl fun B hB => ?_ | refine rwc_z rfl fun B hB => ?_ | refine rwc_b rfl fun B hB => ?_ | refine rwc_w rfl fun B hB => ?_ | refine rwf_z rfl fun B hB => ?_); (try simp [*, -List.all_eq_true]); (try (simp (disch := first | assumption | omega) only [wrap_id, wrapu_id, wrapb_id, tmod_nn, tdiv_nn, ite_yes, flatM_seg, flatM_0, flatM_1, flatM_2, flatI_seg, flatI_0, flatI_1, flatS_get]; (try simp [*, -List.all_eq_true]))); (first | refine hB.out _ _ ?_ | refine hB.out _ ?_); clear hB B)
           | ((first | refine rwf_g rfl fun G hG hU => ?_ | refine rwc_g rfl fun G hG hU => ?_); (try simp [*, -List.all_eq_true]); first | (refine hU.out ⟨rfl, ?_⟩; clear hG hU G) | (refine hG.out _ (fun hb => ?_) (fun hb => ⟨rfl, ?_⟩) <;> clear hG hU G <;> (try simp only [Bool.not_true, Bool.not_false] at hb) <;> first | (exfalso; simp at hb; done) | (exfalso; simp at hb; omega) | (rw [hb]; (try simp at hb)) | (try simp at hb)))
           | (refine tri_if fun G hG => ?_; (try simp [*, -List.all_eq_true]); refine hG.out _ (fun hb => ?_) (fun hb => ?_) <;> clear hG G <;> (try simp only [Bool.not_true, Bool.not_false] at hb) <;> first | (exfalso; simp at hb; done) | (exfalso; simp at hb; omega) | (rw [hb]; (try simp at hb)) | (try simp at hb))
           | (refine ret_q fun R hR => ?_; (try simp [*, -List.all_eq_true, Try.results4]); (try (simp (disch := first | assumption | omega) only [wrap_id, wrapu_id, wrapb_id, tmod_nn, tdiv_nn, ite_yes, flatM_seg, flatM_0, flatM_1, flatM_2, flatI_seg, flatI_0, flatI_1, flatS_get]; (try simp [*, -List.all_eq_true, Try.results4]))); refine hR.out _ ?_; clear hR R; (try rfl))
           | (refine rwf_ca rfl fun C' hC hP => ?_; (try simp [*, -List.all_eq_true]); (first | refine hP.out _ _ _ (hks) ?_ | (refine hC.out _ _ _ (hks) fun r s hq => ?_; obtain ⟨hq1, hq2⟩ := hq; rw [hq1, hq2]; clear hq1 hq2 s r)); clear hP hC C')
           | ((first | refine rwf_cz rfl fun C' hC hP => ?_ | refine rwc_cz rfl fun C' hC hP => ?_); (try simp [*, -List.all_eq_true]); (first | refine hC.out _ _ _ (hks) ?_ | refine hP.out _ _ _ (hks) ?_); clear hP hC C'))
          exact ⟨by simp [*], rfl, by simp, riseS_succ hlt hr hK (fun _ => hS)⟩
      · obtain rfl : k = 0 := by omega
        repeat' (first
         | (with_reducible first | refine tri_seq ?_ | refine then_n ?_ | refine then_e ?_ | refine then_r ?_ | refine block_n ?_ | refine block_r ?_ | refine block_e ?_ | refine block_x (by decide) ?_ | refine tri_block ?_ | refine tri_skip ?_ | refine tri_ret ?_ | refine tri_exit ?_ | refine rwf_nil ?_ | refine rwc_nil ?_ | refine ret_n ?_)
         | refine tri_reg [] ?_
         | refine tri_regc [] [] mixed (by decide +kernel) ?_
         | (refine rwf_boxm rfl fun B hB => ?_; (try simp [*, -List.all_eq_true]); (try (simp (disch := first | assumption | omega) only [wrap_id, wrapu_id, wrapb_id, tmod_nn, tdiv_nn, ite_yes, flatM_seg, flatM_0, flatM_1, flatM_2, flatI_seg, flatI_0, flatI_1, flatS_get]; (try simp [*, -List.all_eq_true]))); refine hB.out _ _ ?_; clear hB B)
         | refine rwf_o ?_
         | refine rwc_o _ rfl ?_
         | (refine rwf_nilt rfl (by decide +kernel) fun G hG => ?_; (try simp [*, -List.all_eq_true]); refine hG.out _ fun b => ?_; clear hG G)
         | ((first | refine rwf_a rfl fun B hB => ?_ | refine rwc_n rfl fun B hB => ?_ | refine rwc_z rfl fun B hB => ?_ | refine rwc_b rfl fun B hB => ?_ | refine rwc_w rfl fun B hB => ?_ | refine rwf_z rfl fun B hB => ?_); (try simp [*, -List.all_eq_true]); (try (simp (disch := first | assumption | omega) only [wrap_id, wrapu_id, wrapb_id, tmod_nn, tdiv_nn, ite_yes, flatM_seg, flatM_0, flatM_1, flatM_2, flatI_seg, flatI_0, flatI_1, flatS_get]; (try simp [*, -List.all_eq_true]))); (first | refine hB.out _ _ ?_ | refine hB.out _ ?_); clear hB B)
         | ((first | refine rwf_g rfl fun G hG hU => ?_ | refine rwc_g rfl fun G hG hU => ?_); (try simp [*, -List.all_eq_true]); first | (refine hU.out ⟨rfl, ?_⟩; clear hG hU G) | (refine hG.out _ (fun hb => ?_) (fun hb => ⟨rfl, ?_⟩) <;> clear hG hU G <;> (try simp only [Bool.not_true, Bool.not_false] at hb) <;> first | (exfalso; simp at hb; done) | (exfalso; simp at hb; omega) | (rw [hb]; (try simp at hb)) | (try simp at hb)))
         | (refine tri_if fun G hG => ?_; (try simp [*, -List.all_eq_true]); refine hG.out _ (fun hb => ?_) (fun hb => ?_) <;> clear hG G <;> (try simp only [Bool.not_true, Bool.not_false] at hb) <;> first | (exfalso; simp at hb; done) | (exfalso; simp at hb; omega) | (rw [hb]; (try simp at hb)) | (try simp at hb))
         | (refine ret_q fun R hR => ?_; (try simp [*, -List.all_eq_true, Try.results4]); (try (simp (disch := first | assumption | omega) only [wrap_id, wrapu_id, wrapb_id, tmod_nn, tdiv_nn, ite_yes, flatM_seg, flatM_0, flatM_1, flatM_2, flatI_seg, flatI_0, flatI_1, flatS_get]; (try simp [*, -List.all_eq_true, Try.results4]))); refine hR.out _ ?_; clear hR R; (try rfl))
         | (refine rwf_ca rfl fun C' hC hP => ?_; (try simp [*, -List.all_eq_true]); (first | refine hP.out _ _ _ (hks) ?_ | (refine hC.out _ _ _ (hks) fun r s hq => ?_; obtain ⟨hq1, hq2⟩ := hq; rw [hq1, hq2]; clear hq1 hq2 s r)); clear hP hC C')
         | ((first | refine rwf_cz rfl fun C' hC hP => ?_ | refine rwc_cz rfl fun C' hC hP => ?_); (try simp [*, -List.all_eq_true]); (first | refine hC.out _ _ _ (hks) ?_ | refine hP.out _ _ _ (hks) ?_); clear hP hC C'))
        exact ⟨by simp [*], rfl, by simp, riseS_succ hlt hr hK (fun h => absurd h h0)⟩
  · skip
    (try simp at hk)
    obtain ⟨rfl, h5, hr⟩ := hI
    rw [List.take_length] at hr
    have f1 := bOf_spec l (by omega)
    unfold withR at f1
    cases hv : l.all isMsg with
    | false =>
      rw [hv, if_neg (by simp)] at f1
      repeat' (first
       | (with_reducible first | refine tri_seq ?_ | refine then_n ?_ | refine then_e ?_ | refine then_r ?_ | refine block_n ?_ | refine block_r ?_ | refine block_e ?_ | refine block_x (by decide) ?_ | refine tri_block ?_ | refine tri_skip ?_ | refine tri_ret ?_ | refine tri_exit ?_ | refine rwf_nil ?_ | refine rwc_nil ?_ | refine ret_n ?_)
       | refine tri_reg [] ?_
       | refine tri_regc [] [] mixed (by decide +kernel) ?_
       | (refine rwf_boxm rfl fun B hB => ?_; (try simp [*, -List.all_eq_true]); (try (simp (disch := first | assumption | omega) only [wrap_id, wrapu_id, wrapb_id, tmod_nn, tdiv_nn, ite_yes, flatM_seg, flatM_0, flatM_1, flatM_2, flatI_seg, flatI_0, flatI_1, flatS_get]; (try simp [*, -List.all_eq_true]))); refine hB.out _ _ ?_; clear hB B)
       | refine rwf_o ?_
       | refine rwc_o _ rfl ?_
       | (refine rwf_nilt rfl (by decide +kernel) fun G hG => ?_; (try simp [*, -List.all_eq_true]); refine hG.out _ fun b => ?_; clear hG G)
       | ((first | refine rwf_a rfl fun B hB => ?_ | refine rwc_n rfl fun B hB => ?_ | refine rwc_z rfl fun B hB => ?_ | refine rwc_b rfl fun B hB => ?_ | refine rwc_w rfl fun B hB => ?_ | refine rwf_z rfl fun B hB => ?_); (try simp [*, -List.all_eq_true]); (try (simp (disch := first | assumption | omega) only [wrap_id, wrapu_id, wrapb_id, tmod_nn, tdiv_nn, ite_yes, flatM_seg, flatM_0, flatM_1, flatM_2, flatI_seg, flatI_0, flatI_1, flatS_get]; (try simp [*, -List.all_eq_true]))); (first | refine hB.out _ _ ?_ | refine hB.out _ ?_); clear hB B)
       | ((first | refine rwf_g rfl fun G hG hU => ?_ | refine rwc_g rfl fun G hG hU => ?_); (try simp [*, -List.all_eq_true]); first | (refine hU.out ⟨rfl, ?_⟩; clear hG hU G) | (refine hG.out _ (fun hb => ?_) (fun hb => ⟨rfl, ?_⟩) <;> clear hG hU G <;> (try simp only [Bool.not_true, Bool.not_false] at hb) <;> first | (exfalso; simp at hb; done) | (exfalso; simp at hb; omega) | (rw [hb]; (try simp at hb)) | (try simp at hb)))
       | (refine tri_if fun G hG => ?_; (try simp [*, -List.all_eq_true]); refine hG.out _ (fun hb => ?_) (fun hb => ?_) <;> clear hG G <;> (try simp only [Bool.not_true, Bool.not_false] at hb) <;> first | (exfalso; simp at hb; done) | (exfalso; simp at hb; omega) | (rw [hb]; (try simp at hb)) | (try simp at hb))
       | (refine ret_q fun R hR => ?_; (try simp [*, -List.all_eq_true, Try.results4]); (try (simp (disch := first | assumption | omega) only [wrap_id, wrapu_id, wrapb_id, tmod_nn, tdiv_nn, ite_yes, flatM_seg, flatM_0, flatM_1, flatM_2, flatI_seg, flatI_0, flatI_1, flatS_get]; (try simp [*, -List.all_eq_true, Try.results4]))); refine hR.out _ ?_; clear hR R; (try rfl))
       | (refine rwf_ca rfl fun C' hC hP => ?_; (try simp [*, -List.all_eq_true]); (first | refine hP.out _ _ _ (f1) ?_ | (refine hC.out _ _ _ (f1) fun r s hq => ?_; obtain ⟨hq1, hq2⟩ := hq; rw [hq1, hq2]; clear hq1 hq2 s r)); clear hP hC C')
       | ((first | refine rwf_cz rfl fun C' hC hP => ?_ | refine rwc_cz rfl fun C' hC hP => ?_); (try simp [*, -List.all_eq_true]); (first | refine hC.out _ _ _ (f1) ?_ | refine hP.out _ _ _ (f1) ?_); clear hP hC C'))
    | true =>
    rw [hv, if_pos rfl] at f1
    obtain ⟨u1, u2, u3⟩ := withM_ok l [] rise_nil (by simp) (List.all_eq_true.1 hv)
    simp at u3
    generalize withM [] l = u at *
    have us := msmall u2
    have f2 := pspec_args (bOf_spec [] (by simp)) (xs' := [.sc (.slice none 0 0)]) (.cons .nil .nil)
    rw [show withR [] [] = .tup [.fp (cB []) 0, .sc (.int .i64 0)] from rfl] at f2
    have d1 := bLoads_spec u (by omega) us ps (by omega)
    have d2 := bHeav_spec u (by omega) us ps (by omega)
    have d3 := kCut_spec (⟨#[]⟩, ⟨#[]⟩) ps (by omega)
    change PSpec _ _ _ (.fs (flatR (partsM ps)) (partsM ps).length) at d3
    have d4 := bLen_spec u
    have hrl := parts_len hr
    have hst := fun k h => parts_step u1 u2 hr (k := k) h
    have hnk : ∀ (k : Nat) (h : k < (loadsL u (partsM ps)).length) (h' : k < (partsM ps).length), (loadsL u (partsM ps))[k] = mwts (takeM u (partsM ps)[k].1 (partsM ps)[k].2 true) := fun k h h' => by simp [loadsL]
    have hnl := loadsL_length u (partsM ps)
    have hbest := heavG_is (loadsL u (partsM ps))
    generalize loadsL u (partsM ps) = ns at *
    generalize partsM ps = rs at *
    have hsum : ∀ k, k ≤ rs.length → (∀ x ∈ ns, x ≤ 0) → mwts (allAt u ps k) ≤ 0 := by
      intro k
      induction k with
      | zero => intro _ _; rw [allAt_zero]; simp [mwts]
      | succ k ih =>
        intro h1 h2
        obtain ⟨_, _, q3⟩ := hst k (by omega)
        rw [← q3, mwts_append]
        have h3 := ih (by omega) h2
        have h4 := h2 ns[k] (List.getElem_mem (by omega))
        rw [hnk k (by omega) (by omega)] at h4
        omega
    have hbd : ∀ k, 0 ≤ mwts (allAt u ps k) ∧ mwts (allAt u ps k) ≤ 2000003 * 40 := fun k => by
      have hs := (allAt_sub u ps k).1
      have hl := hs.length_le
      have := mwts_bd (allAt u ps k) (fun x hx => us x (hs.subset hx)) (allAt u ps k).length
      rw [List.take_length] at this
      omega
    have hlast := allAt_end u ps
    rw [← hrl] at hlast
    obtain ⟨best, hbe, hb1, hb2, hb3⟩ : ∃ best : Int, heavG ns = best ∧ best < ns.length ∧ decide (best < 0) = decide ((u.length : Int) = 0) ∧ (best = -1 ∨ ∃ b, ∃ h : b < ns.length, best = (b : Int) ∧ ∀ x ∈ ns, x ≤ ns[b]) := by
      rcases hbest with ⟨h1, h2⟩ | ⟨b, h1, h2, h3, h4⟩
      · refine ⟨-1, h2, by omega, ?_, .inl rfl⟩
        have h5 := hsum rs.length (Nat.le_refl _) h1
        rw [hlast.1] at h5
        have h6 := mwts_pos u
        rw [decide_eq_true (by omega), decide_eq_true (by omega)]
      · refine ⟨b, h2, by omega, ?_, .inr ⟨b, h1, rfl, h4⟩⟩
        have h5 : u.length ≠ 0 := fun h => by
          have hu : u = [] := List.length_eq_zero_iff.1 h
          rw [hnk b h1 (by omega), hu] at h3
          simp [takeM, mwts] at h3
        rw [decide_eq_false (by omega), decide_eq_false (by omega)]
    rw [hbe] at d2
    have hr1 : rs.length ≤ ps.length + 1 := by omega
    clear hsum hbest hbe hrl
    repeat' (first
     | (with_reducible first | refine tri_seq ?_ | refine then_n ?_ | refine then_e ?_ | refine then_r ?_ | refine block_n ?_ | refine block_r ?_ | refine block_e ?_ | refine block_x (by decide) ?_ | refine tri_block ?_ | refine tri_skip ?_ | refine tri_ret ?_ | refine tri_exit ?_ | refine rwf_nil ?_ | refine rwc_nil ?_ | refine ret_n ?_)
     | refine tri_reg [] ?_
     | refine tri_regc [] [] mixed (by decide +kernel) ?_
     | (refine rwf_boxm rfl fun B hB => ?_; (try simp [*, -List.all_eq_true]); (try (simp (disch := first | assumption | omega) only [wrap_id, wrapu_id, wrapb_id, tmod_nn, tdiv_nn, ite_yes, flatM_seg, flatM_0, flatM_1, flatM_2, flatI_seg, flatI_0, flatI_1, flatS_get]; (try simp [*, -List.all_eq_true]))); refine hB.out _ _ ?_; clear hB B)
     | refine rwf_o ?_
     | refine rwc_o _ rfl ?_
     | (refine rwf_nilt rfl (by decide +kernel) fun G hG => ?_; (try simp [*, -List.all_eq_true]); refine hG.out _ fun b => ?_; clear hG G)
     | ((first | refine rwf_a rfl fun B hB => ?_ | refine rwc_n rfl fun B hB => ?_ | refine rwc_z rfl fun B hB => ?_ | refine rwc_b rfl fun B hB => ?_ | refine rwc_w rfl fun B hB => ?_ | refine rwf_z rfl fun B hB => ?_); (try simp [*, -List.all_eq_true]); (try (simp (disch := first | assumption | omega) only [wrap_id, wrapu_id, wrapb_id, tmod_nn, tdiv_nn, ite_yes, flatM_seg, flatM_0, flatM_1, flatM_2, flatI_seg, flatI_0, flatI_1, flatS_get]; (try simp [*, -List.all_eq_true]))); (first | refine hB.out _ _ ?_ | refine hB.out _ ?_); clear hB B)
     | ((first | refine rwf_g rfl fun G hG hU => ?_ | refine rwc_g rfl fun G hG hU => ?_); (try simp [*, -List.all_eq_true]); first | (refine hU.out ⟨rfl, ?_⟩; clear hG hU G) | (refine hG.out _ (fun hb => ?_) (fun hb => ⟨rfl, ?_⟩) <;> clear hG hU G <;> (try simp only [Bool.not_true, Bool.not_false] at hb) <;> first | (exfalso; simp at hb; done) | (exfalso; simp at hb; omega) | (rw [hb]; (try simp at hb)) | (try simp at hb)))
     | (refine tri_if fun G hG => ?_; (try simp [*, -List.all_eq_true]); refine hG.out _ (fun hb => ?_) (fun hb => ?_) <;> clear hG G <;> (try simp only [Bool.not_true, Bool.not_false] at hb) <;> first | (exfalso; simp at hb; done) | (exfalso; simp at hb; omega) | (rw [hb]; (try simp at hb)) | (try simp at hb))
     | (refine ret_q fun R hR => ?_; (try simp [*, -List.all_eq_true, Try.results4]); (try (simp (disch := first | assumption | omega) only [wrap_id, wrapu_id, wrapb_id, tmod_nn, tdiv_nn, ite_yes, flatM_seg, flatM_0, flatM_1, flatM_2, flatI_seg, flatI_0, flatI_1, flatS_get]; (try simp [*, -List.all_eq_true, Try.results4]))); refine hR.out _ ?_; clear hR R; (try rfl))
     | (refine rwf_ca rfl fun C' hC hP => ?_; (try simp [*, -List.all_eq_true]); (first | refine hP.out _ _ _ (f1) ?_ | (refine hC.out _ _ _ (f1) fun r s hq => ?_; obtain ⟨hq1, hq2⟩ := hq; rw [hq1, hq2]; clear hq1 hq2 s r) | refine hP.out _ _ _ (f2) ?_ | (refine hC.out _ _ _ (f2) fun r s hq => ?_; obtain ⟨hq1, hq2⟩ := hq; rw [hq1, hq2]; clear hq1 hq2 s r) | refine hP.out _ _ _ (d1) ?_ | (refine hC.out _ _ _ (d1) fun r s hq => ?_; obtain ⟨hq1, hq2⟩ := hq; rw [hq1, hq2]; clear hq1 hq2 s r) | refine hP.out _ _ _ (d2) ?_ | (refine hC.out _ _ _ (d2) fun r s hq => ?_; obtain ⟨hq1, hq2⟩ := hq; rw [hq1, hq2]; clear hq1 hq2 s r) | refine hP.out _ _ _ (d3) ?_ | (refine hC.out _ _ _ (d3) fun r s hq => ?_; obtain ⟨hq1, hq2⟩ := hq; rw [hq1, hq2]; clear hq1 hq2 s r) | refine hP.out _ _ _ (d4) ?_ | (refine hC.out _ _ _ (d4) fun r s hq => ?_; obtain ⟨hq1, hq2⟩ := hq; rw [hq1, hq2]; clear hq1 hq2 s r)); clear hP hC C')
     | ((first | refine rwf_cz rfl fun C' hC hP => ?_ | refine rwc_cz rfl fun C' hC hP => ?_); (try simp [*, -List.all_eq_true]); (first | refine hC.out _ _ _ (f1) ?_ | refine hP.out _ _ _ (f1) ?_ | refine hC.out _ _ _ (f2) ?_ | refine hP.out _ _ _ (f2) ?_ | refine hC.out _ _ _ (d1) ?_ | refine hP.out _ _ _ (d1) ?_ | refine hC.out _ _ _ (d2) ?_ | refine hP.out _ _ _ (d2) ?_ | refine hC.out _ _ _ (d3) ?_ | refine hP.out _ _ _ (d3) ?_ | refine hC.out _ _ _ (d4) ?_ | refine hP.out _ _ _ (d4) ?_); clear hP hC C'))
    clear f1 f2 d1 d2 d3
    refine tri_for [6, 12, 13, 14] rs.length (fun k e σ => σ = [] ∧ e 15 = .sc (.int .i64 k) ∧ e 8 = .fp (cB (restAt u ps k)) 0 ∧ e 9 = .fp (cB (allAt u ps k)) 0 ∧ e 11 = .sc (.int .i64 (mwts (allAt u ps k)))) ?_ (fun k env' σ' hlt hk hI => ?_) (fun env' σ' hk hI => ?_)
    · exact ⟨by simp, by simp, by simp [restAt_zero], by simp [allAt_zero], by simp [allAt_zero, mwts]⟩
    · skip
      (try simp at hk)
      obtain ⟨rfl, h15, h8, h9, h11⟩ := hI
      obtain ⟨q1, q2, q3⟩ := hst k hlt
      have hs1 := (allAt_sub u ps k)
      have hs2 := (allAt_sub u ps (k + 1))
      have hla := hs1.1.length_le
      have hlr := hs1.2.length_le
      have ht := takeM_len u rs[k].1 rs[k].2 true
      have d5 := bTake_spec (restAt u ps k) (by omega) rs[k].1 rs[k].2
      rw [q1] at d5
      have d6 := bWithout_spec (restAt u ps k) (by omega) (fun x hx => us x (hs1.2.subset hx)) rs[k].1 rs[k].2
      rw [q2] at d6
      have hra : Rise (allAt u ps k) := by rw [rise_iff]; exact (rise_iff.1 u1).sublist hs1.1
      have hra2 : Rise (allAt u ps k ++ takeM u rs[k].1 rs[k].2 true) := by rw [q3, rise_iff]; exact (rise_iff.1 u1).sublist hs2.1
      have d7 := bWith_spec (allAt u ps k) (takeM u rs[k].1 rs[k].2 true) (by omega) hra (fun x hx => u2 x (hs1.1.subset hx))
      unfold withR at d7
      have hta : (takeM u rs[k].1 rs[k].2 true).all isMsg = true := List.all_eq_true.2 fun x hx => u2 x (List.mem_filter.1 hx).1
      rw [if_pos hta, withM_onto _ _ hra2, q3] at d7
      have q4 : mwts (allAt u ps (k + 1)) = mwts (allAt u ps k) + ns[k] := by rw [← q3, mwts_append, hnk k (by omega) hlt]
      have q5 := hbd k
      have q6 := hbd (k + 1)
      have hkn : k < ns.length := by omega
      clear hst hbd hnk q1 q2 q3 hra hra2 hs1 hs2 hta
      rcases hb3 with rfl | ⟨b, hbl, rfl, hmx⟩
      · skip
        repeat' (first
         | (with_reducible first | refine tri_seq ?_ | refine then_n ?_ | refine then_e ?_ | refine then_r ?_ | refine block_n ?_ | refine block_r ?_ | refine block_e ?_ | refine block_x (by decide) ?_ | refine tri_block ?_ | refine tri_skip ?_ | refine tri_ret ?_ | refine tri_exit ?_ | refine rwf_nil ?_ | refine rwc_nil ?_ | refine ret_n ?_)
         | refine tri_reg [] ?_
         | refine tri_regc [] [] mixed (by decide +kernel) ?_
         | (refine rwf_boxm rfl fun B hB => ?_; (try simp [*, -List.all_eq_true]); (try (simp (disch := first | assumption | omega) only [wrap_id, wrapu_id, wrapb_id, tmod_nn, tdiv_nn, ite_yes, flatM_seg, flatM_0, flatM_1, flatM_2, flatI_seg, flatI_0, flatI_1, flatS_get]; (try simp [*, -List.all_eq_true]))); refine hB.out _ _ ?_; clear hB B)
         | refine rwf_o ?_
         | refine rwc_o _ rfl ?_
         | (refine rwf_nilt rfl (by decide +kernel) fun G hG => ?_; (try simp [*, -List.all_eq_true]); refine hG.out _ fun b => ?_; clear hG G)
         | ((first | refine rwf_a rfl fun B hB => ?_ | refine rwc_n rfl fun B hB => ?_ | refine rwc_z rfl fun B hB => ?_ | refine rwc_b rfl fun B hB => ?_ | refine rwc_w rfl fun B hB => ?_ | refine rwf_z rfl fun B hB => ?_); (try simp [*, -List.all_eq_true]); (try (simp (disch := first | assumption | omega) only [wrap_id, wrapu_id, wrapb_id, tmod_nn, tdiv_nn, ite_yes, flatM_seg, flatM_0, flatM_1, flatM_2, flatI_seg, flatI_0, flatI_1, flatS_get]; (try simp [*, -List.all_eq_true]))); (first | refine hB.out _ _ ?_ | refine hB.out _ ?_); clear hB B)
         | ((first | refine rwf_g rfl fun G hG hU => ?_ | refine rwc_g rfl fun G hG hU => ?_); (try simp [*, -List.all_eq_true]); first | (refine hU.out ⟨rfl, ?_⟩; clear hG hU G) | (refine hG.out _ (fun hb => ?_) (fun hb => ⟨rfl, ?_⟩) <;> clear hG hU G <;> (try simp only [Bool.not_true, Bool.not_false] at hb) <;> first | (exfalso; simp at hb; done) | (exfalso; simp at hb; omega) | (rw [hb]; (try simp at hb)) | (try simp at hb)))
         | (refine tri_if fun G hG => ?_; (try simp [*, -List.all_eq_true]); refine hG.out _ (fun hb => ?_) (fun hb => ?_) <;> clear hG G <;> (try simp only [Bool.not_true, Bool.not_false] at hb) <;> first | (exfalso; simp at hb; done) | (exfalso; simp at hb; omega) | (rw [hb]; (try simp at hb)) | (try simp at hb))
         | (refine ret_q fun R hR => ?_; (try simp [*, -List.all_eq_true, Try.results4]); (try (simp (disch := first | assumption | omega) only [wrap_id, wrapu_id, wrapb_id, tmod_nn, tdiv_nn, ite_yes, flatM_seg, flatM_0, flatM_1, flatM_2, flatI_seg, flatI_0, flatI_1, flatS_get]; (try simp [*, -List.all_eq_true, Try.results4]))); refine hR.out _ ?_; clear hR R; (try rfl))
         | (refine rwf_ca rfl fun C' hC hP => ?_; (try simp [*, -List.all_eq_true]); (first | refine hP.out _ _ _ (d5) ?_ | (refine hC.out _ _ _ (d5) fun r s hq => ?_; obtain ⟨hq1, hq2⟩ := hq; rw [hq1, hq2]; clear hq1 hq2 s r) | refine hP.out _ _ _ (d6) ?_ | (refine hC.out _ _ _ (d6) fun r s hq => ?_; obtain ⟨hq1, hq2⟩ := hq; rw [hq1, hq2]; clear hq1 hq2 s r) | refine hP.out _ _ _ (d7) ?_ | (refine hC.out _ _ _ (d7) fun r s hq => ?_; obtain ⟨hq1, hq2⟩ := hq; rw [hq1, hq2]; clear hq1 hq2 s r)); clear hP hC C')
         | ((first | refine rwf_cz rfl fun C' hC hP => ?_ | refine rwc_cz rfl fun C' hC hP => ?_); (try simp [*, -List.all_eq_true]); (first | refine hC.out _ _ _ (d5) ?_ | refine hP.out _ _ _ (d5) ?_ | refine hC.out _ _ _ (d6) ?_ | refine hP.out _ _ _ (d6) ?_ | refine hC.out _ _ _ (d7) ?_ | refine hP.out _ _ _ (d7) ?_); clear hP hC C'))
        exact ⟨by simp [*], rfl, by simp, by simp, by simp, by simp [q4]⟩
      · have hle : ¬ ns[b] < ns[k] := by have := hmx _ (List.getElem_mem hkn); omega
        have hbl2 : b < rs.length := by omega
        clear hmx
        repeat' (first
         | (with_reducible first | refine tri_seq ?_ | refine then_n ?_ | refine then_e ?_ | refine then_r ?_ | refine block_n ?_ | refine block_r ?_ | refine block_e ?_ | refine block_x (by decide) ?_ | refine tri_block ?_ | refine tri_skip ?_ | refine tri_ret ?_ | refine tri_exit ?_ | refine rwf_nil ?_ | refine rwc_nil ?_ | refine ret_n ?_)
         | refine tri_reg [] ?_
         | refine tri_regc [] [] mixed (by decide +kernel) ?_
         | (refine rwf_boxm rfl fun B hB => ?_; (try simp [*, -List.all_eq_true]); (try (simp (disch := first | assumption | omega) only [wrap_id, wrapu_id, wrapb_id, tmod_nn, tdiv_nn, ite_yes, flatM_seg, flatM_0, flatM_1, flatM_2, flatI_seg, flatI_0, flatI_1, flatS_get]; (try simp [*, -List.all_eq_true]))); refine hB.out _ _ ?_; clear hB B)
         | refine rwf_o ?_
         | refine rwc_o _ rfl ?_
         | (refine rwf_nilt rfl (by decide +kernel) fun G hG => ?_; (try simp [*, -List.all_eq_true]); refine hG.out _ fun b => ?_; clear hG G)
         | ((first | refine rwf_a rfl fun B hB => ?_ | refine rwc_n rfl fun B hB => ?_ | refine rwc_z rfl fun B hB => ?_ | refine rwc_b rfl fun B hB => ?_ | refine rwc_w rfl fun B hB => ?_ | refine rwf_z rfl fun B hB => ?_); (try simp [*, -List.all_eq_true]); (try (simp (disch := first | assumption | omega) only [wrap_id, wrapu_id, wrapb_id, tmod_nn, tdiv_nn, ite_yes, flatM_seg, flatM_0, flatM_1, flatM_2, flatI_seg, flatI_0, flatI_1, flatS_get]; (try simp [*, -List.all_eq_true]))); (first | refine hB.out _ _ ?_ | refine hB.out _ ?_); clear hB B)
         | ((first | refine rwf_g rfl fun G hG hU => ?_ | refine rwc_g rfl fun G hG hU => ?_); (try simp [*, -List.all_eq_true]); first | (refine hU.out ⟨rfl, ?_⟩; clear hG hU G) | (refine hG.out _ (fun hb => ?_) (fun hb => ⟨rfl, ?_⟩) <;> clear hG hU G <;> (try simp only [Bool.not_true, Bool.not_false] at hb) <;> first | (exfalso; simp at hb; done) | (exfalso; simp at hb; omega) | (rw [hb]; (try simp at hb)) | (try simp at hb)))
         | (refine tri_if fun G hG => ?_; (try simp [*, -List.all_eq_true]); refine hG.out _ (fun hb => ?_) (fun hb => ?_) <;> clear hG G <;> (try simp only [Bool.not_true, Bool.not_false] at hb) <;> first | (exfalso; simp at hb; done) | (exfalso; simp at hb; omega) | (rw [hb]; (try simp at hb)) | (try simp at hb))
         | (refine ret_q fun R hR => ?_; (try simp [*, -List.all_eq_true, Try.results4]); (try (simp (disch := first | assumption | omega) only [wrap_id, wrapu_id, wrapb_id, tmod_nn, tdiv_nn, ite_yes, flatM_seg, flatM_0, flatM_1, flatM_2, flatI_seg, flatI_0, flatI_1, flatS_get]; (try simp [*, -List.all_eq_true, Try.results4]))); refine hR.out _ ?_; clear hR R; (try rfl))
         | (refine rwf_ca rfl fun C' hC hP => ?_; (try simp [*, -List.all_eq_true]); (first | refine hP.out _ _ _ (d5) ?_ | (refine hC.out _ _ _ (d5) fun r s hq => ?_; obtain ⟨hq1, hq2⟩ := hq; rw [hq1, hq2]; clear hq1 hq2 s r) | refine hP.out _ _ _ (d6) ?_ | (refine hC.out _ _ _ (d6) fun r s hq => ?_; obtain ⟨hq1, hq2⟩ := hq; rw [hq1, hq2]; clear hq1 hq2 s r) | refine hP.out _ _ _ (d7) ?_ | (refine hC.out _ _ _ (d7) fun r s hq => ?_; obtain ⟨hq1, hq2⟩ := hq; rw [hq1, hq2]; clear hq1 hq2 s r)); clear hP hC C')
         | ((first | refine rwf_cz rfl fun C' hC hP => ?_ | refine rwc_cz rfl fun C' hC hP => ?_); (try simp [*, -List.all_eq_true]); (first | refine hC.out _ _ _ (d5) ?_ | refine hP.out _ _ _ (d5) ?_ | refine hC.out _ _ _ (d6) ?_ | refine hP.out _ _ _ (d6) ?_ | refine hC.out _ _ _ (d7) ?_ | refine hP.out _ _ _ (d7) ?_); clear hP hC C'))
        exact ⟨by simp [*], rfl, by simp, by simp, by simp, by simp [q4]⟩
    · skip
      (try simp at hk)
      obtain ⟨rfl, h15, h8, h9, h11⟩ := hI
      rw [hlast.1] at h9 h11
      rw [hlast.2] at h8
      have d5 := bLen_spec []
      have d6 := bWeight_spec []
      rw [show mwts [] = 0 from rfl] at d6
      have d7 := bSame_spec u u (by omega) (by omega)
      rw [decide_eq_true rfl] at d7
      have d8 := bWeight_spec u
      repeat' (first
       | (with_reducible first | refine tri_seq ?_ | refine then_n ?_ | refine then_e ?_ | refine then_r ?_ | refine block_n ?_ | refine block_r ?_ | refine block_e ?_ | refine block_x (by decide) ?_ | refine tri_block ?_ | refine tri_skip ?_ | refine tri_ret ?_ | refine tri_exit ?_ | refine rwf_nil ?_ | refine rwc_nil ?_ | refine ret_n ?_)
       | refine tri_reg [] ?_
       | refine tri_regc [] [] mixed (by decide +kernel) ?_
       | (refine rwf_boxm rfl fun B hB => ?_; (try simp [*, -List.all_eq_true]); (try (simp (disch := first | assumption | omega) only [wrap_id, wrapu_id, wrapb_id, tmod_nn, tdiv_nn, ite_yes, flatM_seg, flatM_0, flatM_1, flatM_2, flatI_seg, flatI_0, flatI_1, flatS_get]; (try simp [*, -List.all_eq_true]))); refine hB.out _ _ ?_; clear hB B)
       | refine rwf_o ?_
       | refine rwc_o _ rfl ?_
       | (refine rwf_nilt rfl (by decide +kernel) fun G hG => ?_; (try simp [*, -List.all_eq_true]); refine hG.out _ fun b => ?_; clear hG G)
       | ((first | refine rwf_a rfl fun B hB => ?_ | refine rwc_n rfl fun B hB => ?_ | refine rwc_z rfl fun B hB => ?_ | refine rwc_b rfl fun B hB => ?_ | refine rwc_w rfl fun B hB => ?_ | refine rwf_z rfl fun B hB => ?_); (try simp [*, -List.all_eq_true]); (try (simp (disch := first | assumption | omega) only [wrap_id, wrapu_id, wrapb_id, tmod_nn, tdiv_nn, ite_yes, flatM_seg, flatM_0, flatM_1, flatM_2, flatI_seg, flatI_0, flatI_1, flatS_get]; (try simp [*, -List.all_eq_true]))); (first | refine hB.out _ _ ?_ | refine hB.out _ ?_); clear hB B)
       | ((first | refine rwf_g rfl fun G hG hU => ?_ | refine rwc_g rfl fun G hG hU => ?_); (try simp [*, -List.all_eq_true]); first | (refine hU.out ⟨rfl, ?_⟩; clear hG hU G) | (refine hG.out _ (fun hb => ?_) (fun hb => ⟨rfl, ?_⟩) <;> clear hG hU G <;> (try simp only [Bool.not_true, Bool.not_false] at hb) <;> first | (exfalso; simp at hb; done) | (exfalso; simp at hb; omega) | (rw [hb]; (try simp at hb)) | (try simp at hb)))
       | (refine tri_if fun G hG => ?_; (try simp [*, -List.all_eq_true]); refine hG.out _ (fun hb => ?_) (fun hb => ?_) <;> clear hG G <;> (try simp only [Bool.not_true, Bool.not_false] at hb) <;> first | (exfalso; simp at hb; done) | (exfalso; simp at hb; omega) | (rw [hb]; (try simp at hb)) | (try simp at hb))
       | (refine ret_q fun R hR => ?_; (try simp [*, -List.all_eq_true, Try.results4]); (try (simp (disch := first | assumption | omega) only [wrap_id, wrapu_id, wrapb_id, tmod_nn, tdiv_nn, ite_yes, flatM_seg, flatM_0, flatM_1, flatM_2, flatI_seg, flatI_0, flatI_1, flatS_get]; (try simp [*, -List.all_eq_true, Try.results4]))); refine hR.out _ ?_; clear hR R; (try rfl))
       | (refine rwf_ca rfl fun C' hC hP => ?_; (try simp [*, -List.all_eq_true]); (first | refine hP.out _ _ _ (d5) ?_ | (refine hC.out _ _ _ (d5) fun r s hq => ?_; obtain ⟨hq1, hq2⟩ := hq; rw [hq1, hq2]; clear hq1 hq2 s r) | refine hP.out _ _ _ (d6) ?_ | (refine hC.out _ _ _ (d6) fun r s hq => ?_; obtain ⟨hq1, hq2⟩ := hq; rw [hq1, hq2]; clear hq1 hq2 s r) | refine hP.out _ _ _ (d7) ?_ | (refine hC.out _ _ _ (d7) fun r s hq => ?_; obtain ⟨hq1, hq2⟩ := hq; rw [hq1, hq2]; clear hq1 hq2 s r) | refine hP.out _ _ _ (d8) ?_ | (refine hC.out _ _ _ (d8) fun r s hq => ?_; obtain ⟨hq1, hq2⟩ := hq; rw [hq1, hq2]; clear hq1 hq2 s r)); clear hP hC C')
       | ((first | refine rwf_cz rfl fun C' hC hP => ?_ | refine rwc_cz rfl fun C' hC hP => ?_); (try simp [*, -List.all_eq_true]); (first | refine hC.out _ _ _ (d5) ?_ | refine hP.out _ _ _ (d5) ?_ | refine hC.out _ _ _ (d6) ?_ | refine hP.out _ _ _ (d6) ?_ | refine hC.out _ _ _ (d7) ?_ | refine hP.out _ _ _ (d7) ?_ | refine hC.out _ _ _ (d8) ?_ | refine hP.out _ _ _ (d8) ?_); clear hP hC C'))
      all_goals done
end Go.Proofs.Ytemijcjgdgdhjaa
