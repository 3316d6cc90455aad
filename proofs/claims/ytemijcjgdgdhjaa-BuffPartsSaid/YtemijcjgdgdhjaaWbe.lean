/- The law BuffExact, walked. -/
import Derived.Test.YtemijcjgdgdhjaaWv
namespace Go.Proofs.Ytemijcjgdgdhjaa
open Go.RowKit
set_option linter.unusedSimpArgs false
set_option maxRecDepth 10000

theorem take_all {l : List Msg} {lo hi : Str} {b : Bool} (h : MSmall l) : MSmall (takeM l lo hi b) := fun x hx => h x (List.mem_filter.1 hx).1
/-- The last message of a key, and whether there is one. -/
def seekM (k : Str) (l : List Msg) (s : Msg × Bool) : Msg × Bool := l.foldl (fun s x => if x.key = k then (x, true) else s) s
theorem seekM_no {k : Str} : ∀ (l : List Msg) (s : Msg × Bool), (∀ x ∈ l, x.key ≠ k) → seekM k l s = s
  | [], s, _ => rfl
  | x :: l, s, h => by
    unfold seekM
    rw [List.foldl_cons, if_neg (h x (by simp))]
    exact seekM_no l s fun y hy => h y (by simp [hy])
theorem seekM_succ {k : Str} {l : List Msg} {j : Nat} {x : Msg} {s : Msg × Bool} (h : l[j]? = some x) : seekM k (l.take (j + 1)) s = if x.key = k then (x, true) else seekM k (l.take j) s := by
  unfold seekM
  rw [List.take_add_one, h, List.foldl_append]
  rfl
theorem seekM_all {k : Str} {l : List Msg} (hr : Rise l) : seekM k l (zeroM, false) = (foundM l k, hit l k) := by
  cases hh : hit l k with
  | false =>
    have : foundM l k = zeroM := by unfold foundM; rw [if_neg (by rw [hh]; simp)]
    rw [this]
    refine seekM_no l _ fun x hx => ?_
    obtain ⟨i, hi, rfl⟩ := List.mem_iff_getElem.1 hx
    have h1 := low_lt hr k i hi
    intro e
    rcases Nat.lt_trichotomy i (low l k) with h | h | h
    · rw [decide_eq_true h] at h1; exact slt_ne h1 e
    · subst h
      unfold hit at hh
      rw [List.getElem?_eq_getElem hi] at hh
      simp [e] at hh
    · have h2 := hr _ _ _ _ h (List.getElem?_eq_getElem (by omega)) (List.getElem?_eq_getElem hi)
      have h3 := low_lt hr k (low l k) (by omega)
      rw [e] at h2
      rw [h2] at h3
      simp at h3
  | true =>
    obtain ⟨h1, h2, h3⟩ := hit_low hh
    rw [h3]
    have e : l = l.take (low l k) ++ l[low l k] :: l.drop (low l k + 1) := by rw [← List.drop_eq_getElem_cons h1, List.take_append_drop]
    have hs : seekM k l (zeroM, false) = seekM k (l.drop (low l k + 1)) (seekM k (l.take (low l k + 1)) (zeroM, false)) := by
      unfold seekM
      rw [← List.foldl_append, List.take_append_drop]
    rw [hs, seekM_succ (List.getElem?_eq_getElem h1), if_pos h2]
    refine seekM_no _ _ fun y hy => ?_
    obtain ⟨i, hi, rfl⟩ := List.mem_iff_getElem.1 hy
    rw [List.getElem_drop]
    have h4 := hr (low l k) (low l k + 1 + i) _ _ (by omega) (List.getElem?_eq_getElem h1) (List.getElem?_eq_getElem (by simp at hi; omega))
    rw [h2] at h4
    exact fun e => slt_ne h4 e.symm
set_option maxHeartbeats 8000000 in
theorem buffExact_spec (l m : List Msg) (hl : l.length ≤ 9223372036854775807) (hm : m.length ≤ 9223372036854775807) (k lo hi : Str) :
    PSpec Try.prog 3 [.fs (flatM l) l.length, .fs (flatM m) m.length, .sc (.string k), .agg [.sc (.string lo), .sc (.string hi)]] (.sc (.bool true)) := by
  refine spec_pure (by simp) (by simp) ?_
  refine spec_intro Try.func3 good3 rfl (by simp [Try.ntmps3]) ?_
  by_cases hg : heavyM l = false ∧ heavyM m = false ∧ k.size ≤ 512 ∧ lo.size ≤ 512 ∧ hi.size ≤ 512
  · obtain ⟨g1, g2, g3, g4, g5⟩ := hg
    obtain ⟨l1, l2⟩ := heavyM_no g1
    obtain ⟨m1, m2⟩ := heavyM_no g2
    have e1 := heavy_spec l hl
    have e2 := heavy_spec m hm
    rw [g1] at e1
    rw [g2] at e2
    have f1 := bOf_spec l (by omega)
    have f2 := pspec_args (rWith_spec [] l (by simp; omega) rise_nil (by simp)) (xs' := [.sc (.slice none 0 0), .fs (flatM l) l.length]) (.cons .nil (.cons (.refl _) .nil))
    unfold withR at f1
    unfold rwithR at f2
    cases hv : l.all isMsg with
    | false =>
      rw [hv, if_neg (by simp)] at f1 f2
      repeat' (first
       | (with_reducible first | refine tri_seq ?_ | refine then_n ?_ | refine then_e ?_ | refine then_r ?_ | refine block_n ?_ | refine block_r ?_ | refine block_e ?_ | refine block_x (by decide) ?_ | refine tri_block ?_ | refine tri_skip ?_ | refine tri_ret ?_ | refine tri_exit ?_ | refine rwf_nil ?_ | refine rwc_nil ?_ | refine ret_n ?_)
       | refine tri_reg [] ?_
       | refine tri_regc [] [] mixed (by decide +kernel) ?_
       | (refine rwf_boxm rfl fun B hB => ?_; (try simp [*, -List.all_eq_true]); (try (simp (disch := first | assumption | omega) only [wrap_id, wrapu_id, wrapb_id, tmod_nn, tdiv_nn, ite_yes, flatM_seg, flatM_0, flatM_1, flatM_2, flatI_seg, flatI_0, flatI_1, flatS_get]; (try simp [*, -List.all_eq_true]))); refine hB.out _ _ ?_; clear hB B)
       | refine rwf_o ?_
       | refine rwc_o _ rfl ?_
       | (refine rwf_nilt rfl (by decide +kernel) fun G hG => ?_; (try simp [*, -List.all_eq_true]); refine hG.out _ fun b => ?_; clear hG G)
       | ((first | refine rwf_a rfl fun B hB => ?_ | refine rwc_n rfl fun B hB => ?_ | refine rwc_z rfl fun B hB => ?_ | refine rwc_b rfl fun B hB => ?_ | refine rwc_w rfl fun B hB => ?_ | refine rwf_z rfl fun B hB => ?_); (try simp [*, -List.all_eq_true]); (try (simp (disch := first | assumption | omega) only [wrap_id, wrapu_id, wrapb_id, tmod_nn, tdiv_nn, ite_yes, flatM_seg, flatM_0, flatM_1, flatM_2, flatI_seg, flatI_0, flatI_1, flatS_get]; (try simp [*, -List.all_eq_true]))); (first | refine hB.out _ _ ?_ | refine hB.out _ ?_); clear hB B)
       | ((first | refine rwf_g rfl fun G hG hU => ?_ | refine rwc_g rfl fun G hG hU => ?_); (try simp [*, -List.all_eq_true]); first | (refine hU.out ⟨rfl, ?_⟩; clear hG hU G) | (refine hG.out _ (fun hb => ?_) (fun hb => ⟨rfl, ?_⟩) <;> clear hG hU G <;> (try simp only [Bool.not_true, Bool.not_false] at hb) <;> first | (exfalso; simp at hb; done) | (exfalso; simp at hb; omega) | (rw [hb]; (try simp at hb)) | (try simp at hb)))
       | (refine tri_if fun G hG => ?_; (try simp [*, -List.all_eq_true]); refine hG.out _ (fun hb => ?_) (fun hb => ?_) <;> clear hG G <;> (try simp only [Bool.not_true, Bool.not_false] at hb) <;> first | (exfalso; simp at hb; done) | (exfalso; simp at hb; omega) | (rw [hb]; (try simp at hb)) | (try simp at hb))
       | (refine ret_q fun R hR => ?_; (try simp [*, -List.all_eq_true, Try.results3]); (try (simp (disch := first | assumption | omega) only [wrap_id, wrapu_id, wrapb_id, tmod_nn, tdiv_nn, ite_yes, flatM_seg, flatM_0, flatM_1, flatM_2, flatI_seg, flatI_0, flatI_1, flatS_get]; (try simp [*, -List.all_eq_true, Try.results3]))); refine hR.out _ ?_; clear hR R; (try rfl))
       | (refine rwf_ca rfl fun C' hC hP => ?_; (try simp [*, -List.all_eq_true]); (first | refine hP.out _ _ _ (awake_spec) ?_ | (refine hC.out _ _ _ (awake_spec) fun r s hq => ?_; obtain ⟨hq1, hq2⟩ := hq; rw [hq1, hq2]; clear hq1 hq2 s r) | refine hP.out _ _ _ (e1) ?_ | (refine hC.out _ _ _ (e1) fun r s hq => ?_; obtain ⟨hq1, hq2⟩ := hq; rw [hq1, hq2]; clear hq1 hq2 s r) | refine hP.out _ _ _ (e2) ?_ | (refine hC.out _ _ _ (e2) fun r s hq => ?_; obtain ⟨hq1, hq2⟩ := hq; rw [hq1, hq2]; clear hq1 hq2 s r) | refine hP.out _ _ _ (f1) ?_ | (refine hC.out _ _ _ (f1) fun r s hq => ?_; obtain ⟨hq1, hq2⟩ := hq; rw [hq1, hq2]; clear hq1 hq2 s r) | refine hP.out _ _ _ (f2) ?_ | (refine hC.out _ _ _ (f2) fun r s hq => ?_; obtain ⟨hq1, hq2⟩ := hq; rw [hq1, hq2]; clear hq1 hq2 s r)); clear hP hC C')
       | ((first | refine rwf_cz rfl fun C' hC hP => ?_ | refine rwc_cz rfl fun C' hC hP => ?_); (try simp [*, -List.all_eq_true]); (first | refine hC.out _ _ _ (awake_spec) ?_ | refine hP.out _ _ _ (awake_spec) ?_ | refine hC.out _ _ _ (e1) ?_ | refine hP.out _ _ _ (e1) ?_ | refine hC.out _ _ _ (e2) ?_ | refine hP.out _ _ _ (e2) ?_ | refine hC.out _ _ _ (f1) ?_ | refine hP.out _ _ _ (f1) ?_ | refine hC.out _ _ _ (f2) ?_ | refine hP.out _ _ _ (f2) ?_); clear hP hC C'))
    | true =>
      rw [hv, if_pos rfl] at f1 f2
      obtain ⟨u1, u2, u3⟩ := withM_ok l [] rise_nil (by simp) (List.all_eq_true.1 hv)
      simp at u3
      generalize withM [] l = u at *
      have us := msmall u2
      have d1 := bList_spec u (by omega)
      have d2 := rSame_spec u u (by omega) (by omega)
      have d3 := bLen_spec u
      have d4 := bWeight_spec u
      have d5 := rWeight_spec u (by omega) us
      have d6 := bTake_spec u (by omega) lo hi
      have d7 := fun b => rTake_spec u (by omega) lo hi b
      have d8 := bWithout_spec u (by omega) us lo hi
      have t1 := takeM_len u lo hi true
      have t2 := takeM_len u lo hi false
      have d9 := bList_spec (takeM u lo hi false) (by omega)
      have da := rSame_spec (takeM u lo hi true) (takeM u lo hi true) (by omega) (by omega)
      have db := rSame_spec (takeM u lo hi false) (takeM u lo hi false) (by omega) (by omega)
      rw [decide_eq_true rfl] at d2 da db
      have c1 := bWith_spec u m (by omega) u1 u2
      have c2 := rWith_spec u m (by omega) u1 u2
      unfold withR at c1
      unfold rwithR at c2
      cases hw : m.all isMsg with
      | false =>
        rw [hw, if_neg (by simp)] at c1 c2
        repeat' (first
         | (with_reducible first | refine tri_seq ?_ | refine then_n ?_ | refine then_e ?_ | refine then_r ?_ | refine block_n ?_ | refine block_r ?_ | refine block_e ?_ | refine block_x (by decide) ?_ | refine tri_block ?_ | refine tri_skip ?_ | refine tri_ret ?_ | refine tri_exit ?_ | refine rwf_nil ?_ | refine rwc_nil ?_ | refine ret_n ?_)
         | refine tri_reg [] ?_
         | refine tri_regc [] [] mixed (by decide +kernel) ?_
         | (refine rwf_boxm rfl fun B hB => ?_; (try simp [*, -List.all_eq_true]); (try (simp (disch := first | assumption | omega) only [wrap_id, wrapu_id, wrapb_id, tmod_nn, tdiv_nn, ite_yes, flatM_seg, flatM_0, flatM_1, flatM_2, flatI_seg, flatI_0, flatI_1, flatS_get]; (try simp [*, -List.all_eq_true]))); refine hB.out _ _ ?_; clear hB B)
         | refine rwf_o ?_
         | refine rwc_o _ rfl ?_
         | (refine rwf_nilt rfl (by decide +kernel) fun G hG => ?_; (try simp [*, -List.all_eq_true]); refine hG.out _ fun b => ?_; clear hG G)
         | ((first | refine rwf_a rfl fun B hB => ?_ | refine rwc_n rfl fun B hB => ?_ | refine rwc_z rfl fun B hB => ?_ | refine rwc_b rfl fun B hB => ?_ | refine rwc_w rfl fun B hB => ?_ | refine rwf_z rfl fun B hB => ?_); (try simp [*, -List.all_eq_true]); (try (simp (disch := first | assumption | omega) only [wrap_id, wrapu_id, wrapb_id, tmod_nn, tdiv_nn, ite_yes, flatM_seg, flatM_0, flatM_1, flatM_2, flatI_seg, flatI_0, flatI_1, flatS_get]; (try simp [*, -List.all_eq_true]))); (first | refine hB.out _ _ ?_ | refine hB.out _ ?_); clear hB B)
         | ((first | refine rwf_g rfl fun G hG hU => ?_ | refine rwc_g rfl fun G hG hU => ?_); (try simp [*, -List.all_eq_true]); first | (refine hU.out ⟨rfl, ?_⟩; clear hG hU G) | (refine hG.out _ (fun hb => ?_) (fun hb => ⟨rfl, ?_⟩) <;> clear hG hU G <;> (try simp only [Bool.not_true, Bool.not_false] at hb) <;> first | (exfalso; simp at hb; done) | (exfalso; simp at hb; omega) | (rw [hb]; (try simp at hb)) | (try simp at hb)))
         | (refine tri_if fun G hG => ?_; (try simp [*, -List.all_eq_true]); refine hG.out _ (fun hb => ?_) (fun hb => ?_) <;> clear hG G <;> (try simp only [Bool.not_true, Bool.not_false] at hb) <;> first | (exfalso; simp at hb; done) | (exfalso; simp at hb; omega) | (rw [hb]; (try simp at hb)) | (try simp at hb))
         | (refine ret_q fun R hR => ?_; (try simp [*, -List.all_eq_true, Try.results3]); (try (simp (disch := first | assumption | omega) only [wrap_id, wrapu_id, wrapb_id, tmod_nn, tdiv_nn, ite_yes, flatM_seg, flatM_0, flatM_1, flatM_2, flatI_seg, flatI_0, flatI_1, flatS_get]; (try simp [*, -List.all_eq_true, Try.results3]))); refine hR.out _ ?_; clear hR R; (try rfl))
         | (refine rwf_ca rfl fun C' hC hP => ?_; (try simp [*, -List.all_eq_true]); (first | refine hP.out _ _ _ (awake_spec) ?_ | (refine hC.out _ _ _ (awake_spec) fun r s hq => ?_; obtain ⟨hq1, hq2⟩ := hq; rw [hq1, hq2]; clear hq1 hq2 s r) | refine hP.out _ _ _ (e1) ?_ | (refine hC.out _ _ _ (e1) fun r s hq => ?_; obtain ⟨hq1, hq2⟩ := hq; rw [hq1, hq2]; clear hq1 hq2 s r) | refine hP.out _ _ _ (e2) ?_ | (refine hC.out _ _ _ (e2) fun r s hq => ?_; obtain ⟨hq1, hq2⟩ := hq; rw [hq1, hq2]; clear hq1 hq2 s r) | refine hP.out _ _ _ (f1) ?_ | (refine hC.out _ _ _ (f1) fun r s hq => ?_; obtain ⟨hq1, hq2⟩ := hq; rw [hq1, hq2]; clear hq1 hq2 s r) | refine hP.out _ _ _ (f2) ?_ | (refine hC.out _ _ _ (f2) fun r s hq => ?_; obtain ⟨hq1, hq2⟩ := hq; rw [hq1, hq2]; clear hq1 hq2 s r) | refine hP.out _ _ _ (d1) ?_ | (refine hC.out _ _ _ (d1) fun r s hq => ?_; obtain ⟨hq1, hq2⟩ := hq; rw [hq1, hq2]; clear hq1 hq2 s r) | refine hP.out _ _ _ (d2) ?_ | (refine hC.out _ _ _ (d2) fun r s hq => ?_; obtain ⟨hq1, hq2⟩ := hq; rw [hq1, hq2]; clear hq1 hq2 s r) | refine hP.out _ _ _ (d3) ?_ | (refine hC.out _ _ _ (d3) fun r s hq => ?_; obtain ⟨hq1, hq2⟩ := hq; rw [hq1, hq2]; clear hq1 hq2 s r) | refine hP.out _ _ _ (d4) ?_ | (refine hC.out _ _ _ (d4) fun r s hq => ?_; obtain ⟨hq1, hq2⟩ := hq; rw [hq1, hq2]; clear hq1 hq2 s r) | refine hP.out _ _ _ (d5) ?_ | (refine hC.out _ _ _ (d5) fun r s hq => ?_; obtain ⟨hq1, hq2⟩ := hq; rw [hq1, hq2]; clear hq1 hq2 s r) | refine hP.out _ _ _ (d6) ?_ | (refine hC.out _ _ _ (d6) fun r s hq => ?_; obtain ⟨hq1, hq2⟩ := hq; rw [hq1, hq2]; clear hq1 hq2 s r) | refine hP.out _ _ _ (d7 true) ?_ | (refine hC.out _ _ _ (d7 true) fun r s hq => ?_; obtain ⟨hq1, hq2⟩ := hq; rw [hq1, hq2]; clear hq1 hq2 s r) | refine hP.out _ _ _ (d7 false) ?_ | (refine hC.out _ _ _ (d7 false) fun r s hq => ?_; obtain ⟨hq1, hq2⟩ := hq; rw [hq1, hq2]; clear hq1 hq2 s r) | refine hP.out _ _ _ (d8) ?_ | (refine hC.out _ _ _ (d8) fun r s hq => ?_; obtain ⟨hq1, hq2⟩ := hq; rw [hq1, hq2]; clear hq1 hq2 s r) | refine hP.out _ _ _ (d9) ?_ | (refine hC.out _ _ _ (d9) fun r s hq => ?_; obtain ⟨hq1, hq2⟩ := hq; rw [hq1, hq2]; clear hq1 hq2 s r) | refine hP.out _ _ _ (da) ?_ | (refine hC.out _ _ _ (da) fun r s hq => ?_; obtain ⟨hq1, hq2⟩ := hq; rw [hq1, hq2]; clear hq1 hq2 s r) | refine hP.out _ _ _ (db) ?_ | (refine hC.out _ _ _ (db) fun r s hq => ?_; obtain ⟨hq1, hq2⟩ := hq; rw [hq1, hq2]; clear hq1 hq2 s r) | refine hP.out _ _ _ (c1) ?_ | (refine hC.out _ _ _ (c1) fun r s hq => ?_; obtain ⟨hq1, hq2⟩ := hq; rw [hq1, hq2]; clear hq1 hq2 s r) | refine hP.out _ _ _ (c2) ?_ | (refine hC.out _ _ _ (c2) fun r s hq => ?_; obtain ⟨hq1, hq2⟩ := hq; rw [hq1, hq2]; clear hq1 hq2 s r)); clear hP hC C')
         | ((first | refine rwf_cz rfl fun C' hC hP => ?_ | refine rwc_cz rfl fun C' hC hP => ?_); (try simp [*, -List.all_eq_true]); (first | refine hC.out _ _ _ (awake_spec) ?_ | refine hP.out _ _ _ (awake_spec) ?_ | refine hC.out _ _ _ (e1) ?_ | refine hP.out _ _ _ (e1) ?_ | refine hC.out _ _ _ (e2) ?_ | refine hP.out _ _ _ (e2) ?_ | refine hC.out _ _ _ (f1) ?_ | refine hP.out _ _ _ (f1) ?_ | refine hC.out _ _ _ (f2) ?_ | refine hP.out _ _ _ (f2) ?_ | refine hC.out _ _ _ (d1) ?_ | refine hP.out _ _ _ (d1) ?_ | refine hC.out _ _ _ (d2) ?_ | refine hP.out _ _ _ (d2) ?_ | refine hC.out _ _ _ (d3) ?_ | refine hP.out _ _ _ (d3) ?_ | refine hC.out _ _ _ (d4) ?_ | refine hP.out _ _ _ (d4) ?_ | refine hC.out _ _ _ (d5) ?_ | refine hP.out _ _ _ (d5) ?_ | refine hC.out _ _ _ (d6) ?_ | refine hP.out _ _ _ (d6) ?_ | refine hC.out _ _ _ (d7 true) ?_ | refine hP.out _ _ _ (d7 true) ?_ | refine hC.out _ _ _ (d7 false) ?_ | refine hP.out _ _ _ (d7 false) ?_ | refine hC.out _ _ _ (d8) ?_ | refine hP.out _ _ _ (d8) ?_ | refine hC.out _ _ _ (d9) ?_ | refine hP.out _ _ _ (d9) ?_ | refine hC.out _ _ _ (da) ?_ | refine hP.out _ _ _ (da) ?_ | refine hC.out _ _ _ (db) ?_ | refine hP.out _ _ _ (db) ?_ | refine hC.out _ _ _ (c1) ?_ | refine hP.out _ _ _ (c1) ?_ | refine hC.out _ _ _ (c2) ?_ | refine hP.out _ _ _ (c2) ?_); clear hP hC C'))
        all_goals done
      | true =>
        rw [hw, if_pos rfl] at c1 c2
        obtain ⟨w1, w2, w3⟩ := withM_ok m u u1 u2 (List.all_eq_true.1 hw)
        generalize withM u m = w at *
        have b1 := bList_spec w (by omega)
        have b2 := rSame_spec w w (by omega) (by omega)
        rw [decide_eq_true rfl] at b2
        have b3 := bSame_spec u w (by omega) (by omega)
        have b4 := rSame_spec u w (by omega) (by omega)
        have b5 := bFind_spec w (by omega) w1 k
        repeat' (first
         | (with_reducible first | refine tri_seq ?_ | refine then_n ?_ | refine then_e ?_ | refine then_r ?_ | refine block_n ?_ | refine block_r ?_ | refine block_e ?_ | refine block_x (by decide) ?_ | refine tri_block ?_ | refine tri_skip ?_ | refine tri_ret ?_ | refine tri_exit ?_ | refine rwf_nil ?_ | refine rwc_nil ?_ | refine ret_n ?_)
         | refine tri_reg [18] ?_
         | refine tri_regc [18] [] mixed (by decide +kernel) ?_
         | (refine rwf_boxm rfl fun B hB => ?_; (try simp [*, -List.all_eq_true]); (try (simp (disch := first | assumption | omega) only [wrap_id, wrapu_id, wrapb_id, tmod_nn, tdiv_nn, ite_yes, flatM_seg, flatM_0, flatM_1, flatM_2, flatI_seg, flatI_0, flatI_1, flatS_get]; (try simp [*, -List.all_eq_true]))); refine hB.out _ _ ?_; clear hB B)
         | refine rwf_o ?_
         | refine rwc_o _ rfl ?_
         | (refine rwf_nilt rfl (by decide +kernel) fun G hG => ?_; (try simp [*, -List.all_eq_true]); refine hG.out _ fun b => ?_; clear hG G)
         | ((first | refine rwf_a rfl fun B hB => ?_ | refine rwc_n rfl fun B hB => ?_ | refine rwc_z rfl fun B hB => ?_ | refine rwc_b rfl fun B hB => ?_ | refine rwc_w rfl fun B hB => ?_ | refine rwf_z rfl fun B hB => ?_); (try simp [*, -List.all_eq_true]); (try (simp (disch := first | assumption | omega) only [wrap_id, wrapu_id, wrapb_id, tmod_nn, tdiv_nn, ite_yes, flatM_seg, flatM_0, flatM_1, flatM_2, flatI_seg, flatI_0, flatI_1, flatS_get]; (try simp [*, -List.all_eq_true]))); (first | refine hB.out _ _ ?_ | refine hB.out _ ?_); clear hB B)
         | ((first | refine rwf_g rfl fun G hG hU => ?_ | refine rwc_g rfl fun G hG hU => ?_); (try simp [*, -List.all_eq_true]); first | (refine hU.out ⟨rfl, ?_⟩; clear hG hU G) | (refine hG.out _ (fun hb => ?_) (fun hb => ⟨rfl, ?_⟩) <;> clear hG hU G <;> (try simp only [Bool.not_true, Bool.not_false] at hb) <;> first | (exfalso; simp at hb; done) | (exfalso; simp at hb; omega) | (rw [hb]; (try simp at hb)) | (try simp at hb)))
         | (refine tri_if fun G hG => ?_; (try simp [*, -List.all_eq_true]); refine hG.out _ (fun hb => ?_) (fun hb => ?_) <;> clear hG G <;> (try simp only [Bool.not_true, Bool.not_false] at hb) <;> first | (exfalso; simp at hb; done) | (exfalso; simp at hb; omega) | (rw [hb]; (try simp at hb)) | (try simp at hb))
         | (refine ret_q fun R hR => ?_; (try simp [*, -List.all_eq_true, Try.results3]); (try (simp (disch := first | assumption | omega) only [wrap_id, wrapu_id, wrapb_id, tmod_nn, tdiv_nn, ite_yes, flatM_seg, flatM_0, flatM_1, flatM_2, flatI_seg, flatI_0, flatI_1, flatS_get]; (try simp [*, -List.all_eq_true, Try.results3]))); refine hR.out _ ?_; clear hR R; (try rfl))
         | (refine rwf_ca rfl fun C' hC hP => ?_; (try simp [*, -List.all_eq_true]); (first | refine hP.out _ _ _ (awake_spec) ?_ | (refine hC.out _ _ _ (awake_spec) fun r s hq => ?_; obtain ⟨hq1, hq2⟩ := hq; rw [hq1, hq2]; clear hq1 hq2 s r) | refine hP.out _ _ _ (e1) ?_ | (refine hC.out _ _ _ (e1) fun r s hq => ?_; obtain ⟨hq1, hq2⟩ := hq; rw [hq1, hq2]; clear hq1 hq2 s r) | refine hP.out _ _ _ (e2) ?_ | (refine hC.out _ _ _ (e2) fun r s hq => ?_; obtain ⟨hq1, hq2⟩ := hq; rw [hq1, hq2]; clear hq1 hq2 s r) | refine hP.out _ _ _ (f1) ?_ | (refine hC.out _ _ _ (f1) fun r s hq => ?_; obtain ⟨hq1, hq2⟩ := hq; rw [hq1, hq2]; clear hq1 hq2 s r) | refine hP.out _ _ _ (f2) ?_ | (refine hC.out _ _ _ (f2) fun r s hq => ?_; obtain ⟨hq1, hq2⟩ := hq; rw [hq1, hq2]; clear hq1 hq2 s r) | refine hP.out _ _ _ (d1) ?_ | (refine hC.out _ _ _ (d1) fun r s hq => ?_; obtain ⟨hq1, hq2⟩ := hq; rw [hq1, hq2]; clear hq1 hq2 s r) | refine hP.out _ _ _ (d2) ?_ | (refine hC.out _ _ _ (d2) fun r s hq => ?_; obtain ⟨hq1, hq2⟩ := hq; rw [hq1, hq2]; clear hq1 hq2 s r) | refine hP.out _ _ _ (d3) ?_ | (refine hC.out _ _ _ (d3) fun r s hq => ?_; obtain ⟨hq1, hq2⟩ := hq; rw [hq1, hq2]; clear hq1 hq2 s r) | refine hP.out _ _ _ (d4) ?_ | (refine hC.out _ _ _ (d4) fun r s hq => ?_; obtain ⟨hq1, hq2⟩ := hq; rw [hq1, hq2]; clear hq1 hq2 s r) | refine hP.out _ _ _ (d5) ?_ | (refine hC.out _ _ _ (d5) fun r s hq => ?_; obtain ⟨hq1, hq2⟩ := hq; rw [hq1, hq2]; clear hq1 hq2 s r) | refine hP.out _ _ _ (d6) ?_ | (refine hC.out _ _ _ (d6) fun r s hq => ?_; obtain ⟨hq1, hq2⟩ := hq; rw [hq1, hq2]; clear hq1 hq2 s r) | refine hP.out _ _ _ (d7 true) ?_ | (refine hC.out _ _ _ (d7 true) fun r s hq => ?_; obtain ⟨hq1, hq2⟩ := hq; rw [hq1, hq2]; clear hq1 hq2 s r) | refine hP.out _ _ _ (d7 false) ?_ | (refine hC.out _ _ _ (d7 false) fun r s hq => ?_; obtain ⟨hq1, hq2⟩ := hq; rw [hq1, hq2]; clear hq1 hq2 s r) | refine hP.out _ _ _ (d8) ?_ | (refine hC.out _ _ _ (d8) fun r s hq => ?_; obtain ⟨hq1, hq2⟩ := hq; rw [hq1, hq2]; clear hq1 hq2 s r) | refine hP.out _ _ _ (d9) ?_ | (refine hC.out _ _ _ (d9) fun r s hq => ?_; obtain ⟨hq1, hq2⟩ := hq; rw [hq1, hq2]; clear hq1 hq2 s r) | refine hP.out _ _ _ (da) ?_ | (refine hC.out _ _ _ (da) fun r s hq => ?_; obtain ⟨hq1, hq2⟩ := hq; rw [hq1, hq2]; clear hq1 hq2 s r) | refine hP.out _ _ _ (db) ?_ | (refine hC.out _ _ _ (db) fun r s hq => ?_; obtain ⟨hq1, hq2⟩ := hq; rw [hq1, hq2]; clear hq1 hq2 s r) | refine hP.out _ _ _ (c1) ?_ | (refine hC.out _ _ _ (c1) fun r s hq => ?_; obtain ⟨hq1, hq2⟩ := hq; rw [hq1, hq2]; clear hq1 hq2 s r) | refine hP.out _ _ _ (c2) ?_ | (refine hC.out _ _ _ (c2) fun r s hq => ?_; obtain ⟨hq1, hq2⟩ := hq; rw [hq1, hq2]; clear hq1 hq2 s r) | refine hP.out _ _ _ (b1) ?_ | (refine hC.out _ _ _ (b1) fun r s hq => ?_; obtain ⟨hq1, hq2⟩ := hq; rw [hq1, hq2]; clear hq1 hq2 s r) | refine hP.out _ _ _ (b2) ?_ | (refine hC.out _ _ _ (b2) fun r s hq => ?_; obtain ⟨hq1, hq2⟩ := hq; rw [hq1, hq2]; clear hq1 hq2 s r) | refine hP.out _ _ _ (b3) ?_ | (refine hC.out _ _ _ (b3) fun r s hq => ?_; obtain ⟨hq1, hq2⟩ := hq; rw [hq1, hq2]; clear hq1 hq2 s r) | refine hP.out _ _ _ (b4) ?_ | (refine hC.out _ _ _ (b4) fun r s hq => ?_; obtain ⟨hq1, hq2⟩ := hq; rw [hq1, hq2]; clear hq1 hq2 s r)); clear hP hC C')
         | ((first | refine rwf_cz rfl fun C' hC hP => ?_ | refine rwc_cz rfl fun C' hC hP => ?_); (try simp [*, -List.all_eq_true]); (first | refine hC.out _ _ _ (awake_spec) ?_ | refine hP.out _ _ _ (awake_spec) ?_ | refine hC.out _ _ _ (e1) ?_ | refine hP.out _ _ _ (e1) ?_ | refine hC.out _ _ _ (e2) ?_ | refine hP.out _ _ _ (e2) ?_ | refine hC.out _ _ _ (f1) ?_ | refine hP.out _ _ _ (f1) ?_ | refine hC.out _ _ _ (f2) ?_ | refine hP.out _ _ _ (f2) ?_ | refine hC.out _ _ _ (d1) ?_ | refine hP.out _ _ _ (d1) ?_ | refine hC.out _ _ _ (d2) ?_ | refine hP.out _ _ _ (d2) ?_ | refine hC.out _ _ _ (d3) ?_ | refine hP.out _ _ _ (d3) ?_ | refine hC.out _ _ _ (d4) ?_ | refine hP.out _ _ _ (d4) ?_ | refine hC.out _ _ _ (d5) ?_ | refine hP.out _ _ _ (d5) ?_ | refine hC.out _ _ _ (d6) ?_ | refine hP.out _ _ _ (d6) ?_ | refine hC.out _ _ _ (d7 true) ?_ | refine hP.out _ _ _ (d7 true) ?_ | refine hC.out _ _ _ (d7 false) ?_ | refine hP.out _ _ _ (d7 false) ?_ | refine hC.out _ _ _ (d8) ?_ | refine hP.out _ _ _ (d8) ?_ | refine hC.out _ _ _ (d9) ?_ | refine hP.out _ _ _ (d9) ?_ | refine hC.out _ _ _ (da) ?_ | refine hP.out _ _ _ (da) ?_ | refine hC.out _ _ _ (db) ?_ | refine hP.out _ _ _ (db) ?_ | refine hC.out _ _ _ (c1) ?_ | refine hP.out _ _ _ (c1) ?_ | refine hC.out _ _ _ (c2) ?_ | refine hP.out _ _ _ (c2) ?_ | refine hC.out _ _ _ (b1) ?_ | refine hP.out _ _ _ (b1) ?_ | refine hC.out _ _ _ (b2) ?_ | refine hP.out _ _ _ (b2) ?_ | refine hC.out _ _ _ (b3) ?_ | refine hP.out _ _ _ (b3) ?_ | refine hC.out _ _ _ (b4) ?_ | refine hP.out _ _ _ (b4) ?_); clear hP hC C'))
        refine tri_for [2, 8, 14, 16, 18] w.length (fun k_ e σ => e 20 = .sc (.int .i64 k_) ∧ e 19 = .sc (.bool (seekM k (w.take k_) (zeroM, false)).2) ∧ σ = [⟨cM (seekM k (w.take k_) (zeroM, false)).1, 0, false, false⟩]) ?_ (fun j env' σ' hlt hk hI => ?_) (fun env' σ' hk hI => ?_)
        · exact ⟨by simp, by simp [seekM], by simp [seekM, cM, zeroM]⟩
        · skip
          (try simp at hk)
          obtain ⟨h20, h19, rfl⟩ := hI
          have hs := seekM_succ (k := k) (s := (zeroM, false)) (List.getElem?_eq_getElem hlt)
          have h1 := flatM_1 w j hlt
          by_cases hkey : w[j].key = k
          · rw [if_pos hkey] at hs
            repeat' (first
             | (with_reducible first | refine tri_seq ?_ | refine then_n ?_ | refine then_e ?_ | refine then_r ?_ | refine block_n ?_ | refine block_r ?_ | refine block_e ?_ | refine block_x (by decide) ?_ | refine tri_block ?_ | refine tri_skip ?_ | refine tri_ret ?_ | refine tri_exit ?_ | refine rwf_nil ?_ | refine rwc_nil ?_ | refine ret_n ?_)
             | refine tri_reg [18] ?_
             | refine tri_regc [18] [] mixed (by decide +kernel) ?_
             | (refine rwf_boxm rfl fun B hB => ?_; (try simp [*, -List.all_eq_true]); (try (simp (disch := first | assumption | omega) only [wrap_id, wrapu_id, wrapb_id, tmod_nn, tdiv_nn, ite_yes, flatM_seg, flatM_0, flatM_1, flatM_2, flatI_seg, flatI_0, flatI_1, flatS_get]; (try simp [*, -List.all_eq_true]))); refine hB.out _ _ ?_; clear hB B)
             | refine rwf_o ?_
             | refine rwc_o _ rfl ?_
             | (refine rwf_nilt rfl (by decide +kernel) fun G hG => ?_; (try simp [*, -List.all_eq_true]); refine hG.out _ fun b => ?_; clear hG G)
             | ((first | refine rwf_a rfl fun B hB => ?_ | refine rwc_n rfl fun B hB => ?_ | refine rwc_z rfl fun B hB => ?_ | refine rwc_b rfl fun B hB => ?_ | refine rwc_w rfl fun B hB => ?_ | refine rwf_z rfl fun B hB => ?_); (try simp [*, -List.all_eq_true]); (try (simp (disch := first | assumption | omega) only [wrap_id, wrapu_id, wrapb_id, tmod_nn, tdiv_nn, ite_yes, flatM_seg, flatM_0, flatM_1, flatM_2, flatI_seg, flatI_0, flatI_1, flatS_get]; (try simp [*, -List.all_eq_true]))); (first | refine hB.out _ _ ?_ | refine hB.out _ ?_); clear hB B)
             | ((first | refine rwf_g rfl fun G hG hU => ?_ | refine rwc_g rfl fun G hG hU => ?_); (try simp [*, -List.all_eq_true]); first | (refine hU.out ⟨rfl, ?_⟩; clear hG hU G) | (refine hG.out _ (fun hb => ?_) (fun hb => ⟨rfl, ?_⟩) <;> clear hG hU G <;> (try simp only [Bool.not_true, Bool.not_false] at hb) <;> first | (exfalso; simp at hb; done) | (exfalso; simp at hb; omega) | (rw [hb]; (try simp at hb)) | (try simp at hb)))
             | (refine tri_if fun G hG => ?_; (try simp [*, -List.all_eq_true]); refine hG.out _ (fun hb => ?_) (fun hb => ?_) <;> clear hG G <;> (try simp only [Bool.not_true, Bool.not_false] at hb) <;> first | (exfalso; simp at hb; done) | (exfalso; simp at hb; omega) | (rw [hb]; (try simp at hb)) | (try simp at hb))
             | (refine ret_q fun R hR => ?_; (try simp [*, -List.all_eq_true, Try.results3]); (try (simp (disch := first | assumption | omega) only [wrap_id, wrapu_id, wrapb_id, tmod_nn, tdiv_nn, ite_yes, flatM_seg, flatM_0, flatM_1, flatM_2, flatI_seg, flatI_0, flatI_1, flatS_get]; (try simp [*, -List.all_eq_true, Try.results3]))); refine hR.out _ ?_; clear hR R; (try rfl)))
            rw [hs]
            exact ⟨by simp [*], by simp, by simp, by simp [cM]⟩
          · rw [if_neg hkey] at hs
            repeat' (first
             | (with_reducible first | refine tri_seq ?_ | refine then_n ?_ | refine then_e ?_ | refine then_r ?_ | refine block_n ?_ | refine block_r ?_ | refine block_e ?_ | refine block_x (by decide) ?_ | refine tri_block ?_ | refine tri_skip ?_ | refine tri_ret ?_ | refine tri_exit ?_ | refine rwf_nil ?_ | refine rwc_nil ?_ | refine ret_n ?_)
             | refine tri_reg [18] ?_
             | refine tri_regc [18] [] mixed (by decide +kernel) ?_
             | (refine rwf_boxm rfl fun B hB => ?_; (try simp [*, -List.all_eq_true]); (try (simp (disch := first | assumption | omega) only [wrap_id, wrapu_id, wrapb_id, tmod_nn, tdiv_nn, ite_yes, flatM_seg, flatM_0, flatM_1, flatM_2, flatI_seg, flatI_0, flatI_1, flatS_get]; (try simp [*, -List.all_eq_true]))); refine hB.out _ _ ?_; clear hB B)
             | refine rwf_o ?_
             | refine rwc_o _ rfl ?_
             | (refine rwf_nilt rfl (by decide +kernel) fun G hG => ?_; (try simp [*, -List.all_eq_true]); refine hG.out _ fun b => ?_; clear hG G)
             | ((first | refine rwf_a rfl fun B hB => ?_ | refine rwc_n rfl fun B hB => ?_ | refine rwc_z rfl fun B hB => ?_ | refine rwc_b rfl fun B hB => ?_ | refine rwc_w rfl fun B hB => ?_ | refine rwf_z rfl fun B hB => ?_); (try simp [*, -List.all_eq_true]); (try (simp (disch := first | assumption | omega) only [wrap_id, wrapu_id, wrapb_id, tmod_nn, tdiv_nn, ite_yes, flatM_seg, flatM_0, flatM_1, flatM_2, flatI_seg, flatI_0, flatI_1, flatS_get]; (try simp [*, -List.all_eq_true]))); (first | refine hB.out _ _ ?_ | refine hB.out _ ?_); clear hB B)
             | ((first | refine rwf_g rfl fun G hG hU => ?_ | refine rwc_g rfl fun G hG hU => ?_); (try simp [*, -List.all_eq_true]); first | (refine hU.out ⟨rfl, ?_⟩; clear hG hU G) | (refine hG.out _ (fun hb => ?_) (fun hb => ⟨rfl, ?_⟩) <;> clear hG hU G <;> (try simp only [Bool.not_true, Bool.not_false] at hb) <;> first | (exfalso; simp at hb; done) | (exfalso; simp at hb; omega) | (rw [hb]; (try simp at hb)) | (try simp at hb)))
             | (refine tri_if fun G hG => ?_; (try simp [*, -List.all_eq_true]); refine hG.out _ (fun hb => ?_) (fun hb => ?_) <;> clear hG G <;> (try simp only [Bool.not_true, Bool.not_false] at hb) <;> first | (exfalso; simp at hb; done) | (exfalso; simp at hb; omega) | (rw [hb]; (try simp at hb)) | (try simp at hb))
             | (refine ret_q fun R hR => ?_; (try simp [*, -List.all_eq_true, Try.results3]); (try (simp (disch := first | assumption | omega) only [wrap_id, wrapu_id, wrapb_id, tmod_nn, tdiv_nn, ite_yes, flatM_seg, flatM_0, flatM_1, flatM_2, flatI_seg, flatI_0, flatI_1, flatS_get]; (try simp [*, -List.all_eq_true, Try.results3]))); refine hR.out _ ?_; clear hR R; (try rfl)))
            rw [hs]
            exact ⟨by simp [*], by simp, by simp [*], by simp [cM]⟩
        · skip
          (try simp at hk)
          obtain ⟨h20, h19, rfl⟩ := hI
          rw [List.take_length, seekM_all w1] at *
          repeat' (first
           | (with_reducible first | refine tri_seq ?_ | refine then_n ?_ | refine then_e ?_ | refine then_r ?_ | refine block_n ?_ | refine block_r ?_ | refine block_e ?_ | refine block_x (by decide) ?_ | refine tri_block ?_ | refine tri_skip ?_ | refine tri_ret ?_ | refine tri_exit ?_ | refine rwf_nil ?_ | refine rwc_nil ?_ | refine ret_n ?_)
           | refine tri_reg [18] ?_
           | refine tri_regc [18] [] mixed (by decide +kernel) ?_
           | (refine rwf_boxm rfl fun B hB => ?_; (try simp [*, -List.all_eq_true, cM]); (try (simp (disch := first | assumption | omega) only [wrap_id, wrapu_id, wrapb_id, tmod_nn, tdiv_nn, ite_yes, flatM_seg, flatM_0, flatM_1, flatM_2, flatI_seg, flatI_0, flatI_1, flatS_get]; (try simp [*, -List.all_eq_true, cM]))); refine hB.out _ _ ?_; clear hB B)
           | refine rwf_o ?_
           | refine rwc_o _ rfl ?_
           | (refine rwf_nilt rfl (by decide +kernel) fun G hG => ?_; (try simp [*, -List.all_eq_true, cM]); refine hG.out _ fun b => ?_; clear hG G)
           | ((first | refine rwf_a rfl fun B hB => ?_ | refine rwc_n rfl fun B hB => ?_ | refine rwc_z rfl fun B hB => ?_ | refine rwc_b rfl fun B hB => ?_ | refine rwc_w rfl fun B hB => ?_ | refine rwf_z rfl fun B hB => ?_); (try simp [*, -List.all_eq_true, cM]); (try (simp (disch := first | assumption | omega) only [wrap_id, wrapu_id, wrapb_id, tmod_nn, tdiv_nn, ite_yes, flatM_seg, flatM_0, flatM_1, flatM_2, flatI_seg, flatI_0, flatI_1, flatS_get]; (try simp [*, -List.all_eq_true, cM]))); (first | refine hB.out _ _ ?_ | refine hB.out _ ?_); clear hB B)
           | ((first | refine rwf_g rfl fun G hG hU => ?_ | refine rwc_g rfl fun G hG hU => ?_); (try simp [*, -List.all_eq_true, cM]); first | (refine hU.out ⟨rfl, ?_⟩; clear hG hU G) | (refine hG.out _ (fun hb => ?_) (fun hb => ⟨rfl, ?_⟩) <;> clear hG hU G <;> (try simp only [Bool.not_true, Bool.not_false] at hb) <;> first | (exfalso; simp at hb; done) | (exfalso; simp at hb; omega) | (rw [hb]; (try simp at hb)) | (try simp at hb)))
           | (refine tri_if fun G hG => ?_; (try simp [*, -List.all_eq_true, cM]); refine hG.out _ (fun hb => ?_) (fun hb => ?_) <;> clear hG G <;> (try simp only [Bool.not_true, Bool.not_false] at hb) <;> first | (exfalso; simp at hb; done) | (exfalso; simp at hb; omega) | (rw [hb]; (try simp at hb)) | (try simp at hb))
           | (refine ret_q fun R hR => ?_; (try simp [*, -List.all_eq_true, cM, Try.results3]); (try (simp (disch := first | assumption | omega) only [wrap_id, wrapu_id, wrapb_id, tmod_nn, tdiv_nn, ite_yes, flatM_seg, flatM_0, flatM_1, flatM_2, flatI_seg, flatI_0, flatI_1, flatS_get]; (try simp [*, -List.all_eq_true, cM, Try.results3]))); refine hR.out _ ?_; clear hR R; (try rfl))
           | (refine rwf_ca rfl fun C' hC hP => ?_; (try simp [*, -List.all_eq_true, cM]); (first | refine hP.out _ _ _ (b5) ?_ | (refine hC.out _ _ _ (b5) fun r s hq => ?_; obtain ⟨hq1, hq2⟩ := hq; rw [hq1, hq2]; clear hq1 hq2 s r)); clear hP hC C')
           | ((first | refine rwf_cz rfl fun C' hC hP => ?_ | refine rwc_cz rfl fun C' hC hP => ?_); (try simp [*, -List.all_eq_true, cM]); (first | refine hC.out _ _ _ (b5) ?_ | refine hP.out _ _ _ (b5) ?_); clear hP hC C'))
          all_goals done
  · have e1 := heavy_spec l hl
    have e2 := heavy_spec m hm
    cases g1 : heavyM l with
    | true =>
      rw [g1] at e1
      repeat' (first
       | (with_reducible first | refine tri_seq ?_ | refine then_n ?_ | refine then_e ?_ | refine then_r ?_ | refine block_n ?_ | refine block_r ?_ | refine block_e ?_ | refine block_x (by decide) ?_ | refine tri_block ?_ | refine tri_skip ?_ | refine tri_ret ?_ | refine tri_exit ?_ | refine rwf_nil ?_ | refine rwc_nil ?_ | refine ret_n ?_)
       | refine tri_reg [] ?_
       | refine tri_regc [] [] mixed (by decide +kernel) ?_
       | (refine rwf_boxm rfl fun B hB => ?_; (try simp [*, -List.all_eq_true]); (try (simp (disch := first | assumption | omega) only [wrap_id, wrapu_id, wrapb_id, tmod_nn, tdiv_nn, ite_yes, flatM_seg, flatM_0, flatM_1, flatM_2, flatI_seg, flatI_0, flatI_1, flatS_get]; (try simp [*, -List.all_eq_true]))); refine hB.out _ _ ?_; clear hB B)
       | refine rwf_o ?_
       | refine rwc_o _ rfl ?_
       | (refine rwf_nilt rfl (by decide +kernel) fun G hG => ?_; (try simp [*, -List.all_eq_true]); refine hG.out _ fun b => ?_; clear hG G)
       | ((first | refine rwf_a rfl fun B hB => ?_ | refine rwc_n rfl fun B hB => ?_ | refine rwc_z rfl fun B hB => ?_ | refine rwc_b rfl fun B hB => ?_ | refine rwc_w rfl fun B hB => ?_ | refine rwf_z rfl fun B hB => ?_); (try simp [*, -List.all_eq_true]); (try (simp (disch := first | assumption | omega) only [wrap_id, wrapu_id, wrapb_id, tmod_nn, tdiv_nn, ite_yes, flatM_seg, flatM_0, flatM_1, flatM_2, flatI_seg, flatI_0, flatI_1, flatS_get]; (try simp [*, -List.all_eq_true]))); (first | refine hB.out _ _ ?_ | refine hB.out _ ?_); clear hB B)
       | ((first | refine rwf_g rfl fun G hG hU => ?_ | refine rwc_g rfl fun G hG hU => ?_); (try simp [*, -List.all_eq_true]); first | (refine hU.out ⟨rfl, ?_⟩; clear hG hU G) | (refine hG.out _ (fun hb => ?_) (fun hb => ⟨rfl, ?_⟩) <;> clear hG hU G <;> (try simp only [Bool.not_true, Bool.not_false] at hb) <;> first | (exfalso; simp at hb; done) | (exfalso; simp at hb; omega) | (rw [hb]; (try simp at hb)) | (try simp at hb)))
       | (refine tri_if fun G hG => ?_; (try simp [*, -List.all_eq_true]); refine hG.out _ (fun hb => ?_) (fun hb => ?_) <;> clear hG G <;> (try simp only [Bool.not_true, Bool.not_false] at hb) <;> first | (exfalso; simp at hb; done) | (exfalso; simp at hb; omega) | (rw [hb]; (try simp at hb)) | (try simp at hb))
       | (refine ret_q fun R hR => ?_; (try simp [*, -List.all_eq_true, Try.results3]); (try (simp (disch := first | assumption | omega) only [wrap_id, wrapu_id, wrapb_id, tmod_nn, tdiv_nn, ite_yes, flatM_seg, flatM_0, flatM_1, flatM_2, flatI_seg, flatI_0, flatI_1, flatS_get]; (try simp [*, -List.all_eq_true, Try.results3]))); refine hR.out _ ?_; clear hR R; (try rfl))
       | (refine rwf_ca rfl fun C' hC hP => ?_; (try simp [*, -List.all_eq_true]); (first | refine hP.out _ _ _ (awake_spec) ?_ | (refine hC.out _ _ _ (awake_spec) fun r s hq => ?_; obtain ⟨hq1, hq2⟩ := hq; rw [hq1, hq2]; clear hq1 hq2 s r) | refine hP.out _ _ _ (e1) ?_ | (refine hC.out _ _ _ (e1) fun r s hq => ?_; obtain ⟨hq1, hq2⟩ := hq; rw [hq1, hq2]; clear hq1 hq2 s r)); clear hP hC C')
       | ((first | refine rwf_cz rfl fun C' hC hP => ?_ | refine rwc_cz rfl fun C' hC hP => ?_); (try simp [*, -List.all_eq_true]); (first | refine hC.out _ _ _ (awake_spec) ?_ | refine hP.out _ _ _ (awake_spec) ?_ | refine hC.out _ _ _ (e1) ?_ | refine hP.out _ _ _ (e1) ?_); clear hP hC C'))
    | false =>
      rw [g1] at e1
      cases g2 : heavyM m with
      | true =>
        rw [g2] at e2
        repeat' (first
         | (with_reducible first | refine tri_seq ?_ | refine then_n ?_ | refine then_e ?_ | refine then_r ?_ | refine block_n ?_ | refine block_r ?_ | refine block_e ?_ | refine block_x (by decide) ?_ | refine tri_block ?_ | refine tri_skip ?_ | refine tri_ret ?_ | refine tri_exit ?_ | refine rwf_nil ?_ | refine rwc_nil ?_ | refine ret_n ?_)
         | refine tri_reg [] ?_
         | refine tri_regc [] [] mixed (by decide +kernel) ?_
         | (refine rwf_boxm rfl fun B hB => ?_; (try simp [*, -List.all_eq_true]); (try (simp (disch := first | assumption | omega) only [wrap_id, wrapu_id, wrapb_id, tmod_nn, tdiv_nn, ite_yes, flatM_seg, flatM_0, flatM_1, flatM_2, flatI_seg, flatI_0, flatI_1, flatS_get]; (try simp [*, -List.all_eq_true]))); refine hB.out _ _ ?_; clear hB B)
         | refine rwf_o ?_
         | refine rwc_o _ rfl ?_
         | (refine rwf_nilt rfl (by decide +kernel) fun G hG => ?_; (try simp [*, -List.all_eq_true]); refine hG.out _ fun b => ?_; clear hG G)
         | ((first | refine rwf_a rfl fun B hB => ?_ | refine rwc_n rfl fun B hB => ?_ | refine rwc_z rfl fun B hB => ?_ | refine rwc_b rfl fun B hB => ?_ | refine rwc_w rfl fun B hB => ?_ | refine rwf_z rfl fun B hB => ?_); (try simp [*, -List.all_eq_true]); (try (simp (disch := first | assumption | omega) only [wrap_id, wrapu_id, wrapb_id, tmod_nn, tdiv_nn, ite_yes, flatM_seg, flatM_0, flatM_1, flatM_2, flatI_seg, flatI_0, flatI_1, flatS_get]; (try simp [*, -List.all_eq_true]))); (first | refine hB.out _ _ ?_ | refine hB.out _ ?_); clear hB B)
         | ((first | refine rwf_g rfl fun G hG hU => ?_ | refine rwc_g rfl fun G hG hU => ?_); (try simp [*, -List.all_eq_true]); first | (refine hU.out ⟨rfl, ?_⟩; clear hG hU G) | (refine hG.out _ (fun hb => ?_) (fun hb => ⟨rfl, ?_⟩) <;> clear hG hU G <;> (try simp only [Bool.not_true, Bool.not_false] at hb) <;> first | (exfalso; simp at hb; done) | (exfalso; simp at hb; omega) | (rw [hb]; (try simp at hb)) | (try simp at hb)))
         | (refine tri_if fun G hG => ?_; (try simp [*, -List.all_eq_true]); refine hG.out _ (fun hb => ?_) (fun hb => ?_) <;> clear hG G <;> (try simp only [Bool.not_true, Bool.not_false] at hb) <;> first | (exfalso; simp at hb; done) | (exfalso; simp at hb; omega) | (rw [hb]; (try simp at hb)) | (try simp at hb))
         | (refine ret_q fun R hR => ?_; (try simp [*, -List.all_eq_true, Try.results3]); (try (simp (disch := first | assumption | omega) only [wrap_id, wrapu_id, wrapb_id, tmod_nn, tdiv_nn, ite_yes, flatM_seg, flatM_0, flatM_1, flatM_2, flatI_seg, flatI_0, flatI_1, flatS_get]; (try simp [*, -List.all_eq_true, Try.results3]))); refine hR.out _ ?_; clear hR R; (try rfl))
         | (refine rwf_ca rfl fun C' hC hP => ?_; (try simp [*, -List.all_eq_true]); (first | refine hP.out _ _ _ (awake_spec) ?_ | (refine hC.out _ _ _ (awake_spec) fun r s hq => ?_; obtain ⟨hq1, hq2⟩ := hq; rw [hq1, hq2]; clear hq1 hq2 s r) | refine hP.out _ _ _ (e1) ?_ | (refine hC.out _ _ _ (e1) fun r s hq => ?_; obtain ⟨hq1, hq2⟩ := hq; rw [hq1, hq2]; clear hq1 hq2 s r) | refine hP.out _ _ _ (e2) ?_ | (refine hC.out _ _ _ (e2) fun r s hq => ?_; obtain ⟨hq1, hq2⟩ := hq; rw [hq1, hq2]; clear hq1 hq2 s r)); clear hP hC C')
         | ((first | refine rwf_cz rfl fun C' hC hP => ?_ | refine rwc_cz rfl fun C' hC hP => ?_); (try simp [*, -List.all_eq_true]); (first | refine hC.out _ _ _ (awake_spec) ?_ | refine hP.out _ _ _ (awake_spec) ?_ | refine hC.out _ _ _ (e1) ?_ | refine hP.out _ _ _ (e1) ?_ | refine hC.out _ _ _ (e2) ?_ | refine hP.out _ _ _ (e2) ?_); clear hP hC C'))
      | false =>
        rw [g2] at e2
        by_cases g3 : k.size ≤ 512
        · by_cases g4 : lo.size ≤ 512
          · have g5 : ¬ hi.size ≤ 512 := fun g5 => hg ⟨g1, g2, g3, g4, g5⟩
            clear hg
            repeat' (first
             | (with_reducible first | refine tri_seq ?_ | refine then_n ?_ | refine then_e ?_ | refine then_r ?_ | refine block_n ?_ | refine block_r ?_ | refine block_e ?_ | refine block_x (by decide) ?_ | refine tri_block ?_ | refine tri_skip ?_ | refine tri_ret ?_ | refine tri_exit ?_ | refine rwf_nil ?_ | refine rwc_nil ?_ | refine ret_n ?_)
             | refine tri_reg [] ?_
             | refine tri_regc [] [] mixed (by decide +kernel) ?_
             | (refine rwf_boxm rfl fun B hB => ?_; (try simp [*, -List.all_eq_true]); (try (simp (disch := first | assumption | omega) only [wrap_id, wrapu_id, wrapb_id, tmod_nn, tdiv_nn, ite_yes, flatM_seg, flatM_0, flatM_1, flatM_2, flatI_seg, flatI_0, flatI_1, flatS_get]; (try simp [*, -List.all_eq_true]))); refine hB.out _ _ ?_; clear hB B)
             | refine rwf_o ?_
             | refine rwc_o _ rfl ?_
             | (refine rwf_nilt rfl (by decide +kernel) fun G hG => ?_; (try simp [*, -List.all_eq_true]); refine hG.out _ fun b => ?_; clear hG G)
             | ((first | refine rwf_a rfl fun B hB => ?_ | refine rwc_n rfl fun B hB => ?_ | refine rwc_z rfl fun B hB => ?_ | refine rwc_b rfl fun B hB => ?_ | refine rwc_w rfl fun B hB => ?_ | refine rwf_z rfl fun B hB => ?_); (try simp [*, -List.all_eq_true]); (try (simp (disch := first | assumption | omega) only [wrap_id, wrapu_id, wrapb_id, tmod_nn, tdiv_nn, ite_yes, flatM_seg, flatM_0, flatM_1, flatM_2, flatI_seg, flatI_0, flatI_1, flatS_get]; (try simp [*, -List.all_eq_true]))); (first | refine hB.out _ _ ?_ | refine hB.out _ ?_); clear hB B)
             | ((first | refine rwf_g rfl fun G hG hU => ?_ | refine rwc_g rfl fun G hG hU => ?_); (try simp [*, -List.all_eq_true]); first | (refine hU.out ⟨rfl, ?_⟩; clear hG hU G) | (refine hG.out _ (fun hb => ?_) (fun hb => ⟨rfl, ?_⟩) <;> clear hG hU G <;> (try simp only [Bool.not_true, Bool.not_false] at hb) <;> first | (exfalso; simp at hb; done) | (exfalso; simp at hb; omega) | (rw [hb]; (try simp at hb)) | (try simp at hb)))
             | (refine tri_if fun G hG => ?_; (try simp [*, -List.all_eq_true]); refine hG.out _ (fun hb => ?_) (fun hb => ?_) <;> clear hG G <;> (try simp only [Bool.not_true, Bool.not_false] at hb) <;> first | (exfalso; simp at hb; done) | (exfalso; simp at hb; omega) | (rw [hb]; (try simp at hb)) | (try simp at hb))
             | (refine ret_q fun R hR => ?_; (try simp [*, -List.all_eq_true, Try.results3]); (try (simp (disch := first | assumption | omega) only [wrap_id, wrapu_id, wrapb_id, tmod_nn, tdiv_nn, ite_yes, flatM_seg, flatM_0, flatM_1, flatM_2, flatI_seg, flatI_0, flatI_1, flatS_get]; (try simp [*, -List.all_eq_true, Try.results3]))); refine hR.out _ ?_; clear hR R; (try rfl))
             | (refine rwf_ca rfl fun C' hC hP => ?_; (try simp [*, -List.all_eq_true]); (first | refine hP.out _ _ _ (awake_spec) ?_ | (refine hC.out _ _ _ (awake_spec) fun r s hq => ?_; obtain ⟨hq1, hq2⟩ := hq; rw [hq1, hq2]; clear hq1 hq2 s r) | refine hP.out _ _ _ (e1) ?_ | (refine hC.out _ _ _ (e1) fun r s hq => ?_; obtain ⟨hq1, hq2⟩ := hq; rw [hq1, hq2]; clear hq1 hq2 s r) | refine hP.out _ _ _ (e2) ?_ | (refine hC.out _ _ _ (e2) fun r s hq => ?_; obtain ⟨hq1, hq2⟩ := hq; rw [hq1, hq2]; clear hq1 hq2 s r)); clear hP hC C')
             | ((first | refine rwf_cz rfl fun C' hC hP => ?_ | refine rwc_cz rfl fun C' hC hP => ?_); (try simp [*, -List.all_eq_true]); (first | refine hC.out _ _ _ (awake_spec) ?_ | refine hP.out _ _ _ (awake_spec) ?_ | refine hC.out _ _ _ (e1) ?_ | refine hP.out _ _ _ (e1) ?_ | refine hC.out _ _ _ (e2) ?_ | refine hP.out _ _ _ (e2) ?_); clear hP hC C'))
          · clear hg
            repeat' (first
             | (with_reducible first | refine tri_seq ?_ | refine then_n ?_ | refine then_e ?_ | refine then_r ?_ | refine block_n ?_ | refine block_r ?_ | refine block_e ?_ | refine block_x (by decide) ?_ | refine tri_block ?_ | refine tri_skip ?_ | refine tri_ret ?_ | refine tri_exit ?_ | refine rwf_nil ?_ | refine rwc_nil ?_ | refine ret_n ?_)
             | refine tri_reg [] ?_
             | refine tri_regc [] [] mixed (by decide +kernel) ?_
             | (refine rwf_boxm rfl fun B hB => ?_; (try simp [*, -List.all_eq_true]); (try (simp (disch := first | assumption | omega) only [wrap_id, wrapu_id, wrapb_id, tmod_nn, tdiv_nn, ite_yes, flatM_seg, flatM_0, flatM_1, flatM_2, flatI_seg, flatI_0, flatI_1, flatS_get]; (try simp [*, -List.all_eq_true]))); refine hB.out _ _ ?_; clear hB B)
             | refine rwf_o ?_
             | refine rwc_o _ rfl ?_
             | (refine rwf_nilt rfl (by decide +kernel) fun G hG => ?_; (try simp [*, -List.all_eq_true]); refine hG.out _ fun b => ?_; clear hG G)
             | ((first | refine rwf_a rfl fun B hB => ?_ | refine rwc_n rfl fun B hB => ?_ | refine rwc_z rfl fun B hB => ?_ | refine rwc_b rfl fun B hB => ?_ | refine rwc_w rfl fun B hB => ?_ | refine rwf_z rfl fun B hB => ?_); (try simp [*, -List.all_eq_true]); (try (simp (disch := first | assumption | omega) only [wrap_id, wrapu_id, wrapb_id, tmod_nn, tdiv_nn, ite_yes, flatM_seg, flatM_0, flatM_1, flatM_2, flatI_seg, flatI_0, flatI_1, flatS_get]; (try simp [*, -List.all_eq_true]))); (first | refine hB.out _ _ ?_ | refine hB.out _ ?_); clear hB B)
             | ((first | refine rwf_g rfl fun G hG hU => ?_ | refine rwc_g rfl fun G hG hU => ?_); (try simp [*, -List.all_eq_true]); first | (refine hU.out ⟨rfl, ?_⟩; clear hG hU G) | (refine hG.out _ (fun hb => ?_) (fun hb => ⟨rfl, ?_⟩) <;> clear hG hU G <;> (try simp only [Bool.not_true, Bool.not_false] at hb) <;> first | (exfalso; simp at hb; done) | (exfalso; simp at hb; omega) | (rw [hb]; (try simp at hb)) | (try simp at hb)))
             | (refine tri_if fun G hG => ?_; (try simp [*, -List.all_eq_true]); refine hG.out _ (fun hb => ?_) (fun hb => ?_) <;> clear hG G <;> (try simp only [Bool.not_true, Bool.not_false] at hb) <;> first | (exfalso; simp at hb; done) | (exfalso; simp at hb; omega) | (rw [hb]; (try simp at hb)) | (try simp at hb))
             | (refine ret_q fun R hR => ?_; (try simp [*, -List.all_eq_true, Try.results3]); (try (simp (disch := first | assumption | omega) only [wrap_id, wrapu_id, wrapb_id, tmod_nn, tdiv_nn, ite_yes, flatM_seg, flatM_0, flatM_1, flatM_2, flatI_seg, flatI_0, flatI_1, flatS_get]; (try simp [*, -List.all_eq_true, Try.results3]))); refine hR.out _ ?_; clear hR R; (try rfl))
             | (refine rwf_ca rfl fun C' hC hP => ?_; (try simp [*, -List.all_eq_true]); (first | refine hP.out _ _ _ (awake_spec) ?_ | (refine hC.out _ _ _ (awake_spec) fun r s hq => ?_; obtain ⟨hq1, hq2⟩ := hq; rw [hq1, hq2]; clear hq1 hq2 s r) | refine hP.out _ _ _ (e1) ?_ | (refine hC.out _ _ _ (e1) fun r s hq => ?_; obtain ⟨hq1, hq2⟩ := hq; rw [hq1, hq2]; clear hq1 hq2 s r) | refine hP.out _ _ _ (e2) ?_ | (refine hC.out _ _ _ (e2) fun r s hq => ?_; obtain ⟨hq1, hq2⟩ := hq; rw [hq1, hq2]; clear hq1 hq2 s r)); clear hP hC C')
             | ((first | refine rwf_cz rfl fun C' hC hP => ?_ | refine rwc_cz rfl fun C' hC hP => ?_); (try simp [*, -List.all_eq_true]); (first | refine hC.out _ _ _ (awake_spec) ?_ | refine hP.out _ _ _ (awake_spec) ?_ | refine hC.out _ _ _ (e1) ?_ | refine hP.out _ _ _ (e1) ?_ | refine hC.out _ _ _ (e2) ?_ | refine hP.out _ _ _ (e2) ?_); clear hP hC C'))
        · clear hg
          repeat' (first
           | (with_reducible first | refine tri_seq ?_ | refine then_n ?_ | refine then_e ?_ | refine then_r ?_ | refine block_n ?_ | refine block_r ?_ | refine block_e ?_ | refine block_x (by decide) ?_ | refine tri_block ?_ | refine tri_skip ?_ | refine tri_ret ?_ | refine tri_exit ?_ | refine rwf_nil ?_ | refine rwc_nil ?_ | refine ret_n ?_)
           | refine tri_reg [] ?_
           | refine tri_regc [] [] mixed (by decide +kernel) ?_
           | (refine rwf_boxm rfl fun B hB => ?_; (try simp [*, -List.all_eq_true]); (try (simp (disch := first | assumption | omega) only [wrap_id, wrapu_id, wrapb_id, tmod_nn, tdiv_nn, ite_yes, flatM_seg, flatM_0, flatM_1, flatM_2, flatI_seg, flatI_0, flatI_1, flatS_get]; (try simp [*, -List.all_eq_true]))); refine hB.out _ _ ?_; clear hB B)
           | refine rwf_o ?_
           | refine rwc_o _ rfl ?_
           | (refine rwf_nilt rfl (by decide +kernel) fun G hG => ?_; (try simp [*, -List.all_eq_true]); refine hG.out _ fun b => ?_; clear hG G)
           | ((first | refine rwf_a rfl fun B hB => ?_ | refine rwc_n rfl fun B hB => ?_ | refine rwc_z rfl fun B hB => ?_ | refine rwc_b rfl fun B hB => ?_ | refine rwc_w rfl fun B hB => ?_ | refine rwf_z rfl fun B hB => ?_); (try simp [*, -List.all_eq_true]); (try (simp (disch := first | assumption | omega) only [wrap_id, wrapu_id, wrapb_id, tmod_nn, tdiv_nn, ite_yes, flatM_seg, flatM_0, flatM_1, flatM_2, flatI_seg, flatI_0, flatI_1, flatS_get]; (try simp [*, -List.all_eq_true]))); (first | refine hB.out _ _ ?_ | refine hB.out _ ?_); clear hB B)
           | ((first | refine rwf_g rfl fun G hG hU => ?_ | refine rwc_g rfl fun G hG hU => ?_); (try simp [*, -List.all_eq_true]); first | (refine hU.out ⟨rfl, ?_⟩; clear hG hU G) | (refine hG.out _ (fun hb => ?_) (fun hb => ⟨rfl, ?_⟩) <;> clear hG hU G <;> (try simp only [Bool.not_true, Bool.not_false] at hb) <;> first | (exfalso; simp at hb; done) | (exfalso; simp at hb; omega) | (rw [hb]; (try simp at hb)) | (try simp at hb)))
           | (refine tri_if fun G hG => ?_; (try simp [*, -List.all_eq_true]); refine hG.out _ (fun hb => ?_) (fun hb => ?_) <;> clear hG G <;> (try simp only [Bool.not_true, Bool.not_false] at hb) <;> first | (exfalso; simp at hb; done) | (exfalso; simp at hb; omega) | (rw [hb]; (try simp at hb)) | (try simp at hb))
           | (refine ret_q fun R hR => ?_; (try simp [*, -List.all_eq_true, Try.results3]); (try (simp (disch := first | assumption | omega) only [wrap_id, wrapu_id, wrapb_id, tmod_nn, tdiv_nn, ite_yes, flatM_seg, flatM_0, flatM_1, flatM_2, flatI_seg, flatI_0, flatI_1, flatS_get]; (try simp [*, -List.all_eq_true, Try.results3]))); refine hR.out _ ?_; clear hR R; (try rfl))
           | (refine rwf_ca rfl fun C' hC hP => ?_; (try simp [*, -List.all_eq_true]); (first | refine hP.out _ _ _ (awake_spec) ?_ | (refine hC.out _ _ _ (awake_spec) fun r s hq => ?_; obtain ⟨hq1, hq2⟩ := hq; rw [hq1, hq2]; clear hq1 hq2 s r) | refine hP.out _ _ _ (e1) ?_ | (refine hC.out _ _ _ (e1) fun r s hq => ?_; obtain ⟨hq1, hq2⟩ := hq; rw [hq1, hq2]; clear hq1 hq2 s r) | refine hP.out _ _ _ (e2) ?_ | (refine hC.out _ _ _ (e2) fun r s hq => ?_; obtain ⟨hq1, hq2⟩ := hq; rw [hq1, hq2]; clear hq1 hq2 s r)); clear hP hC C')
           | ((first | refine rwf_cz rfl fun C' hC hP => ?_ | refine rwc_cz rfl fun C' hC hP => ?_); (try simp [*, -List.all_eq_true]); (first | refine hC.out _ _ _ (awake_spec) ?_ | refine hP.out _ _ _ (awake_spec) ?_ | refine hC.out _ _ _ (e1) ?_ | refine hP.out _ _ _ (e1) ?_ | refine hC.out _ _ _ (e2) ?_ | refine hP.out _ _ _ (e2) ?_); clear hP hC C'))
end Go.Proofs.Ytemijcjgdgdhjaa
