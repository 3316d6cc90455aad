/- Ranges: Meet, Cut. -/
import Derived.Test.YtemijcjgdgdhjaaGreatWap
import Derived.Test.YtemijcjgdgdhjaaGreatLc
namespace Go.Proofs.YtemijcjgdgdhjaaGreat
open Go.RowKit
set_option linter.unusedSimpArgs false
set_option maxRecDepth 10000
/-- A range, as cells. -/
def cR (r : Str × Str) : List AV := [.sc (.string r.1), .sc (.string r.2)]
def flatR (l : List (Str × Str)) : List AV := flatC cR l
@[simp] theorem cR_flat (r : Str × Str) : flatL (cR r) = true := rfl
@[simp] theorem cR_one (r : Str × Str) : (cR r).all AV.one = true := rfl
@[simp] theorem take_cR (r : Str × Str) : List.take 2 (cR r) = cR r := rfl
@[simp] theorem wrR (a b : AV) (m : Str × Str) : wr [a, b] 0 (cR m) = cR m := rfl
@[simp] theorem wrR2 (a b : AV) (m : Str × Str) : wr (zerosA [a, b] 2) 0 (cR m) = cR m := rfl
@[simp] theorem cR_length (m : Str × Str) : (cR m).length = 2 := rfl
@[simp] theorem flatR_length (l : List (Str × Str)) : (flatR l).length = l.length * 2 := flatC_length cR_length l
@[simp] theorem flatR_flat (l : List (Str × Str)) : flatL (flatR l) = true := flatC_flat (fun _ => rfl) l
@[simp] theorem flatR_one (l : List (Str × Str)) : (flatR l).all AV.one = true := flatC_one' (fun _ => rfl) l
theorem flatR_seg (l : List (Str × Str)) (k : Nat) (h : k < l.length) : ((flatR l).drop (k * 2)).take 2 = cR l[k] := flatC_seg cR_length l k h
theorem flatR_append (l m : List (Str × Str)) : flatR (l ++ m) = flatR l ++ flatR m := flatC_append l m
theorem kTurned_spec (lo hi : Str) : PSpec Tryz.prog 199 [.agg [.sc (.string lo), .sc (.string hi)]] (.sc (.bool (turnM lo hi))) := by
  refine spec_pure (by simp) (by simp) ?_
  refine spec_intro Tryz.func199 good199 rfl (by simp [Tryz.ntmps199]) ?_
  repeat' (first
   | (with_reducible first | refine Stp.pf ?_ | refine block_x (by decide) ?_ | refine ret_n ?_)
   | refine tri_reg [] ?_ | refine tri_regc [] [] mixed (by decide +kernel) ?_
   | (refine rwf_nilt rfl (by decide +kernel) fun B hB => ?_; (try simp [*]); refine hB.out _ fun b => ?_; clear hB B)
   | (refine Rul.pf ⟨rfl, rfl⟩ fun B C hB => ?_; (try simp [*, -List.all_eq_true, Tryz.results199]); (try (simp (disch := first | assumption | omega) only [wc, ite_yes]; (try simp [*, -List.all_eq_true, Tryz.results199]))); first | (first | refine hB.out.1 _ (fun hb => ?_) fun hb => ⟨rfl, ?_⟩ | refine hB.out.1 _ (fun hb => ?_) fun hb => ?_) <;> clear hB C B <;> (try simp only [Bool.not_true, Bool.not_false] at hb) <;> (first | (exfalso; simp at hb; done) | (exfalso; simp at hb; omega) | (rw [hb]; (try simp at hb)) | (try simp at hb)) | ((first | refine hB.out.1 _ _ ?_ | refine hB.out.1 _ ?_ | refine hB.out.2 ⟨rfl, ?_⟩); clear hB C B) | (refine hB.out.2 _ ?_; clear hB C B; (try rfl)))
   | refine rwf_o ?_ | refine rwc_o .n rfl ?_ | refine rwc_o .z rfl ?_ | refine rwc_o .w rfl ?_ | refine rwc_o .b rfl ?_ | refine rwc_o _ rfl ?_)
  all_goals simp_all [turnM, mk_empty]
theorem kEnd_spec (a b : Str) : PSpec Tryz.prog 198 [.sc (.string a), .sc (.string b)] (.sc (.string (endM a b))) := by
  refine spec_pure (by simp) (by simp) ?_
  refine spec_intro Tryz.func198 good198 rfl (by simp [Tryz.ntmps198]) ?_
  repeat' (first
   | (with_reducible first | refine Stp.pf ?_ | refine block_x (by decide) ?_ | refine ret_n ?_)
   | refine tri_reg [] ?_ | refine tri_regc [] [] mixed (by decide +kernel) ?_
   | (refine rwf_nilt rfl (by decide +kernel) fun B hB => ?_; (try simp [*]); refine hB.out _ fun b => ?_; clear hB B)
   | (refine Rul.pf ⟨rfl, rfl⟩ fun B C hB => ?_; (try simp [*, -List.all_eq_true, Tryz.results198]); (try (simp (disch := first | assumption | omega) only [wc, ite_yes]; (try simp [*, -List.all_eq_true, Tryz.results198]))); first | (first | refine hB.out.1 _ (fun hb => ?_) fun hb => ⟨rfl, ?_⟩ | refine hB.out.1 _ (fun hb => ?_) fun hb => ?_) <;> clear hB C B <;> (try simp only [Bool.not_true, Bool.not_false] at hb) <;> (first | (exfalso; simp at hb; done) | (exfalso; simp at hb; omega) | (rw [hb]; (try simp at hb)) | (try simp at hb)) | ((first | refine hB.out.1 _ _ ?_ | refine hB.out.1 _ ?_ | refine hB.out.2 ⟨rfl, ?_⟩); clear hB C B) | (refine hB.out.2 _ ?_; clear hB C B; (try rfl)))
   | refine rwf_o ?_ | refine rwc_o .n rfl ?_ | refine rwc_o .z rfl ?_ | refine rwc_o .w rfl ?_ | refine rwc_o .b rfl ?_ | refine rwc_o _ rfl ?_)
  all_goals simp_all [endM, mk_empty]
theorem maxM_is (a b : Str) : maxM a b = if slt a b = true then b else a := by
  unfold maxM Lib.maxS slt
  simp only [decide_eq_true_eq]
theorem kMeet_spec (a b c d : Str) : PSpec Tryz.prog 172 [.agg [.sc (.string a), .sc (.string b)], .agg [.sc (.string c), .sc (.string d)]] (.agg (cR (meetM (a, b) (c, d)))) := by
  refine spec_pure (by simp) (by simp) ?_
  refine spec_intro Tryz.func172 good172 rfl (by simp [Tryz.ntmps172]) ?_
  repeat' (first
   | (with_reducible first | refine Stp.pf ?_ | refine block_x (by decide) ?_ | refine ret_n ?_)
   | refine tri_reg [4,5] ?_ | refine tri_regc (id := 1) [4,5] [(11, .b), (12, .w)] mixed (by decide +kernel) ?_ | refine tri_regc [4,5] [] mixed (by decide +kernel) ?_
   | (refine rwf_nilt rfl (by decide +kernel) fun B hB => ?_; (try simp [*]); refine hB.out _ fun b => ?_; clear hB B)
   | (refine Rul.pf ⟨rfl, rfl⟩ fun B C hB => ?_; (try simp [*, -List.all_eq_true, Tryz.results172]); (try (simp (disch := first | assumption | omega) only [wc, ite_yes]; (try simp [*, -List.all_eq_true, Tryz.results172]))); first | (first | refine hB.out.1 _ (fun hb => ?_) fun hb => ⟨rfl, ?_⟩ | refine hB.out.1 _ (fun hb => ?_) fun hb => ?_) <;> clear hB C B <;> (try simp only [Bool.not_true, Bool.not_false] at hb) <;> (first | (exfalso; simp at hb; done) | (exfalso; simp at hb; omega) | (rw [hb]; (try simp at hb)) | (try simp at hb)) | ((first | refine hB.out.1 _ _ ?_ | refine hB.out.1 _ ?_ | refine hB.out.2.1 _ _ _ (kEnd_spec _ _) ?_ | refine hB.out.2.2 _ _ _ (kEnd_spec _ _) ?_ | refine hB.out.2.1 _ _ _ (kTurned_spec _ _) ?_ | refine hB.out.2.2 _ _ _ (kTurned_spec _ _) ?_ | refine hB.out.2 ⟨rfl, ?_⟩); clear hB C B) | (refine hB.out.2 _ ?_; clear hB C B; (try rfl)))
   | refine rwf_o ?_ | refine rwc_o .n rfl ?_ | refine rwc_o .z rfl ?_ | refine rwc_o .w rfl ?_ | refine rwc_o .b rfl ?_ | refine rwc_o _ rfl ?_)
  all_goals simp_all [meetM, maxM_is, cR]
theorem kCut_spec (r : Str × Str) (ps : List Str) (hl : ps.length ≤ 400000) : PSpec Tryz.prog 132 [.agg (cR r), .fs (flatS ps) ps.length] (.fs (flatR (cutM r ps)) (cutM r ps).length) := by
  refine spec_pureFW (by simp) ?_
  refine spec_intro Tryz.func132 good132 rfl (by simp [Tryz.ntmps132]) ?_
  repeat' (first
   | (with_reducible first | refine Stp.pf ?_ | refine block_x (by decide) ?_ | refine ret_n ?_)
   | refine tri_reg [15,29,38,45] ?_ | refine tri_regc [15,29,38,45] [] mixed (by decide +kernel) ?_
   | (refine rwf_nilt rfl (by decide +kernel) fun B hB => ?_; (try simp [*]); refine hB.out _ fun b => ?_; clear hB B)
   | (refine Rul.pf ⟨rfl, rfl⟩ fun B C hB => ?_; (try simp [*, -List.all_eq_true, Tryz.results132]); (try (simp (disch := first | assumption | omega) only [wc, ite_yes]; (try simp [*, -List.all_eq_true, Tryz.results132]))); first | (first | refine hB.out.1 _ (fun hb => ?_) fun hb => ⟨rfl, ?_⟩ | refine hB.out.1 _ (fun hb => ?_) fun hb => ?_) <;> clear hB C B <;> (try simp only [Bool.not_true, Bool.not_false] at hb) <;> (first | (exfalso; simp at hb; done) | (exfalso; simp at hb; omega) | (rw [hb]; (try simp at hb)) | (try simp at hb)) | ((first | refine hB.out.1 _ _ ?_ | refine hB.out.1 _ ?_ | refine hB.out.2 ⟨rfl, ?_⟩); clear hB C B) | (refine hB.out.2 _ ?_; clear hB C B; (try rfl)))
   | refine rwf_o ?_ | refine rwc_o .n rfl ?_ | refine rwc_o .z rfl ?_ | refine rwc_o .w rfl ?_ | refine rwc_o .b rfl ?_ | refine rwc_o _ rfl ?_)
  have hlen : ∀ k, (cutL r (ps.take k)).1.length ≤ ps.length := fun k => by rw [cutL_len]; simp; omega
  refine tri_for [1, 2, 4, 5, 16, 17] ps.length (fun k e σ => e 18 = .sc (.int .i64 k) ∧ e 7 = .sc (.string (cutL r (ps.take k)).2) ∧ ∃ v, e 6 = v ∧ Own 2 σ v (cutL r (ps.take k)).1.length (flatR (cutL r (ps.take k)).1)) ?_ (fun k env' σ' hlt hk hI => ?_) (fun env' σ' hk hI => ?_)
  · exact ⟨by simp, by simp [cutL], _, rfl, by simp; exact .inr ⟨0, 0, 0, [], rfl, rfl, by simp [cutL], by simp [cutL, flatR, flatC]⟩⟩
  · skip
    (try simp at hk)
    obtain ⟨h18, h7, v, h6, o1⟩ := hI
    have hs := cutL_succ r (List.getElem?_eq_getElem hlt)
    have hl1 := hlen k
    repeat' (first
     | (with_reducible first | refine Stp.pf ?_ | refine block_x (by decide) ?_ | refine ret_n ?_)
     | refine tri_reg [15,29,38,45] ?_ | refine tri_regc [15,29,38,45] [] mixed (by decide +kernel) ?_
     | (refine rwf_nilt rfl (by decide +kernel) fun B hB => ?_; (try simp [*]); refine hB.out _ fun b => ?_; clear hB B)
     | (refine Rul.pf ⟨rfl, rfl⟩ fun B C hB => ?_; (try simp [*, -List.all_eq_true, Tryz.results132]); (try (simp (disch := first | assumption | omega) only [wc, ite_yes]; (try simp [*, -List.all_eq_true, Tryz.results132]))); first | (first | refine hB.out.1 _ (fun hb => ?_) fun hb => ⟨rfl, ?_⟩ | refine hB.out.1 _ (fun hb => ?_) fun hb => ?_) <;> clear hB C B <;> (try simp only [Bool.not_true, Bool.not_false] at hb) <;> (first | (exfalso; simp at hb; done) | (exfalso; simp at hb; omega) | (rw [hb]; (try simp at hb)) | (try simp at hb)) | ((first | refine hB.out.1 _ _ ?_ | refine hB.out.1 _ ?_ | refine hB.out.2.1 _ _ _ (kMeet_spec _ _ _ _) ?_ | refine hB.out.2.2 _ _ _ (kMeet_spec _ _ _ _) ?_ | refine hB.out.2 ⟨rfl, ?_⟩); clear hB C B) | (refine hB.out.2 _ ?_; clear hB C B; (try rfl)))
     | refine rwf_o ?_ | refine rwc_o .n rfl ?_ | refine rwc_o .z rfl ?_ | refine rwc_o .w rfl ?_ | refine rwc_o .b rfl ?_ | refine rwc_o _ rfl ?_)
    refine rwf_app rfl rfl elem177 zero25 rfl bytes25 (by decide) slc177 fun G hG => ?_
    (try simp [*, -List.all_eq_true])
    refine hG.out _ _ _ _ _ (o1) (by simp) (by simp) (by omega) fun v1 σ1 q1 q2 => ?_
    clear hG G
    repeat' (first
     | (with_reducible first | refine Stp.pf ?_ | refine block_x (by decide) ?_ | refine ret_n ?_)
     | refine tri_reg [15,29,38,45] ?_ | refine tri_regc [15,29,38,45] [] mixed (by decide +kernel) ?_
     | (refine rwf_nilt rfl (by decide +kernel) fun B hB => ?_; (try simp [*]); refine hB.out _ fun b => ?_; clear hB B)
     | (refine Rul.pf ⟨rfl, rfl⟩ fun B C hB => ?_; (try simp [*, -List.all_eq_true, Tryz.results132]); (try (simp (disch := first | assumption | omega) only [wc, ite_yes]; (try simp [*, -List.all_eq_true, Tryz.results132]))); first | (first | refine hB.out.1 _ (fun hb => ?_) fun hb => ⟨rfl, ?_⟩ | refine hB.out.1 _ (fun hb => ?_) fun hb => ?_) <;> clear hB C B <;> (try simp only [Bool.not_true, Bool.not_false] at hb) <;> (first | (exfalso; simp at hb; done) | (exfalso; simp at hb; omega) | (rw [hb]; (try simp at hb)) | (try simp at hb)) | ((first | refine hB.out.1 _ _ ?_ | refine hB.out.1 _ ?_ | refine hB.out.2 ⟨rfl, ?_⟩); clear hB C B) | (refine hB.out.2 _ ?_; clear hB C B; (try rfl)))
     | refine rwf_o ?_ | refine rwc_o .n rfl ?_ | refine rwc_o .z rfl ?_ | refine rwc_o .w rfl ?_ | refine rwc_o .b rfl ?_ | refine rwc_o _ rfl ?_)
    rw [hs]
    exact ⟨by simp [*], by simp, by simp, v1, by simp, by simpa [flatR_append, flatR, flatC] using q1⟩
  · skip
    (try simp at hk)
    obtain ⟨h18, h7, v, h6, o1⟩ := hI
    have hl1 := hlen ps.length
    rw [List.take_length] at *
    by_cases h0 : ps = []
    · subst h0
      repeat' (first
       | (with_reducible first | refine Stp.pf ?_ | refine block_x (by decide) ?_ | refine ret_n ?_)
       | refine tri_reg [15,29,38,45] ?_ | refine tri_regc [15,29,38,45] [] mixed (by decide +kernel) ?_
       | (refine rwf_nilt rfl (by decide +kernel) fun B hB => ?_; (try simp [*]); refine hB.out _ fun b => ?_; clear hB B)
       | (refine Rul.pf ⟨rfl, rfl⟩ fun B C hB => ?_; (try simp [*, -List.all_eq_true, Tryz.results132]); (try (simp (disch := first | assumption | omega) only [wc, ite_yes]; (try simp [*, -List.all_eq_true, Tryz.results132]))); first | (first | refine hB.out.1 _ (fun hb => ?_) fun hb => ⟨rfl, ?_⟩ | refine hB.out.1 _ (fun hb => ?_) fun hb => ?_) <;> clear hB C B <;> (try simp only [Bool.not_true, Bool.not_false] at hb) <;> (first | (exfalso; simp at hb; done) | (exfalso; simp at hb; omega) | (rw [hb]; (try simp at hb)) | (try simp at hb)) | ((first | refine hB.out.1 _ _ ?_ | refine hB.out.1 _ ?_ | refine hB.out.2.1 _ _ _ (kMeet_spec _ _ _ _) ?_ | refine hB.out.2.2 _ _ _ (kMeet_spec _ _ _ _) ?_ | refine hB.out.2 ⟨rfl, ?_⟩); clear hB C B) | (refine hB.out.2 _ ?_; clear hB C B; (try rfl)))
       | refine rwf_o ?_ | refine rwc_o .n rfl ?_ | refine rwc_o .z rfl ?_ | refine rwc_o .w rfl ?_ | refine rwc_o .b rfl ?_ | refine rwc_o _ rfl ?_)
      refine rwf_app rfl rfl elem177 zero25 rfl bytes25 (by decide) slc177 fun G hG => ?_
      (try simp [*, -List.all_eq_true])
      refine hG.out _ _ _ _ _ (o1) (by simp) (by simp) (by omega) fun v1 σ1 q1 q2 => ?_
      clear hG G
      repeat' (first
       | (with_reducible first | refine Stp.pf ?_ | refine block_x (by decide) ?_ | refine ret_n ?_)
       | refine tri_reg [15,29,38,45] ?_ | refine tri_regc [15,29,38,45] [] mixed (by decide +kernel) ?_
       | (refine rwf_nilt rfl (by decide +kernel) fun B hB => ?_; (try simp [*]); refine hB.out _ fun b => ?_; clear hB B)
       | (refine Rul.pf ⟨rfl, rfl⟩ fun B C hB => ?_; (try simp [*, -List.all_eq_true, Tryz.results132]); (try (simp (disch := first | assumption | omega) only [wc, ite_yes]; (try simp [*, -List.all_eq_true, Tryz.results132]))); first | (first | refine hB.out.1 _ (fun hb => ?_) fun hb => ⟨rfl, ?_⟩ | refine hB.out.1 _ (fun hb => ?_) fun hb => ?_) <;> clear hB C B <;> (try simp only [Bool.not_true, Bool.not_false] at hb) <;> (first | (exfalso; simp at hb; done) | (exfalso; simp at hb; omega) | (rw [hb]; (try simp at hb)) | (try simp at hb)) | ((first | refine hB.out.1 _ _ ?_ | refine hB.out.1 _ ?_ | refine hB.out.2 ⟨rfl, ?_⟩); clear hB C B) | (refine hB.out.2 _ ?_; clear hB C B; (try rfl)))
       | refine rwf_o ?_ | refine rwc_o .n rfl ?_ | refine rwc_o .z rfl ?_ | refine rwc_o .w rfl ?_ | refine rwc_o .b rfl ?_ | refine rwc_o _ rfl ?_)
      rw [show cutM r [] = [r] from rfl]
      exact out_own (k := 2) (by simpa [cutL, flatR, flatC] using q1) (by simp)
    · have h1 : ¬ ps.length = 0 := fun h => h0 (List.length_eq_zero_iff.1 h)
      repeat' (first
       | (with_reducible first | refine Stp.pf ?_ | refine block_x (by decide) ?_ | refine ret_n ?_)
       | refine tri_reg [15,29,38,45] ?_ | refine tri_regc [15,29,38,45] [] mixed (by decide +kernel) ?_
       | (refine rwf_nilt rfl (by decide +kernel) fun B hB => ?_; (try simp [*]); refine hB.out _ fun b => ?_; clear hB B)
       | (refine Rul.pf ⟨rfl, rfl⟩ fun B C hB => ?_; (try simp [*, -List.all_eq_true, Tryz.results132]); (try (simp (disch := first | assumption | omega) only [wc, ite_yes]; (try simp [*, -List.all_eq_true, Tryz.results132]))); first | (first | refine hB.out.1 _ (fun hb => ?_) fun hb => ⟨rfl, ?_⟩ | refine hB.out.1 _ (fun hb => ?_) fun hb => ?_) <;> clear hB C B <;> (try simp only [Bool.not_true, Bool.not_false] at hb) <;> (first | (exfalso; simp at hb; done) | (exfalso; simp at hb; omega) | (rw [hb]; (try simp at hb)) | (try simp at hb)) | ((first | refine hB.out.1 _ _ ?_ | refine hB.out.1 _ ?_ | refine hB.out.2.1 _ _ _ (kMeet_spec _ _ _ _) ?_ | refine hB.out.2.2 _ _ _ (kMeet_spec _ _ _ _) ?_ | refine hB.out.2 ⟨rfl, ?_⟩); clear hB C B) | (refine hB.out.2 _ ?_; clear hB C B; (try rfl)))
       | refine rwf_o ?_ | refine rwc_o .n rfl ?_ | refine rwc_o .z rfl ?_ | refine rwc_o .w rfl ?_ | refine rwc_o .b rfl ?_ | refine rwc_o _ rfl ?_)
      refine rwf_app rfl rfl elem177 zero25 rfl bytes25 (by decide) slc177 fun G hG => ?_
      (try simp [*, -List.all_eq_true])
      refine hG.out _ _ _ _ _ (o1) (by simp) (by simp) (by omega) fun v1 σ1 q1 q2 => ?_
      clear hG G
      repeat' (first
       | (with_reducible first | refine Stp.pf ?_ | refine block_x (by decide) ?_ | refine ret_n ?_)
       | refine tri_reg [15,29,38,45] ?_ | refine tri_regc [15,29,38,45] [] mixed (by decide +kernel) ?_
       | (refine rwf_nilt rfl (by decide +kernel) fun B hB => ?_; (try simp [*]); refine hB.out _ fun b => ?_; clear hB B)
       | (refine Rul.pf ⟨rfl, rfl⟩ fun B C hB => ?_; (try simp [*, -List.all_eq_true, Tryz.results132]); (try (simp (disch := first | assumption | omega) only [wc, ite_yes]; (try simp [*, -List.all_eq_true, Tryz.results132]))); first | (first | refine hB.out.1 _ (fun hb => ?_) fun hb => ⟨rfl, ?_⟩ | refine hB.out.1 _ (fun hb => ?_) fun hb => ?_) <;> clear hB C B <;> (try simp only [Bool.not_true, Bool.not_false] at hb) <;> (first | (exfalso; simp at hb; done) | (exfalso; simp at hb; omega) | (rw [hb]; (try simp at hb)) | (try simp at hb)) | ((first | refine hB.out.1 _ _ ?_ | refine hB.out.1 _ ?_ | refine hB.out.2 ⟨rfl, ?_⟩); clear hB C B) | (refine hB.out.2 _ ?_; clear hB C B; (try rfl)))
       | refine rwf_o ?_ | refine rwc_o .n rfl ?_ | refine rwc_o .z rfl ?_ | refine rwc_o .w rfl ?_ | refine rwc_o .b rfl ?_ | refine rwc_o _ rfl ?_)
      unfold cutM
      rw [if_neg h0]
      exact out_own (k := 2) (by simpa [flatR_append, flatR, flatC] using q1) (by simp)
end Go.Proofs.YtemijcjgdgdhjaaGreat
