/- Merging: a message put on a value. -/
import Derived.Test.YtemijcjgdgdhjaaWm9
namespace Go.Proofs.Ytemijcjgdgdhjaa
open Go.RowKit
set_option linter.unusedSimpArgs false
set_option maxRecDepth 10000

set_option maxHeartbeats 1000000 in
theorem mApply_spec (m : Msg) (val : Str) (has : Bool) : PSpec Try.prog 49 [.agg (cM m), .sc (.string val), .sc (.bool has)] (.tup [.sc (.string (applyM m val has).1), .sc (.bool (applyM m val has).2)]) := by
  refine spec_pure (by simp) (by simp) ?_
  refine spec_intro Try.func49 good49 rfl (by simp [Try.ntmps49]) ?_
  cases has
  · skip
    repeat' (first
     | (with_reducible first | refine Stp.pf ?_ | refine block_x (by decide) ?_ | refine ret_n ?_)
     | refine tri_reg [3] ?_ | refine tri_regc [3] [] mixed (by decide +kernel) ?_
     | (refine rwf_nilt rfl (by decide +kernel) fun B hB => ?_; (try simp [*]); refine hB.out _ fun b => ?_; clear hB B)
     | (refine Rul.pf ⟨rfl, rfl⟩ fun B C hB => ?_; (try simp [*, -List.all_eq_true, cM, Try.results49]); (try (simp (disch := first | assumption | omega) only [wc, ite_yes]; (try simp [*, -List.all_eq_true, cM, Try.results49]))); first | (first | refine hB.out.1 _ (fun hb => ?_) fun hb => ⟨rfl, ?_⟩ | refine hB.out.1 _ (fun hb => ?_) fun hb => ?_) <;> clear hB C B <;> (try simp only [Bool.not_true, Bool.not_false] at hb) <;> (first | (exfalso; simp at hb; done) | (exfalso; simp at hb; omega) | (rw [hb]; (try simp at hb)) | (try simp at hb)) | ((first | refine hB.out.1 _ _ ?_ | refine hB.out.1 _ ?_ | refine hB.out.2.1 _ _ _ (isNot_spec _) ?_ | refine hB.out.2.2 _ _ _ (isNot_spec _) ?_ | refine hB.out.2.1 _ _ _ (sum_spec _ _) ?_ | refine hB.out.2.2 _ _ _ (sum_spec _ _) ?_ | refine hB.out.2 ⟨rfl, ?_⟩); clear hB C B) | (refine hB.out.2 _ ?_; clear hB C B; (try rfl)))
     | refine rwf_o ?_ | refine rwc_o .n rfl ?_ | refine rwc_o .z rfl ?_ | refine rwc_o .w rfl ?_ | refine rwc_o .b rfl ?_ | refine rwc_o _ rfl ?_)
    all_goals simp_all [applyM]
  · skip
    repeat' (first
     | (with_reducible first | refine Stp.pf ?_ | refine block_x (by decide) ?_ | refine ret_n ?_)
     | refine tri_reg [3] ?_ | refine tri_regc [3] [] mixed (by decide +kernel) ?_
     | (refine rwf_nilt rfl (by decide +kernel) fun B hB => ?_; (try simp [*]); refine hB.out _ fun b => ?_; clear hB B)
     | (refine Rul.pf ⟨rfl, rfl⟩ fun B C hB => ?_; (try simp [*, -List.all_eq_true, cM, Try.results49]); (try (simp (disch := first | assumption | omega) only [wc, ite_yes]; (try simp [*, -List.all_eq_true, cM, Try.results49]))); first | (first | refine hB.out.1 _ (fun hb => ?_) fun hb => ⟨rfl, ?_⟩ | refine hB.out.1 _ (fun hb => ?_) fun hb => ?_) <;> clear hB C B <;> (try simp only [Bool.not_true, Bool.not_false] at hb) <;> (first | (exfalso; simp at hb; done) | (exfalso; simp at hb; omega) | (rw [hb]; (try simp at hb)) | (try simp at hb)) | ((first | refine hB.out.1 _ _ ?_ | refine hB.out.1 _ ?_ | refine hB.out.2.1 _ _ _ (isNot_spec _) ?_ | refine hB.out.2.2 _ _ _ (isNot_spec _) ?_ | refine hB.out.2.1 _ _ _ (sum_spec _ _) ?_ | refine hB.out.2.2 _ _ _ (sum_spec _ _) ?_ | refine hB.out.2 ⟨rfl, ?_⟩); clear hB C B) | (refine hB.out.2 _ ?_; clear hB C B; (try rfl)))
     | refine rwf_o ?_ | refine rwc_o .n rfl ?_ | refine rwc_o .z rfl ?_ | refine rwc_o .w rfl ?_ | refine rwc_o .b rfl ?_ | refine rwc_o _ rfl ?_)
    all_goals simp_all [applyM]
theorem mOver1_no (x : Msg) (o : Nat) (σ : Sto) (hx : (applyM x ⟨#[]⟩ false).2 = false) : Spec Try.prog 87 [.agg (cM x), .mp o 0 0] σ (fun r s => r = .tup [] ∧ s = σ) := by
  have ha := mApply_spec x ⟨#[]⟩ false
  rw [hx] at ha
  refine spec_intro Try.func87 good87 rfl (by simp [Try.ntmps87]) ?_
  repeat' (first
   | (with_reducible first | refine Stp.pf ?_ | refine block_x (by decide) ?_ | refine ret_n ?_)
   | refine tri_reg [17] ?_ | refine tri_regc [17] [] mixed (by decide +kernel) ?_
   | (refine rwf_nilt rfl (by decide +kernel) fun B hB => ?_; (try simp [*]); refine hB.out _ fun b => ?_; clear hB B)
   | (refine Rul.pf ⟨rfl, rfl⟩ fun B C hB => ?_; (try simp [*, -List.all_eq_true, Try.results87]); (try (simp (disch := first | assumption | omega) only [wc, ite_yes]; (try simp [*, -List.all_eq_true, Try.results87]))); first | (first | refine hB.out.1 _ (fun hb => ?_) fun hb => ⟨rfl, ?_⟩ | refine hB.out.1 _ (fun hb => ?_) fun hb => ?_) <;> clear hB C B <;> (try simp only [Bool.not_true, Bool.not_false] at hb) <;> (first | (exfalso; simp at hb; done) | (exfalso; simp at hb; omega) | (rw [hb]; (try simp at hb)) | (try simp at hb)) | ((first | refine hB.out.1 _ _ ?_ | refine hB.out.1 _ ?_ | refine hB.out.2.1 _ _ _ (ha) ?_ | refine hB.out.2.2 _ _ _ (ha) ?_ | refine hB.out.2 ⟨rfl, ?_⟩); clear hB C B) | (refine hB.out.2 _ ?_; clear hB C B; (try rfl)))
   | refine rwf_o ?_ | refine rwc_o .n rfl ?_ | refine rwc_o .z rfl ?_ | refine rwc_o .w rfl ?_ | refine rwc_o .b rfl ?_ | refine rwc_o _ rfl ?_)
  all_goals exact ⟨rfl, rfl⟩
theorem mOver1_yes (x : Msg) (o n : Nat) (v : AV) (fu : Bool) (cs : List AV) (hn : n ≤ 50000000) (σ : Sto) (h1 : σ[o]? = some ⟨[v], 0, false, fu⟩) (h2 : Own 2 σ v n cs) (h3 : ¬ isH o v) (hx : (applyM x ⟨#[]⟩ false).2 = true) :
    Spec Try.prog 87 [.agg (cM x), .mp o 0 0] σ (fun r s => r = .tup [] ∧ ∃ v', s[o]? = some ⟨[v'], 0, false, false⟩ ∧ Own 2 s v' (n + 1) (cs ++ cI ⟨x.key, (applyM x ⟨#[]⟩ false).1⟩) ∧ ¬ isH o v' ∧ (∀ j, isH j v' → isH j v ∨ σ.length ≤ j) ∧ (∀ (i : Nat) (ob : MO), i ≠ o → ¬ isH i v → σ[i]? = some ob → s[i]? = some ob) ∧ σ.length ≤ s.length) := by
  have ha := mApply_spec x ⟨#[]⟩ false
  rw [hx] at ha
  have hcM : cM x = [.sc (.int .i64 x.kind), .sc (.string x.key), .sc (.string x.val)] := rfl
  generalize (applyM x ⟨#[]⟩ false).1 = y at *
  refine spec_intro Try.func87 good87 rfl (by simp [Try.ntmps87]) ?_
  repeat' (first
   | (with_reducible first | refine Stp.pf ?_ | refine block_x (by decide) ?_ | refine ret_n ?_)
   | refine tri_reg [17] ?_ | refine tri_regc [17] [] mixed (by decide +kernel) ?_
   | (refine rwf_nilt rfl (by decide +kernel) fun B hB => ?_; (try simp [*]); refine hB.out _ fun b => ?_; clear hB B)
   | (refine Rul.pf ⟨rfl, rfl⟩ fun B C hB => ?_; (try simp [*, -List.all_eq_true, Try.results87]); (try (simp (disch := first | assumption | omega) only [wc, ite_yes]; (try simp [*, -List.all_eq_true, Try.results87]))); first | (first | refine hB.out.1 _ (fun hb => ?_) fun hb => ⟨rfl, ?_⟩ | refine hB.out.1 _ (fun hb => ?_) fun hb => ?_) <;> clear hB C B <;> (try simp only [Bool.not_true, Bool.not_false] at hb) <;> (first | (exfalso; simp at hb; done) | (exfalso; simp at hb; omega) | (rw [hb]; (try simp at hb)) | (try simp at hb)) | ((first | refine hB.out.1 _ _ ?_ | refine hB.out.1 _ ?_ | refine hB.out.2.1 _ _ _ (ha) ?_ | refine hB.out.2.2 _ _ _ (ha) ?_ | refine hB.out.2 ⟨rfl, ?_⟩); clear hB C B) | (refine hB.out.2 _ ?_; clear hB C B; (try rfl)))
   | refine rwf_o ?_ | refine rwc_o .n rfl ?_ | refine rwc_o .z rfl ?_ | refine rwc_o .w rfl ?_ | refine rwc_o .b rfl ?_ | refine rwc_o _ rfl ?_)
  refine rwf_app rfl rfl elem66 zero68 rfl bytes68 (by decide) slc66 fun G hG => ?_
  (try simp [*, -List.all_eq_true])
  refine hG.out _ _ _ _ _ (h2) (by simp) (by simp) (by omega) fun v1 σ1 q1 q2 => ?_
  clear hG G
  have w1 := q2.1 _ _ h1 h3
  have w3 : ¬ isH o v1 := fun h => by
    rcases q2.2.1 _ h with h | h
    · exact h3 h
    · have := lt_of_get h1; omega
  have q3 := q1
  rcases q1 with ⟨rfl, q4, _⟩ | ⟨i1, g1, off1, c1, rfl, _⟩
  · omega
  clear h1
  repeat' (first
   | (with_reducible first | refine Stp.pf ?_ | refine block_x (by decide) ?_ | refine ret_n ?_)
   | refine tri_reg [] ?_ | refine tri_regc [] [] mixed (by decide +kernel) ?_
   | (refine rwf_nilt rfl (by decide +kernel) fun B hB => ?_; (try simp [*]); refine hB.out _ fun b => ?_; clear hB B)
   | (refine Rul.pf ⟨rfl, rfl⟩ fun B C hB => ?_; (try simp [*, -List.all_eq_true, Try.results87]); (try (simp (disch := first | assumption | omega) only [wc, ite_yes]; (try simp [*, -List.all_eq_true, Try.results87]))); first | (first | refine hB.out.1 _ (fun hb => ?_) fun hb => ⟨rfl, ?_⟩ | refine hB.out.1 _ (fun hb => ?_) fun hb => ?_) <;> clear hB C B <;> (try simp only [Bool.not_true, Bool.not_false] at hb) <;> (first | (exfalso; simp at hb; done) | (exfalso; simp at hb; omega) | (rw [hb]; (try simp at hb)) | (try simp at hb)) | ((first | refine hB.out.1 _ _ ?_ | refine hB.out.1 _ ?_ | refine hB.out.2 ⟨rfl, ?_⟩); clear hB C B) | (refine hB.out.2 _ ?_; clear hB C B; (try rfl)))
   | refine rwf_o ?_ | refine rwc_o .n rfl ?_ | refine rwc_o .z rfl ?_ | refine rwc_o .w rfl ?_ | refine rwc_o .b rfl ?_ | refine rwc_o _ rfl ?_)
  exact ⟨rfl, _, by rw [List.getElem?_set_self (lt_of_get w1)], own_set q3 w3 _, w3, q2.2.1, fun i ob hi hv ho => by rw [List.getElem?_set_ne (Ne.symm hi)]; exact q2.1 i ob ho hv, by rw [List.length_set]; exact q2.2.2⟩
end Go.Proofs.Ytemijcjgdgdhjaa
