/- Keys and messages: what their functions come to. -/
import Derived.Test.YticpnfgiidljlaaGreatFacts
import Derived.Test.YticpnfgiidljlaaGreatLc
import Derived.Test.YticpnfgiidljlaaGreatOd
import Derived.Test.YticpnfgiidljlaaGreatLw
namespace Go.Proofs.YticpnfgiidljlaaGreat
open Go.RowKit
set_option linter.unusedSimpArgs false
set_option maxRecDepth 10000
theorem size_nil (s : Str) : (s = ⟨#[]⟩) ↔ s.size = 0 := by
  constructor
  · rintro rfl; rfl
  · intro h; exact str_ext (List.length_eq_zero_iff.1 (by simpa using h))
theorem keyIs_spec (k : Str) : PSpec Tryz.prog 106 [.sc (.string k)] (.sc (.bool (isKey k))) := by
  refine spec_pure (by simp) (by simp) ?_
  refine spec_intro Tryz.func106 good106 rfl (by simp [Tryz.ntmps106]) ?_
  repeat' (first
   | (with_reducible first | refine Stp.pf ?_ | refine block_x (by decide) ?_ | refine ret_n ?_)
   | refine tri_reg [] ?_ | refine tri_regc [] [] mixed (by decide +kernel) ?_
   | (refine rwf_nilt rfl (by decide +kernel) fun B hB => ?_; (try simp [*]); refine hB.out _ fun b => ?_; clear hB B)
   | (refine Rul.pf ⟨rfl, rfl⟩ fun B C hB => ?_; (try simp [*, -List.all_eq_true, Tryz.results106]); (try (simp (disch := first | assumption | omega) only [wc, ite_yes]; (try simp [*, -List.all_eq_true, Tryz.results106]))); first | (first | refine hB.out.1 _ (fun hb => ?_) fun hb => ⟨rfl, ?_⟩ | refine hB.out.1 _ (fun hb => ?_) fun hb => ?_) <;> clear hB C B <;> (try simp only [Bool.not_true, Bool.not_false] at hb) <;> (first | (exfalso; simp at hb; done) | (exfalso; simp at hb; omega) | (rw [hb]; (try simp at hb)) | (try simp at hb)) | ((first | refine hB.out.1 _ _ ?_ | refine hB.out.1 _ ?_ | refine hB.out.2 ⟨rfl, ?_⟩); clear hB C B) | (refine hB.out.2 _ ?_; clear hB C B; (try rfl)))
   | refine rwf_o ?_ | refine rwc_o .n rfl ?_ | refine rwc_o .z rfl ?_ | refine rwc_o .w rfl ?_ | refine rwc_o .b rfl ?_ | refine rwc_o _ rfl ?_)
  all_goals (simp [isKey]; try (rw [Bool.eq_iff_iff]; simp); try omega)
  all_goals (intro h; omega)
theorem isVal_spec (k : Str) : PSpec Tryz.prog 107 [.sc (.string k)] (.sc (.bool (isVal k))) := by
  refine spec_pure (by simp) (by simp) ?_
  refine spec_intro Tryz.func107 good107 rfl (by simp [Tryz.ntmps107]) ?_
  refine go1 [] [] (cns Tryz.results107 trivial) ?_
  simp [isVal]
  try (rw [Bool.eq_iff_iff]; simp)
  try omega
theorem msgIs_spec (m : Msg) : PSpec Tryz.prog 115 [.agg (cM m)] (.sc (.bool (isMsg m))) := by
  refine spec_pure (by simp) (by simp) ?_
  refine spec_intro Tryz.func115 good115 rfl (by simp [Tryz.ntmps115]) ?_
  repeat' (first
   | (with_reducible first | refine Stp.pf ?_ | refine block_x (by decide) ?_ | refine ret_n ?_)
   | refine tri_reg [] ?_ | refine tri_regc [] [] mixed (by decide +kernel) ?_
   | (refine rwf_nilt rfl (by decide +kernel) fun B hB => ?_; (try simp [*]); refine hB.out _ fun b => ?_; clear hB B)
   | (refine Rul.pf ⟨rfl, rfl⟩ fun B C hB => ?_; (try simp [*, -List.all_eq_true, cM, Tryz.results115]); (try (simp (disch := first | assumption | omega) only [wc, ite_yes]; (try simp [*, -List.all_eq_true, cM, Tryz.results115]))); first | (first | refine hB.out.1 _ (fun hb => ?_) fun hb => ⟨rfl, ?_⟩ | refine hB.out.1 _ (fun hb => ?_) fun hb => ?_) <;> clear hB C B <;> (try simp only [Bool.not_true, Bool.not_false] at hb) <;> (first | (exfalso; simp at hb; done) | (exfalso; simp at hb; omega) | (rw [hb]; (try simp at hb)) | (try simp at hb)) | ((first | refine hB.out.1 _ _ ?_ | refine hB.out.1 _ ?_ | refine hB.out.2.1 _ _ _ (keyIs_spec _) ?_ | refine hB.out.2.2 _ _ _ (keyIs_spec _) ?_ | refine hB.out.2.1 _ _ _ (isVal_spec _) ?_ | refine hB.out.2.2 _ _ _ (isVal_spec _) ?_ | refine hB.out.2 ⟨rfl, ?_⟩); clear hB C B) | (refine hB.out.2 _ ?_; clear hB C B; (try rfl)))
   | refine rwf_o ?_ | refine rwc_o .n rfl ?_ | refine rwc_o .z rfl ?_ | refine rwc_o .w rfl ?_ | refine rwc_o .b rfl ?_ | refine rwc_o _ rfl ?_)
  all_goals simp_all [isMsg, isVal, size_nil]
  all_goals omega
theorem isNot_spec (m : Msg) : PSpec Tryz.prog 132 [.agg (cM m)] (.sc (.bool (!isMsg m))) := by
  refine spec_pure (by simp) (by simp) ?_
  refine spec_intro Tryz.func132 good132 rfl (by simp [Tryz.ntmps132]) ?_
  exact go0 [] [] (cns (fun x1 => msgIs_spec x1) (cns Tryz.results132 trivial))
theorem ofPut_spec (k v : Str) : PSpec Tryz.prog 162 [.sc (.string k), .sc (.string v)] (.agg (cM ⟨1, k, v⟩)) := by
  refine spec_pure (by simp) (by simp) ?_
  refine spec_intro Tryz.func162 good162 rfl (by simp [Tryz.ntmps162]) ?_
  exact go0 [4] [] (cns Tryz.results162 trivial)
theorem mWeight_spec (m : Msg) (h1 : m.key.size ≤ 1000000) (h2 : m.val.size ≤ 1000000) : PSpec Tryz.prog 142 [.agg (cM m)] (.sc (.int .i64 (mwt m))) := by
  refine spec_pure (by simp) (by simp) ?_
  refine spec_intro Tryz.func142 good142 rfl (by simp [Tryz.ntmps142]) ?_
  repeat' (first
   | (with_reducible first | refine Stp.pf ?_ | refine block_x (by decide) ?_ | refine ret_n ?_)
   | refine tri_reg [] ?_ | refine tri_regc [] [] mixed (by decide +kernel) ?_
   | (refine rwf_nilt rfl (by decide +kernel) fun B hB => ?_; (try simp [*]); refine hB.out _ fun b => ?_; clear hB B)
   | (refine Rul.pf ⟨rfl, rfl⟩ fun B C hB => ?_; (try simp [*, -List.all_eq_true, cM, Tryz.results142]); (try (simp (disch := first | assumption | omega) only [wc, ite_yes]; (try simp [*, -List.all_eq_true, cM, Tryz.results142]))); first | (first | refine hB.out.1 _ (fun hb => ?_) fun hb => ⟨rfl, ?_⟩ | refine hB.out.1 _ (fun hb => ?_) fun hb => ?_) <;> clear hB C B <;> (try simp only [Bool.not_true, Bool.not_false] at hb) <;> (first | (exfalso; simp at hb; done) | (exfalso; simp at hb; omega) | (rw [hb]; (try simp at hb)) | (try simp at hb)) | ((first | refine hB.out.1 _ _ ?_ | refine hB.out.1 _ ?_ | refine hB.out.2 ⟨rfl, ?_⟩); clear hB C B) | (refine hB.out.2 _ ?_; clear hB C B; (try rfl)))
   | refine rwf_o ?_ | refine rwc_o .n rfl ?_ | refine rwc_o .z rfl ?_ | refine rwc_o .w rfl ?_ | refine rwc_o .b rfl ?_ | refine rwc_o _ rfl ?_)
theorem sum_spec (a b : Str) : PSpec Tryz.prog 163 [.sc (.string a), .sc (.string b)] (.sc (.string (sumS a b))) :=
  pspec_gives [.string a, .string b] good163 fun w => Old.sum_calls a b w
set_option maxHeartbeats 1000000 in
theorem mThen_spec (a b : Msg) : PSpec Tryz.prog 141 [.agg (cM a), .agg (cM b)] (.tup [.agg (cM ((thenM a b).getD zeroM)), .sc (.int .i64 (if thenM a b = none then 1 else 0))]) := by
  refine spec_pure (by simp) (by simp) ?_
  refine spec_intro Tryz.func141 good141 rfl (by simp [Tryz.ntmps141]) ?_
  repeat' (first
   | (with_reducible first | refine Stp.pf ?_ | refine block_x (by decide) ?_ | refine ret_n ?_)
   | refine tri_reg [2,4] ?_ | refine tri_regc [2,4] [] mixed (by decide +kernel) ?_
   | (refine rwf_nilt rfl (by decide +kernel) fun B hB => ?_; (try simp [*]); refine hB.out _ fun b => ?_; clear hB B)
   | (refine Rul.pf ⟨rfl, rfl⟩ fun B C hB => ?_; (try simp [*, -List.all_eq_true, cM, Tryz.results141]); (try (simp (disch := first | assumption | omega) only [wc, ite_yes]; (try simp [*, -List.all_eq_true, cM, Tryz.results141]))); first | (first | refine hB.out.1 _ (fun hb => ?_) fun hb => ⟨rfl, ?_⟩ | refine hB.out.1 _ (fun hb => ?_) fun hb => ?_) <;> clear hB C B <;> (try simp only [Bool.not_true, Bool.not_false] at hb) <;> (first | (exfalso; simp at hb; done) | (exfalso; simp at hb; omega) | (rw [hb]; (try simp at hb)) | (try simp at hb)) | ((first | refine hB.out.1 _ _ ?_ | refine hB.out.1 _ ?_ | refine hB.out.2.1 _ _ _ (isNot_spec _) ?_ | refine hB.out.2.2 _ _ _ (isNot_spec _) ?_ | refine hB.out.2.1 _ _ _ (sum_spec _ _) ?_ | refine hB.out.2.2 _ _ _ (sum_spec _ _) ?_ | refine hB.out.2.1 _ _ _ (ofPut_spec _ _) ?_ | refine hB.out.2.2 _ _ _ (ofPut_spec _ _) ?_ | refine hB.out.2 ⟨rfl, ?_⟩); clear hB C B) | (refine hB.out.2 _ ?_; clear hB C B; (try rfl)))
   | refine rwf_o ?_ | refine rwc_o .n rfl ?_ | refine rwc_o .z rfl ?_ | refine rwc_o .w rfl ?_ | refine rwc_o .b rfl ?_ | refine rwc_o _ rfl ?_)
  all_goals simp_all [thenM, cM, zeroM]
theorem rangeHas_spec (lo hi k : Str) : PSpec Tryz.prog 157 [.agg [.sc (.string lo), .sc (.string hi)], .sc (.string k)] (.sc (.bool (hasM lo hi k))) := by
  refine spec_pure (by simp) (by simp) ?_
  refine spec_intro Tryz.func157 good157 rfl (by simp [Tryz.ntmps157]) ?_
  repeat' (first
   | (with_reducible first | refine Stp.pf ?_ | refine block_x (by decide) ?_ | refine ret_n ?_)
   | refine tri_reg [] ?_ | refine tri_regc [] [] mixed (by decide +kernel) ?_
   | (refine rwf_nilt rfl (by decide +kernel) fun B hB => ?_; (try simp [*]); refine hB.out _ fun b => ?_; clear hB B)
   | (refine Rul.pf ⟨rfl, rfl⟩ fun B C hB => ?_; (try simp [*, -List.all_eq_true, Tryz.results157]); (try (simp (disch := first | assumption | omega) only [wc, ite_yes]; (try simp [*, -List.all_eq_true, Tryz.results157]))); first | (first | refine hB.out.1 _ (fun hb => ?_) fun hb => ⟨rfl, ?_⟩ | refine hB.out.1 _ (fun hb => ?_) fun hb => ?_) <;> clear hB C B <;> (try simp only [Bool.not_true, Bool.not_false] at hb) <;> (first | (exfalso; simp at hb; done) | (exfalso; simp at hb; omega) | (rw [hb]; (try simp at hb)) | (try simp at hb)) | ((first | refine hB.out.1 _ _ ?_ | refine hB.out.1 _ ?_ | refine hB.out.2.1 _ _ _ (keyIs_spec _) ?_ | refine hB.out.2.2 _ _ _ (keyIs_spec _) ?_ | refine hB.out.2 ⟨rfl, ?_⟩); clear hB C B) | (refine hB.out.2 _ ?_; clear hB C B; (try rfl)))
   | refine rwf_o ?_ | refine rwc_o .n rfl ?_ | refine rwc_o .z rfl ?_ | refine rwc_o .w rfl ?_ | refine rwc_o .b rfl ?_ | refine rwc_o _ rfl ?_)
  all_goals simp_all [hasM]
end Go.Proofs.YticpnfgiidljlaaGreat
