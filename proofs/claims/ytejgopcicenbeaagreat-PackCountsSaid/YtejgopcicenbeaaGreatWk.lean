/- Keys and messages: what their functions come to. -/
import Derived.Test.YtejgopcicenbeaaGreatFacts
import Derived.Test.YtejgopcicenbeaaGreatLc
import Derived.Test.YtejgopcicenbeaaGreatOd
import Derived.Test.YtejgopcicenbeaaGreatLw
namespace Go.Proofs.YtejgopcicenbeaaGreat
open Go.RowKit
set_option linter.unusedSimpArgs false
set_option maxRecDepth 10000
theorem keyIs_spec (k : Str) : PSpec Tryz.prog 77 [.sc (.string k)] (.sc (.bool (isKey k))) := by
  refine spec_pure (by simp) (by simp) ?_
  refine spec_intro Tryz.func77 good77 rfl (by simp [Tryz.ntmps77]) ?_
  repeat' (first
   | (with_reducible first | refine Stp.pf ?_ | refine block_x (by decide) ?_ | refine ret_n ?_)
   | refine tri_reg [] ?_ | refine tri_regc [] [] mixed (by decide +kernel) ?_
   | (refine rwf_nilt rfl (by decide +kernel) fun B hB => ?_; (try simp [*]); refine hB.out _ fun b => ?_; clear hB B)
   | (refine Rul.pf ⟨rfl, rfl⟩ fun B C hB => ?_; (try simp [*, -List.all_eq_true, Tryz.results77]); (try (simp (disch := first | assumption | omega) only [wc, ite_yes]; (try simp [*, -List.all_eq_true, Tryz.results77]))); first | (first | refine hB.out.1 _ (fun hb => ?_) fun hb => ⟨rfl, ?_⟩ | refine hB.out.1 _ (fun hb => ?_) fun hb => ?_) <;> clear hB C B <;> (try simp only [Bool.not_true, Bool.not_false] at hb) <;> (first | (exfalso; simp at hb; done) | (exfalso; simp at hb; omega) | (rw [hb]; (try simp at hb)) | (try simp at hb)) | ((first | refine hB.out.1 _ _ ?_ | refine hB.out.1 _ ?_ | refine hB.out.2 ⟨rfl, ?_⟩); clear hB C B) | (refine hB.out.2 _ ?_; clear hB C B; (try rfl)))
   | refine rwf_o ?_ | refine rwc_o .n rfl ?_ | refine rwc_o .z rfl ?_ | refine rwc_o .w rfl ?_ | refine rwc_o .b rfl ?_ | refine rwc_o _ rfl ?_)
  all_goals (simp [isKey]; try (rw [Bool.eq_iff_iff]; simp); try omega)
  all_goals (intro h; omega)
theorem isVal_spec (k : Str) : PSpec Tryz.prog 78 [.sc (.string k)] (.sc (.bool (isVal k))) := by
  refine spec_pure (by simp) (by simp) ?_
  refine spec_intro Tryz.func78 good78 rfl (by simp [Tryz.ntmps78]) ?_
  refine go1 [] [] (cns Tryz.results78 trivial) ?_
  simp [isVal]
  try (rw [Bool.eq_iff_iff]; simp)
  try omega
end Go.Proofs.YtejgopcicenbeaaGreat
