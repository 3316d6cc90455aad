/- Merging: OfAdd. -/
import Derived.Test.YtemijcjgdgdhjaaWmd
import Derived.Test.YtemijcjgdgdhjaaOd
namespace Go.Proofs.Ytemijcjgdgdhjaa
open Go.RowKit
set_option linter.unusedSimpArgs false
theorem keyValue_spec (n : Nat) (hn : n < 2 ^ 64) : PSpec Try.prog 118 [.sc (.int .u64 n)] (.sc (.string (val8 n))) :=
  pspec_gives [.int .u64 n] good118 fun w => Old.keyValue_calls n w hn
theorem ofAdd_spec (k : Str) (n : Nat) (hn : n < 2 ^ 64) : PSpec Try.prog 77 [.sc (.string k), .sc (.int .u64 n)] (.agg (cM ⟨3, k, val8 n⟩)) := by
  refine spec_pure (by simp) (by simp) ?_
  refine spec_intro Try.func77 good77 rfl (by simp [Try.ntmps77]) ?_
  repeat' (first
   | (with_reducible first | refine Stp.pf ?_ | refine block_x (by decide) ?_ | refine ret_n ?_)
   | refine tri_reg [4] ?_ | refine tri_regc [4] [] mixed (by decide +kernel) ?_
   | (refine rwf_nilt rfl (by decide +kernel) fun B hB => ?_; (try simp [*]); refine hB.out _ fun b => ?_; clear hB B)
   | (refine Rul.pf ⟨rfl, rfl⟩ fun B C hB => ?_; (try simp [*, -List.all_eq_true, Try.results77]); (try (simp (disch := first | assumption | omega) only [wc, ite_yes]; (try simp [*, -List.all_eq_true, Try.results77]))); first | (first | refine hB.out.1 _ (fun hb => ?_) fun hb => ⟨rfl, ?_⟩ | refine hB.out.1 _ (fun hb => ?_) fun hb => ?_) <;> clear hB C B <;> (try simp only [Bool.not_true, Bool.not_false] at hb) <;> (first | (exfalso; simp at hb; done) | (exfalso; simp at hb; omega) | (rw [hb]; (try simp at hb)) | (try simp at hb)) | ((first | refine hB.out.1 _ _ ?_ | refine hB.out.1 _ ?_ | refine hB.out.2.1 _ _ _ (keyValue_spec _ hn) ?_ | refine hB.out.2.2 _ _ _ (keyValue_spec _ hn) ?_ | refine hB.out.2 ⟨rfl, ?_⟩); clear hB C B) | (refine hB.out.2 _ ?_; clear hB C B; (try rfl)))
   | refine rwf_o ?_ | refine rwc_o .n rfl ?_ | refine rwc_o .z rfl ?_ | refine rwc_o .w rfl ?_ | refine rwc_o .b rfl ?_ | refine rwc_o _ rfl ?_)
end Go.Proofs.Ytemijcjgdgdhjaa
