/- Buffers: what their functions come to. -/
import Derived.Test.YtemijcjgdgdhjaaWk
namespace Go.Proofs.Ytemijcjgdgdhjaa
open Go.RowKit
set_option linter.unusedSimpArgs false
set_option maxRecDepth 10000
/-- A buffer. -/
def cB (l : List Msg) : List AV := [.fs (flatM l) l.length, .sc (.int .i64 (mwts l))]
@[simp] theorem cB_flat (l : List Msg) : flatL (cB l) = true := by simp [cB, AV.flat, flatL]
theorem isNaN_spec (k : Str) : PSpec Try.prog 140 [.sc (.string k)] (.sc (.bool false)) := by
  refine spec_pure (by simp) (by simp) ?_
  refine spec_intro Try.func140 good140 rfl (by simp [Try.ntmps140]) ?_
  repeat' (first
   | (with_reducible first | refine Stp.pf ?_ | refine block_x (by decide) ?_ | refine ret_n ?_)
   | refine tri_reg [] ?_ | refine tri_regc [] [] mixed (by decide +kernel) ?_
   | (refine rwf_nilt rfl (by decide +kernel) fun B hB => ?_; (try simp [*]); refine hB.out _ fun b => ?_; clear hB B)
   | (refine Rul.pf ⟨rfl, rfl⟩ fun B C hB => ?_; (try simp [*, -List.all_eq_true, Try.results140]); (try (simp (disch := first | assumption | omega) only [wc, ite_yes]; (try simp [*, -List.all_eq_true, Try.results140]))); first | (first | refine hB.out.1 _ (fun hb => ?_) fun hb => ⟨rfl, ?_⟩ | refine hB.out.1 _ (fun hb => ?_) fun hb => ?_) <;> clear hB C B <;> (try simp only [Bool.not_true, Bool.not_false] at hb) <;> (first | (exfalso; simp at hb; done) | (exfalso; simp at hb; omega) | (rw [hb]; (try simp at hb)) | (try simp at hb)) | ((first | refine hB.out.1 _ _ ?_ | refine hB.out.1 _ ?_ | refine hB.out.2 ⟨rfl, ?_⟩); clear hB C B) | (refine hB.out.2 _ ?_; clear hB C B; (try rfl)))
   | refine rwf_o ?_ | refine rwc_o .n rfl ?_ | refine rwc_o .z rfl ?_ | refine rwc_o .w rfl ?_ | refine rwc_o .b rfl ?_ | refine rwc_o _ rfl ?_)
  all_goals trace_state
theorem cmpS_spec (a b : Str) : PSpec Try.prog 125 [.sc (.string a), .sc (.string b)] (.sc (.int .i64 (scmp a b))) := by
  refine spec_pure (by simp) (by simp) ?_
  refine spec_intro Try.func125 good125 rfl (by simp [Try.ntmps125]) ?_
  repeat' (first
   | (with_reducible first | refine Stp.pf ?_ | refine block_x (by decide) ?_ | refine ret_n ?_)
   | refine tri_reg [] ?_ | refine tri_regc [] [] mixed (by decide +kernel) ?_
   | (refine rwf_nilt rfl (by decide +kernel) fun B hB => ?_; (try simp [*]); refine hB.out _ fun b => ?_; clear hB B)
   | (refine Rul.pf ⟨rfl, rfl⟩ fun B C hB => ?_; (try simp [*, -List.all_eq_true, Try.results125]); (try (simp (disch := first | assumption | omega) only [wc, ite_yes]; (try simp [*, -List.all_eq_true, Try.results125]))); first | (first | refine hB.out.1 _ (fun hb => ?_) fun hb => ⟨rfl, ?_⟩ | refine hB.out.1 _ (fun hb => ?_) fun hb => ?_) <;> clear hB C B <;> (try simp only [Bool.not_true, Bool.not_false] at hb) <;> (first | (exfalso; simp at hb; done) | (exfalso; simp at hb; omega) | (rw [hb]; (try simp at hb)) | (try simp at hb)) | ((first | refine hB.out.1 _ _ ?_ | refine hB.out.1 _ ?_ | refine hB.out.2.1 _ _ _ (isNaN_spec _) ?_ | refine hB.out.2.2 _ _ _ (isNaN_spec _) ?_ | refine hB.out.2 ⟨rfl, ?_⟩); clear hB C B) | (refine hB.out.2 _ ?_; clear hB C B; (try rfl)))
   | refine rwf_o ?_ | refine rwc_o .n rfl ?_ | refine rwc_o .z rfl ?_ | refine rwc_o .w rfl ?_ | refine rwc_o .b rfl ?_ | refine rwc_o _ rfl ?_)
  all_goals simp_all [scmp]
  all_goals trace_state
def mid (i j : Nat) : Nat := (i + j) / 2
theorem mid_eq {i j : Nat} (h : i + j ≤ 4000000000000) : IntKind.i64.wrap ((IntKind.u64.wrap ((i : Int) + (j : Int))).fdiv (2 ^ min 1 IntKind.u64.bits)) = (mid i j : Nat) := by
  unfold mid
  have h1 : IntKind.u64.wrap ((i : Int) + (j : Int)) = (i : Int) + (j : Int) := by rw [IntKind.wrap_u64]; omega
  rw [h1, show (2 : Int) ^ min 1 IntKind.u64.bits = 2 from rfl, Int.fdiv_eq_ediv_of_nonneg _ (by omega), wrap_id (by omega) (by omega)]
  omega
theorem mid_eq2 {i j : Nat} (h : i + j ≤ 4000000000000) : IntKind.i64.wrap (((i : Int) + (j : Int)).fdiv (2 ^ min 1 IntKind.u64.bits)) = (mid i j : Nat) := by
  unfold mid
  rw [show (2 : Int) ^ min 1 IntKind.u64.bits = 2 from rfl, Int.fdiv_eq_ediv_of_nonneg _ (by omega), wrap_id (by omega) (by omega)]
  omega
theorem mem_takeW {α : Type} {p : α → Bool} : ∀ {l : List α} {x : α}, x ∈ l.takeWhile p → p x = true
  | a :: l, x, h => by
    rw [List.takeWhile_cons] at h
    split at h
    · rcases List.mem_cons.1 h with rfl | h
      · assumption
      · exact mem_takeW h
    · cases h
end Go.Proofs.Ytemijcjgdgdhjaa
