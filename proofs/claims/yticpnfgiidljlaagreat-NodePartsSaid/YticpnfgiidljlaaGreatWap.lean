/- What buffers and leaves both need: the references of keys and messages, a message put on a value, items. -/
import Derived.Test.YticpnfgiidljlaaGreatWk
import Derived.Test.YticpnfgiidljlaaGreatLw
namespace Go.Proofs.YticpnfgiidljlaaGreat
open Go.RowKit
set_option linter.unusedSimpArgs false
set_option maxRecDepth 10000
/-- A buffer. -/
def cB (l : List Msg) : List AV := [.fs (flatM l) l.length, .sc (.int .i64 (mwts l))]
@[simp] theorem cB_flat (l : List Msg) : flatL (cB l) = true := by simp [cB, AV.flat, flatL]
theorem clone_spec (l : List Msg) (hl : l.length ≤ 1000000) : PSpec Tryz.prog 103 [.fs (flatM l) l.length] (.fs (flatM l) l.length) := by
  cases l with
  | nil =>
    refine spec_pureFW (by simp) ?_
    refine spec_intro Tryz.func103 good103 rfl (by simp [Tryz.ntmps103]) ?_
    repeat' (first
     | (with_reducible first | refine Stp.pf ?_ | refine block_x (by decide) ?_ | refine ret_n ?_)
     | refine tri_reg [5,7] ?_ | refine tri_regc [5,7] [] mixed (by decide +kernel) ?_
     | (refine rwf_nilt rfl (by decide +kernel) fun B hB => ?_; (try simp [*]); refine hB.out _ fun b => ?_; clear hB B)
     | (refine Rul.pf ⟨rfl, rfl⟩ fun B C hB => ?_; (try simp [*, -List.all_eq_true, flatM, flatC, Tryz.results103]); (try (simp (disch := first | assumption | omega) only [wc, ite_yes]; (try simp [*, -List.all_eq_true, flatM, flatC, Tryz.results103]))); first | (first | refine hB.out.1 _ (fun hb => ?_) fun hb => ⟨rfl, ?_⟩ | refine hB.out.1 _ (fun hb => ?_) fun hb => ?_) <;> clear hB C B <;> (try simp only [Bool.not_true, Bool.not_false] at hb) <;> (first | (exfalso; simp at hb; done) | (exfalso; simp at hb; omega) | (rw [hb]; (try simp at hb)) | (try simp at hb)) | ((first | refine hB.out.1 _ _ ?_ | refine hB.out.1 _ ?_ | refine hB.out.2 ⟨rfl, ?_⟩); clear hB C B) | (refine hB.out.2 _ ?_; clear hB C B; (try rfl)))
     | refine rwf_o ?_ | refine rwc_o .n rfl ?_ | refine rwc_o .z rfl ?_ | refine rwc_o .w rfl ?_ | refine rwc_o .b rfl ?_ | refine rwc_o _ rfl ?_)
    · exact out_flat rfl .nil
    · exact out_ms rfl rfl (by simp) rfl (.refl _)
  | cons m l =>
    simp at hl
    refine spec_pureFW (by simp) ?_
    refine spec_intro Tryz.func103 good103 rfl (by simp [Tryz.ntmps103]) ?_
    repeat' (first
     | (with_reducible first | refine Stp.pf ?_ | refine block_x (by decide) ?_ | refine ret_n ?_)
     | refine tri_reg [5,7] ?_ | refine tri_regc [5,7] [] mixed (by decide +kernel) ?_
     | (refine rwf_nilt rfl (by decide +kernel) fun B hB => ?_; (try simp [*]); refine hB.out _ fun b => ?_; clear hB B)
     | (refine Rul.pf ⟨rfl, rfl⟩ fun B C hB => ?_; (try simp [*, -List.all_eq_true, Tryz.results103]); (try (simp (disch := first | assumption | omega) only [wc, ite_yes]; (try simp [*, -List.all_eq_true, Tryz.results103]))); first | (first | refine hB.out.1 _ (fun hb => ?_) fun hb => ⟨rfl, ?_⟩ | refine hB.out.1 _ (fun hb => ?_) fun hb => ?_) <;> clear hB C B <;> (try simp only [Bool.not_true, Bool.not_false] at hb) <;> (first | (exfalso; simp at hb; done) | (exfalso; simp at hb; omega) | (rw [hb]; (try simp at hb)) | (try simp at hb)) | ((first | refine hB.out.1 _ _ ?_ | refine hB.out.1 _ ?_ | refine hB.out.2 ⟨rfl, ?_⟩); clear hB C B) | (refine hB.out.2 _ ?_; clear hB C B; (try rfl)))
     | refine rwf_o ?_ | refine rwc_o .n rfl ?_ | refine rwc_o .z rfl ?_ | refine rwc_o .w rfl ?_ | refine rwc_o .b rfl ?_ | refine rwc_o _ rfl ?_)
    exact out_ms (cs := flatM (m :: l)) rfl (by simp [List.take_of_length_le]) (by simp) (by simp) (.refl _)
theorem bLen_spec (l : List Msg) : PSpec Tryz.prog 92 [.fp (cB l) 0] (.sc (.int .i64 l.length)) := by
  refine spec_pure (by simp) (by simp) ?_
  refine spec_intro Tryz.func92 good92 rfl (by simp [Tryz.ntmps92]) ?_
  exact go0 [] [] (cns Tryz.results92 (cns cB.eq_1 trivial))
  all_goals trace_state
theorem bWeight_spec (l : List Msg) : PSpec Tryz.prog 32 [.fp (cB l) 0] (.sc (.int .i64 (mwts l))) := by
  refine spec_pure (by simp) (by simp) ?_
  refine spec_intro Tryz.func32 good32 rfl (by simp [Tryz.ntmps32]) ?_
  exact go0 [] [] (cns Tryz.results32 (cns cB.eq_1 trivial))
  all_goals trace_state
theorem bList_spec (l : List Msg) (hl : l.length ≤ 1000000) : PSpec Tryz.prog 55 [.fp (cB l) 0] (.fs (flatM l) l.length) := by
  refine spec_pure (by simp) (by simp) ?_
  refine spec_intro Tryz.func55 good55 rfl (by simp [Tryz.ntmps55]) ?_
  exact go0 [] [] (cns (clone_spec l hl) (cns Tryz.results55 (cns cB.eq_1 trivial)))
  all_goals trace_state
theorem isNaN_spec (k : Str) : PSpec Tryz.prog 137 [.sc (.string k)] (.sc (.bool false)) := by
  refine spec_pure (by simp) (by simp) ?_
  refine spec_intro Tryz.func137 good137 rfl (by simp [Tryz.ntmps137]) ?_
  repeat' (first
   | (with_reducible first | refine Stp.pf ?_ | refine block_x (by decide) ?_ | refine ret_n ?_)
   | refine tri_reg [] ?_ | refine tri_regc [] [] mixed (by decide +kernel) ?_
   | (refine rwf_nilt rfl (by decide +kernel) fun B hB => ?_; (try simp [*]); refine hB.out _ fun b => ?_; clear hB B)
   | (refine Rul.pf ⟨rfl, rfl⟩ fun B C hB => ?_; (try simp [*, -List.all_eq_true, Tryz.results137]); (try (simp (disch := first | assumption | omega) only [wc, ite_yes]; (try simp [*, -List.all_eq_true, Tryz.results137]))); first | (first | refine hB.out.1 _ (fun hb => ?_) fun hb => ⟨rfl, ?_⟩ | refine hB.out.1 _ (fun hb => ?_) fun hb => ?_) <;> clear hB C B <;> (try simp only [Bool.not_true, Bool.not_false] at hb) <;> (first | (exfalso; simp at hb; done) | (exfalso; simp at hb; omega) | (rw [hb]; (try simp at hb)) | (try simp at hb)) | ((first | refine hB.out.1 _ _ ?_ | refine hB.out.1 _ ?_ | refine hB.out.2 ⟨rfl, ?_⟩); clear hB C B) | (refine hB.out.2 _ ?_; clear hB C B; (try rfl)))
   | refine rwf_o ?_ | refine rwc_o .n rfl ?_ | refine rwc_o .z rfl ?_ | refine rwc_o .w rfl ?_ | refine rwc_o .b rfl ?_ | refine rwc_o _ rfl ?_)
  all_goals trace_state
theorem cmpS_spec (a b : Str) : PSpec Tryz.prog 111 [.sc (.string a), .sc (.string b)] (.sc (.int .i64 (scmp a b))) := by
  refine spec_pure (by simp) (by simp) ?_
  refine spec_intro Tryz.func111 good111 rfl (by simp [Tryz.ntmps111]) ?_
  repeat' (first
   | (with_reducible first | refine Stp.pf ?_ | refine block_x (by decide) ?_ | refine ret_n ?_)
   | refine tri_reg [] ?_ | refine tri_regc [] [] mixed (by decide +kernel) ?_
   | (refine rwf_nilt rfl (by decide +kernel) fun B hB => ?_; (try simp [*]); refine hB.out _ fun b => ?_; clear hB B)
   | (refine Rul.pf ⟨rfl, rfl⟩ fun B C hB => ?_; (try simp [*, -List.all_eq_true, Tryz.results111]); (try (simp (disch := first | assumption | omega) only [wc, ite_yes]; (try simp [*, -List.all_eq_true, Tryz.results111]))); first | (first | refine hB.out.1 _ (fun hb => ?_) fun hb => ⟨rfl, ?_⟩ | refine hB.out.1 _ (fun hb => ?_) fun hb => ?_) <;> clear hB C B <;> (try simp only [Bool.not_true, Bool.not_false] at hb) <;> (first | (exfalso; simp at hb; done) | (exfalso; simp at hb; omega) | (rw [hb]; (try simp at hb)) | (try simp at hb)) | ((first | refine hB.out.1 _ _ ?_ | refine hB.out.1 _ ?_ | refine hB.out.2.1 _ _ _ (isNaN_spec _) ?_ | refine hB.out.2.2 _ _ _ (isNaN_spec _) ?_ | refine hB.out.2 ⟨rfl, ?_⟩); clear hB C B) | (refine hB.out.2 _ ?_; clear hB C B; (try rfl)))
   | refine rwf_o ?_ | refine rwc_o .n rfl ?_ | refine rwc_o .z rfl ?_ | refine rwc_o .w rfl ?_ | refine rwc_o .b rfl ?_ | refine rwc_o _ rfl ?_)
  all_goals simp_all [scmp]
  all_goals trace_state
theorem made_spec (l : List Msg) (hl : l.length ≤ 1000000) (hs : MSmall l) : PSpec Tryz.prog 117 [.fs (flatM l) l.length] (.fp (cB l) 0) := by
  have hw : ∀ k, 0 ≤ mwts (l.take k) ∧ mwts (l.take k) ≤ 2000003 * k := fun k => mwts_bd l hs k
  refine spec_pureFW (by simp) ?_
  refine spec_intro Tryz.func117 good117 rfl (by simp [Tryz.ntmps117]) ?_
  refine go1 [8] [] (cns Tryz.results117 trivial) ?_
  refine tri_loopk [3, 9, 10] (fun m env σ => ∃ k : Nat, k + m = l.length ∧ env 11 = .sc (.int .i64 k) ∧ σ = [⟨[.fs (flatM l) l.length, .sc (.int .i64 (mwts (l.take k)))], 0, false, false⟩]) l.length ⟨0, by simp, by simp, by simp [mwts]⟩ ?_
  intro m env' σ' hk hI
  simp at hk
  obtain ⟨k, hkm, h11, rfl⟩ := hI
  by_cases hlt : k < l.length
  · have hm := hs l[k] (List.getElem_mem hlt)
    have := hw k
    repeat' (first
     | (with_reducible first | refine Stp.pf ?_ | refine block_x (by decide) ?_ | refine ret_n ?_)
     | refine tri_reg [8] ?_ | refine tri_regc [8] [] mixed (by decide +kernel) ?_
     | (refine rwf_nilt rfl (by decide +kernel) fun B hB => ?_; (try simp [*]); refine hB.out _ fun b => ?_; clear hB B)
     | (refine Rul.pf ⟨rfl, rfl⟩ fun B C hB => ?_; (try simp [*, -List.all_eq_true, Tryz.results117]); (try (simp (disch := first | assumption | omega) only [wc, ite_yes]; (try simp [*, -List.all_eq_true, Tryz.results117]))); first | (first | refine hB.out.1 _ (fun hb => ?_) fun hb => ⟨rfl, ?_⟩ | refine hB.out.1 _ (fun hb => ?_) fun hb => ?_) <;> clear hB C B <;> (try simp only [Bool.not_true, Bool.not_false] at hb) <;> (first | (exfalso; simp at hb; done) | (exfalso; simp at hb; omega) | (rw [hb]; (try simp at hb)) | (try simp at hb)) | ((first | refine hB.out.1 _ _ ?_ | refine hB.out.1 _ ?_ | refine hB.out.2.1 _ _ _ (mWeight_spec _ hm.1 hm.2) ?_ | refine hB.out.2.2 _ _ _ (mWeight_spec _ hm.1 hm.2) ?_ | refine hB.out.2 ⟨rfl, ?_⟩); clear hB C B) | (refine hB.out.2 _ ?_; clear hB C B; (try rfl)))
     | refine rwf_o ?_ | refine rwc_o .n rfl ?_ | refine rwc_o .z rfl ?_ | refine rwc_o .w rfl ?_ | refine rwc_o .b rfl ?_ | refine rwc_o _ rfl ?_)
    refine ⟨by simp [*], m - 1, by omega, k + 1, by omega, by simp, ?_⟩
    have h2 := mwts_take l k l[k] (List.getElem?_eq_getElem hlt)
    have h3 := hw (k + 1)
    simp
    rw [wrap_id (by omega) (by omega), h2]
  · skip
    repeat' (first
     | (with_reducible first | refine Stp.pf ?_ | refine block_x (by decide) ?_ | refine ret_n ?_)
     | refine tri_reg [8] ?_ | refine tri_regc [8] [] mixed (by decide +kernel) ?_
     | (refine rwf_nilt rfl (by decide +kernel) fun B hB => ?_; (try simp [*]); refine hB.out _ fun b => ?_; clear hB B)
     | (refine Rul.pf ⟨rfl, rfl⟩ fun B C hB => ?_; (try simp [*, -List.all_eq_true, Tryz.results117]); (try (simp (disch := first | assumption | omega) only [wc, ite_yes]; (try simp [*, -List.all_eq_true, Tryz.results117]))); first | (first | refine hB.out.1 _ (fun hb => ?_) fun hb => ⟨rfl, ?_⟩ | refine hB.out.1 _ (fun hb => ?_) fun hb => ?_) <;> clear hB C B <;> (try simp only [Bool.not_true, Bool.not_false] at hb) <;> (first | (exfalso; simp at hb; done) | (exfalso; simp at hb; omega) | (rw [hb]; (try simp at hb)) | (try simp at hb)) | ((first | refine hB.out.1 _ _ ?_ | refine hB.out.1 _ ?_ | refine hB.out.2 ⟨rfl, ?_⟩); clear hB C B) | (refine hB.out.2 _ ?_; clear hB C B; (try rfl)))
     | refine rwf_o ?_ | refine rwc_o .n rfl ?_ | refine rwc_o .z rfl ?_ | refine rwc_o .w rfl ?_ | refine rwc_o .b rfl ?_ | refine rwc_o _ rfl ?_)
    refine out_mp rfl (by simp) ?_
    rw [List.take_of_length_le (by omega)]
    exact .refl _
def mid (i j : Nat) : Nat := (i + j) / 2
theorem mid_eq {i j : Nat} (h : i + j ≤ 4000000000000) : IntKind.i64.wrap ((IntKind.u64.wrap ((i : Int) + (j : Int))).fdiv (2 ^ min 1 IntKind.u64.bits)) = (mid i j : Nat) := by
  unfold mid
  have h1 : IntKind.u64.wrap ((i : Int) + (j : Int)) = (i : Int) + (j : Int) := by rw [IntKind.wrap_u64]; omega
  rw [h1, show (2 : Int) ^ min 1 IntKind.u64.bits = 2 from rfl, Int.fdiv_eq_ediv_of_nonneg _ (by omega), wrap_id (by omega) (by omega)]
  omega
theorem mid_eq2 {i j : Nat} (h : i + j ≤ 4000000000000) : IntKind.i64.wrap (((i : Int) + (j : Int)).fdiv (2 ^ min 1 IntKind.u64.bits)) = (mid i j : Nat) := by
  unfold mid
  rw [show (2 : Int) ^ min 1 IntKind.u64.bits = 2 from rfl, Int.fdiv_eq_ediv_of_nonneg _ (by omega), wrap_id (by omega) (by omega)]
  omega
theorem mem_takeW {α : Type} {p : α → Bool} : ∀ {l : List α} {x : α}, x ∈ l.takeWhile p → p x = true
  | a :: l, x, h => by
    rw [List.takeWhile_cons] at h
    split at h
    · rcases List.mem_cons.1 h with rfl | h
      · assumption
      · exact mem_takeW h
    · cases h
theorem low_lt {l : List Msg} (hr : Rise l) (k : Str) (i : Nat) (h : i < l.length) : slt l[i].key k = decide (i < low l k) := by
  have hp : ∀ j x, j < low l k → l[j]? = some x → slt x.key k = true := by
    intro j x hj hx
    have hm : x ∈ l.takeWhile (fun m => slt m.key k) := by
      have hpre : (l.takeWhile (fun m => slt m.key k)) <+: l := List.takeWhile_prefix _
      obtain ⟨t, ht⟩ := hpre
      have : (l.takeWhile (fun m => slt m.key k))[j]? = some x := by
        rw [← hx, ← ht, List.getElem?_append_left hj]
        rw [ht]
      exact List.mem_of_getElem? this
    have := mem_takeW hm
    simpa using this
  by_cases hi : i < low l k
  · rw [hp i _ hi (List.getElem?_eq_getElem h)]; simp [hi]
  · have hn : ∀ x, l[low l k]? = some x → slt x.key k = false := by
      intro x hx
      unfold low at hx
      clear hp hi h hr
      induction l with
      | nil => simp at hx
      | cons a l ih =>
        rw [List.takeWhile_cons] at hx
        split at hx
        · simp at hx; exact ih hx
        · simp at hx; subst hx; simp_all
    have hll : low l k < l.length := by omega
    have h0 := hn _ (List.getElem?_eq_getElem hll)
    simp only [hi, decide_false]
    rcases Nat.lt_or_ge (low l k) i with h1 | h1
    · cases h2 : slt l[i].key k with
      | false => rfl
      | true =>
        have h3 := hr _ _ _ _ h1 (List.getElem?_eq_getElem hll) (List.getElem?_eq_getElem h)
        rw [slt_trans h3 h2] at h0; cases h0
    · have : i = low l k := by omega
      subst this; exact h0
theorem bCmp_spec (a b : Msg) : PSpec Tryz.prog 159 [.agg (cM a), .agg (cM b)] (.sc (.int .i64 (scmp a.key b.key))) := by
  refine spec_pure (by simp) (by simp) ?_
  refine spec_intro Tryz.func159 good159 rfl (by simp [Tryz.ntmps159]) ?_
  exact go0 [] [] (cns (fun x1 x2 => cmpS_spec x1 x2) (cns Tryz.results159 (cns cM.eq_1 trivial)))
theorem search_spec (l : List Msg) (hl : l.length ≤ 1000000) (hr : Rise l) (m : Msg) : PSpec Tryz.prog 158 [.fs (flatM l) l.length, .agg (cM m), .fn (.func 159) [] []] (.tup [.sc (.int .i64 (low l m.key)), .sc (.bool (hit l m.key))]) := by
  refine spec_pure (by simp) (by simp) ?_
  refine spec_intro Tryz.func158 good158 rfl (by simp [Tryz.ntmps158]) ?_
  repeat' (first
   | (with_reducible first | refine Stp.pf ?_ | refine block_x (by decide) ?_ | refine ret_n ?_)
   | refine tri_reg [] ?_ | refine tri_regc [] [] mixed (by decide +kernel) ?_
   | (refine rwf_nilt rfl (by decide +kernel) fun B hB => ?_; (try simp [*]); refine hB.out _ fun b => ?_; clear hB B)
   | (refine Rul.pf ⟨rfl, rfl⟩ fun B C hB => ?_; (try simp [*, -List.all_eq_true, Tryz.results158]); (try (simp (disch := first | assumption | omega) only [wc, ite_yes]; (try simp [*, -List.all_eq_true, Tryz.results158]))); first | (first | refine hB.out.1 _ (fun hb => ?_) fun hb => ⟨rfl, ?_⟩ | refine hB.out.1 _ (fun hb => ?_) fun hb => ?_) <;> clear hB C B <;> (try simp only [Bool.not_true, Bool.not_false] at hb) <;> (first | (exfalso; simp at hb; done) | (exfalso; simp at hb; omega) | (rw [hb]; (try simp at hb)) | (try simp at hb)) | ((first | refine hB.out.1 _ _ ?_ | refine hB.out.1 _ ?_ | refine hB.out.2 ⟨rfl, ?_⟩); clear hB C B) | (refine hB.out.2 _ ?_; clear hB C B; (try rfl)))
   | refine rwf_o ?_ | refine rwc_o .n rfl ?_ | refine rwc_o .z rfl ?_ | refine rwc_o .w rfl ?_ | refine rwc_o .b rfl ?_ | refine rwc_o _ rfl ?_)
  refine tri_loopk [0, 2, 4, 8] (fun n env σ => σ = [] ∧ ∃ i j : Nat, env 9 = .sc (.int .i64 i) ∧ env 10 = .sc (.int .i64 j) ∧ i ≤ low l m.key ∧ low l m.key ≤ j ∧ j ≤ l.length ∧ j - i = n) l.length ⟨by simp, 0, l.length, by simp, by simp, by simp, low_le _ _, by simp, by simp⟩ ?_
  intro n env' σ' hk hI
  simp at hk
  obtain ⟨rfl, i, j, h9, h10, h1, h2, h3, h4⟩ := hI
  by_cases hlt : i < j
  · have hmid : i ≤ mid i j ∧ mid i j < j := by unfold mid; omega
    have hml : mid i j < l.length := by omega
    have hcm := low_lt hr m.key (mid i j) hml
    rw [← scmp_neg] at hcm
    repeat' (first
     | (with_reducible first | refine Stp.pf ?_ | refine block_x (by decide) ?_ | refine ret_n ?_)
     | refine tri_reg [] ?_ | refine tri_regc [] [] mixed (by decide +kernel) ?_
     | (refine rwf_nilt rfl (by decide +kernel) fun B hB => ?_; (try simp [*]); refine hB.out _ fun b => ?_; clear hB B)
     | (refine Rul.pf ⟨rfl, rfl⟩ fun B C hB => ?_; (try simp [*, -List.all_eq_true, Tryz.results158]); (try (simp (disch := first | assumption | omega) only [wc, ite_yes, mid_eq, mid_eq2]; (try simp [*, -List.all_eq_true, Tryz.results158]))); first | (first | refine hB.out.1 _ (fun hb => ?_) fun hb => ⟨rfl, ?_⟩ | refine hB.out.1 _ (fun hb => ?_) fun hb => ?_) <;> clear hB C B <;> (try simp only [Bool.not_true, Bool.not_false] at hb) <;> (first | (exfalso; simp at hb; done) | (exfalso; simp at hb; omega) | (rw [hb]; (try simp at hb)) | (try simp at hb)) | ((first | refine hB.out.1 _ _ ?_ | refine hB.out.1 _ ?_ | refine hB.out.2.1 _ _ _ (bCmp_spec _ _) ?_ | refine hB.out.2.2 _ _ _ (bCmp_spec _ _) ?_ | refine hB.out.2 ⟨rfl, ?_⟩); clear hB C B) | (refine hB.out.2 _ ?_; clear hB C B; (try rfl)))
     | refine rwf_o ?_ | refine rwc_o .n rfl ?_ | refine rwc_o .z rfl ?_ | refine rwc_o .w rfl ?_ | refine rwc_o .b rfl ?_ | refine rwc_o _ rfl ?_)
    · exact ⟨by simp [*], j - (mid i j + 1), by omega, rfl, mid i j + 1, j, by simp [*], by simp [*], by omega, by omega, by omega, rfl⟩
    · exact ⟨by simp [*], mid i j - i, by omega, rfl, i, mid i j, by simp [*], by simp [*], by omega, by omega, by omega, rfl⟩
  · have hi : low l m.key = i := by omega
    have hj : j = i := by omega
    repeat' (first
     | (with_reducible first | refine Stp.pf ?_ | refine block_x (by decide) ?_ | refine ret_n ?_)
     | refine tri_reg [] ?_ | refine tri_regc [] [] mixed (by decide +kernel) ?_
     | (refine rwf_nilt rfl (by decide +kernel) fun B hB => ?_; (try simp [*]); refine hB.out _ fun b => ?_; clear hB B)
     | (refine Rul.pf ⟨rfl, rfl⟩ fun B C hB => ?_; (try simp [*, -List.all_eq_true, Tryz.results158]); (try (simp (disch := first | assumption | omega) only [wc, ite_yes, mid_eq, mid_eq2]; (try simp [*, -List.all_eq_true, Tryz.results158]))); first | (first | refine hB.out.1 _ (fun hb => ?_) fun hb => ⟨rfl, ?_⟩ | refine hB.out.1 _ (fun hb => ?_) fun hb => ?_) <;> clear hB C B <;> (try simp only [Bool.not_true, Bool.not_false] at hb) <;> (first | (exfalso; simp at hb; done) | (exfalso; simp at hb; omega) | (rw [hb]; (try simp at hb)) | (try simp at hb)) | ((first | refine hB.out.1 _ _ ?_ | refine hB.out.1 _ ?_ | refine hB.out.2.1 _ _ _ (bCmp_spec _ _) ?_ | refine hB.out.2.2 _ _ _ (bCmp_spec _ _) ?_ | refine hB.out.2 ⟨rfl, ?_⟩); clear hB C B) | (refine hB.out.2 _ ?_; clear hB C B; (try rfl)))
     | refine rwf_o ?_ | refine rwc_o .n rfl ?_ | refine rwc_o .z rfl ?_ | refine rwc_o .w rfl ?_ | refine rwc_o .b rfl ?_ | refine rwc_o _ rfl ?_)
    · rename_i hil _ _ _ _ _ _
      have h0 : decide (scmp l[i].key m.key = 0) = decide (l[i].key = m.key) := by rw [← scmp_zero]; rfl
      simp [hi, hit, List.getElem?_eq_getElem hil, h0]
    · rename_i hil _ _ _ _ _ _
      simp [hi, hit, List.getElem?_eq_none hil]
theorem place_spec (l : List Msg) (hl : l.length ≤ 1000000) (hr : Rise l) (k : Str) (x : Value) : PSpec Tryz.prog 139 [.fp [.fs (flatM l) l.length, .sc x] 0, .sc (.string k)] (.tup [.sc (.int .i64 (low l k)), .sc (.bool (hit l k))]) := by
  refine spec_pure (by simp) (by simp) ?_
  refine spec_intro Tryz.func139 good139 rfl (by simp [Tryz.ntmps139]) ?_
  exact go0 [] [] (cns (search_spec l hl hr ⟨0, k, ⟨#[]⟩⟩) (cns Tryz.results139 (cns cM.eq_1 trivial)))
theorem hit_low {l : List Msg} {k : Str} (h : hit l k = true) : ∃ hh : low l k < l.length, l[low l k].key = k ∧ foundM l k = l[low l k] := by
  unfold foundM
  rw [if_pos h]
  unfold hit at h
  split at h
  · rename_i x hx
    obtain ⟨hh, rfl⟩ := List.getElem?_eq_some_iff.1 hx
    refine ⟨hh, by simpa using h, by simp [hh]⟩
  · cases h
end Go.Proofs.YticpnfgiidljlaaGreat
namespace Go.Proofs.YticpnfgiidljlaaGreat
open Go.RowKit
set_option linter.unusedSimpArgs false
set_option maxRecDepth 10000
theorem wr_mid (c B : List AV) (off a b d : Nat) (hb : B.length = b) (h : off + a + b + d ≤ c.length) : ((wr c (off + a) B).drop off).take (a + b + d) = (c.drop off).take a ++ B ++ ((c.drop off).drop (a + b)).take d := by
  subst hb
  have h4 : (c.take (off + a)).drop off = (c.drop off).take a := by rw [List.drop_take, show off + a - off = a by omega]
  rw [wr_eq _ _ _ (by omega), List.append_assoc, List.drop_append_of_le_length (by simp; omega), h4, ← List.append_assoc, List.take_append, List.take_of_length_le (by simp; omega), List.drop_drop]
  congr 1
  rw [show a + B.length + d - (List.take a (List.drop off c) ++ B).length = d by simp; omega, ← Nat.add_assoc]
theorem wr_setC {α : Type} {c : α → List AV} {w : Nat} (hc : ∀ x, (c x).length = w) {cells : List AV} {l : List α} {off : Nat} (y : α) (k : Nat) (hk : k < l.length) (h3 : off + l.length * w ≤ cells.length) (h4 : (cells.drop off).take (l.length * w) = flatC c l) :
    ((wr cells (off + k * w) (c y)).drop off).take (l.length * w) = flatC c (l.set k y) := by
  have e0 : k * w + w + (l.length - k - 1) * w = l.length * w := by
    rw [show l.length = k + 1 + (l.length - k - 1) by omega]
    simp only [Nat.add_mul, Nat.one_mul]
    rw [show k + 1 + (l.length - k - 1) - k - 1 = l.length - k - 1 by omega]
  have := wr_mid cells (c y) off (k * w) w ((l.length - k - 1) * w) (hc y) (by omega)
  rw [e0] at this
  rw [this, List.set_eq_take_append_cons_drop, if_pos hk, flatC_append, show y :: l.drop (k + 1) = [y] ++ l.drop (k + 1) from rfl, flatC_append, flatC_one]
  rw [← flatC_take hc, ← flatC_drop hc, ← h4, List.take_take, List.append_assoc]
  congr 2
  · congr 1; omega
  · rw [List.drop_take, Nat.succ_mul]; congr 1; omega
def putI (x : Item) : Msg := ⟨1, x.key, x.val⟩
def okI (x : Item) : Bool := isMsg (putI x)
theorem okI_is (x : Item) : okI x = (isKey x.key && isVal x.val) := isMsg_put
end Go.Proofs.YticpnfgiidljlaaGreat
