/- What buffers and leaves both need: the references of keys and messages, a message put on a value, items. -/
import Derived.Test.YtemijcjgdgdhjabGreatWk
namespace Go.Proofs.YtemijcjgdgdhjabGreat
open Go.RowKit
set_option linter.unusedSimpArgs false
set_option maxRecDepth 10000
/-- A buffer. -/
def cB (l : List Msg) : List AV := [.fs (flatM l) l.length, .sc (.int .i64 (mwts l))]
@[simp] theorem cB_flat (l : List Msg) : flatL (cB l) = true := by simp [cB, AV.flat, flatL]
theorem isNaN_spec (k : Str) : PSpec Tryz.prog 62 [.sc (.string k)] (.sc (.bool false)) := by
  refine spec_pure (by simp) (by simp) ?_
  refine spec_intro Tryz.func62 good62 rfl (by simp [Tryz.ntmps62]) ?_
  repeat' (first
   | (with_reducible first | refine Stp.pf ?_ | refine block_x (by decide) ?_ | refine ret_n ?_)
   | refine tri_reg [] ?_ | refine tri_regc [] [] mixed (by decide +kernel) ?_
   | (refine rwf_nilt rfl (by decide +kernel) fun B hB => ?_; (try simp [*]); refine hB.out _ fun b => ?_; clear hB B)
   | (refine Rul.pf ⟨rfl, rfl⟩ fun B C hB => ?_; (try simp [*, -List.all_eq_true, Tryz.results62]); (try (simp (disch := first | assumption | omega) only [wc, ite_yes]; (try simp [*, -List.all_eq_true, Tryz.results62]))); first | (first | refine hB.out.1 _ (fun hb => ?_) fun hb => ⟨rfl, ?_⟩ | refine hB.out.1 _ (fun hb => ?_) fun hb => ?_) <;> clear hB C B <;> (try simp only [Bool.not_true, Bool.not_false] at hb) <;> (first | (exfalso; simp at hb; done) | (exfalso; simp at hb; omega) | (rw [hb]; (try simp at hb)) | (try simp at hb)) | ((first | refine hB.out.1 _ _ ?_ | refine hB.out.1 _ ?_ | refine hB.out.2 ⟨rfl, ?_⟩); clear hB C B) | (refine hB.out.2 _ ?_; clear hB C B; (try rfl)))
   | refine rwf_o ?_ | refine rwc_o .n rfl ?_ | refine rwc_o .z rfl ?_ | refine rwc_o .w rfl ?_ | refine rwc_o .b rfl ?_ | refine rwc_o _ rfl ?_)
  all_goals trace_state
theorem cmpS_spec (a b : Str) : PSpec Tryz.prog 47 [.sc (.string a), .sc (.string b)] (.sc (.int .i64 (scmp a b))) := by
  refine spec_pure (by simp) (by simp) ?_
  refine spec_intro Tryz.func47 good47 rfl (by simp [Tryz.ntmps47]) ?_
  repeat' (first
   | (with_reducible first | refine Stp.pf ?_ | refine block_x (by decide) ?_ | refine ret_n ?_)
   | refine tri_reg [] ?_ | refine tri_regc [] [] mixed (by decide +kernel) ?_
   | (refine rwf_nilt rfl (by decide +kernel) fun B hB => ?_; (try simp [*]); refine hB.out _ fun b => ?_; clear hB B)
   | (refine Rul.pf ⟨rfl, rfl⟩ fun B C hB => ?_; (try simp [*, -List.all_eq_true, Tryz.results47]); (try (simp (disch := first | assumption | omega) only [wc, ite_yes]; (try simp [*, -List.all_eq_true, Tryz.results47]))); first | (first | refine hB.out.1 _ (fun hb => ?_) fun hb => ⟨rfl, ?_⟩ | refine hB.out.1 _ (fun hb => ?_) fun hb => ?_) <;> clear hB C B <;> (try simp only [Bool.not_true, Bool.not_false] at hb) <;> (first | (exfalso; simp at hb; done) | (exfalso; simp at hb; omega) | (rw [hb]; (try simp at hb)) | (try simp at hb)) | ((first | refine hB.out.1 _ _ ?_ | refine hB.out.1 _ ?_ | refine hB.out.2.1 _ _ _ (isNaN_spec _) ?_ | refine hB.out.2.2 _ _ _ (isNaN_spec _) ?_ | refine hB.out.2 ⟨rfl, ?_⟩); clear hB C B) | (refine hB.out.2 _ ?_; clear hB C B; (try rfl)))
   | refine rwf_o ?_ | refine rwc_o .n rfl ?_ | refine rwc_o .z rfl ?_ | refine rwc_o .w rfl ?_ | refine rwc_o .b rfl ?_ | refine rwc_o _ rfl ?_)
  all_goals simp_all [scmp]
  all_goals trace_state
def mid (i j : Nat) : Nat := (i + j) / 2
theorem mid_eq {i j : Nat} (h : i + j ≤ 4000000000000) : IntKind.i64.wrap ((IntKind.u64.wrap ((i : Int) + (j : Int))).fdiv (2 ^ min 1 IntKind.u64.bits)) = (mid i j : Nat) := by
  unfold mid
  have h1 : IntKind.u64.wrap ((i : Int) + (j : Int)) = (i : Int) + (j : Int) := by rw [IntKind.wrap_u64]; omega
  rw [h1, show (2 : Int) ^ min 1 IntKind.u64.bits = 2 from rfl, Int.fdiv_eq_ediv_of_nonneg _ (by omega), wrap_id (by omega) (by omega)]
  omega
theorem mid_eq2 {i j : Nat} (h : i + j ≤ 4000000000000) : IntKind.i64.wrap (((i : Int) + (j : Int)).fdiv (2 ^ min 1 IntKind.u64.bits)) = (mid i j : Nat) := by
  unfold mid
  rw [show (2 : Int) ^ min 1 IntKind.u64.bits = 2 from rfl, Int.fdiv_eq_ediv_of_nonneg _ (by omega), wrap_id (by omega) (by omega)]
  omega
theorem mem_takeW {α : Type} {p : α → Bool} : ∀ {l : List α} {x : α}, x ∈ l.takeWhile p → p x = true
  | a :: l, x, h => by
    rw [List.takeWhile_cons] at h
    split at h
    · rcases List.mem_cons.1 h with rfl | h
      · assumption
      · exact mem_takeW h
    · cases h
end Go.Proofs.YtemijcjgdgdhjabGreat
namespace Go.Proofs.YtemijcjgdgdhjabGreat
open Go.RowKit
set_option linter.unusedSimpArgs false
set_option maxRecDepth 10000
theorem wr_mid (c B : List AV) (off a b d : Nat) (hb : B.length = b) (h : off + a + b + d ≤ c.length) : ((wr c (off + a) B).drop off).take (a + b + d) = (c.drop off).take a ++ B ++ ((c.drop off).drop (a + b)).take d := by
  subst hb
  have h4 : (c.take (off + a)).drop off = (c.drop off).take a := by rw [List.drop_take, show off + a - off = a by omega]
  rw [wr_eq _ _ _ (by omega), List.append_assoc, List.drop_append_of_le_length (by simp; omega), h4, ← List.append_assoc, List.take_append, List.take_of_length_le (by simp; omega), List.drop_drop]
  congr 1
  rw [show a + B.length + d - (List.take a (List.drop off c) ++ B).length = d by simp; omega, ← Nat.add_assoc]
theorem wr_setC {α : Type} {c : α → List AV} {w : Nat} (hc : ∀ x, (c x).length = w) {cells : List AV} {l : List α} {off : Nat} (y : α) (k : Nat) (hk : k < l.length) (h3 : off + l.length * w ≤ cells.length) (h4 : (cells.drop off).take (l.length * w) = flatC c l) :
    ((wr cells (off + k * w) (c y)).drop off).take (l.length * w) = flatC c (l.set k y) := by
  have e0 : k * w + w + (l.length - k - 1) * w = l.length * w := by
    rw [show l.length = k + 1 + (l.length - k - 1) by omega]
    simp only [Nat.add_mul, Nat.one_mul]
    rw [show k + 1 + (l.length - k - 1) - k - 1 = l.length - k - 1 by omega]
  have := wr_mid cells (c y) off (k * w) w ((l.length - k - 1) * w) (hc y) (by omega)
  rw [e0] at this
  rw [this, List.set_eq_take_append_cons_drop, if_pos hk, flatC_append, show y :: l.drop (k + 1) = [y] ++ l.drop (k + 1) from rfl, flatC_append, flatC_one]
  rw [← flatC_take hc, ← flatC_drop hc, ← h4, List.take_take, List.append_assoc]
  congr 2
  · congr 1; omega
  · rw [List.drop_take, Nat.succ_mul]; congr 1; omega
theorem out_own1 {k : Nat} {σ : Sto} {v : AV} {n : Nat} {cs : List AV} {u : Value} (h : Own k σ v n cs) (hf : flatL cs = true) : ∃ m x, frz σ (List.range σ.length) m (.tup [v, .sc u]) = some x ∧ Wk x (.tup [.fs cs n, .sc u]) := by
  obtain ⟨x, h1, h2⟩ := frz_own h hf 1
  refine ⟨5, .tup [x, .sc u], ?_, Wk.tupL (.cons h2 (.cons (.refl _) .nil))⟩
  rw [frz]
  split
  · rename_i hfl
    simp [AV.flat, flatL] at hfl
    rw [frz_flat1 hfl] at h1
    cases h1; rfl
  · show (frzL σ (List.range σ.length) 4 [v, .sc u]).map AV.tup = _
    rcases frzL_2 2 h1 (frz_flat1 (x := .sc u) rfl 2) with e | ⟨e, rfl, _⟩ <;> (rw [e]; rfl)
theorem slt_neg {a b c : Str} (h : slt a b = false) (k : slt b c = false) : slt a c = false := by
  cases e : slt a c with
  | false => rfl
  | true =>
    cases e2 : slt b a with
    | true => rw [slt_trans e2 e] at k; cases k
    | false => have := slt_tri h e2; rw [← this, e] at k; cases k
theorem own_set {k p : Nat} {σ : Sto} {v : AV} {n : Nat} {cs : List AV} (h : Own k σ v n cs) (hp : ¬ isH p v) (X : MO) : Own k (List.set σ p X) v n cs := by
  rcases h with h | ⟨i, g, off, c, rfl, h2, h3, h4⟩
  · exact .inl h
  · exact .inr ⟨i, g, off, c, rfl, by rw [List.getElem?_set_ne (fun e => hp (by subst e; exact ⟨g, off, n, k, rfl⟩))]; exact h2, h3, h4⟩
def putI (x : Item) : Msg := ⟨1, x.key, x.val⟩
def okI (x : Item) : Bool := isMsg (putI x)
theorem okI_is (x : Item) : okI x = (isKey x.key && isVal x.val) := isMsg_put
set_option maxHeartbeats 1000000 in
theorem mApply_spec (m : Msg) (val : Str) (has : Bool) : PSpec Tryz.prog 29 [.agg (cM m), .sc (.string val), .sc (.bool has)] (.tup [.sc (.string (applyM m val has).1), .sc (.bool (applyM m val has).2)]) := by
  refine spec_pure (by simp) (by simp) ?_
  refine spec_intro Tryz.func29 good29 rfl (by simp [Tryz.ntmps29]) ?_
  cases has
  · skip
    repeat' (first
     | (with_reducible first | refine Stp.pf ?_ | refine block_x (by decide) ?_ | refine ret_n ?_)
     | refine tri_reg [3] ?_ | refine tri_regc [3] [] mixed (by decide +kernel) ?_
     | (refine rwf_nilt rfl (by decide +kernel) fun B hB => ?_; (try simp [*]); refine hB.out _ fun b => ?_; clear hB B)
     | (refine Rul.pf ⟨rfl, rfl⟩ fun B C hB => ?_; (try simp [*, -List.all_eq_true, cM, Tryz.results29]); (try (simp (disch := first | assumption | omega) only [wc, ite_yes]; (try simp [*, -List.all_eq_true, cM, Tryz.results29]))); first | (first | refine hB.out.1 _ (fun hb => ?_) fun hb => ⟨rfl, ?_⟩ | refine hB.out.1 _ (fun hb => ?_) fun hb => ?_) <;> clear hB C B <;> (try simp only [Bool.not_true, Bool.not_false] at hb) <;> (first | (exfalso; simp at hb; done) | (exfalso; simp at hb; omega) | (rw [hb]; (try simp at hb)) | (try simp at hb)) | ((first | refine hB.out.1 _ _ ?_ | refine hB.out.1 _ ?_ | refine hB.out.2.1 _ _ _ (isNot_spec _) ?_ | refine hB.out.2.2 _ _ _ (isNot_spec _) ?_ | refine hB.out.2.1 _ _ _ (sum_spec _ _) ?_ | refine hB.out.2.2 _ _ _ (sum_spec _ _) ?_ | refine hB.out.2 ⟨rfl, ?_⟩); clear hB C B) | (refine hB.out.2 _ ?_; clear hB C B; (try rfl)))
     | refine rwf_o ?_ | refine rwc_o .n rfl ?_ | refine rwc_o .z rfl ?_ | refine rwc_o .w rfl ?_ | refine rwc_o .b rfl ?_ | refine rwc_o _ rfl ?_)
    all_goals simp_all [applyM]
  · skip
    repeat' (first
     | (with_reducible first | refine Stp.pf ?_ | refine block_x (by decide) ?_ | refine ret_n ?_)
     | refine tri_reg [3] ?_ | refine tri_regc [3] [] mixed (by decide +kernel) ?_
     | (refine rwf_nilt rfl (by decide +kernel) fun B hB => ?_; (try simp [*]); refine hB.out _ fun b => ?_; clear hB B)
     | (refine Rul.pf ⟨rfl, rfl⟩ fun B C hB => ?_; (try simp [*, -List.all_eq_true, cM, Tryz.results29]); (try (simp (disch := first | assumption | omega) only [wc, ite_yes]; (try simp [*, -List.all_eq_true, cM, Tryz.results29]))); first | (first | refine hB.out.1 _ (fun hb => ?_) fun hb => ⟨rfl, ?_⟩ | refine hB.out.1 _ (fun hb => ?_) fun hb => ?_) <;> clear hB C B <;> (try simp only [Bool.not_true, Bool.not_false] at hb) <;> (first | (exfalso; simp at hb; done) | (exfalso; simp at hb; omega) | (rw [hb]; (try simp at hb)) | (try simp at hb)) | ((first | refine hB.out.1 _ _ ?_ | refine hB.out.1 _ ?_ | refine hB.out.2.1 _ _ _ (isNot_spec _) ?_ | refine hB.out.2.2 _ _ _ (isNot_spec _) ?_ | refine hB.out.2.1 _ _ _ (sum_spec _ _) ?_ | refine hB.out.2.2 _ _ _ (sum_spec _ _) ?_ | refine hB.out.2 ⟨rfl, ?_⟩); clear hB C B) | (refine hB.out.2 _ ?_; clear hB C B; (try rfl)))
     | refine rwf_o ?_ | refine rwc_o .n rfl ?_ | refine rwc_o .z rfl ?_ | refine rwc_o .w rfl ?_ | refine rwc_o .b rfl ?_ | refine rwc_o _ rfl ?_)
    all_goals simp_all [applyM]
end Go.Proofs.YtemijcjgdgdhjabGreat
