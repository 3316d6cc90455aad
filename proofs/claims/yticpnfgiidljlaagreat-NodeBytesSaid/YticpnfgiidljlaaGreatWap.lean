/- What buffers and leaves both need: the references of keys and messages, a message put on a value, items. -/
import Derived.Test.YticpnfgiidljlaaGreatWb
namespace Go.Proofs.YticpnfgiidljlaaGreat
open Go.RowKit
set_option linter.unusedSimpArgs false
set_option maxRecDepth 10000
theorem wr_mid (c B : List AV) (off a b d : Nat) (hb : B.length = b) (h : off + a + b + d ≤ c.length) : ((wr c (off + a) B).drop off).take (a + b + d) = (c.drop off).take a ++ B ++ ((c.drop off).drop (a + b)).take d := by
  subst hb
  have h4 : (c.take (off + a)).drop off = (c.drop off).take a := by rw [List.drop_take, show off + a - off = a by omega]
  rw [wr_eq _ _ _ (by omega), List.append_assoc, List.drop_append_of_le_length (by simp; omega), h4, ← List.append_assoc, List.take_append, List.take_of_length_le (by simp; omega), List.drop_drop]
  congr 1
  rw [show a + B.length + d - (List.take a (List.drop off c) ++ B).length = d by simp; omega, ← Nat.add_assoc]
theorem wr_setC {α : Type} {c : α → List AV} {w : Nat} (hc : ∀ x, (c x).length = w) {cells : List AV} {l : List α} {off : Nat} (y : α) (k : Nat) (hk : k < l.length) (h3 : off + l.length * w ≤ cells.length) (h4 : (cells.drop off).take (l.length * w) = flatC c l) :
    ((wr cells (off + k * w) (c y)).drop off).take (l.length * w) = flatC c (l.set k y) := by
  have e0 : k * w + w + (l.length - k - 1) * w = l.length * w := by
    rw [show l.length = k + 1 + (l.length - k - 1) by omega]
    simp only [Nat.add_mul, Nat.one_mul]
    rw [show k + 1 + (l.length - k - 1) - k - 1 = l.length - k - 1 by omega]
  have := wr_mid cells (c y) off (k * w) w ((l.length - k - 1) * w) (hc y) (by omega)
  rw [e0] at this
  rw [this, List.set_eq_take_append_cons_drop, if_pos hk, flatC_append, show y :: l.drop (k + 1) = [y] ++ l.drop (k + 1) from rfl, flatC_append, flatC_one]
  rw [← flatC_take hc, ← flatC_drop hc, ← h4, List.take_take, List.append_assoc]
  congr 2
  · congr 1; omega
  · rw [List.drop_take, Nat.succ_mul]; congr 1; omega
theorem rKey_spec (k : Str) : PSpec Tryz.prog 100 [.sc (.string k)] (.sc (.bool (isKey k))) := by
  refine spec_pure (by simp) (by simp) ?_
  refine spec_intro Tryz.func100 good100 rfl (by simp [Tryz.ntmps100]) ?_
  repeat' (first
   | (with_reducible first | refine Stp.pf ?_ | refine block_x (by decide) ?_ | refine ret_n ?_)
   | refine tri_reg [] ?_ | refine tri_regc [] [] mixed (by decide +kernel) ?_
   | (refine rwf_nilt rfl (by decide +kernel) fun B hB => ?_; (try simp [*]); refine hB.out _ fun b => ?_; clear hB B)
   | (refine Rul.pf ⟨rfl, rfl⟩ fun B C hB => ?_; (try simp [*, -List.all_eq_true, Tryz.results100]); (try (simp (disch := first | assumption | omega) only [wc, ite_yes]; (try simp [*, -List.all_eq_true, Tryz.results100]))); first | (first | refine hB.out.1 _ (fun hb => ?_) fun hb => ⟨rfl, ?_⟩ | refine hB.out.1 _ (fun hb => ?_) fun hb => ?_) <;> clear hB C B <;> (try simp only [Bool.not_true, Bool.not_false] at hb) <;> (first | (exfalso; simp at hb; done) | (exfalso; simp at hb; omega) | (rw [hb]; (try simp at hb)) | (try simp at hb)) | ((first | refine hB.out.1 _ _ ?_ | refine hB.out.1 _ ?_ | refine hB.out.2 ⟨rfl, ?_⟩); clear hB C B) | (refine hB.out.2 _ ?_; clear hB C B; (try rfl)))
   | refine rwf_o ?_ | refine rwc_o .n rfl ?_ | refine rwc_o .z rfl ?_ | refine rwc_o .w rfl ?_ | refine rwc_o .b rfl ?_ | refine rwc_o _ rfl ?_)
  all_goals simp_all [isKey]
  all_goals (try (rw [Bool.eq_iff_iff]; simp)); all_goals (try omega)
set_option maxHeartbeats 2000000 in
theorem rIs_spec (m : Msg) : PSpec Tryz.prog 99 [.agg (cM m)] (.sc (.bool (isMsg m))) := by
  refine spec_pure (by simp) (by simp) ?_
  refine spec_intro Tryz.func99 good99 rfl (by simp [Tryz.ntmps99]) ?_
  repeat' (first
   | (with_reducible first | refine Stp.pf ?_ | refine block_x (by decide) ?_ | refine ret_n ?_)
   | refine tri_reg [] ?_ | refine tri_regc [] [] mixed (by decide +kernel) ?_
   | (refine rwf_nilt rfl (by decide +kernel) fun B hB => ?_; (try simp [*]); refine hB.out _ fun b => ?_; clear hB B)
   | (refine Rul.pf ⟨rfl, rfl⟩ fun B C hB => ?_; (try simp [*, -List.all_eq_true, cM, Tryz.results99]); (try (simp (disch := first | assumption | omega) only [wc, ite_yes]; (try simp [*, -List.all_eq_true, cM, Tryz.results99]))); first | (first | refine hB.out.1 _ (fun hb => ?_) fun hb => ⟨rfl, ?_⟩ | refine hB.out.1 _ (fun hb => ?_) fun hb => ?_) <;> clear hB C B <;> (try simp only [Bool.not_true, Bool.not_false] at hb) <;> (first | (exfalso; simp at hb; done) | (exfalso; simp at hb; omega) | (rw [hb]; (try simp at hb)) | (try simp at hb)) | ((first | refine hB.out.1 _ _ ?_ | refine hB.out.1 _ ?_ | refine hB.out.2 ⟨rfl, ?_⟩); clear hB C B) | (refine hB.out.2 _ ?_; clear hB C B; (try rfl)))
   | refine rwf_o ?_ | refine rwc_o .n rfl ?_ | refine rwc_o .z rfl ?_ | refine rwc_o .w rfl ?_ | refine rwc_o .b rfl ?_ | refine rwc_o _ rfl ?_)
  all_goals simp only [← ByteArray.size_eq_zero_iff] at *
  all_goals (congr 2; rw [Bool.eq_iff_iff]; unfold isMsg isKey; simp only [Bool.and_eq_true, decide_eq_true_eq, Bool.false_eq_true, false_iff, true_iff]; omega)
def numR (s : Str) : Nat := if s.size = 8 then num8 s else 0
theorem numR_lt (s : Str) : numR s < 18446744073709551616 := by
  unfold numR
  split
  · exact num8_lt (by assumption)
  · omega
theorem rNumber_spec (s : Str) : PSpec Tryz.prog 175 [.sc (.string s)] (.tup [.sc (.int .u64 (numR s)), .sc (.bool (decide (s.size = 8)))]) := by
  unfold numR
  by_cases h8 : s.size = 8
  · rw [if_pos h8, decide_eq_true h8]
    refine spec_pure (by simp) (by simp) ?_
    refine spec_intro Tryz.func175 good175 rfl (by simp [Tryz.ntmps175]) ?_
    have hl : s.data.toList.length = 8 := h8
    repeat' (first
     | (with_reducible first | refine Stp.pf ?_ | refine block_x (by decide) ?_ | refine ret_n ?_)
     | refine tri_reg [] ?_ | refine tri_regc [] [] mixed (by decide +kernel) ?_
     | (refine rwf_nilt rfl (by decide +kernel) fun B hB => ?_; (try simp [*]); refine hB.out _ fun b => ?_; clear hB B)
     | (refine Rul.pf ⟨rfl, rfl⟩ fun B C hB => ?_; (try simp [*, -List.all_eq_true, Tryz.results175]); (try (simp (disch := first | assumption | omega) only [wc, ite_yes]; (try simp [*, -List.all_eq_true, Tryz.results175]))); first | (first | refine hB.out.1 _ (fun hb => ?_) fun hb => ⟨rfl, ?_⟩ | refine hB.out.1 _ (fun hb => ?_) fun hb => ?_) <;> clear hB C B <;> (try simp only [Bool.not_true, Bool.not_false] at hb) <;> (first | (exfalso; simp at hb; done) | (exfalso; simp at hb; omega) | (rw [hb]; (try simp at hb)) | (try simp at hb)) | ((first | refine hB.out.1 _ _ ?_ | refine hB.out.1 _ ?_ | refine hB.out.2 ⟨rfl, ?_⟩); clear hB C B) | (refine hB.out.2 _ ?_; clear hB C B; (try rfl)))
     | refine rwf_o ?_ | refine rwc_o .n rfl ?_ | refine rwc_o .z rfl ?_ | refine rwc_o .w rfl ?_ | refine rwc_o .b rfl ?_ | refine rwc_o _ rfl ?_)
    refine tri_for [0, 2, 3] 8 (fun k e σ => σ = [] ∧ e 5 = .sc (.int .i64 k) ∧ ∃ x : Nat, e 4 = .sc (.int .u64 x) ∧ x = ofBe (s.data.toList.take k)) ?_ (fun k env' σ' hlt hk hI => ?_) (fun env' σ' hk hI => ?_)
    · exact ⟨by simp, by simp, 0, by simp, by simp [ofBe]⟩
    · skip
      (try simp at hk)
      obtain ⟨rfl, h5, x, h4, hx⟩ := hI
      have hb := ofBe_lt (s.data.toList.take k)
      have hs : (s.data.toList.take k).length = k := by simp; omega
      have hp : 256 ^ k ≤ 256 ^ 7 := Nat.pow_le_pow_right (by omega) (by omega)
      rw [hs] at hb
      have hk8 : k < s.data.toList.length := by omega
      have hn : ofBe (s.data.toList.take (k + 1)) = x * 256 + (s.data.toList[k]).toNat := by rw [List.take_succ_eq_append_getElem hk8, ofBe_snoc, hx]
      clear hs
      simp at hk8
      have hlt8 : (s[k]).toNat < 256 := (s[k]).toNat_lt
      repeat' (first
       | (with_reducible first | refine Stp.pf ?_ | refine block_x (by decide) ?_ | refine ret_n ?_)
       | refine tri_reg [] ?_ | refine tri_regc [] [] mixed (by decide +kernel) ?_
       | (refine rwf_nilt rfl (by decide +kernel) fun B hB => ?_; (try simp [*]); refine hB.out _ fun b => ?_; clear hB B)
       | (refine Rul.pf ⟨rfl, rfl⟩ fun B C hB => ?_; (try simp [*, -List.all_eq_true, Tryz.results175]); (try (simp (disch := first | assumption | omega) only [wc, ite_yes, wrapu_id]; (try simp [*, -List.all_eq_true, Tryz.results175]))); first | (first | refine hB.out.1 _ (fun hb => ?_) fun hb => ⟨rfl, ?_⟩ | refine hB.out.1 _ (fun hb => ?_) fun hb => ?_) <;> clear hB C B <;> (try simp only [Bool.not_true, Bool.not_false] at hb) <;> (first | (exfalso; simp at hb; done) | (exfalso; simp at hb; omega) | (rw [hb]; (try simp at hb)) | (try simp at hb)) | ((first | refine hB.out.1 _ _ ?_ | refine hB.out.1 _ ?_ | refine hB.out.2 ⟨rfl, ?_⟩); clear hB C B) | (refine hB.out.2 _ ?_; clear hB C B; (try rfl)))
       | refine rwf_o ?_ | refine rwc_o .n rfl ?_ | refine rwc_o .z rfl ?_ | refine rwc_o .w rfl ?_ | refine rwc_o .b rfl ?_ | refine rwc_o _ rfl ?_)
      exact ⟨by simp [*], by simp, by simp, x * 256 + (s.data.toList[k]).toNat, by simp [hx]; rfl, hn.symm⟩
    · skip
      (try simp at hk)
      obtain ⟨rfl, h5, x, h4, hx⟩ := hI
      rw [List.take_of_length_le (by omega)] at hx
      repeat' (first
       | (with_reducible first | refine Stp.pf ?_ | refine block_x (by decide) ?_ | refine ret_n ?_)
       | refine tri_reg [] ?_ | refine tri_regc [] [] mixed (by decide +kernel) ?_
       | (refine rwf_nilt rfl (by decide +kernel) fun B hB => ?_; (try simp [*]); refine hB.out _ fun b => ?_; clear hB B)
       | (refine Rul.pf ⟨rfl, rfl⟩ fun B C hB => ?_; (try simp [*, -List.all_eq_true, Tryz.results175]); (try (simp (disch := first | assumption | omega) only [wc, ite_yes]; (try simp [*, -List.all_eq_true, Tryz.results175]))); first | (first | refine hB.out.1 _ (fun hb => ?_) fun hb => ⟨rfl, ?_⟩ | refine hB.out.1 _ (fun hb => ?_) fun hb => ?_) <;> clear hB C B <;> (try simp only [Bool.not_true, Bool.not_false] at hb) <;> (first | (exfalso; simp at hb; done) | (exfalso; simp at hb; omega) | (rw [hb]; (try simp at hb)) | (try simp at hb)) | ((first | refine hB.out.1 _ _ ?_ | refine hB.out.1 _ ?_ | refine hB.out.2 ⟨rfl, ?_⟩); clear hB C B) | (refine hB.out.2 _ ?_; clear hB C B; (try rfl)))
       | refine rwf_o ?_ | refine rwc_o .n rfl ?_ | refine rwc_o .z rfl ?_ | refine rwc_o .w rfl ?_ | refine rwc_o .b rfl ?_ | refine rwc_o _ rfl ?_)
      skip
  · rw [if_neg h8, decide_eq_false h8]
    refine spec_pure (by simp) (by simp) ?_
    refine spec_intro Tryz.func175 good175 rfl (by simp [Tryz.ntmps175]) ?_
    repeat' (first
     | (with_reducible first | refine Stp.pf ?_ | refine block_x (by decide) ?_ | refine ret_n ?_)
     | refine tri_reg [] ?_ | refine tri_regc [] [] mixed (by decide +kernel) ?_
     | (refine rwf_nilt rfl (by decide +kernel) fun B hB => ?_; (try simp [*]); refine hB.out _ fun b => ?_; clear hB B)
     | (refine Rul.pf ⟨rfl, rfl⟩ fun B C hB => ?_; (try simp [*, -List.all_eq_true, Tryz.results175]); (try (simp (disch := first | assumption | omega) only [wc, ite_yes]; (try simp [*, -List.all_eq_true, Tryz.results175]))); first | (first | refine hB.out.1 _ (fun hb => ?_) fun hb => ⟨rfl, ?_⟩ | refine hB.out.1 _ (fun hb => ?_) fun hb => ?_) <;> clear hB C B <;> (try simp only [Bool.not_true, Bool.not_false] at hb) <;> (first | (exfalso; simp at hb; done) | (exfalso; simp at hb; omega) | (rw [hb]; (try simp at hb)) | (try simp at hb)) | ((first | refine hB.out.1 _ _ ?_ | refine hB.out.1 _ ?_ | refine hB.out.2 ⟨rfl, ?_⟩); clear hB C B) | (refine hB.out.2 _ ?_; clear hB C B; (try rfl)))
     | refine rwf_o ?_ | refine rwc_o .n rfl ?_ | refine rwc_o .z rfl ?_ | refine rwc_o .w rfl ?_ | refine rwc_o .b rfl ?_ | refine rwc_o _ rfl ?_)
/-- The cells of eight bytes, k of them laid. -/
def row8 (n k : Nat) : List UInt8 := List.replicate (8 - k) 0 ++ be n k
theorem row8_len (n k : Nat) (h : k ≤ 8) : (row8 n k).length = 8 := by simp [row8, be_length]; omega
theorem row8_set (n k : Nat) (h : k < 8) : (row8 n k).set (7 - k) (UInt8.ofNat (n / 2 ^ (8 * k))) = row8 n (k + 1) := by
  unfold row8
  rw [List.set_append_left _ _ (by simp; omega), show be n (k + 1) = UInt8.ofNat (n / 2 ^ (8 * k)) :: be n k from rfl, show 8 - k = (7 - k) + 1 by omega, show 8 - (k + 1) = 7 - k by omega, List.replicate_succ']
  rw [List.set_append_right _ _ (by simp)]
  simp
theorem rValue_spec (n : Nat) (hn : n < 18446744073709551616) : PSpec Tryz.prog 176 [.sc (.int .u64 n)] (.sc (.string (val8 n))) := by
  refine spec_pure (by simp) (by simp) ?_
  refine spec_intro Tryz.func176 good176 rfl (by simp [Tryz.ntmps176]) ?_
  repeat' (first
   | (with_reducible first | refine Stp.pf ?_ | refine block_x (by decide) ?_ | refine ret_n ?_)
   | refine tri_reg [5] ?_ | refine tri_regc [5] [] mixed (by decide +kernel) ?_
   | (refine rwf_nilt rfl (by decide +kernel) fun B hB => ?_; (try simp [*]); refine hB.out _ fun b => ?_; clear hB B)
   | (refine Rul.pf ⟨rfl, rfl⟩ fun B C hB => ?_; (try simp [*, -List.all_eq_true, Tryz.results176]); (try (simp (disch := first | assumption | omega) only [wc, ite_yes]; (try simp [*, -List.all_eq_true, Tryz.results176]))); first | (first | refine hB.out.1 _ (fun hb => ?_) fun hb => ⟨rfl, ?_⟩ | refine hB.out.1 _ (fun hb => ?_) fun hb => ?_) <;> clear hB C B <;> (try simp only [Bool.not_true, Bool.not_false] at hb) <;> (first | (exfalso; simp at hb; done) | (exfalso; simp at hb; omega) | (rw [hb]; (try simp at hb)) | (try simp at hb)) | ((first | refine hB.out.1 _ _ ?_ | refine hB.out.1 _ ?_ | refine hB.out.2 ⟨rfl, ?_⟩); clear hB C B) | (refine hB.out.2 _ ?_; clear hB C B; (try rfl)))
   | refine rwf_o ?_ | refine rwc_o .n rfl ?_ | refine rwc_o .z rfl ?_ | refine rwc_o .w rfl ?_ | refine rwc_o .b rfl ?_ | refine rwc_o _ rfl ?_)
  refine tri_for [2, 3] 8 (fun k e σ => e 4 = .sc (.int .i64 (7 - k)) ∧ e 0 = .sc (.int .u64 (n / 256 ^ k : Nat)) ∧ σ = [⟨bytesA ⟨(row8 n k).toArray⟩, 0, false, false⟩]) ?_ (fun k env' σ' hlt hk hI => ?_) (fun env' σ' hk hI => ?_)
  · exact ⟨by simp, by simp, by simp [row8, be, bytesA, List.replicate]⟩
  · skip
    (try simp at hk)
    obtain ⟨h4, h0, rfl⟩ := hI
    have hj : (7 - (k : Int)) = ((7 - k : Nat) : Int) := by omega
    have hj8 : 7 - k < 8 := by omega
    rw [hj] at h4
    have hq : n / 256 ^ k < 18446744073709551616 := Nat.lt_of_le_of_lt (Nat.div_le_self _ _) hn
    have hl8 := row8_len n k (by omega)
    have hs8 : ByteArray.size ⟨(row8 n k).toArray⟩ = 8 := List.size_toArray.trans hl8
    have hset := bytesA_set (row8 n k) (7 - k) (UInt8.ofNat (n / 2 ^ (8 * k)))
    rw [row8_set n k hlt] at hset
    have hnx : n / 256 ^ (k + 1) = n / 256 ^ k / 256 := by rw [Nat.pow_succ, Nat.div_div_eq_div_mul]
    rw [hnx]
    have hby : ((UInt8.ofNat (n / 2 ^ (8 * k))).toNat : Int) = (n / 256 ^ k : Nat) % 256 := by
      rw [UInt8.toNat_ofNat', Nat.pow_mul]; rfl
    rw [hby] at hset
    clear hby hnx
    generalize n / 256 ^ k = q at *
    repeat' (first
     | (with_reducible first | refine Stp.pf ?_ | refine block_x (by decide) ?_ | refine ret_n ?_)
     | refine tri_reg [5] ?_ | refine tri_regc [5] [] mixed (by decide +kernel) ?_
     | (refine rwf_nilt rfl (by decide +kernel) fun B hB => ?_; (try simp [*]); refine hB.out _ fun b => ?_; clear hB B)
     | (refine Rul.pf ⟨rfl, rfl⟩ fun B C hB => ?_; (try simp [*, -List.all_eq_true, Tryz.results176]); (try (simp (disch := first | assumption | omega) only [wc, ite_yes]; (try simp [*, -List.all_eq_true, Tryz.results176]))); first | (first | refine hB.out.1 _ (fun hb => ?_) fun hb => ⟨rfl, ?_⟩ | refine hB.out.1 _ (fun hb => ?_) fun hb => ?_) <;> clear hB C B <;> (try simp only [Bool.not_true, Bool.not_false] at hb) <;> (first | (exfalso; simp at hb; done) | (exfalso; simp at hb; omega) | (rw [hb]; (try simp at hb)) | (try simp at hb)) | ((first | refine hB.out.1 _ _ ?_ | refine hB.out.1 _ ?_ | refine hB.out.2 ⟨rfl, ?_⟩); clear hB C B) | (refine hB.out.2 _ ?_; clear hB C B; (try rfl)))
     | refine rwf_o ?_ | refine rwc_o .n rfl ?_ | refine rwc_o .z rfl ?_ | refine rwc_o .w rfl ?_ | refine rwc_o .b rfl ?_ | refine rwc_o _ rfl ?_)
    exact ⟨by simp [*], by simp; omega, by simp, by simp [hset]⟩
  · skip
    (try simp at hk)
    obtain ⟨h4, h0, rfl⟩ := hI
    repeat' (first
     | (with_reducible first | refine Stp.pf ?_ | refine block_x (by decide) ?_ | refine ret_n ?_)
     | refine tri_reg [5] ?_ | refine tri_regc [5] [] mixed (by decide +kernel) ?_
     | (refine rwf_nilt rfl (by decide +kernel) fun B hB => ?_; (try simp [*]); refine hB.out _ fun b => ?_; clear hB B)
     | (refine Rul.pf ⟨rfl, rfl⟩ fun B C hB => ?_; (try simp [*, -List.all_eq_true, Tryz.results176]); (try (simp (disch := first | assumption | omega) only [wc, ite_yes, wrapu_id]; (try simp [*, -List.all_eq_true, Tryz.results176]))); first | (first | refine hB.out.1 _ (fun hb => ?_) fun hb => ⟨rfl, ?_⟩ | refine hB.out.1 _ (fun hb => ?_) fun hb => ?_) <;> clear hB C B <;> (try simp only [Bool.not_true, Bool.not_false] at hb) <;> (first | (exfalso; simp at hb; done) | (exfalso; simp at hb; omega) | (rw [hb]; (try simp at hb)) | (try simp at hb)) | ((first | refine hB.out.1 _ _ ?_ | refine hB.out.1 _ ?_ | refine hB.out.2 ⟨rfl, ?_⟩); clear hB C B) | (refine hB.out.2 _ ?_; clear hB C B; (try rfl)))
     | refine rwf_o ?_ | refine rwc_o .n rfl ?_ | refine rwc_o .z rfl ?_ | refine rwc_o .w rfl ?_ | refine rwc_o .b rfl ?_ | refine rwc_o _ rfl ?_)
    have hb : ∀ m : Nat, UInt8.ofNat ((m : Int) % 256).toNat = UInt8.ofNat m := fun m => by
      rw [show ((m : Int) % 256).toNat = m % 256 by omega]; apply UInt8.toNat_inj.1; simp
    simp [val8, be]
    exact ⟨hb (n / 72057594037927936), hb (n / 281474976710656), hb (n / 1099511627776), hb (n / 4294967296), hb (n / 16777216), hb (n / 65536), hb (n / 256), hb n⟩
theorem rValue_int (z : Int) (h0 : 0 ≤ z) (h1 : z < 18446744073709551616) : PSpec Tryz.prog 176 [.sc (.int .u64 z)] (.sc (.string (val8 z.toNat))) := by
  obtain ⟨n, rfl⟩ := Int.eq_ofNat_of_zero_le h0
  exact rValue_spec n (by omega)
theorem rSum_spec (a b : Str) : PSpec Tryz.prog 165 [.sc (.string a), .sc (.string b)] (.sc (.string (val8 ((numR a + numR b) % 18446744073709551616)))) := by
  have ha := numR_lt a
  have hb := numR_lt b
  have hu := u64_add (numR a) (numR b)
  refine spec_pure (by simp) (by simp) ?_
  refine spec_intro Tryz.func165 good165 rfl (by simp [Tryz.ntmps165]) ?_
  repeat' (first
   | (with_reducible first | refine Stp.pf ?_ | refine block_x (by decide) ?_ | refine ret_n ?_)
   | refine tri_reg [] ?_ | refine tri_regc [] [] mixed (by decide +kernel) ?_
   | (refine rwf_nilt rfl (by decide +kernel) fun B hB => ?_; (try simp [*]); refine hB.out _ fun b => ?_; clear hB B)
   | (refine Rul.pf ⟨rfl, rfl⟩ fun B C hB => ?_; (try simp [*, -List.all_eq_true, Tryz.results165]); (try (simp (disch := first | assumption | omega) only [wc, ite_yes]; (try simp [*, -List.all_eq_true, Tryz.results165]))); first | (first | refine hB.out.1 _ (fun hb => ?_) fun hb => ⟨rfl, ?_⟩ | refine hB.out.1 _ (fun hb => ?_) fun hb => ?_) <;> clear hB C B <;> (try simp only [Bool.not_true, Bool.not_false] at hb) <;> (first | (exfalso; simp at hb; done) | (exfalso; simp at hb; omega) | (rw [hb]; (try simp at hb)) | (try simp at hb)) | ((first | refine hB.out.1 _ _ ?_ | refine hB.out.1 _ ?_ | refine hB.out.2.1 _ _ _ (rNumber_spec _) ?_ | refine hB.out.2.2 _ _ _ (rNumber_spec _) ?_ | refine hB.out.2.1 _ _ _ (rValue_int _ (by omega) (by omega)) ?_ | refine hB.out.2.2 _ _ _ (rValue_int _ (by omega) (by omega)) ?_ | refine hB.out.2 ⟨rfl, ?_⟩); clear hB C B) | (refine hB.out.2 _ ?_; clear hB C B; (try rfl)))
   | refine rwf_o ?_ | refine rwc_o .n rfl ?_ | refine rwc_o .z rfl ?_ | refine rwc_o .w rfl ?_ | refine rwc_o .b rfl ?_ | refine rwc_o _ rfl ?_)
theorem isMsg_3 {m : Msg} (h : isMsg m = true) (h1 : ¬ m.kind = 1) (h2 : ¬ m.kind = 2) : m.kind = 3 ∧ m.val.size = 8 := by
  unfold isMsg at h
  simp at h
  omega
theorem sum_ref {a b : Str} (ha : a.size = 8) (hb : b.size = 8) : val8 ((numR a + numR b) % 18446744073709551616) = sumS a b := by simp [sumS, numR, ha, hb]
theorem rApply_spec (m : Msg) (val : Str) (has : Bool) : PSpec Tryz.prog 166 [.agg (cM m), .sc (.string val), .sc (.bool has)] (.tup [.sc (.string (applyM m val has).1), .sc (.bool (applyM m val has).2)]) := by
  refine spec_pure (by simp) (by simp) ?_
  refine spec_intro Tryz.func166 good166 rfl (by simp [Tryz.ntmps166]) ?_
  cases hm : isMsg m
  · cases has
    · skip
      repeat' (first
       | (with_reducible first | refine Stp.pf ?_ | refine block_x (by decide) ?_ | refine ret_n ?_)
       | refine tri_reg [] ?_ | refine tri_regc [] [] mixed (by decide +kernel) ?_
       | (refine rwf_nilt rfl (by decide +kernel) fun B hB => ?_; (try simp [*]); refine hB.out _ fun b => ?_; clear hB B)
       | (refine Rul.pf ⟨rfl, rfl⟩ fun B C hB => ?_; (try simp [*, -List.all_eq_true, cM, Tryz.results166]); (try (simp (disch := first | assumption | omega) only [wc, ite_yes]; (try simp [*, -List.all_eq_true, cM, Tryz.results166]))); first | (first | refine hB.out.1 _ (fun hb => ?_) fun hb => ⟨rfl, ?_⟩ | refine hB.out.1 _ (fun hb => ?_) fun hb => ?_) <;> clear hB C B <;> (try simp only [Bool.not_true, Bool.not_false] at hb) <;> (first | (exfalso; simp at hb; done) | (exfalso; simp at hb; omega) | (rw [hb]; (try simp at hb)) | (try simp at hb)) | ((first | refine hB.out.1 _ _ ?_ | refine hB.out.1 _ ?_ | refine hB.out.2.1 _ _ _ (rIs_spec _) ?_ | refine hB.out.2.2 _ _ _ (rIs_spec _) ?_ | refine hB.out.2.1 _ _ _ (rSum_spec _ _) ?_ | refine hB.out.2.2 _ _ _ (rSum_spec _ _) ?_ | refine hB.out.2 ⟨rfl, ?_⟩); clear hB C B) | (refine hB.out.2 _ ?_; clear hB C B; (try rfl)))
       | refine rwf_o ?_ | refine rwc_o .n rfl ?_ | refine rwc_o .z rfl ?_ | refine rwc_o .w rfl ?_ | refine rwc_o .b rfl ?_ | refine rwc_o _ rfl ?_)
      all_goals simp [applyM, hm]
    · skip
      repeat' (first
       | (with_reducible first | refine Stp.pf ?_ | refine block_x (by decide) ?_ | refine ret_n ?_)
       | refine tri_reg [] ?_ | refine tri_regc [] [] mixed (by decide +kernel) ?_
       | (refine rwf_nilt rfl (by decide +kernel) fun B hB => ?_; (try simp [*]); refine hB.out _ fun b => ?_; clear hB B)
       | (refine Rul.pf ⟨rfl, rfl⟩ fun B C hB => ?_; (try simp [*, -List.all_eq_true, cM, Tryz.results166]); (try (simp (disch := first | assumption | omega) only [wc, ite_yes]; (try simp [*, -List.all_eq_true, cM, Tryz.results166]))); first | (first | refine hB.out.1 _ (fun hb => ?_) fun hb => ⟨rfl, ?_⟩ | refine hB.out.1 _ (fun hb => ?_) fun hb => ?_) <;> clear hB C B <;> (try simp only [Bool.not_true, Bool.not_false] at hb) <;> (first | (exfalso; simp at hb; done) | (exfalso; simp at hb; omega) | (rw [hb]; (try simp at hb)) | (try simp at hb)) | ((first | refine hB.out.1 _ _ ?_ | refine hB.out.1 _ ?_ | refine hB.out.2.1 _ _ _ (rIs_spec _) ?_ | refine hB.out.2.2 _ _ _ (rIs_spec _) ?_ | refine hB.out.2.1 _ _ _ (rSum_spec _ _) ?_ | refine hB.out.2.2 _ _ _ (rSum_spec _ _) ?_ | refine hB.out.2 ⟨rfl, ?_⟩); clear hB C B) | (refine hB.out.2 _ ?_; clear hB C B; (try rfl)))
       | refine rwf_o ?_ | refine rwc_o .n rfl ?_ | refine rwc_o .z rfl ?_ | refine rwc_o .w rfl ?_ | refine rwc_o .b rfl ?_ | refine rwc_o _ rfl ?_)
      all_goals simp [applyM, hm]
  · have h3 := fun a b => (isMsg_3 hm a b).2
    cases has
    · skip
      repeat' (first
       | (with_reducible first | refine Stp.pf ?_ | refine block_x (by decide) ?_ | refine ret_n ?_)
       | refine tri_reg [] ?_ | refine tri_regc [] [] mixed (by decide +kernel) ?_
       | (refine rwf_nilt rfl (by decide +kernel) fun B hB => ?_; (try simp [*]); refine hB.out _ fun b => ?_; clear hB B)
       | (refine Rul.pf ⟨rfl, rfl⟩ fun B C hB => ?_; (try simp [*, -List.all_eq_true, cM, Tryz.results166]); (try (simp (disch := first | assumption | omega) only [wc, ite_yes]; (try simp [*, -List.all_eq_true, cM, Tryz.results166]))); first | (first | refine hB.out.1 _ (fun hb => ?_) fun hb => ⟨rfl, ?_⟩ | refine hB.out.1 _ (fun hb => ?_) fun hb => ?_) <;> clear hB C B <;> (try simp only [Bool.not_true, Bool.not_false] at hb) <;> (first | (exfalso; simp at hb; done) | (exfalso; simp at hb; omega) | (rw [hb]; (try simp at hb)) | (try simp at hb)) | ((first | refine hB.out.1 _ _ ?_ | refine hB.out.1 _ ?_ | refine hB.out.2.1 _ _ _ (rIs_spec _) ?_ | refine hB.out.2.2 _ _ _ (rIs_spec _) ?_ | refine hB.out.2.1 _ _ _ (rSum_spec _ _) ?_ | refine hB.out.2.2 _ _ _ (rSum_spec _ _) ?_ | refine hB.out.2 ⟨rfl, ?_⟩); clear hB C B) | (refine hB.out.2 _ ?_; clear hB C B; (try rfl)))
       | refine rwf_o ?_ | refine rwc_o .n rfl ?_ | refine rwc_o .z rfl ?_ | refine rwc_o .w rfl ?_ | refine rwc_o .b rfl ?_ | refine rwc_o _ rfl ?_)
      all_goals simp_all [applyM]
    · skip
      repeat' (first
       | (with_reducible first | refine Stp.pf ?_ | refine block_x (by decide) ?_ | refine ret_n ?_)
       | refine tri_reg [] ?_ | refine tri_regc [] [] mixed (by decide +kernel) ?_
       | (refine rwf_nilt rfl (by decide +kernel) fun B hB => ?_; (try simp [*]); refine hB.out _ fun b => ?_; clear hB B)
       | (refine Rul.pf ⟨rfl, rfl⟩ fun B C hB => ?_; (try simp [*, -List.all_eq_true, cM, Tryz.results166]); (try (simp (disch := first | assumption | omega) only [wc, ite_yes]; (try simp [*, -List.all_eq_true, cM, Tryz.results166]))); first | (first | refine hB.out.1 _ (fun hb => ?_) fun hb => ⟨rfl, ?_⟩ | refine hB.out.1 _ (fun hb => ?_) fun hb => ?_) <;> clear hB C B <;> (try simp only [Bool.not_true, Bool.not_false] at hb) <;> (first | (exfalso; simp at hb; done) | (exfalso; simp at hb; omega) | (rw [hb]; (try simp at hb)) | (try simp at hb)) | ((first | refine hB.out.1 _ _ ?_ | refine hB.out.1 _ ?_ | refine hB.out.2.1 _ _ _ (rIs_spec _) ?_ | refine hB.out.2.2 _ _ _ (rIs_spec _) ?_ | refine hB.out.2.1 _ _ _ (rSum_spec _ _) ?_ | refine hB.out.2.2 _ _ _ (rSum_spec _ _) ?_ | refine hB.out.2 ⟨rfl, ?_⟩); clear hB C B) | (refine hB.out.2 _ ?_; clear hB C B; (try rfl)))
       | refine rwf_o ?_ | refine rwc_o .n rfl ?_ | refine rwc_o .z rfl ?_ | refine rwc_o .w rfl ?_ | refine rwc_o .b rfl ?_ | refine rwc_o _ rfl ?_)
      all_goals simp_all [applyM]
      · rw [sum_ref (by omega) (by omega)]
      · have hv : ¬ val.size = 8 := by omega
        simp [sumS, hv]
theorem out_own1 {k : Nat} {σ : Sto} {v : AV} {n : Nat} {cs : List AV} {u : Value} (h : Own k σ v n cs) (hf : flatL cs = true) : ∃ m x, frz σ (List.range σ.length) m (.tup [v, .sc u]) = some x ∧ Wk x (.tup [.fs cs n, .sc u]) := by
  obtain ⟨x, h1, h2⟩ := frz_own h hf 1
  refine ⟨5, .tup [x, .sc u], ?_, Wk.tupL (.cons h2 (.cons (.refl _) .nil))⟩
  rw [frz]
  split
  · rename_i hfl
    simp [AV.flat, flatL] at hfl
    rw [frz_flat1 hfl] at h1
    cases h1; rfl
  · show (frzL σ (List.range σ.length) 4 [v, .sc u]).map AV.tup = _
    rcases frzL_2 2 h1 (frz_flat1 (x := .sc u) rfl 2) with e | ⟨e, rfl, _⟩ <;> (rw [e]; rfl)
def putI (x : Item) : Msg := ⟨1, x.key, x.val⟩
def okI (x : Item) : Bool := isMsg (putI x)
theorem okI_is (x : Item) : okI x = (isKey x.key && isVal x.val) := isMsg_put
end Go.Proofs.YticpnfgiidljlaaGreat
