/- Go's sort of items: the length in bits. -/
import Derived.Test.YtejgopcicenbeaaGreatSf
import Derived.Test.YtejgopcicenbeaaGreatLw
namespace Go.Proofs.YtejgopcicenbeaaGreat
open Go.RowKit Go.Sort
set_option linter.unusedSimpArgs false
set_option maxRecDepth 10000
theorem bitsLen_div (n k : Nat) (h : 2 ^ k ≤ n) : bitsLen n = k + bitsLen (n / 2 ^ k) := by
  have hp : 0 < 2 ^ k := Nat.two_pow_pos k
  have h0 : n ≠ 0 := by omega
  have h1 : n / 2 ^ k ≠ 0 := by
    have := Nat.div_pos h hp
    omega
  unfold bitsLen
  rw [if_neg h0, if_neg h1]
  have : Nat.log2 (n / 2 ^ k) = Nat.log2 n - k := by
    induction k generalizing n with
    | zero => simp
    | succ k ih =>
      have e : n / 2 ^ (k + 1) = n / 2 / 2 ^ k := by rw [Nat.div_div_eq_div_mul, Nat.pow_succ, Nat.mul_comm]
      have hk : 2 ^ k ≤ n / 2 := by rw [Nat.pow_succ] at h; omega
      have hk1 := Nat.two_pow_pos k
      have h2 : n / 2 ≠ 0 := by omega
      have e2 : Nat.log2 n = Nat.log2 (n / 2) + 1 := by
        rw [Nat.log2_def]
        rw [if_pos (by omega)]
      rw [e, ih (n / 2) hk hk1 h2 (by rw [← e]; exact h1), e2]
      omega
  rw [this]
  have h3 : k ≤ Nat.log2 n := (Nat.le_log2 h0).2 h
  omega
set_option maxHeartbeats 1000000 in
theorem bLen64_spec (n : Nat) (hn : n < 4294967296) : PSpec Tryz.prog 126 [.sc (.int .u64 n)] (.sc (.int .i64 (bitsLen n : Nat))) := by
  refine spec_pure (by simp) (by simp) ?_
  refine spec_intro Tryz.func126 good126 rfl (by simp [Tryz.ntmps126]) ?_
  generalize hT : (ByteArray.mk (List.toArray (List.append _ _)) : ByteArray) = T
  have hTt : ∀ k : Fin 256, T[k.1]? = some (UInt8.ofNat (bitsLen k.1)) := by rw [← hT]; decide +kernel
  have hB : ∀ k : Fin 256, (UInt8.ofNat (bitsLen k.1)).toNat = bitsLen k.1 := by decide +kernel
  clear hT
  have hTT : ∀ k, k < 256 → T[k]? = some (UInt8.ofNat (bitsLen k)) := fun k hk => hTt ⟨k, hk⟩
  have hBB : ∀ k, k < 256 → (UInt8.ofNat (bitsLen k)).toNat = bitsLen k := fun k hk => hB ⟨k, hk⟩
  clear hTt hB
  have hL : ∀ k : Fin 256, bitsLen k.1 ≤ 8 := by decide +kernel
  have hLL : ∀ k, k < 256 → bitsLen k ≤ 8 := fun k hk => hL ⟨k, hk⟩
  clear hL
  have hfd : ∀ m k : Nat, Int.fdiv (m : Int) (k : Int) = ((m / k : Nat) : Int) := fun m k => by
    rw [Int.fdiv_eq_ediv_of_nonneg _ (Int.natCast_nonneg k)]
    norm_cast
  have ga : (n : Int) < 4294967296 := by omega
  by_cases h1 : 65536 ≤ n
  · have ga1 : 65536 ≤ (n : Int) := by omega
    have hd1 := bitsLen_div n 16 (by omega)
    have e1 : Int.fdiv (n : Int) (2 ^ min 16 IntKind.u64.bits) = ((n / 65536 : Nat) : Int) := by
      rw [show (2 : Int) ^ min 16 IntKind.u64.bits = 65536 from rfl]; exact hfd n 65536
    have hb1 : n / 65536 < 65536 := by omega
    rw [show (2 : Nat) ^ 16 = 65536 from rfl] at hd1
    rw [hd1]
    clear hd1
    generalize n / 65536 = q at *
    by_cases h2 : 256 ≤ q
    · have ga2 : 256 ≤ (q : Int) := by omega
      have hd2 := bitsLen_div q 8 (by omega)
      have e2 : Int.fdiv (q : Int) (2 ^ min 8 IntKind.u64.bits) = ((q / 256 : Nat) : Int) := by
        rw [show (2 : Int) ^ min 8 IntKind.u64.bits = 256 from rfl]; exact hfd q 256
      rw [show (2 : Nat) ^ 8 = 256 from rfl] at hd2
      rw [hd2]
      clear hd2
      have hb2 : q / 256 < 256 := by omega
      generalize q / 256 = r at *
      have t1 := hTT r (by omega)
      have t2 := hBB r (by omega)
      have t3 := hLL r (by omega)
      generalize UInt8.ofNat (bitsLen r) = v at *
      clear hTT hBB hfd hLL
      repeat' (first
       | (with_reducible first | refine Stp.pf ?_ | refine block_x (by decide) ?_ | refine ret_n ?_)
       | refine tri_reg [] ?_ | refine tri_regc [] [] mixed (by decide +kernel) ?_
       | (refine rwf_nilt rfl (by decide +kernel) fun B hB => ?_; (try simp [*]); refine hB.out _ fun b => ?_; clear hB B)
       | (refine Rul.pf ⟨rfl, rfl⟩ fun B C hB => ?_; (try simp [*, -List.all_eq_true, Tryz.results126]); (try (simp (disch := first | assumption | omega) only [wc, ite_yes]; (try simp [*, -List.all_eq_true, Tryz.results126]))); first | (first | refine hB.out.1 _ (fun hb => ?_) fun hb => ⟨rfl, ?_⟩ | refine hB.out.1 _ (fun hb => ?_) fun hb => ?_) <;> clear hB C B <;> (try simp only [Bool.not_true, Bool.not_false] at hb) <;> (first | (exfalso; simp at hb; done) | (exfalso; simp at hb; omega) | (rw [hb]; (try simp at hb)) | (try simp at hb)) | ((first | refine hB.out.1 _ _ ?_ | refine hB.out.1 _ ?_ | refine hB.out.2 ⟨rfl, ?_⟩); clear hB C B) | (refine hB.out.2 _ ?_; clear hB C B; (try rfl)))
       | refine rwf_o ?_ | refine rwc_o .n rfl ?_ | refine rwc_o .z rfl ?_ | refine rwc_o .w rfl ?_ | refine rwc_o .b rfl ?_ | refine rwc_o _ rfl ?_)
      all_goals (simp; try omega)
    · have ga2 : ¬ 256 ≤ (q : Int) := by omega
      have t1 := hTT q (by omega)
      have t2 := hBB q (by omega)
      have t3 := hLL q (by omega)
      generalize UInt8.ofNat (bitsLen q) = v at *
      clear hTT hBB hfd hLL
      exact go0 [] [] (cns Tryz.results126 trivial)
      all_goals (simp; try omega)
  · have ga1 : ¬ 65536 ≤ (n : Int) := by omega
    by_cases h2 : 256 ≤ n
    · have ga2 : 256 ≤ (n : Int) := by omega
      have hd2 := bitsLen_div n 8 (by omega)
      have e2 : Int.fdiv (n : Int) (2 ^ min 8 IntKind.u64.bits) = ((n / 256 : Nat) : Int) := by
        rw [show (2 : Int) ^ min 8 IntKind.u64.bits = 256 from rfl]; exact hfd n 256
      rw [show (2 : Nat) ^ 8 = 256 from rfl] at hd2
      rw [hd2]
      clear hd2
      have hb2 : n / 256 < 256 := by omega
      generalize n / 256 = r at *
      have t1 := hTT r (by omega)
      have t2 := hBB r (by omega)
      have t3 := hLL r (by omega)
      generalize UInt8.ofNat (bitsLen r) = v at *
      clear hTT hBB hfd hLL
      exact go0 [] [] (cns Tryz.results126 trivial)
      all_goals (simp; try omega)
    · have ga2 : ¬ 256 ≤ (n : Int) := by omega
      have t1 := hTT n (by omega)
      have t2 := hBB n (by omega)
      have t3 := hLL n (by omega)
      generalize UInt8.ofNat (bitsLen n) = v at *
      clear hTT hBB hfd hLL
      repeat' (first
       | (with_reducible first | refine Stp.pf ?_ | refine block_x (by decide) ?_ | refine ret_n ?_)
       | refine tri_reg [] ?_ | refine tri_regc [] [] mixed (by decide +kernel) ?_
       | (refine rwf_nilt rfl (by decide +kernel) fun B hB => ?_; (try simp [*]); refine hB.out _ fun b => ?_; clear hB B)
       | (refine Rul.pf ⟨rfl, rfl⟩ fun B C hB => ?_; (try simp [*, -List.all_eq_true, Tryz.results126]); (try (simp (disch := first | assumption | omega) only [wc, ite_yes]; (try simp [*, -List.all_eq_true, Tryz.results126]))); first | (first | refine hB.out.1 _ (fun hb => ?_) fun hb => ⟨rfl, ?_⟩ | refine hB.out.1 _ (fun hb => ?_) fun hb => ?_) <;> clear hB C B <;> (try simp only [Bool.not_true, Bool.not_false] at hb) <;> (first | (exfalso; simp at hb; done) | (exfalso; simp at hb; omega) | (rw [hb]; (try simp at hb)) | (try simp at hb)) | ((first | refine hB.out.1 _ _ ?_ | refine hB.out.1 _ ?_ | refine hB.out.2 ⟨rfl, ?_⟩); clear hB C B) | (refine hB.out.2 _ ?_; clear hB C B; (try rfl)))
       | refine rwf_o ?_ | refine rwc_o .n rfl ?_ | refine rwc_o .z rfl ?_ | refine rwc_o .w rfl ?_ | refine rwc_o .b rfl ?_ | refine rwc_o _ rfl ?_)
      all_goals (simp; try omega)
theorem bitsLen_le {n : Nat} (h : n < 4294967296) : bitsLen n ≤ 32 := by
  unfold bitsLen
  split
  · omega
  · rename_i h0
    have : Nat.log2 n < 32 := (Nat.log2_lt h0).2 h
    omega
theorem lenB_spec (n : Nat) (hn : n < 4294967296) : PSpec Tryz.prog 100 [.sc (.int .u64 n)] (.sc (.int .i64 (bitsLen n : Nat))) := by
  have h := bLen64_spec n hn
  generalize bitsLen n = L at *
  refine spec_pure (by simp) (by simp) ?_
  refine spec_intro Tryz.func100 good100 rfl (by simp [Tryz.ntmps100]) ?_
  exact go0 [] [] (cns h (cns Tryz.results100 trivial))
end Go.Proofs.YtejgopcicenbeaaGreat
