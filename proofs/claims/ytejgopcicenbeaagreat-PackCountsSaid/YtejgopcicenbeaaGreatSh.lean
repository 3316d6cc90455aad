/- Go's sort of items: patterns broken. What is told of it: a permutation of the range. -/
import Derived.Test.YtejgopcicenbeaaGreatSg
import Derived.Test.YtejgopcicenbeaaGreatLw
namespace Go.Proofs.YtejgopcicenbeaaGreat
open Go.RowKit Go.Sort
set_option linter.unusedSimpArgs false
set_option maxRecDepth 10000
theorem sPow_spec (n : Nat) (hn : n < 4294967296) : PSpec Tryz.prog 145 [.sc (.int .i64 n)] (.sc (.int .u64 (2 ^ bitsLen n : Nat))) := by
  have h := lenB_spec n hn
  have hL := bitsLen_le hn
  generalize bitsLen n = L at *
  have h2 : (2 : Nat) ^ L ≤ 4294967296 := by
    have := Nat.pow_le_pow_right (show 0 < 2 by omega) hL
    exact this
  have h3 : IntKind.u64.wrap (2 ^ min L IntKind.u64.bits) = ((2 ^ L : Nat) : Int) := by
    rw [show min L IntKind.u64.bits = L from Nat.min_eq_left (by show L ≤ 64; omega)]
    have hc : (2 : Int) ^ L = ((2 ^ L : Nat) : Int) := by rw [Int.natCast_pow]; rfl
    rw [hc]
    clear hc
    generalize (2 : Nat) ^ L = M at *
    rw [wrapu_id (by omega) (by omega)]
  refine spec_pure (by simp) (by simp) ?_
  refine spec_intro Tryz.func145 good145 rfl (by simp [Tryz.ntmps145]) ?_
  exact go0 [] [] (cns h (cns Tryz.results145 trivial))
def xoO (z : Int) : MO := ⟨[.sc (.int .u64 z)], 0, false, false⟩
set_option maxHeartbeats 2000000 in
theorem sXor_spec {σ1 : Sto} {p : Nat} (hp : p < σ1.length) (z : Int) : Spec Tryz.prog 146 [.mp p 0 0] (σ1.set p (xoO z)) (fun r s => ∃ z' : Int, 0 ≤ z' ∧ z' < 18446744073709551616 ∧ r = .sc (.int .u64 z') ∧ s = σ1.set p (xoO z')) := by
  have hτp : (σ1.set p (xoO z))[p]? = some ⟨[.sc (.int .u64 z)], 0, false, false⟩ := by rw [List.getElem?_set_self hp]; rfl
  have hset : ∀ Y, (σ1.set p (xoO z)).set p Y = σ1.set p Y := fun Y => List.set_set ..
  have hrange : ∀ x : Int, 0 ≤ IntKind.u64.wrap x ∧ IntKind.u64.wrap x < 18446744073709551616 := fun x => by rw [IntKind.wrap_u64]; omega
  generalize σ1.set p (xoO z) = τ at *
  replace hset := Lib.hid hset
  replace hrange := Lib.hid hrange
  clear hp
  refine spec_intro Tryz.func146 good146 rfl (by simp [Tryz.ntmps146]) ?_
  refine go1 [] [] (cns Tryz.results146 trivial) ?_
  refine ⟨_, ?_, ?_, rfl, ?_⟩
  · exact (hrange.out _).1
  · exact (hrange.out _).2
  · rw [hset.out]; rfl
theorem PermIn.size {a b : Nat} {d d' : Array Item} (h : PermIn a b d d') : d'.size = d.size := h.1
set_option maxHeartbeats 8000000 in
theorem sBrk_spec (σ0 : Sto) (i g off N : Nat) (d : Array Item) (hN : N ≤ 100000000) (a b : Nat) (hab : a + 12 < b) (hbd : b ≤ d.size) (σ : Sto) (h : AtD σ0 i g off N d σ) :
    Spec Tryz.prog 119 [.ms i g off d.size 2, .sc (.int .i64 a), .sc (.int .i64 b), fCmp] σ
      (fun r s => r = .tup [] ∧ ∃ (z : Int) (d' : Array Item) (τ : Sto), PermIn a b d d' ∧ AtD σ0 i g off N d' τ ∧ s = τ ++ [xoO z]) := by
  have hdN : d.size ≤ N := by obtain ⟨_, _, _, _, h2, _⟩ := h; omega
  have hi0 : i < σ0.length := h.1
  refine spec_intro Tryz.func119 good119 rfl (by simp [Tryz.ntmps119]) ?_
  obtain ⟨l, hl⟩ : ∃ l, b - a = l := ⟨_, rfl⟩
  have y0 : (b : Int) - a = (l : Nat) := by omega
  have hl8 : 8 ≤ l := by omega
  obtain ⟨w, hw⟩ : ∃ w, l / 4 = w := ⟨_, rfl⟩
  have y1 : (l : Int).tdiv 4 = (w : Nat) := by rw [tdiv_nn (by omega)]; omega
  obtain ⟨I0, hI0⟩ : ∃ I0, a + w * 2 = I0 + 1 := ⟨a + w * 2 - 1, by omega⟩
  have y2 : (a : Int) + (w : Nat) * 2 = (I0 + 1 : Nat) := by omega
  have y3 : ((I0 + 1 : Nat) : Int) - 1 = (I0 : Nat) := by omega
  have y4 : ((I0 + 1 : Nat) : Int) + 1 = (I0 + 2 : Nat) := by omega
  have hpw := sPow_spec l (by omega)
  have hM : (2 : Nat) ^ bitsLen l ≤ 2 * l := by
    unfold bitsLen
    rw [if_neg (by omega), Nat.pow_succ]
    have := Nat.log2_self_le (show l ≠ 0 by omega)
    omega
  obtain ⟨L, hL⟩ : ∃ L, bitsLen l = L := ⟨_, rfl⟩
  have hL32 : L ≤ 32 := by rw [← hL]; exact bitsLen_le (by omega)
  rw [hL] at hpw hM
  have hand : ∀ z : Int, 0 ≤ z → z < 18446744073709551616 → bits .and .u64 z (((2 ^ L : Nat) : Int) - 1) = ((z.toNat % 2 ^ L : Nat) : Int) := fun z h0 h1 => by
    have := bits_mask .u64 64 (by decide) wraps_u64 L (by omega) z h0 h1
    rw [Int.natCast_pow]
    rw [show ((2 : Nat) : Int) = 2 from rfl, this]
    obtain ⟨n, rfl⟩ := Int.eq_ofNat_of_zero_le h0
    simp
  have hM0 : 0 < (2 : Nat) ^ L := Nat.two_pow_pos L
  generalize (2 : Nat) ^ L = M at *
  have y5 : 0 ≤ (M : Int) - 1 := by omega
  have y6 : (M : Int) - 1 ≤ 18446744073709551615 := by omega
  have hlenσ := h.len
  have hself : ∀ (τ : Sto) (z z' : Int), τ.length = σ0.length → (τ ++ [xoO z]).set σ0.length (xoO z') = τ ++ [xoO z'] := fun τ z z' e => by rw [← e, List.set_append_right _ _ (Nat.le_refl _)]; simp
  have hswp : ∀ (τ : Sto) (z : Int) (X : MO), τ.length = σ0.length → (τ ++ [xoO z]).set i X = τ.set i X ++ [xoO z] := fun τ z X e => by rw [List.set_append_left _ _ (by omega)]
  have hget : ∀ (τ : Sto) (z : Int), τ.length = σ0.length → (τ ++ [xoO z])[i]? = τ[i]? := fun τ z e => List.getElem?_append_left (by omega)
  replace hand := Lib.hid hand
  have hI0b : I0 + 2 < b := by omega
  have hw2 : 2 ≤ w := by omega
  replace hself := Lib.hid hself
  replace hswp := Lib.hid hswp
  replace hget := Lib.hid hget
  clear hL hw hl
  refine go1 [9] [] (cns hpw (cns Tryz.results119 trivial)) ?_
  refine tri_whl [0, 1, 8, 9, 10] 3 (fun m e σ => ∃ (t : Nat) (z : Int) (d1 : Array Item) (τ : Sto), t + m = 3 ∧ e 11 = .sc (.int .i64 (I0 + t : Nat)) ∧ PermIn a b d d1 ∧ AtD σ0 i g off N d1 τ ∧ σ = τ ++ [xoO z]) ?_ (fun m env' σ' hm hk hI => ?_)
  · exact ⟨3, Nat.le_refl _, 0, l, d, σ, rfl, by simp, permIn_refl _ _ _, h, by simp [xoO, *]⟩
  · skip
    (try simp at hk)
    obtain ⟨t, z, d1, τ, htm, h11, hpm, hA, rfl⟩ := hI
    clear h
    have hs1 : d1.size = d.size := hpm.1
    have hτl := hA.len
    rcases Nat.eq_zero_or_pos m with rfl | hp
    · have ht : ¬ ((I0 + t : Nat) : Int) ≤ (I0 + 2 : Nat) := by omega
      generalize I0 + t = I at *
      generalize I0 + 2 = I2 at *
      generalize hσ : τ ++ [xoO z] = S at *
      refine go1 [9] [] (cns Tryz.results119 trivial) ?_
      exact ⟨rfl, z, d1, τ, hpm, hA, hσ.symm⟩
    · have ht : ((I0 + t : Nat) : Int) ≤ (I0 + 2 : Nat) := by omega
      have ht1 : ((I0 + t : Nat) : Int) + 1 = (I0 + (t + 1) : Nat) := by omega
      have hI2 : I0 + t < b := by omega
      have hI3 : a ≤ I0 + t := by omega
      have hI4 : I0 + t < d1.size := by omega
      obtain ⟨I', hI'⟩ : ∃ I', I0 + (t + 1) = I' := ⟨_, rfl⟩
      rw [hI'] at ht1
      generalize I0 + t = I at *
      generalize I0 + 2 = I2 at *
      have hx := sXor_spec (σ1 := τ ++ [xoO z]) (p := σ0.length) (by simp; omega) z
      rw [hself.out τ z z hτl] at hx
      generalize hσ : τ ++ [xoO z] = S at *
      refine go1 [9] [] (cns Tryz.results119 trivial) ?_
      refine rwf_ca rfl fun C' hC hP => ?_
      clear hP
      (try simp [*, -List.all_eq_true]); (try (simp (disch := first | assumption | omega) only [wrap_id, wrapu_id, wrapb_id, tmod_nn, tdiv_nn, ite_yes, flatM_seg, flatM_0, flatM_1, flatM_2, flatI_seg, flatI_0, flatI_1, flatS_get]; (try simp [*, -List.all_eq_true])))
      refine hC.out _ _ _ (hx) fun r s hq => ?_
      clear hC C'
      obtain ⟨z', k0, k1, rfl, rfl⟩ := hq
      clear hx
      rw [← hσ, hself.out τ z z' hτl]
      clear hσ
      have hz := hand.out z' k0 k1
      obtain ⟨o, ho⟩ : ∃ o, z'.toNat % M = o := ⟨_, rfl⟩
      have hoM : o < M := by rw [← ho]; exact Nat.mod_lt _ hM0
      rw [ho] at hz
      clear ho
      simp [bits] at hz
      obtain ⟨c, q1, q2, q3, q4⟩ := hA.get
      rw [← hget.out τ z' hτl] at q1
      have hsw := fun X => hswp.out τ z' X hτl
      obtain ⟨O, hO, hol⟩ : ∃ O, (if l ≤ o then o - l else o) = O ∧ O < l := ⟨_, rfl, by split <;> omega⟩
      obtain ⟨p1, hp1⟩ : ∃ p, a + O = p := ⟨_, rfl⟩
      have z1 : (a : Int) + (O : Nat) = (p1 : Nat) := by omega
      have s0 := q3 I (by omega)
      have s1 := q3 p1 (by omega)
      have hpm2 := permIn_trans _ _ _ _ _ hpm (swp_permIn d1 a b I p1 hI3 hI2 (by omega) (by omega) (by omega))
      generalize hy0 : d1[I]! = x0 at *
      generalize hy1 : d1[p1]! = x1 at *
      have w1 := q4 I p1 x0 x1 (by omega) (by omega) hy0.symm hy1.symm
      have hw := wr_length c (off + I * 2) (cI x1) (by simp; omega)
      generalize swp d1 I p1 = d2 at *
      have hSz := hsw
      generalize hσ : τ ++ [xoO z'] = S at *
      replace w1 := Lib.hid w1
      replace hpm2 := Lib.hid hpm2
      replace hsw := Lib.hid hsw
      clear q3 q4 hy0 hy1 hA hpm hSz
      by_cases hlo : l ≤ o
      · have g1 : (l : Int) ≤ (o : Nat) := by omega
        rw [if_pos hlo] at hO
        have g2 : (o : Int) - (l : Nat) = (O : Nat) := by omega
        refine go1 [9] [] (cns Tryz.results119 trivial) ?_
        refine ⟨by simp [*], m - 1, by omega, t + 1, z', d2, _, by omega, by simp [*], hpm2.out, w1.out, ?_⟩
        first | exact hsw.out _ | (rw [List.set_set]; exact hsw.out _)
      · have g1 : ¬ (l : Int) ≤ (o : Nat) := by omega
        rw [if_neg hlo] at hO
        subst hO
        refine go1 [9] [] (cns Tryz.results119 trivial) ?_
        refine ⟨by simp [*], m - 1, by omega, t + 1, z', d2, _, by omega, by simp [*], hpm2.out, w1.out, ?_⟩
        first | exact hsw.out _ | (rw [List.set_set]; exact hsw.out _)
end Go.Proofs.YtejgopcicenbeaaGreat
