/- Pack: up, Count, Levels. -/
import Derived.Test.YtejgopcicenbeaaGreatLw
import Derived.Test.YtejgopcicenbeaaGreatFacts
import Derived.Test.YtejgopcicenbeaaGreatPkc
import Derived.Test.YtejgopcicenbeaaGreatLx
namespace Go.Proofs.YtejgopcicenbeaaGreat
open Go.RowKit
set_option linter.unusedSimpArgs false
set_option linter.unusedVariables false
set_option maxRecDepth 10000
theorem pUp_spec (n : Nat) (h : n ≤ 9223372036854775807) : PSpec Tryz.prog 30 [.sc (.int .i64 n)] (.sc (.int .i64 (upN n))) := by
  have w1 : (n : Int) / 6 = ((n / 6 : Nat) : Int) := rfl
  have w2 : (n : Int) % 6 = ((n % 6 : Nat) : Int) := rfl
  have hu : upN n = n / 6 + min (n % 6) 1 := rfl
  rw [hu]
  clear hu
  have b1 : n / 6 ≤ 1537228672809129301 := by omega
  rcases (by omega : n % 6 = 0 ∨ 1 ≤ n % 6) with h0 | h0
  · have hm : min (n % 6) 1 = 0 := by omega
    rw [hm]
    rw [h0] at w2
    generalize n / 6 = q at *
    clear h0 hm
    refine spec_pure (by simp) (by simp) ?_
    refine spec_intro Tryz.func30 good30 rfl (by simp [Tryz.ntmps30]) ?_
    exact go0 [] [] (cns Tryz.results30 trivial)
  · have hm : min (n % 6) 1 = 1 := by omega
    rw [hm]
    have hr : ¬ (n : Int) % 6 < 1 := by omega
    generalize n % 6 = r at *
    generalize n / 6 = q at *
    have hr2 : r < 6 := by omega
    refine spec_pure (by simp) (by simp) ?_
    refine spec_intro Tryz.func30 good30 rfl (by simp [Tryz.ntmps30]) ?_
    refine go1 [] [] (cns Tryz.results30 trivial) ?_
    exact congrArg (fun z => AV.sc (.int .i64 z)) (by split <;> omega)
theorem pCount_spec (n : Nat) (h : n ≤ 2305843009213693952) : PSpec Tryz.prog 10 [.sc (.int .i64 n)] (.sc (.int .i64 (cntN n))) := by
  have hb := cntN_bound n
  rcases (by omega : n = 0 ∨ 1 ≤ n) with h0 | h0
  · subst h0
    rw [cntN_le (by omega)]
    refine spec_pure (by simp) (by simp) ?_
    refine spec_intro Tryz.func10 good10 rfl (by simp [Tryz.ntmps10]) ?_
    exact go0 [] [] (cns Tryz.results10 trivial)
  · have h1 : ¬ (n : Int) < 1 := by omega
    refine spec_pure (by simp) (by simp) ?_
    refine spec_intro Tryz.func10 good10 rfl (by simp [Tryz.ntmps10]) ?_
    refine go1 [] [] (cns Tryz.results10 trivial) ?_
    refine tri_why [2] n (fun m e σ => σ = [] ∧ ∃ s : Nat, 1 ≤ m ∧ m ≤ n ∧ e 0 = .sc (.int .i64 m) ∧ e 3 = .sc (.int .i64 s) ∧ s + cntN m = cntN n + m) (fun e σ => σ = [] ∧ e 3 = .sc (.int .i64 (cntN n))) ?_ (fun m env' σ' hm hk hI => ?_) (fun env' σ' hk hI => ?_)
    · exact ⟨n, Nat.le_refl _, rfl, n, h0, Nat.le_refl _, rfl, rfl, by omega⟩
    · skip
      (try simp at hk)
      obtain ⟨rfl, s, m1, m2, e0, e3, hs⟩ := hI
      by_cases hm : m = 1
      · subst hm
        rw [cntN_le (Nat.le_refl 1)] at hs
        obtain rfl : s = cntN n := by omega
        clear hs
        refine go1 [] [] (cns Tryz.results10 trivial) ?_
        exact ⟨rfl, by simp [*], rfl, by simp [*]⟩
      · have hm2 : 1 < m := by omega
        have hgt : (1 : Int) < m := by omega
        have hu := pUp_spec m (by omega)
        have hu1 := upN_lt (n := m) (by omega)
        have hu2 := upN_pos m1
        rw [cntN_gt hm2] at hs
        have hcp := cntN_pos hu2
        generalize upN m = U at *
        have hw : IntKind.i64.wrap ((s : Int) + U) = ((s + U : Nat) : Int) := by rw [IntKind.wrap_i64]; omega
        replace hs := Lib.hid hs
        clear hb hcp hm hm2
        refine go1 [] [] (cns hu (cns Tryz.results10 trivial)) ?_
        exact ⟨by simp [*], U, hu1, rfl, s + U, hu2, by omega, by simp, by simp [*], by have := hs.out; omega⟩
    · skip
      (try simp at hk)
      obtain ⟨rfl, e3⟩ := hI
      exact go0 [] [] (cns Tryz.results10 trivial)
theorem pLevels_spec (n : Nat) (h : n ≤ 9223372036854775807) : PSpec Tryz.prog 9 [.sc (.int .i64 n)] (.sc (.int .i64 (lvlN n))) := by
  have hb := lvlN_bound n
  rcases (by omega : n = 0 ∨ 1 ≤ n) with h0 | h0
  · subst h0
    rw [lvlN_le (by omega)]
    refine spec_pure (by simp) (by simp) ?_
    refine spec_intro Tryz.func9 good9 rfl (by simp [Tryz.ntmps9]) ?_
    refine go1 [] [] (cns Tryz.results9 trivial) ?_
    refine tri_why [2] 0 (fun m e σ => σ = [] ∧ e 0 = .sc (.int .i64 0) ∧ e 3 = .sc (.int .i64 0)) (fun e σ => σ = [] ∧ e 3 = .sc (.int .i64 0)) ?_ (fun m env' σ' hm hk hI => ?_) (fun env' σ' hk hI => ?_)
    · exact ⟨0, Nat.le_refl _, rfl, by simp, by simp⟩
    · skip
      (try simp at hk)
      obtain ⟨rfl, e0, e3⟩ := hI
      refine go1 [] [] (cns Tryz.results9 trivial) ?_
      exact ⟨rfl, by simp [*], rfl, by simp [*]⟩
    · skip
      (try simp at hk)
      obtain ⟨rfl, e3⟩ := hI
      exact go0 [] [] (cns Tryz.results9 trivial)
  · skip
    refine spec_pure (by simp) (by simp) ?_
    refine spec_intro Tryz.func9 good9 rfl (by simp [Tryz.ntmps9]) ?_
    refine go1 [] [] (cns Tryz.results9 trivial) ?_
    refine tri_why [2] n (fun m e σ => σ = [] ∧ ∃ L : Nat, 1 ≤ m ∧ m ≤ n ∧ e 0 = .sc (.int .i64 m) ∧ e 3 = .sc (.int .i64 L) ∧ L + lvlN m = lvlN n) (fun e σ => σ = [] ∧ e 3 = .sc (.int .i64 (lvlN n))) ?_ (fun m env' σ' hm hk hI => ?_) (fun env' σ' hk hI => ?_)
    · exact ⟨n, Nat.le_refl _, rfl, 0, h0, Nat.le_refl _, rfl, rfl, by omega⟩
    · skip
      (try simp at hk)
      obtain ⟨rfl, L, m1, m2, e0, e3, hs⟩ := hI
      have hge : (1 : Int) ≤ (m : Int) := by omega
      have hlp := lvlN_pos m1
      have wL : IntKind.i64.wrap ((L : Int) + 1) = ((L + 1 : Nat) : Int) := by rw [IntKind.wrap_i64]; omega
      by_cases hm : m = 1
      · subst hm
        rw [lvlN_le (Nat.le_refl 1)] at hs
        replace hs := Lib.hid hs
        clear hge hb
        refine go1 [] [] (cns Tryz.results9 trivial) ?_
        exact ⟨rfl, by simp [*], rfl, by simp [*]; have := hs.out; omega⟩
      · have hm2 : 1 < m := by omega
        have hne : ¬ (m : Int) = 1 := by omega
        have hu := pUp_spec m (by omega)
        have hu1 := upN_lt (n := m) (by omega)
        have hu2 := upN_pos m1
        rw [lvlN_gt hm2] at hs
        generalize upN m = U at *
        replace hs := Lib.hid hs
        clear hb hm hm2
        refine go1 [] [] (cns hu (cns Tryz.results9 trivial)) ?_
        exact ⟨by simp [*], U, hu1, rfl, L + 1, hu2, by omega, by simp, by simp [*], by have := hs.out; omega⟩
    · skip
      (try simp at hk)
      obtain ⟨rfl, e3⟩ := hI
      exact go0 [] [] (cns Tryz.results9 trivial)
end Go.Proofs.YtejgopcicenbeaaGreat
