/- Pack: the laws PackCounts, PackSteps, but for awake. -/
import Derived.Test.YtejgopcicenbeaaGreatPka
namespace Go.Proofs.YtejgopcicenbeaaGreat
open Go.RowKit
set_option linter.unusedSimpArgs false
set_option linter.unusedVariables false
set_option maxRecDepth 10000
theorem packCounts_of (ha : PSpec Tryz.prog 8 [] (.sc (.bool true))) (n : Nat) (h1 : 1 ≤ n) (h2 : n ≤ 9223372036854775807) : PSpec Tryz.prog 3 [.sc (.int .i64 n)] (.sc (.bool true)) := by
  have hb := lvlN_bound n
  have hc := cntN_bound n
  have hl := pLevels_spec n h2
  refine spec_pure (by simp) (by simp) ?_
  refine spec_intro Tryz.func3 good3 rfl (by simp [Tryz.ntmps3]) ?_
  refine go1 [] [] (cns ha (cns Tryz.results3 trivial)) ?_
  refine tri_why [0, 2] n (fun m e σ => σ = [] ∧ ∃ (L : Nat) (s : Int), 1 ≤ m ∧ m ≤ n ∧ e 3 = .sc (.int .i64 m) ∧ e 5 = .sc (.int .i64 L) ∧ L + lvlN m = lvlN n ∧ e 4 = .sc (.int .i64 s) ∧ (n ≤ 2305843009213693952 → s + (cntN m : Int) = cntN n)) (fun e σ => σ = [] ∧ e 5 = .sc (.int .i64 (lvlN n)) ∧ ∃ s : Int, e 4 = .sc (.int .i64 s) ∧ (n ≤ 2305843009213693952 → s = cntN n)) ?_ (fun m env' σ' hm hk hI => ?_) (fun env' σ' hk hI => ?_)
  · exact ⟨n, Nat.le_refl _, rfl, 0, 0, h1, Nat.le_refl _, rfl, rfl, by simp, rfl, fun _ => by simp⟩
  · skip
    (try simp at hk)
    obtain ⟨rfl, L, s, m1, m2, h3, h5, hL, h4, hs⟩ := hI
    have hsw : ∀ x : Int, x = (m : Int) → n ≤ 2305843009213693952 → IntKind.i64.wrap (s + x) = s + x := fun x hx h => by
      have := hs h
      have := cntN_bound m
      have := cntN_pos m1
      rw [IntKind.wrap_i64]; omega
    have hlp := lvlN_pos m1
    have wL : IntKind.i64.wrap ((L : Int) + 1) = ((L + 1 : Nat) : Int) := by rw [IntKind.wrap_i64]; omega
    have hne : ¬ (m : Int) < 1 := by omega
    have hge : (1 : Int) ≤ (m : Int) := by omega
    clear hl ha
    by_cases hm1 : m = 1
    · subst hm1
      rw [lvlN_le (Nat.le_refl 1)] at hL
      rw [cntN_le (Nat.le_refl 1)] at hs
      replace hs := Lib.hid hs
      replace hsw := Lib.hid hsw
      replace hL := Lib.hid hL
      clear hb hc hne hge
      refine go1 [] [] (cns Tryz.results3 trivial) ?_
      exact ⟨rfl, by simp [*], rfl, by simp; have := hL.out; omega, _, rfl, fun h => by have h1 := hs.out h; have h2 := hsw.out 1 (by simp) h; first | omega | (simp only [Nat.cast_one] at h1 h2 ⊢; omega) | (simp at h1 h2 ⊢; omega)⟩
    · have hm2 : 1 < m := by omega
      have hup : upN m = m / 6 + min (m % 6) 1 := rfl
      have h6 := Nat.div_add_mod m 6
      have w1 : (m : Int) / 6 = ((m / 6 : Nat) : Int) := rfl
      have w2 : (m : Int) % 6 = ((m % 6 : Nat) : Int) := rfl
      have hu1 := upN_lt (n := m) (by omega)
      have hu2 := upN_pos m1
      rw [lvlN_gt hm2] at hL
      rw [cntN_gt hm2] at hs
      have hq : ¬ (m : Int) = 1 := by omega
      generalize m / 6 = q at *
      generalize m % 6 = r at *
      generalize upN m = U at *
      replace hs := Lib.hid hs
      replace hsw := Lib.hid hsw
      replace hL := Lib.hid hL
      rcases Nat.eq_zero_or_pos r with hr | hr
      · subst hr
        obtain rfl : U = q := by simpa using hup
        clear hup h6 hb hc hne hm1 hm2
        refine go1 [] [] (cns Tryz.results3 trivial) ?_
        exact ⟨by simp [*], U, hu1, rfl, L + 1, _, hu2, by omega, by simp, by simp [*], by have := hL.out; omega, rfl, fun h => by have h1 := hs.out h; have h2 := hsw.out _ rfl h; simp at h1 h2 ⊢; omega⟩
      · obtain rfl : U = q + 1 := by omega
        have hr' : (0 : Int) < r := by omega
        have hw : IntKind.i64.wrap ((q : Int) + 1) = ((q + 1 : Nat) : Int) := by rw [IntKind.wrap_i64]; omega
        clear hup h6 hb hc hne hm1 hm2
        refine go1 [] [] (cns Tryz.results3 trivial) ?_
        exact ⟨by simp [*], q + 1, hu1, rfl, L + 1, _, hu2, by omega, by simp, by simp [*], by have := hL.out; omega, rfl, fun h => by have h1 := hs.out h; have h2 := hsw.out _ rfl h; simp at h1 h2 ⊢; omega⟩
  · skip
    (try simp at hk)
    obtain ⟨rfl, h5, s, h4, hs⟩ := hI
    by_cases hbig : n ≤ 2305843009213693952
    · obtain rfl := hs hbig
      have hcn := pCount_spec n hbig
      have hn' : ¬ (2305843009213693952 : Int) < n := by omega
      clear hs hb hc
      exact go0 [] [] (cns hl (cns hcn (cns Tryz.results3 trivial)))
    · have hn' : (2305843009213693952 : Int) < n := by omega
      clear hs hb hc
      exact go0 [] [] (cns hl (cns Tryz.results3 trivial))
theorem pCount_neg (a : Int) (h : a < 1) : PSpec Tryz.prog 10 [.sc (.int .i64 a)] (.sc (.int .i64 0)) := by
  refine spec_pure (by simp) (by simp) ?_
  refine spec_intro Tryz.func10 good10 rfl (by simp [Tryz.ntmps10]) ?_
  exact go0 [] [] (cns Tryz.results10 trivial)
theorem pLevels_neg (a : Int) (h : a < 1) : PSpec Tryz.prog 9 [.sc (.int .i64 a)] (.sc (.int .i64 0)) := by
  have h1 : ¬ (1 : Int) ≤ a := by omega
  refine spec_pure (by simp) (by simp) ?_
  refine spec_intro Tryz.func9 good9 rfl (by simp [Tryz.ntmps9]) ?_
  refine go1 [] [] (cns Tryz.results9 trivial) ?_
  refine tri_why [2] 0 (fun m e σ => σ = [] ∧ e 0 = .sc (.int .i64 a) ∧ e 3 = .sc (.int .i64 0)) (fun e σ => σ = [] ∧ e 3 = .sc (.int .i64 0)) ?_ (fun m env' σ' hm hk hI => ?_) (fun env' σ' hk hI => ?_)
  · exact ⟨0, Nat.le_refl _, rfl, by simp, by simp⟩
  · skip
    (try simp at hk)
    obtain ⟨rfl, e0, e3⟩ := hI
    refine go1 [] [] (cns Tryz.results9 trivial) ?_
    exact ⟨rfl, by simp [*], rfl, by simp [*]⟩
  · skip
    (try simp at hk)
    obtain ⟨rfl, e3⟩ := hI
    exact go0 [] [] (cns Tryz.results9 trivial)
theorem packCounts_neg (ha : PSpec Tryz.prog 8 [] (.sc (.bool true))) (a : Int) (h : a < 1) : PSpec Tryz.prog 3 [.sc (.int .i64 a)] (.sc (.bool true)) := by
  have hl := pLevels_neg a h
  have hc := pCount_neg a h
  have h1 : ¬ (1 : Int) ≤ a := by omega
  have h2 : ¬ (2305843009213693952 : Int) < a := by omega
  refine spec_pure (by simp) (by simp) ?_
  refine spec_intro Tryz.func3 good3 rfl (by simp [Tryz.ntmps3]) ?_
  refine go1 [] [] (cns ha (cns Tryz.results3 trivial)) ?_
  refine tri_why [0, 2] 0 (fun m e σ => σ = [] ∧ e 3 = .sc (.int .i64 a) ∧ e 4 = .sc (.int .i64 0) ∧ e 5 = .sc (.int .i64 0)) (fun e σ => σ = [] ∧ e 4 = .sc (.int .i64 0) ∧ e 5 = .sc (.int .i64 0)) ?_ (fun m env' σ' hm hk hI => ?_) (fun env' σ' hk hI => ?_)
  · exact ⟨0, Nat.le_refl _, rfl, by simp, by simp, by simp⟩
  · skip
    (try simp at hk)
    obtain ⟨rfl, e3, e4, e5⟩ := hI
    clear hl hc ha
    refine go1 [] [] (cns Tryz.results3 trivial) ?_
    exact ⟨rfl, by simp [*], rfl, by simp [*], by simp [*]⟩
  · skip
    (try simp at hk)
    obtain ⟨rfl, e4, e5⟩ := hI
    exact go0 [] [] (cns hl (cns hc (cns Tryz.results3 trivial)))
theorem packCounts_spec (ha : PSpec Tryz.prog 8 [] (.sc (.bool true))) (a : Int) (hw : (Lit.int .i64 a).wf = true) : PSpec Tryz.prog 3 [.sc (.int .i64 a)] (.sc (.bool true)) := by
  by_cases h : a < 1
  · exact packCounts_neg ha a h
  · obtain ⟨n, rfl⟩ := Int.eq_ofNat_of_zero_le (show 0 ≤ a by omega)
    have : (n : Int) ≤ 9223372036854775807 := by
      simp only [Lit.wf, Bool.and_eq_true, decide_eq_true_eq] at hw
      exact hw.2
    exact packCounts_of ha n (by omega) (by omega)
theorem packSteps_spec (ha : PSpec Tryz.prog 8 [] (.sc (.bool true))) (a : Int) : PSpec Tryz.prog 5 [.sc (.int .i64 a)] (.sc (.bool true)) := by
  have hx0 : 0 ≤ IntKind.u64.wrap a := by rw [IntKind.wrap_u64]; omega
  generalize hX : IntKind.u64.wrap a = x at *
  obtain ⟨y, rfl⟩ := Int.eq_ofNat_of_zero_le hx0
  have w1 : (y : Int) % 1099511627776 = ((y % 1099511627776 : Nat) : Int) := rfl
  have w1' : Int.tmod (y : Int) 1099511627776 = ((y % 1099511627776 : Nat) : Int) := rfl
  have hk : y % 1099511627776 < 1099511627776 := Nat.mod_lt _ (by omega)
  generalize y % 1099511627776 = k at *
  have w2 : IntKind.i64.wrap (k : Int) = (k : Int) := by rw [IntKind.wrap_i64]; omega
  have w3 : IntKind.i64.wrap (1 + (k : Int)) = ((k + 1 : Nat) : Int) := by rw [IntKind.wrap_i64]; omega
  obtain ⟨s1, s2, s3, s4⟩ := steps (n := k + 1) (by omega)
  obtain ⟨t1, t2⟩ := six (n := k + 1) (by omega)
  have c1 := pCount_spec (k + 1) (by omega)
  have c2 := pCount_spec (k + 1 + 1) (by omega)
  have c3 := pCount_spec (6 * (k + 1)) (by omega)
  have l1 := pLevels_spec (k + 1) (by omega)
  have l2 := pLevels_spec (k + 1 + 1) (by omega)
  have l3 := pLevels_spec (6 * (k + 1)) (by omega)
  have b1 := cntN_bound (k + 1)
  have b2 := lvlN_bound (k + 1)
  have hn : k + 1 ≤ 1099511627776 := by omega
  generalize k + 1 = n at *
  have w4 : IntKind.i64.wrap ((n : Int) + 1) = ((n + 1 : Nat) : Int) := by rw [IntKind.wrap_i64]; omega
  have w5 : IntKind.i64.wrap (6 * (n : Int)) = ((6 * n : Nat) : Int) := by rw [IntKind.wrap_i64]; omega
  rw [t1] at c3
  rw [t2] at l3
  generalize n + 1 = n1 at *
  have w6 : IntKind.i64.wrap ((cntN n : Int) + (lvlN n : Int)) = ((cntN n + lvlN n : Nat) : Int) := by rw [IntKind.wrap_i64]; omega
  have w7 : IntKind.i64.wrap (((cntN n + lvlN n : Nat) : Int) + 1) = ((cntN n + lvlN n + 1 : Nat) : Int) := by rw [IntKind.wrap_i64]; omega
  have w8 : IntKind.i64.wrap ((lvlN n : Int) + 1) = ((lvlN n + 1 : Nat) : Int) := by rw [IntKind.wrap_i64]; omega
  have w9 : IntKind.i64.wrap (((6 * n : Nat) : Int) + (cntN n : Int)) = ((6 * n + cntN n : Nat) : Int) := by rw [IntKind.wrap_i64]; omega
  have u1 : ¬ ((cntN n1 : Int) ≤ (cntN n : Int)) := by omega
  have u2 : ¬ (((cntN n + lvlN n + 1 : Nat) : Int) < (cntN n1 : Int)) := by omega
  have u3 : ¬ ((lvlN n1 : Int) < (lvlN n : Int)) := by omega
  have u4 : ¬ (((lvlN n + 1 : Nat) : Int) < (lvlN n1 : Int)) := by omega
  generalize cntN n + lvlN n + 1 = z1 at *
  generalize cntN n + lvlN n = z2 at *
  generalize lvlN n + 1 = z3 at *
  generalize 6 * n + cntN n = z4 at *
  generalize 6 * n = z5 at *
  generalize cntN n1 = B at *
  generalize cntN n = A at *
  generalize lvlN n1 = LB at *
  generalize lvlN n = LA at *
  clear s1 s2 s3 s4 t1 t2 b1 b2 hn hk hx0
  refine spec_pure (by simp) (by simp) ?_
  refine spec_intro Tryz.func5 good5 rfl (by simp [Tryz.ntmps5]) ?_
  repeat' (first
   | (with_reducible first | refine Stp.pf ?_ | refine block_x (by decide) ?_ | refine ret_n ?_)
   | refine tri_reg [] ?_ | refine tri_regc [] [] mixed (by decide +kernel) ?_
   | (refine rwf_nilt rfl (by decide +kernel) fun B hB => ?_; (try simp [*]); refine hB.out _ fun b => ?_; clear hB B)
   | (refine Rul.pf ⟨rfl, rfl⟩ fun B C hB => ?_; (try simp [*, -List.all_eq_true, Tryz.results5]); (try (simp (disch := first | assumption | omega) only [wc, ite_yes]; (try simp [*, -List.all_eq_true, Tryz.results5]))); first | (first | refine hB.out.1 _ (fun hb => ?_) fun hb => ⟨rfl, ?_⟩ | refine hB.out.1 _ (fun hb => ?_) fun hb => ?_) <;> clear hB C B <;> (try simp only [Bool.not_true, Bool.not_false] at hb) <;> (first | (exfalso; simp at hb; done) | (exfalso; simp at hb; omega) | (rw [hb]; (try simp at hb)) | (try simp at hb)) | ((first | refine hB.out.1 _ _ ?_ | refine hB.out.1 _ ?_ | refine hB.out.2.1 _ _ _ (ha) ?_ | refine hB.out.2.2 _ _ _ (ha) ?_ | refine hB.out.2.1 _ _ _ (c1) ?_ | refine hB.out.2.2 _ _ _ (c1) ?_ | refine hB.out.2.1 _ _ _ (c2) ?_ | refine hB.out.2.2 _ _ _ (c2) ?_ | refine hB.out.2.1 _ _ _ (c3) ?_ | refine hB.out.2.2 _ _ _ (c3) ?_ | refine hB.out.2.1 _ _ _ (l1) ?_ | refine hB.out.2.2 _ _ _ (l1) ?_ | refine hB.out.2.1 _ _ _ (l2) ?_ | refine hB.out.2.2 _ _ _ (l2) ?_ | refine hB.out.2.1 _ _ _ (l3) ?_ | refine hB.out.2.2 _ _ _ (l3) ?_ | refine hB.out.2 ⟨rfl, ?_⟩); clear hB C B) | (refine hB.out.2 _ ?_; clear hB C B; (try rfl)))
   | refine rwf_o ?_ | refine rwc_o .n rfl ?_ | refine rwc_o .z rfl ?_ | refine rwc_o .w rfl ?_ | refine rwc_o .b rfl ?_ | refine rwc_o _ rfl ?_)
end Go.Proofs.YtejgopcicenbeaaGreat
