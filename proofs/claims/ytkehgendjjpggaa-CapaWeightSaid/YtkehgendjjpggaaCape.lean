/- The walk of CapaRoom. -/
import Derived.Test.YtkehgendjjpggaaCapd
namespace Go.Proofs.Ytkehgendjjpggaa
open Go.RowKit

theorem tot_five (v : Nat) (h : v ≤ 216) : 5 * tot v ≤ 6 * v + 15 := by
  by_cases h1 : v ≤ 1
  · rw [tot_le v h1]; omega
  rw [tot_gt v (by omega)]
  by_cases h2 : (v + 5) / 6 ≤ 1
  · rw [tot_le _ h2]; omega
  rw [tot_gt _ (by omega)]
  by_cases h3 : ((v + 5) / 6 + 5) / 6 ≤ 1
  · rw [tot_le _ h3]; omega
  rw [tot_gt _ (by omega)]
  rw [tot_le _ (by omega)]; omega

theorem most_bd {n L F D H V C m : Int} (h : PlanOk n L F D H V C) (h1 : 64 ≤ n) (h2 : n ≤ 512) (m0 : 0 ≤ m) (m1 : m ≤ C) : 1 ≤ mostOf m ∧ mostOf m ≤ H ∧ mostOf C ≤ H ∧ mostOf m ≤ mostOf C := by
  have hc := plan_cap h h1 h2
  have hV : V ≤ 212 ∧ 1 ≤ V ∧ C = 215 * V - 1 ∧ 6 * V ≤ 5 * (H - 3) := by unfold PlanOk at h; omega
  obtain ⟨v1, v2, v3, v4⟩ := hV
  have e1 : mostOf m = (tot (m / 215 + 1).toNat : Int) := by unfold mostOf; rw [if_neg (by omega)]
  have e2 : mostOf C = (tot V.toNat : Int) := by unfold mostOf; rw [if_neg (by omega)]; rw [show C / 215 + 1 = V from by omega]
  have f := tot_five V.toNat (by omega)
  have g := tot_mono (m / 215 + 1).toNat V.toNat (by omega)
  have b := tot_bd (m / 215 + 1).toNat
  rw [e1, e2]
  omega

theorem rem_bd (y C : Int) (h0 : 0 ≤ C) (h1 : C ≤ 50000) : ∃ m, 0 ≤ m ∧ m ≤ C ∧ wrap64 (Int.tmod (IntKind.u64.wrap y) (C + 1)) = m := by
  have h : 0 ≤ IntKind.u64.wrap y := by show 0 ≤ (if (IntKind.u64.signed && decide (y % 2 ^ 64 ≥ 2 ^ 63)) = true then y % 2 ^ 64 - 2 ^ 64 else y % 2 ^ 64); simp [IntKind.signed]; omega
  have e : Int.tmod (IntKind.u64.wrap y) (C + 1) = IntKind.u64.wrap y % (C + 1) := by rw [Int.tmod_eq_emod_of_nonneg h]
  have := Int.emod_nonneg (IntKind.u64.wrap y) (show C + 1 ≠ 0 by omega)
  have := Int.emod_lt_of_pos (IntKind.u64.wrap y) (show 0 < C + 1 by omega)
  exact ⟨IntKind.u64.wrap y % (C + 1), by omega, by omega, by rw [e, w64 (by omega) (by omega)]⟩

theorem i64_in (x : Int) (h : -9223372036854775808 ≤ x) (h' : x ≤ 9223372036854775807) : IntKind.i64.wrap x = x := by rw [IntKind.wrap_i64]; omega
theorem holds_yes (B L F D H V C m : Int) (w : World) (h : holdsB C m = true) : Calls Try.prog 13 #[.agg #[.int .i64 B, .int .i64 L, .int .i64 F, .int .i64 D, .int .i64 H, .int .i64 V, .int .i64 C], .int .i64 m] w
    (fun e w' => e = .returned (.bool true) ∧ Below w.heap.size w w') := (holds_any B L F D H V C m w).mono fun _ _ ⟨a, b⟩ => ⟨by rw [a, h], b⟩

set_option maxRecDepth 100000 in
set_option maxHeartbeats 1600000 in
theorem room_walk (x y : Int) (w : World) : Calls Try.prog 7 #[.int .i64 x, .int .i64 y] w (BoolIs true w) := by
  obtain ⟨n, h1, h2, hk⟩ := k_bd x
  have HK := Lib.hid hk
  clear hk
  go_enter Try.func7, Try.ntmps7
  go_wp2_with fail
  refine (awake_walk _).mono ?_
  rintro e w1 ⟨rfl, hb1⟩
  go_wp2_with fail
  rw [HK.out]
  refine (of_in n _ h1 h2).mono ?_
  rintro e w2 ⟨L, F, D, H, V, C, hp, rfl, hb2⟩
  have hcap := plan_cap hp h1 h2
  have hB : Below w.heap.size w w2 := hb1.trans (hb2.mono hb1.size)
  obtain ⟨m, m0, m1, hm⟩ := rem_bd y C (by omega) (by omega)
  have HM := Lib.hid hm
  clear hm
  have tz : decide (C < 0) = false := by simp; omega
  have hC0 : 0 ≤ C := by omega
  have hz : ((C + 1 : Int) == 0) = false := by simp; omega
  clear hb1 hb2
  go_wp2_with fail
  rw [HM.out]
  refine (most_walk m _ (by omega)).mono ?_
  rintro e w3 ⟨rfl, rfl⟩
  obtain ⟨q1, q2, q3, q4⟩ := most_bd hp h1 h2 m0 m1
  have hk : holdsB C m = true := by unfold holdsB; simp; omega
  have a1 : 2 * H + 2 ≤ D ∧ 2 + L + D = n ∧ F = 2 + L := by unfold PlanOk at hp; omega
  obtain ⟨a1, a2, a3⟩ := a1
  obtain ⟨w4, hw4⟩ : ∃ w4, w4 = w2.alloc (.cells #[.int .i64 n, .int .i64 L, .int .i64 F, .int .i64 D, .int .i64 H, .int .i64 V, .int .i64 C] 25) := ⟨_, rfl⟩
  rw [← hw4]
  have k4 : w4.heap[w2.heap.size]? = some (.cells #[.int .i64 n, .int .i64 L, .int .i64 F, .int .i64 D, .int .i64 H, .int .i64 V, .int .i64 C] 25) := by
    rw [hw4]; show (w2.heap.push _)[w2.heap.size]? = _; simp
  have hB4 : Below w.heap.size w w4 := by rw [hw4]; exact hB.alloc hB.size _
  clear hw4 hB
  have hlt := blk_lt k4
  generalize w2.heap.size = B2 at k4 hlt ⊢
  obtain ⟨c0, c1, c2, c3, c4, c5, c6⟩ := load7 k4
  have d0 := BelowBy.cell hlt c0
  have d1 := BelowBy.cell hlt c1
  have d2 := BelowBy.cell hlt c2
  have d3 := BelowBy.cell hlt c3
  have d4 := BelowBy.cell hlt c4
  have d5 := BelowBy.cell hlt c5
  have d6 := BelowBy.cell hlt c6
  have t1 : decide (1 ≤ mostOf m) = true := by simp; omega
  have t2 : decide (mostOf m ≤ H) = true := by simp; omega
  have t3 : decide (2 * H + 2 ≤ D) = true := by simp; omega
  have t4 : (2 + L + D == n) = true := by simp; omega
  have t5 : (F == 2 + L) = true := by simp; omega
  have t6 : decide (mostOf C ≤ H) = true := by simp; omega
  have t7 : decide (mostOf m ≤ mostOf C) = true := by simp; omega
  have b1 : D ≤ n ∧ 0 ≤ L ∧ L ≤ n := by unfold PlanOk at hp; omega
  obtain ⟨b1, b2, b3⟩ := b1
  have s1 : IntKind.i64.wrap (2 * H) = 2 * H := i64_in (2 * H) (by omega) (by omega)
  have s2 : IntKind.i64.wrap (2 * H + 2) = 2 * H + 2 := i64_in (2 * H + 2) (by omega) (by omega)
  have s3 : IntKind.i64.wrap (2 + L) = 2 + L := i64_in (2 + L) (by omega) (by omega)
  have s4 : IntKind.i64.wrap (2 + L + D) = 2 + L + D := i64_in (2 + L + D) (by omega) (by omega)
  clear a2 a3
  go_wp2_with fail
  refine wp_region_quiet_below (by kernel_rfl) (by kernel_rfl) ?_
  have K1 := fun W : World => holds_yes n L F D H V C m W hk
  have K2 := fun W : World => most_walk C W (by omega)
  have J1 := Lib.hid K1
  have J2 := Lib.hid K2
  clear K1 K2
  repeat (first | go_big_quiet_step ((first | (go_at_call 13; exact calls_below (J1.out _)) | (go_at_call 16; exact calls_same (J2.out _)))) | quiet_step ((first | (go_at_call 13; exact calls_below (J1.out _)) | (go_at_call 16; exact calls_same (J2.out _)))))
  refine wpQuiet_nil ?_
  intro _ hw'
  obtain ⟨⟨w5, hb5⟩, hw''⟩ := hw'
  subst hw''
  go_wp2_with fail
  go_ret
  exact ⟨rfl, hB4.trans (hb5.mono hB4.size)⟩
theorem room_law (x y : Int) (w : World) (_ : (Lit.int .i64 x).wf = true) (_ : (Lit.int .i64 y).wf = true) : Calls Try.prog 7 #[.int .i64 x, .int .i64 y] w (BoolIs true w) := room_walk x y w
end Go.Proofs.Ytkehgendjjpggaa
