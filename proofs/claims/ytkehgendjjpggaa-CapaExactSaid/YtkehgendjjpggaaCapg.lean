/- The walk of CapaExact. -/
import Derived.Test.YtkehgendjjpggaaCapf
namespace Go.Proofs.Ytkehgendjjpggaa
open Go.RowKit

def ROfGood (n : Int) (w : World) (e : Ending) (w' : World) : Prop :=
  ∃ L F D H V C : Int, PlanOk n L F D H V C ∧ e = .returned (.tuple #[.agg #[.int .i64 n, .int .i64 L, .int .i64 F, .int .i64 D, .int .i64 H, .int .i64 V, .int .i64 C], .bool true]) ∧ Below w.heap.size w w'
def ROfBad (w : World) (e : Ending) (w' : World) : Prop :=
  e = .returned (.tuple #[.agg #[.int .i64 0, .int .i64 0, .int .i64 0, .int .i64 0, .int .i64 0, .int .i64 0, .int .i64 0], .bool false]) ∧ Below w.heap.size w w'

set_option maxRecDepth 100000 in
set_option maxHeartbeats 400000 in
theorem rof_in (n : Int) (w : World) (h1 : 64 ≤ n) (h2 : n ≤ 512) : Calls Try.prog 12 #[.int .i64 n] w (ROfGood n w) := by
  have t1 : decide (n < 64) = false := by simp; omega
  have t2 : decide (512 < n) = false := by simp; omega
  have t3 : decide (n / 8 < 8) = false := by simp; omega
  go_enter Try.func12, Try.ntmps12
  go_wp2
  refine bodyPost_ret (v := .tuple #[.agg #[.int .i64 n, .int .i64 (n / 8), .int .i64 (2 + n / 8), .int .i64 (n - 2 - n / 8), .int .i64 ((n - 2 - n / 8 - 2) / 2), .int .i64 (5 * ((n - 2 - n / 8 - 2) / 2 - 3) / 6), .int .i64 (215 * (5 * ((n - 2 - n / 8 - 2) / 2 - 3) / 6) - 1)], .bool true]) (by simp [results, Try.results12, go_sem]) rfl ⟨_, _, _, _, _, _, ?_, rfl, ?_⟩
  · unfold PlanOk; omega
  · exact ((Below.refl _ _).alloc (Nat.le_refl _) _).alloc (by simp) _

set_option maxRecDepth 100000 in
set_option maxHeartbeats 400000 in
theorem rof_out (n : Int) (w : World) (h : n < 64 ∨ 512 < n) : Calls Try.prog 12 #[.int .i64 n] w (ROfBad w) := by
  by_cases h1 : n < 64
  · have t1 : decide (n < 64) = true := by simp; omega
    go_enter Try.func12, Try.ntmps12
    go_wp2
    exact bodyPost_ret (v := .tuple #[.agg #[.int .i64 0, .int .i64 0, .int .i64 0, .int .i64 0, .int .i64 0, .int .i64 0, .int .i64 0], .bool false]) (by simp [results, Try.results12, go_sem]) rfl ⟨rfl, (Below.refl _ _).alloc (Nat.le_refl _) _⟩
  · have t1 : decide (n < 64) = false := by simp; omega
    have t2 : decide (512 < n) = true := by simp; omega
    go_enter Try.func12, Try.ntmps12
    go_wp2
    exact bodyPost_ret (v := .tuple #[.agg #[.int .i64 0, .int .i64 0, .int .i64 0, .int .i64 0, .int .i64 0, .int .i64 0, .int .i64 0], .bool false]) (by simp [results, Try.results12, go_sem]) rfl ⟨rfl, (Below.refl _ _).alloc (Nat.le_refl _) _⟩


set_option maxRecDepth 100000 in
set_option maxHeartbeats 800000 in
theorem rkind_any (B L F D H V C b : Int) (w : World) :
    Calls Try.prog 14 #[.agg #[.int .i64 B, .int .i64 L, .int .i64 F, .int .i64 D, .int .i64 H, .int .i64 V, .int .i64 C], .int .i64 b] w (KindIs B F b w) := by
  by_cases h1 : b < 0
  · have t1 : decide (b < 0) = true := by simp; omega
    have hk : kindOf B F b = 0 := by unfold kindOf; rw [if_pos h1]
    have HK := Lib.hid hk
    clear hk
    go_enter Try.func14, Try.ntmps14
    go_wp2
    go_ret
    exact ⟨by rw [HK.out]; rfl, (Below.refl _ _).alloc (Nat.le_refl _) _⟩
  · have t1 : decide (b < 0) = false := by simp; omega
    by_cases h2 : B ≤ b
    · have t2 : decide (B ≤ b) = true := by simp; omega
      have hk : kindOf B F b = 0 := by unfold kindOf; rw [if_neg h1, if_pos h2]
      have HK := Lib.hid hk
      clear hk
      go_enter Try.func14, Try.ntmps14
      go_wp2
      go_ret
      exact ⟨by rw [HK.out]; rfl, (Below.refl _ _).alloc (Nat.le_refl _) _⟩
    · have t2 : decide (B ≤ b) = false := by simp; omega
      by_cases h3 : b < 2
      · have t3 : decide (b < 2) = true := by simp; omega
        have hk : kindOf B F b = 1 := by unfold kindOf; rw [if_neg h1, if_neg h2, if_pos h3]
        have HK := Lib.hid hk
        clear hk
        go_enter Try.func14, Try.ntmps14
        go_wp2
        go_ret
        exact ⟨by rw [HK.out]; rfl, (Below.refl _ _).alloc (Nat.le_refl _) _⟩
      · have t3 : decide (b < 2) = false := by simp; omega
        by_cases h4 : b < F
        · have t4 : decide (b < F) = true := by simp; omega
          have hk : kindOf B F b = 2 := by unfold kindOf; rw [if_neg h1, if_neg h2, if_neg h3, if_pos h4]
          have HK := Lib.hid hk
          clear hk
          go_enter Try.func14, Try.ntmps14
          go_wp2
          go_ret
          exact ⟨by rw [HK.out]; rfl, (Below.refl _ _).alloc (Nat.le_refl _) _⟩
        · have t4 : decide (b < F) = false := by simp; omega
          have hk : kindOf B F b = 3 := by unfold kindOf; rw [if_neg h1, if_neg h2, if_neg h3, if_neg h4]
          have HK := Lib.hid hk
          clear hk
          go_enter Try.func14, Try.ntmps14
          go_wp2
          go_ret
          exact ⟨by rw [HK.out]; rfl, (Below.refl _ _).alloc (Nat.le_refl _) _⟩



theorem plan_uniq {n L F D H V C L' F' D' H' V' C' : Int} (h : PlanOk n L F D H V C) (h' : PlanOk n L' F' D' H' V' C') : L' = L ∧ F' = F ∧ D' = D ∧ H' = H ∧ V' = V ∧ C' = C := by
  unfold PlanOk at h h'
  have e1 : L' = L := by omega
  subst e1
  have e2 : F' = F := by omega
  have e3 : D' = D := by omega
  subst e2 e3
  have e4 : H' = H := by omega
  subst e4
  have e5 : V' = V := by omega
  subst e5
  exact ⟨rfl, rfl, rfl, rfl, rfl, by omega⟩

/-- The end of CapaExact's body: what Most answers is what the reference's Count answers. -/
theorem exact_end (m : Int) (hm : -9223372036854775808 ≤ m) (h' : m ≤ 9223372036854775807) : (0 ≤ m → mostOf m = (tot (m / 215 + 1).toNat : Int)) ∧ (m < 0 → mostOf m = 0) :=
  ⟨fun h => by unfold mostOf; rw [if_neg (by omega)], fun h => by unfold mostOf; rw [if_pos h]⟩

set_option maxRecDepth 100000 in
set_option maxHeartbeats 1600000 in
theorem exact_out (n m b : Int) (w : World) (hn : n < 64 ∨ 512 < n) (m1 : -9223372036854775808 ≤ m) (m2 : m ≤ 9223372036854775807) :
    Calls Try.prog 6 #[.int .i64 n, .int .i64 m, .int .i64 b] w (BoolIs true w) := by
  obtain ⟨x1, x2⟩ := exact_end m m1 m2
  have HN := Lib.hid hn
  clear hn
  go_enter Try.func6, Try.ntmps6
  go_wp2_with fail
  refine (awake_walk _).mono ?_
  rintro e w1 ⟨rfl, hb1⟩
  go_wp2_with fail
  refine (of_out n _ HN.out).mono ?_
  rintro e w2 ⟨rfl, hb2⟩
  have hB : Below w.heap.size w w2 := hb1.trans (hb2.mono hb1.size)
  clear hb1 hb2
  go_wp2_with fail
  refine (rof_out n _ HN.out).mono ?_
  rintro e w3 ⟨rfl, hb3⟩
  have k3 := blk_new hb3 (by simp)
  have hB3 : Below w.heap.size w w3 := (hB.alloc hB.size _).trans (hb3.mono (by have := hB.size; simp; omega))
  generalize w2.heap.size = B2 at k3 ⊢
  have hlt := blk_lt k3
  obtain ⟨c0, c1, c2, c3, c4, c5, c6⟩ := load7 k3
  clear hb3 hB
  obtain ⟨w4, hw4⟩ : ∃ w4, w4 = w3.alloc (.cells #[.int .i64 0, .int .i64 0, .int .i64 0, .int .i64 0, .int .i64 0, .int .i64 0, .int .i64 0] 37) := ⟨_, rfl⟩
  have k4 : w4.heap[B2]? = some (.cells #[.int .i64 0, .int .i64 0, .int .i64 0, .int .i64 0, .int .i64 0, .int .i64 0, .int .i64 0] 25) := by
    rw [hw4, Below.heap_alloc _ _ _ hlt]; exact k3
  have l4 : w4.heap[w3.heap.size]? = some (.cells #[.int .i64 0, .int .i64 0, .int .i64 0, .int .i64 0, .int .i64 0, .int .i64 0, .int .i64 0] 37) := by
    rw [hw4]; exact blk_self _ _
  have hB4 : Below w.heap.size w w4 := by rw [hw4]; exact hB3.alloc hB3.size _
  by_cases hm : 0 ≤ m
  · have t1 : decide (0 ≤ m) = true := by simp; omega
    have e1 := Lib.hid (x1 hm)
    clear x1 x2
    go_wp2_with fail
    rw [← hw4]
    clear hw4
    generalize w3.heap.size = B3 at l4 ⊢
    obtain ⟨d0, d1, d2, d3, d4, d5, d6⟩ := load7 k4
    obtain ⟨f0, f1, f2, f3, f4, f5, f6⟩ := load7 l4
    go_wp2_with fail
    refine wp_region_quiet_below (by kernel_rfl) (by kernel_rfl) ?_
    repeat (first | go_big_quiet_step (fail) | quiet_step (fail))
    refine wpQuiet_nil ?_
    intro _ hw'
    obtain ⟨⟨w5, hb5⟩, hw''⟩ := hw'
    subst hw''
    have hB5 := hB4.trans (hb5.mono hB4.size)
    clear hb5
    go_wp2_with fail
    refine (count2_walk (m / 215 + 1) _ (by omega) (by omega)).mono ?_
    rintro e wa ⟨rfl, rfl⟩
    go_wp2_with fail
    refine (most_walk m _ (by omega)).mono ?_
    rintro e wb ⟨rfl, rfl⟩
    rw [e1.out]
    go_wp2_with fail
    go_ret
    exact ⟨rfl, hB5⟩
  · have t1 : decide (0 ≤ m) = false := by simp; omega
    have e1 := Lib.hid (x2 (by omega))
    clear x1 x2
    go_wp2_with fail
    rw [← hw4]
    clear hw4
    generalize w3.heap.size = B3 at l4 ⊢
    obtain ⟨d0, d1, d2, d3, d4, d5, d6⟩ := load7 k4
    obtain ⟨f0, f1, f2, f3, f4, f5, f6⟩ := load7 l4
    go_wp2_with fail
    refine wp_region_quiet_below (by kernel_rfl) (by kernel_rfl) ?_
    repeat (first | go_big_quiet_step (fail) | quiet_step (fail))
    refine wpQuiet_nil ?_
    intro _ hw'
    obtain ⟨⟨w5, hb5⟩, hw''⟩ := hw'
    subst hw''
    have hB5 := hB4.trans (hb5.mono hB4.size)
    clear hb5
    go_wp2_with fail
    refine (most_walk m _ (by omega)).mono ?_
    rintro e wb ⟨rfl, rfl⟩
    rw [e1.out]
    go_wp2_with fail
    go_ret
    exact ⟨rfl, hB5⟩

theorem holds_is (B L F D H V C m : Int) (w : World) {v : Bool} (h : holdsB C m = v) : Calls Try.prog 13 #[.agg #[.int .i64 B, .int .i64 L, .int .i64 F, .int .i64 D, .int .i64 H, .int .i64 V, .int .i64 C], .int .i64 m] w
    (fun e w' => e = .returned (.bool v) ∧ Below w.heap.size w w') := (holds_any B L F D H V C m w).mono fun _ _ ⟨a, b⟩ => ⟨by rw [a, h], b⟩

set_option maxRecDepth 100000 in
set_option maxHeartbeats 3200000 in
theorem exact_in (n m b : Int) (w : World) (h1 : 64 ≤ n) (h2 : n ≤ 512) (m1 : -9223372036854775808 ≤ m) (m2 : m ≤ 9223372036854775807) :
    Calls Try.prog 6 #[.int .i64 n, .int .i64 m, .int .i64 b] w (BoolIs true w) := by
  obtain ⟨x1, x2⟩ := exact_end m m1 m2
  go_enter Try.func6, Try.ntmps6
  go_wp2_with fail
  refine (awake_walk _).mono ?_
  rintro e w1 ⟨rfl, hb1⟩
  go_wp2_with fail
  refine (of_in n _ h1 h2).mono ?_
  rintro e w2 ⟨L, F, D, H, V, C, hp, rfl, hb2⟩
  have hB : Below w.heap.size w w2 := hb1.trans (hb2.mono hb1.size)
  have HP := Lib.hid hp
  clear hb1 hb2 hp
  go_wp2_with fail
  refine (rof_in n _ h1 h2).mono ?_
  rintro e w3 ⟨L', F', D', H', V', C', hp', rfl, hb3⟩
  obtain ⟨rfl, rfl, rfl, rfl, rfl, rfl⟩ := plan_uniq HP.out hp'
  clear hp'
  have k3 := blk_new hb3 (by simp)
  have hB3 : Below w.heap.size w w3 := (hB.alloc hB.size _).trans (hb3.mono (by have := hB.size; simp; omega))
  generalize w2.heap.size = B2 at k3 ⊢
  have hlt := blk_lt k3
  clear hb3 hB
  obtain ⟨w4, hw4⟩ : ∃ w4, w4 = w3.alloc (.cells #[.int .i64 n, .int .i64 L', .int .i64 F', .int .i64 D', .int .i64 H', .int .i64 V', .int .i64 C'] 37) := ⟨_, rfl⟩
  have k4 : w4.heap[B2]? = some (.cells #[.int .i64 n, .int .i64 L', .int .i64 F', .int .i64 D', .int .i64 H', .int .i64 V', .int .i64 C'] 25) := by
    rw [hw4, Below.heap_alloc _ _ _ hlt]; exact k3
  have l4 : w4.heap[w3.heap.size]? = some (.cells #[.int .i64 n, .int .i64 L', .int .i64 F', .int .i64 D', .int .i64 H', .int .i64 V', .int .i64 C'] 37) := by
    rw [hw4]; exact blk_self _ _
  have hB4 : Below w.heap.size w w4 := by rw [hw4]; exact hB3.alloc hB3.size _
  obtain ⟨c0, c1, c2, c3, c4, c5, c6⟩ := load7 k3
  have K := fun W : World => kind_any n L' F' D' H' V' C' b W
  have R := fun W : World => rkind_any n L' F' D' H' V' C' b W
  have J := Lib.hid K
  have JR := Lib.hid R
  clear K R
  by_cases hm : 0 ≤ m
  · have t1 : decide (0 ≤ m) = true := by simp; omega
    have e1 := Lib.hid (x1 hm)
    have m3 : 0 ≤ m / 215 + 1 := by omega
    clear x1 x2
    by_cases hc : m ≤ C'
    · have t2 : decide (m ≤ C') = true := by simp; omega
      have hk : holdsB C' m = true := by unfold holdsB; simp; omega
      have JH := Lib.hid (fun W : World => holds_is n L' F' D' H' V' C' m W hk)
      clear hk
      go_wp2_with fail
      rw [← hw4]
      clear hw4
      generalize w3.heap.size = B3 at l4 ⊢
      have hlt2 := blk_lt k4
      have hlt3 := blk_lt l4
      obtain ⟨d0, d1, d2, d3, d4, d5, d6⟩ := load7 k4
      obtain ⟨f0, f1, f2, f3, f4, f5, f6⟩ := load7 l4
      go_wp2_with fail
      have dd0 := BelowBy.cell hlt2 d0
      have dd1 := BelowBy.cell hlt2 d1
      have dd2 := BelowBy.cell hlt2 d2
      have dd3 := BelowBy.cell hlt2 d3
      have dd4 := BelowBy.cell hlt2 d4
      have dd5 := BelowBy.cell hlt2 d5
      have dd6 := BelowBy.cell hlt2 d6
      have ff0 := BelowBy.cell hlt3 f0
      have ff1 := BelowBy.cell hlt3 f1
      have ff2 := BelowBy.cell hlt3 f2
      have ff3 := BelowBy.cell hlt3 f3
      have ff4 := BelowBy.cell hlt3 f4
      have ff5 := BelowBy.cell hlt3 f5
      have ff6 := BelowBy.cell hlt3 f6
      go_wp2_with fail
      refine wp_region_quiet_below (by kernel_rfl) (by kernel_rfl) ?_
      repeat (first | go_big_quiet_step ((first | (go_at_call 13; exact calls_below (JH.out _)) | (go_at_call 10; exact calls_below (J.out _)) | (go_at_call 14; exact calls_below (JR.out _)))) | quiet_step ((first | (go_at_call 13; exact calls_below (JH.out _)) | (go_at_call 10; exact calls_below (J.out _)) | (go_at_call 14; exact calls_below (JR.out _)))))
      refine wpQuiet_nil ?_
      intro _ hw'
      obtain ⟨⟨w5, hb5⟩, hw''⟩ := hw'
      subst hw''
      have hB5 := hB4.trans (hb5.mono hB4.size)
      clear hb5
      go_wp2_with fail
      refine (count2_walk (m / 215 + 1) _ (by omega) (by omega)).mono ?_
      rintro e wa ⟨rfl, rfl⟩
      go_wp2_with fail
      refine (most_walk m _ (by omega)).mono ?_
      rintro e wb ⟨rfl, rfl⟩
      rw [e1.out]
      go_wp2_with fail
      go_ret
      exact ⟨rfl, hB5⟩
    · have t2 : decide (m ≤ C') = false := by simp; omega
      have hk : holdsB C' m = false := by unfold holdsB; simp; omega
      have JH := Lib.hid (fun W : World => holds_is n L' F' D' H' V' C' m W hk)
      clear hk
      go_wp2_with fail
      rw [← hw4]
      clear hw4
      generalize w3.heap.size = B3 at l4 ⊢
      have hlt2 := blk_lt k4
      have hlt3 := blk_lt l4
      obtain ⟨d0, d1, d2, d3, d4, d5, d6⟩ := load7 k4
      obtain ⟨f0, f1, f2, f3, f4, f5, f6⟩ := load7 l4
      go_wp2_with fail
      have dd0 := BelowBy.cell hlt2 d0
      have dd1 := BelowBy.cell hlt2 d1
      have dd2 := BelowBy.cell hlt2 d2
      have dd3 := BelowBy.cell hlt2 d3
      have dd4 := BelowBy.cell hlt2 d4
      have dd5 := BelowBy.cell hlt2 d5
      have dd6 := BelowBy.cell hlt2 d6
      have ff0 := BelowBy.cell hlt3 f0
      have ff1 := BelowBy.cell hlt3 f1
      have ff2 := BelowBy.cell hlt3 f2
      have ff3 := BelowBy.cell hlt3 f3
      have ff4 := BelowBy.cell hlt3 f4
      have ff5 := BelowBy.cell hlt3 f5
      have ff6 := BelowBy.cell hlt3 f6
      go_wp2_with fail
      refine wp_region_quiet_below (by kernel_rfl) (by kernel_rfl) ?_
      repeat (first | go_big_quiet_step ((first | (go_at_call 13; exact calls_below (JH.out _)) | (go_at_call 10; exact calls_below (J.out _)) | (go_at_call 14; exact calls_below (JR.out _)))) | quiet_step ((first | (go_at_call 13; exact calls_below (JH.out _)) | (go_at_call 10; exact calls_below (J.out _)) | (go_at_call 14; exact calls_below (JR.out _)))))
      refine wpQuiet_nil ?_
      intro _ hw'
      obtain ⟨⟨w5, hb5⟩, hw''⟩ := hw'
      subst hw''
      have hB5 := hB4.trans (hb5.mono hB4.size)
      clear hb5
      go_wp2_with fail
      refine (count2_walk (m / 215 + 1) _ (by omega) (by omega)).mono ?_
      rintro e wa ⟨rfl, rfl⟩
      go_wp2_with fail
      refine (most_walk m _ (by omega)).mono ?_
      rintro e wb ⟨rfl, rfl⟩
      rw [e1.out]
      go_wp2_with fail
      go_ret
      exact ⟨rfl, hB5⟩
  · have t1 : decide (0 ≤ m) = false := by simp; omega
    have e1 := Lib.hid (x2 (by omega))
    have hk : holdsB C' m = false := by unfold holdsB; simp; omega
    have JH := Lib.hid (fun W : World => holds_is n L' F' D' H' V' C' m W hk)
    clear x1 x2 hk
    go_wp2_with fail
    rw [← hw4]
    clear hw4
    generalize w3.heap.size = B3 at l4 ⊢
    have hlt2 := blk_lt k4
    have hlt3 := blk_lt l4
    obtain ⟨d0, d1, d2, d3, d4, d5, d6⟩ := load7 k4
    obtain ⟨f0, f1, f2, f3, f4, f5, f6⟩ := load7 l4
    go_wp2_with fail
    have dd0 := BelowBy.cell hlt2 d0
    have dd1 := BelowBy.cell hlt2 d1
    have dd2 := BelowBy.cell hlt2 d2
    have dd3 := BelowBy.cell hlt2 d3
    have dd4 := BelowBy.cell hlt2 d4
    have dd5 := BelowBy.cell hlt2 d5
    have dd6 := BelowBy.cell hlt2 d6
    have ff0 := BelowBy.cell hlt3 f0
    have ff1 := BelowBy.cell hlt3 f1
    have ff2 := BelowBy.cell hlt3 f2
    have ff3 := BelowBy.cell hlt3 f3
    have ff4 := BelowBy.cell hlt3 f4
    have ff5 := BelowBy.cell hlt3 f5
    have ff6 := BelowBy.cell hlt3 f6
    go_wp2_with fail
    refine wp_region_quiet_below (by kernel_rfl) (by kernel_rfl) ?_
    repeat (first | go_big_quiet_step ((first | (go_at_call 13; exact calls_below (JH.out _)) | (go_at_call 10; exact calls_below (J.out _)) | (go_at_call 14; exact calls_below (JR.out _)))) | quiet_step ((first | (go_at_call 13; exact calls_below (JH.out _)) | (go_at_call 10; exact calls_below (J.out _)) | (go_at_call 14; exact calls_below (JR.out _)))))
    refine wpQuiet_nil ?_
    intro _ hw'
    obtain ⟨⟨w5, hb5⟩, hw''⟩ := hw'
    subst hw''
    have hB5 := hB4.trans (hb5.mono hB4.size)
    clear hb5
    go_wp2_with fail
    refine (most_walk m _ (by omega)).mono ?_
    rintro e wb ⟨rfl, rfl⟩
    rw [e1.out]
    go_wp2_with fail
    go_ret
    exact ⟨rfl, hB5⟩
theorem exact_law (n m b : Int) (w : World) (_ : (Lit.int .i64 n).wf = true) (hm : (Lit.int .i64 m).wf = true) (_ : (Lit.int .i64 b).wf = true) :
    Calls Try.prog 6 #[.int .i64 n, .int .i64 m, .int .i64 b] w (BoolIs true w) := by
  have hm' : -9223372036854775808 ≤ m ∧ m ≤ 9223372036854775807 := by have h := hm; simp [Lit.wf] at h; exact h
  by_cases h : 64 ≤ n ∧ n ≤ 512
  · exact exact_in n m b w h.1 h.2 hm'.1 hm'.2
  · exact exact_out n m b w (by omega) hm'.1 hm'.2
end Go.Proofs.Ytkehgendjjpggaa
