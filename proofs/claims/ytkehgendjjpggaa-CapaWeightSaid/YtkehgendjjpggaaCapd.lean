/- The walks of CapaGreat and CapaRoom. -/
import Derived.Test.YtkehgendjjpggaaCapc
namespace Go.Proofs.Ytkehgendjjpggaa
open Go.RowKit

theorem w64 {x : Int} (h : -9223372036854775808 ≤ x) (h' : x ≤ 9223372036854775807) : wrap64 x = x := by unfold wrap64; omega

theorem plan_cap {n L F D H V C : Int} (h : PlanOk n L F D H V C) (h1 : 64 ≤ n) (h2 : n ≤ 512) : 64 * n - 256 ≤ C ∧ C ≤ 50000 ∧ 18 ≤ H ∧ H ≤ 256 := by
  unfold PlanOk at h; omega
theorem plan_rises {n L F D H V C L' F' D' H' V' C' : Int} (h : PlanOk n L F D H V C) (h' : PlanOk (n + 1) L' F' D' H' V' C') : C ≤ C' ∧ H ≤ H' ∧ L ≤ L' := by
  unfold PlanOk at h h'; omega

theorem k_bd (a : Int) : ∃ k, 64 ≤ k ∧ k ≤ 512 ∧ wrap64 (64 + wrap64 (Int.tmod (IntKind.u64.wrap a) 449)) = k := by
  have h0 : 0 ≤ IntKind.u64.wrap a := by show 0 ≤ (if (IntKind.u64.signed && decide (a % 2 ^ 64 ≥ 2 ^ 63)) = true then a % 2 ^ 64 - 2 ^ 64 else a % 2 ^ 64); simp [IntKind.signed]; omega
  have e : Int.tmod (IntKind.u64.wrap a) 449 = IntKind.u64.wrap a % 449 := by rw [Int.tmod_eq_emod_of_nonneg h0]
  refine ⟨64 + IntKind.u64.wrap a % 449, by omega, by omega, ?_⟩
  rw [e, w64 (x := _ % 449) (by omega) (by omega), w64 (by omega) (by omega)]

set_option maxRecDepth 100000 in
set_option maxHeartbeats 800000 in
theorem great_walk (x : Int) (w : World) : Calls Try.prog 3 #[.int .i64 x] w (BoolIs true w) := by
  obtain ⟨n, h1, h2, hk⟩ := k_bd x
  have HK := Lib.hid hk
  clear hk
  go_enter Try.func3, Try.ntmps3
  go_wp2_with fail
  refine (awake_walk _).mono ?_
  rintro e w1 ⟨rfl, hb1⟩
  go_wp2_with fail
  rw [HK.out]
  refine (of_in n _ h1 h2).mono ?_
  rintro e w2 ⟨L, F, D, H, V, C, hp, rfl, hb2⟩
  have hcap := plan_cap hp h1 h2
  have hB : Below w.heap.size w w2 := hb1.trans (hb2.mono hb1.size)
  have tz : decide (C < 64 * n - 256) = false := by simp; omega
  clear hb1 hb2
  go_wp2_with fail
  by_cases e512 : n = 512
  · subst e512
    refine (of_out 513 _ (by omega)).mono ?_
    rintro e w3 ⟨rfl, hb3⟩
    have hB' : Below w.heap.size w w3 := (hB.alloc hB.size _).trans (hb3.mono (by have := hB.size; simp; omega))
    clear hB hb3
    go_wp2_with fail
    go_ret
    exact ⟨rfl, hB'.alloc hB'.size _⟩
  · refine (of_in (n + 1) _ (by omega) (by omega)).mono ?_
    rintro e w3 ⟨L', F', D', H', V', C', hp', rfl, hb3⟩
    obtain ⟨q1, q2, q3⟩ := plan_rises hp hp'
    have t0 : (n == 512) = false := beq_eq_false_iff_ne.2 e512
    have k3 := blk_new hb3 (by simp)
    have hB' : Below w.heap.size w w3 := (hB.alloc hB.size _).trans (hb3.mono (by have := hB.size; simp; omega))
    have hB2 := hB.size
    generalize w2.heap.size = B2 at k3 hB2 ⊢
    obtain ⟨c0, c1, c2, c3, c4, c5, c6⟩ := load7 k3
    have hlt := blk_lt k3
    have t1 : decide (C ≤ C') = true := by simp; omega
    have t2 : decide (H ≤ H') = true := by simp; omega
    have t3 : decide (L ≤ L') = true := by simp; omega
    clear hB hb3 k3 e512
    go_wp2_with fail
    go_ret
    exact ⟨rfl, hB'.alloc hB'.size _⟩
theorem great_law (x : Int) (w : World) (_ : (Lit.int .i64 x).wf = true) : Calls Try.prog 3 #[.int .i64 x] w (BoolIs true w) := great_walk x w
end Go.Proofs.Ytkehgendjjpggaa
