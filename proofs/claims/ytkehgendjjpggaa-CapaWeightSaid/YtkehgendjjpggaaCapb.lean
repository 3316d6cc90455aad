/- The contracts of how many nodes so many leaves have: pack.up, pack.Count, capa.Most, and the reference's Count. -/
import Derived.Test.YtkehgendjjpggaaCapa
namespace Go.Proofs.Ytkehgendjjpggaa
open Go.RowKit

/-- How many nodes so many leaves have. -/
def tot (n : Nat) : Nat := if n ≤ 1 then n else n + tot ((n + 5) / 6)
termination_by n
decreasing_by omega

theorem tot_le (n : Nat) (h : n ≤ 1) : tot n = n := by rw [tot, if_pos h]
theorem tot_gt (n : Nat) (h : 1 < n) : tot n = n + tot ((n + 5) / 6) := by rw [tot, if_neg (by omega)]
theorem tot_bd : ∀ n : Nat, n ≤ tot n ∧ tot n ≤ 2 * n := by
  intro n
  induction n using Nat.strongRecOn with
  | ind n ih =>
    by_cases h : n ≤ 1
    · rw [tot_le n h]; omega
    · rw [tot_gt n (by omega)]
      have := ih ((n + 5) / 6) (by omega)
      by_cases h2 : n = 2
      · subst h2; rw [show (2 + 5) / 6 = 1 from rfl, tot_le 1 (by omega)]; omega
      · by_cases h3 : n = 3
        · subst h3; rw [show (3 + 5) / 6 = 1 from rfl, tot_le 1 (by omega)]; omega
        · by_cases h4 : n < 7
          · rw [show (n + 5) / 6 = 1 from by omega, tot_le 1 (by omega)]; omega
          · omega
theorem tot_mono : ∀ n m : Nat, n ≤ m → tot n ≤ tot m := by
  intro n
  induction n using Nat.strongRecOn with
  | ind n ih =>
    intro m hm
    by_cases h : n ≤ 1
    · rw [tot_le n h]; have := tot_bd m; omega
    · rw [tot_gt n (by omega), tot_gt m (by omega)]
      have := ih ((n + 5) / 6) (by omega) ((m + 5) / 6) (by omega)
      omega

theorem up_walk (l : Int) (w : World) (h0 : 0 ≤ l) (h1 : l ≤ 4611686018427387904) :
    Calls Try.prog 20 #[.int .i64 l] w fun e w' => e = .returned (.int .i64 ((l + 5) / 6)) ∧ w = w' := by
  by_cases h : l % 6 < 1
  · have hq : l / 6 = (l + 5) / 6 := by omega
    have h2 : l % 6 = 0 := by omega
    have HQ := Lib.hid hq
    have HR := Lib.hid h2
    clear hq h2
    go_enter Try.func20, Try.ntmps20
    go_wp2
    all_goals
      go_ret
      exact ⟨ret_int (by have := HQ.out; have := HR.out; omega), rfl⟩
  · go_enter Try.func20, Try.ntmps20
    go_wp2
    all_goals
      go_ret
      exact ⟨ret_int (by omega), rfl⟩

set_option maxHeartbeats 400000 in
theorem count_walk (l : Int) (w : World) (h0 : 1 ≤ l) (h1 : l ≤ 1000000000000000000) :
    Calls Try.prog 19 #[.int .i64 l] w fun e w' => e = .returned (.int .i64 (tot l.toNat)) ∧ w = w' := by
  have t1 : decide (l < 1) = false := by simp; omega
  have hb := tot_bd l.toNat
  go_enter Try.func19, Try.ntmps19
  go_wp2
  go_loop [0, 3] (fun a s => ∃ k : Nat, 1 ≤ k ∧ (k : Int) ≤ l ∧ a = .int .i64 k ∧ s = .int .i64 ((tot l.toNat : Int) - tot k + k)) (fun a _ => (intOf a).toNat)
  case atStart => exact ⟨l.toNat, by omega, by omega, by rw [Int.toNat_of_nonneg (by omega)], by congr 1; omega⟩
  case round =>
    obtain ⟨k, hk1, hk2, rfl, rfl⟩ := hrel
    have hbk := tot_bd k
    have hm := tot_mono k l.toNat (by omega)
    by_cases hlt : 1 < k
    · have he := tot_gt k hlt
      have hbk2 := tot_bd ((k + 5) / 6)
      have HE := Lib.hid he
      clear he
      have hlt2 : (1 : Int) < (k : Int) := by omega
      go_wp2_with (go_at_call 20; refine (up_walk _ _ (by omega) (by omega)).mono ?_; rintro e w' ⟨rfl, rfl⟩)
      go_round
      case rel =>
        refine ⟨(k + 5) / 6, by omega, by omega, by simp, ?_⟩
        have := HE.out
        congr 1
        omega
      case measure => simp [intOf]; omega
    · have hk : k = 1 := by omega
      subst hk
      have h1 := tot_le 1 (by omega)
      have HE := Lib.hid h1
      clear h1
      go_wp2
      go_ret
      exact ⟨ret_int (by have := HE.out; omega), rfl⟩

set_option maxHeartbeats 400000 in
theorem count2_walk (l : Int) (w : World) (h0 : 1 ≤ l) (h1 : l ≤ 1000000000000000000) :
    Calls Try.prog 15 #[.int .i64 l] w fun e w' => e = .returned (.int .i64 (tot l.toNat)) ∧ w = w' := by
  have hb := tot_bd l.toNat
  go_enter Try.func15, Try.ntmps15
  go_wp2
  go_loop [0, 3] (fun a s => ∃ k : Nat, 1 ≤ k ∧ (k : Int) ≤ l ∧ a = .int .i64 k ∧ s = .int .i64 ((tot l.toNat : Int) - tot k + k)) (fun a _ => (intOf a).toNat)
  case atStart => exact ⟨l.toNat, by omega, by omega, by rw [Int.toNat_of_nonneg (by omega)], by congr 1; omega⟩
  case round =>
    obtain ⟨k, hk1, hk2, rfl, rfl⟩ := hrel
    have hbk := tot_bd k
    have hm := tot_mono k l.toNat (by omega)
    by_cases hlt : 1 < k
    · have he := tot_gt k hlt
      have hbk2 := tot_bd ((k + 5) / 6)
      have HE := Lib.hid he
      clear he
      have hlt2 : (1 : Int) < (k : Int) := by omega
      by_cases h : (k : Int) % 6 < 1
      all_goals
        go_wp2
        go_round
        case rel =>
          refine ⟨(k + 5) / 6, by omega, by omega, by congr 1; omega, ?_⟩
          have := HE.out
          congr 1
          omega
        case measure => simp [intOf]; omega
    · have hk : k = 1 := by omega
      subst hk
      have h1 := tot_le 1 (by omega)
      have HE := Lib.hid h1
      clear h1
      go_wp2
      go_ret
      exact ⟨ret_int (by have := HE.out; omega), rfl⟩

/-- The most nodes of a weight. -/
def mostOf (m : Int) : Int := if m < 0 then 0 else (tot (m / 215 + 1).toNat : Int)
theorem most_walk (m : Int) (w : World) (h1 : m ≤ 9223372036854775807) :
    Calls Try.prog 16 #[.int .i64 m] w fun e w' => e = .returned (.int .i64 (mostOf m)) ∧ w = w' := by
  by_cases h : m < 0
  · have t1 : decide (m < 0) = true := by simp; omega
    have hm : mostOf m = 0 := by unfold mostOf; rw [if_pos h]
    have HM := Lib.hid hm
    clear hm
    go_enter Try.func16, Try.ntmps16
    go_wp2
    go_ret
    exact ⟨by rw [HM.out]; rfl, rfl⟩
  · have t1 : decide (m < 0) = false := by simp; omega
    have hm : mostOf m = (tot (m / 215 + 1).toNat : Int) := by unfold mostOf; rw [if_neg h]
    have HM := Lib.hid hm
    clear hm
    have h0 : 0 ≤ m := by omega
    clear h
    go_enter Try.func16, Try.ntmps16
    go_wp2_with (go_at_call 19; refine (count_walk _ _ (by omega) (by omega)).mono ?_; rintro e w' ⟨rfl, rfl⟩)
    go_ret
    exact ⟨by rw [HM.out]; rfl, rfl⟩
end Go.Proofs.Ytkehgendjjpggaa
