/- How many nodes, how many levels there are above so many leaves, plainly. No program. -/
import Derived.Test.YtejgopcicenbeaaGreatLc
namespace Go.Proofs.YtejgopcicenbeaaGreat
open Go.RowKit
set_option linter.unusedSimpArgs false
/-- How many nodes are above so many. -/
def upN (n : Nat) : Nat := n / 6 + min (n % 6) 1
theorem upN_lt {n : Nat} (h : 2 ≤ n) : upN n < n := by unfold upN; omega
theorem upN_pos {n : Nat} (h : 1 ≤ n) : 1 ≤ upN n := by unfold upN; omega
theorem upN_succ (n : Nat) : upN (n + 1) = upN n ∨ upN (n + 1) = upN n + 1 := by unfold upN; omega
theorem upN_six (n : Nat) : upN (6 * n) = n := by unfold upN; omega
/-- All nodes; the levels. -/
def cntN (n : Nat) : Nat := if h : n ≤ 1 then n else n + cntN (upN n)
termination_by n
decreasing_by exact upN_lt (by omega)
def lvlN (n : Nat) : Nat := if h : n ≤ 1 then n else 1 + lvlN (upN n)
termination_by n
decreasing_by exact upN_lt (by omega)
theorem cntN_le {n : Nat} (h : n ≤ 1) : cntN n = n := by unfold cntN; rw [dif_pos h]
theorem cntN_gt {n : Nat} (h : 1 < n) : cntN n = n + cntN (upN n) := by rw [cntN]; rw [dif_neg (by omega)]
theorem lvlN_le {n : Nat} (h : n ≤ 1) : lvlN n = n := by unfold lvlN; rw [dif_pos h]
theorem lvlN_gt {n : Nat} (h : 1 < n) : lvlN n = 1 + lvlN (upN n) := by rw [lvlN]; rw [dif_neg (by omega)]
theorem cntN_bound (n : Nat) : cntN n ≤ 2 * n := by
  induction n using Nat.strongRecOn with
  | _ n ih =>
    by_cases h : n ≤ 1
    · rw [cntN_le h]; omega
    · rw [cntN_gt (by omega)]
      have := ih (upN n) (upN_lt (by omega))
      have h2 : 2 * upN n ≤ n := by unfold upN; omega
      omega
theorem cntN_pos {n : Nat} (h : 1 ≤ n) : n ≤ cntN n := by
  by_cases h1 : n ≤ 1
  · rw [cntN_le h1]; omega
  · rw [cntN_gt (by omega)]; omega
theorem lvlN_bound (n : Nat) : lvlN n ≤ n := by
  induction n using Nat.strongRecOn with
  | _ n ih =>
    by_cases h : n ≤ 1
    · rw [lvlN_le h]; omega
    · rw [lvlN_gt (by omega)]
      have := ih (upN n) (upN_lt (by omega))
      have := upN_lt (n := n) (by omega)
      omega
theorem lvlN_pos {n : Nat} (h : 1 ≤ n) : 1 ≤ lvlN n := by
  by_cases h1 : n ≤ 1
  · rw [lvlN_le h1]; exact h
  · rw [lvlN_gt (by omega)]; omega
theorem steps {n : Nat} (h : 1 ≤ n) : cntN n < cntN (n + 1) ∧ cntN (n + 1) ≤ cntN n + lvlN n + 1 ∧ lvlN n ≤ lvlN (n + 1) ∧ lvlN (n + 1) ≤ lvlN n + 1 := by
  induction n using Nat.strongRecOn with
  | _ n ih =>
    by_cases h1 : n = 1
    · subst h1
      have e : upN 2 = 1 := rfl
      rw [cntN_gt (n := 2) (by omega), lvlN_gt (n := 2) (by omega), e, cntN_le (n := 1) (by omega), lvlN_le (n := 1) (by omega)]
      omega
    · rw [cntN_gt (n := n + 1) (by omega), cntN_gt (n := n) (by omega), lvlN_gt (n := n + 1) (by omega), lvlN_gt (n := n) (by omega)]
      rcases upN_succ n with e | e
      · rw [e]; omega
      · rw [e]
        have := ih (upN n) (upN_lt (by omega)) (upN_pos h)
        omega
theorem six {n : Nat} (h : 1 ≤ n) : cntN (6 * n) = 6 * n + cntN n ∧ lvlN (6 * n) = lvlN n + 1 := by
  rw [cntN_gt (n := 6 * n) (by omega), lvlN_gt (n := 6 * n) (by omega), upN_six]
  omega
end Go.Proofs.YtejgopcicenbeaaGreat
