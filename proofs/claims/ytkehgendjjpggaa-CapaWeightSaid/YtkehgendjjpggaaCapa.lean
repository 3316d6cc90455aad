/- The contracts of package capa and of what the statements of layer 20 call: a plan of 64 to 512 blocks, what a block is for, what a weight is, how many nodes. -/
import Derived.Test.YtkehgendjjpggaaProg
import Derived.WalkKit
import Derived.Below
import Derived.Outline
import Derived.Lib.Hide
import Derived.Test.YtkehgendjjpggaaReg
import Derived.WalkLawsBesides
namespace Go.Proofs.Ytkehgendjjpggaa
open Go.RowKit

theorem ret_int {k : IntKind} {a b : Int} (h : a = b) : Ending.returned (.int k a) = .returned (.int k b) := by rw [h]
/-- A plan's seven numbers, as equations and inequalities. -/
def PlanOk (n L F D H V C : Int) : Prop :=
  (8 ≤ L ∧ (L = 8 ∨ 8 * L ≤ n) ∧ n < 8 * L + 8) ∧ F = 2 + L ∧ D = n - F ∧ (2 * H ≤ D - 2 ∧ D - 2 < 2 * H + 2) ∧ (6 * V ≤ 5 * (H - 3) ∧ 5 * (H - 3) < 6 * V + 6) ∧ C = 215 * V - 1
def plan (n L F D H V C : Int) : Value := .agg #[.int .i64 n, .int .i64 L, .int .i64 F, .int .i64 D, .int .i64 H, .int .i64 V, .int .i64 C]
def cells7 (n L F D H V C : Int) : Array Value := #[.int .i64 n, .int .i64 L, .int .i64 F, .int .i64 D, .int .i64 H, .int .i64 V, .int .i64 C]

def OfGood (n : Int) (w : World) (e : Ending) (w' : World) : Prop :=
  ∃ L F D H V C : Int, PlanOk n L F D H V C ∧ e = .returned (.tuple #[.agg #[.int .i64 n, .int .i64 L, .int .i64 F, .int .i64 D, .int .i64 H, .int .i64 V, .int .i64 C], .int .i64 0]) ∧ Below w.heap.size w w'
def OfBad (w : World) (e : Ending) (w' : World) : Prop :=
  e = .returned (.tuple #[.agg #[.int .i64 0, .int .i64 0, .int .i64 0, .int .i64 0, .int .i64 0, .int .i64 0, .int .i64 0], .int .i64 1]) ∧ Below w.heap.size w w'

set_option maxRecDepth 100000 in
set_option maxHeartbeats 400000 in
theorem of_in (n : Int) (w : World) (h1 : 64 ≤ n) (h2 : n ≤ 512) : Calls Try.prog 9 #[.int .i64 n] w (OfGood n w) := by
  have t1 : decide (n < 64) = false := by simp; omega
  have t2 : decide (512 < n) = false := by simp; omega
  by_cases h8 : 8 < n / 8
  · go_enter Try.func9, Try.ntmps9
    go_wp2
    refine bodyPost_ret (v := .tuple #[.agg #[.int .i64 n, .int .i64 (n / 8), .int .i64 (2 + n / 8), .int .i64 (n - (2 + n / 8)), .int .i64 ((n - (2 + n / 8) - 2) / 2), .int .i64 (5 * ((n - (2 + n / 8) - 2) / 2 - 3) / 6), .int .i64 (215 * (5 * ((n - (2 + n / 8) - 2) / 2 - 3) / 6) - 1)], .int .i64 0]) (by simp [results, Try.results9, go_sem]) rfl ⟨_, _, _, _, _, _, ?_, rfl, ?_⟩
    · unfold PlanOk; omega
    · exact ((Below.refl _ _).alloc (Nat.le_refl _) _).alloc (by simp) _
  · go_enter Try.func9, Try.ntmps9
    go_wp2
    refine bodyPost_ret (v := .tuple #[.agg #[.int .i64 n, .int .i64 8, .int .i64 10, .int .i64 (n - 10), .int .i64 ((n - 10 - 2) / 2), .int .i64 (5 * ((n - 10 - 2) / 2 - 3) / 6), .int .i64 (215 * (5 * ((n - 10 - 2) / 2 - 3) / 6) - 1)], .int .i64 0]) (by simp [results, Try.results9, go_sem]) rfl ⟨_, _, _, _, _, _, ?_, rfl, ?_⟩
    · unfold PlanOk; omega
    · exact ((Below.refl _ _).alloc (Nat.le_refl _) _).alloc (by simp) _

set_option maxRecDepth 100000 in
set_option maxHeartbeats 400000 in
theorem of_out (n : Int) (w : World) (h : n < 64 ∨ 512 < n) : Calls Try.prog 9 #[.int .i64 n] w (OfBad w) := by
  by_cases h1 : n < 64
  · have t1 : decide (n < 64) = true := by simp; omega
    go_enter Try.func9, Try.ntmps9
    go_wp2
    exact bodyPost_ret (v := .tuple #[.agg #[.int .i64 0, .int .i64 0, .int .i64 0, .int .i64 0, .int .i64 0, .int .i64 0, .int .i64 0], .int .i64 1]) (by simp [results, Try.results9, go_sem]) rfl ⟨rfl, (Below.refl _ _).alloc (Nat.le_refl _) _⟩
  · have t1 : decide (n < 64) = false := by simp; omega
    have t2 : decide (512 < n) = true := by simp; omega
    go_enter Try.func9, Try.ntmps9
    go_wp2
    exact bodyPost_ret (v := .tuple #[.agg #[.int .i64 0, .int .i64 0, .int .i64 0, .int .i64 0, .int .i64 0, .int .i64 0, .int .i64 0], .int .i64 1]) (by simp [results, Try.results9, go_sem]) rfl ⟨rfl, (Below.refl _ _).alloc (Nat.le_refl _) _⟩

def kindOf (B F b : Int) : Int := if b < 0 then 0 else if B ≤ b then 0 else if b < 2 then 1 else if b < F then 2 else 3
def KindIs (B F b : Int) (w : World) (e : Ending) (w' : World) : Prop := e = .returned (.int .i64 (kindOf B F b)) ∧ Below w.heap.size w w'

set_option maxRecDepth 100000 in
set_option maxHeartbeats 800000 in
theorem kind_any (B L F D H V C b : Int) (w : World) :
    Calls Try.prog 10 #[.agg #[.int .i64 B, .int .i64 L, .int .i64 F, .int .i64 D, .int .i64 H, .int .i64 V, .int .i64 C], .int .i64 b] w (KindIs B F b w) := by
  by_cases h1 : b < 0
  · have t1 : decide (b < 0) = true := by simp; omega
    have hk : kindOf B F b = 0 := by unfold kindOf; rw [if_pos h1]
    have HK := Lib.hid hk
    clear hk
    go_enter Try.func10, Try.ntmps10
    go_wp2
    go_ret
    exact ⟨by rw [HK.out]; rfl, (Below.refl _ _).alloc (Nat.le_refl _) _⟩
  · have t1 : decide (b < 0) = false := by simp; omega
    by_cases h2 : B ≤ b
    · have t2 : decide (B ≤ b) = true := by simp; omega
      have hk : kindOf B F b = 0 := by unfold kindOf; rw [if_neg h1, if_pos h2]
      have HK := Lib.hid hk
      clear hk
      go_enter Try.func10, Try.ntmps10
      go_wp2
      go_ret
      exact ⟨by rw [HK.out]; rfl, (Below.refl _ _).alloc (Nat.le_refl _) _⟩
    · have t2 : decide (B ≤ b) = false := by simp; omega
      by_cases h3 : b < 2
      · have t3 : decide (b < 2) = true := by simp; omega
        have hk : kindOf B F b = 1 := by unfold kindOf; rw [if_neg h1, if_neg h2, if_pos h3]
        have HK := Lib.hid hk
        clear hk
        go_enter Try.func10, Try.ntmps10
        go_wp2
        go_ret
        exact ⟨by rw [HK.out]; rfl, (Below.refl _ _).alloc (Nat.le_refl _) _⟩
      · have t3 : decide (b < 2) = false := by simp; omega
        by_cases h4 : b < F
        · have t4 : decide (b < F) = true := by simp; omega
          have hk : kindOf B F b = 2 := by unfold kindOf; rw [if_neg h1, if_neg h2, if_neg h3, if_pos h4]
          have HK := Lib.hid hk
          clear hk
          go_enter Try.func10, Try.ntmps10
          go_wp2
          go_ret
          exact ⟨by rw [HK.out]; rfl, (Below.refl _ _).alloc (Nat.le_refl _) _⟩
        · have t4 : decide (b < F) = false := by simp; omega
          have hk : kindOf B F b = 3 := by unfold kindOf; rw [if_neg h1, if_neg h2, if_neg h3, if_neg h4]
          have HK := Lib.hid hk
          clear hk
          go_enter Try.func10, Try.ntmps10
          go_wp2
          go_ret
          exact ⟨by rw [HK.out]; rfl, (Below.refl _ _).alloc (Nat.le_refl _) _⟩

def BoolIs (b : Bool) (w : World) (e : Ending) (w' : World) : Prop := e = .returned (.bool b) ∧ Below w.heap.size w w'
def IntIs (n : Int) (w : World) (e : Ending) (w' : World) : Prop := e = .returned (.int .i64 n) ∧ Below w.heap.size w w'

def holdsB (C m : Int) : Bool := decide (0 ≤ m ∧ m ≤ C)
set_option maxRecDepth 100000 in
set_option maxHeartbeats 400000 in
theorem holds_any (B L F D H V C m : Int) (w : World) :
    Calls Try.prog 13 #[.agg #[.int .i64 B, .int .i64 L, .int .i64 F, .int .i64 D, .int .i64 H, .int .i64 V, .int .i64 C], .int .i64 m] w (BoolIs (holdsB C m) w) := by
  by_cases h1 : 0 ≤ m
  · have t1 : decide (0 ≤ m) = true := by simp; omega
    by_cases h2 : m ≤ C
    · have t2 : decide (m ≤ C) = true := by simp; omega
      have hk : holdsB C m = true := by unfold holdsB; simp; omega
      have HK := Lib.hid hk
      clear hk
      go_enter Try.func13, Try.ntmps13
      go_wp2
      go_ret
      exact ⟨by rw [HK.out]; rfl, (Below.refl _ _).alloc (Nat.le_refl _) _⟩
    · have t2 : decide (m ≤ C) = false := by simp; omega
      have hk : holdsB C m = false := by unfold holdsB; simp; omega
      have HK := Lib.hid hk
      clear hk
      go_enter Try.func13, Try.ntmps13
      go_wp2
      go_ret
      exact ⟨by rw [HK.out]; rfl, (Below.refl _ _).alloc (Nat.le_refl _) _⟩
  · have t1 : decide (0 ≤ m) = false := by simp; omega
    have hk : holdsB C m = false := by unfold holdsB; simp; omega
    have HK := Lib.hid hk
    clear hk
    go_enter Try.func13, Try.ntmps13
    go_wp2
    go_ret
    exact ⟨by rw [HK.out]; rfl, (Below.refl _ _).alloc (Nat.le_refl _) _⟩
end Go.Proofs.Ytkehgendjjpggaa
