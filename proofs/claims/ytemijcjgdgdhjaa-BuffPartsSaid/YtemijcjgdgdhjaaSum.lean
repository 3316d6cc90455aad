/- msg.sum: a number's value, and so much more. -/
import Derived.Test.YtemijcjgdgdhjaaThen
import Derived.Test.YtemijcjgdgdhjaaNumber
namespace Go.Proofs.Ytemijcjgdgdhjaa.Old
open Go.RowKit

def sumS (a b : Str) : Str := if a.size = 8 ∧ b.size = 8 then val8 ((num8 a + num8 b) % 18446744073709551616) else a
theorem num8_lt {a : Str} (h : a.size = 8) : num8 a < 18446744073709551616 := by
  have := ofBe_lt a.data.toList
  have e : a.data.toList.length = 8 := by simpa using h
  rw [e] at this
  exact this
theorem u64_add (x y : Nat) : IntKind.u64.wrap ((x : Int) + (y : Int)) = (((x + y) % 18446744073709551616 : Nat) : Int) := by
  show (if (IntKind.u64.signed && decide (((x : Int) + y) % 2 ^ 64 ≥ 2 ^ 63)) = true then ((x : Int) + y) % 2 ^ 64 - 2 ^ 64 else ((x : Int) + y) % 2 ^ 64) = _
  simp [IntKind.signed]

set_option maxHeartbeats 1000000 in
theorem sum_first (a b : Str) (w : World) (h : ¬ (a.size = 8 ∧ b.size = 8)) : Calls Try.prog 101 #[.string a, .string b] w (Gives (.string a) w) := by
  by_cases ha : a.size = 8
  · have hb : b.size ≠ 8 := fun e => h ⟨ha, e⟩
    clear h
    go_enter Try.func101, Try.ntmps101
    go_wp2_with fail
    refine (keyNumber_yes a w ha).mono ?_
    rintro e w1 ⟨rfl, hb1⟩
    clear ha
    go_wp2_with fail
    refine (keyNumber_no b w1 hb).mono ?_
    rintro e w2 ⟨rfl, rfl⟩
    clear hb
    go_wp2_with fail
    go_ret
    exact ⟨rfl, hb1⟩
  · clear h
    by_cases hb : b.size = 8
    · go_enter Try.func101, Try.ntmps101
      go_wp2_with fail
      refine (keyNumber_no a w ha).mono ?_
      rintro e w1 ⟨rfl, rfl⟩
      clear ha
      go_wp2_with fail
      refine (keyNumber_yes b w hb).mono ?_
      rintro e w1 ⟨rfl, hb1⟩
      clear hb
      go_wp2_with fail
      go_ret
      exact ⟨rfl, hb1⟩
    · go_enter Try.func101, Try.ntmps101
      go_wp2_with fail
      refine (keyNumber_no a w ha).mono ?_
      rintro e w1 ⟨rfl, rfl⟩
      clear ha
      go_wp2_with fail
      refine (keyNumber_no b w hb).mono ?_
      rintro e w1 ⟨rfl, rfl⟩
      clear hb
      go_wp2_with fail
      go_ret
      exact ⟨rfl, Below.refl _ _⟩

set_option maxHeartbeats 1000000 in
theorem sum_both (a b : Str) (w : World) (ha : a.size = 8) (hb : b.size = 8) : Calls Try.prog 101 #[.string a, .string b] w (Gives (.string (val8 ((num8 a + num8 b) % 18446744073709551616))) w) := by
  have hw := u64_add (num8 a) (num8 b)
  have HW := Lib.hid hw
  have HA := Lib.hid ha
  have HB := Lib.hid hb
  clear ha hb hw
  go_enter Try.func101, Try.ntmps101
  go_wp2_with fail
  refine (keyNumber_yes a w HA.out).mono ?_
  rintro e w1 ⟨rfl, hb1⟩
  go_wp2_with fail
  refine (keyNumber_yes b w1 HB.out).mono ?_
  rintro e w2 ⟨rfl, hb2⟩
  have hB := hb1.trans (hb2.mono hb1.size)
  clear hb1 hb2
  go_wp2_with fail
  rw [HW.out]
  refine (keyValue_calls _ w2 (Nat.mod_lt _ (by decide))).mono ?_
  rintro e w3 ⟨rfl, hb3⟩
  have hB3 := hB.trans (hb3.mono hB.size)
  clear hb3 hB
  go_wp2_with fail
  go_ret
  exact ⟨rfl, hB3⟩

theorem sum_calls (a b : Str) (w : World) : Calls Try.prog 101 #[.string a, .string b] w (Gives (.string (sumS a b)) w) := by
  unfold sumS
  by_cases h : a.size = 8 ∧ b.size = 8
  · rw [if_pos h]; exact sum_both a b w h.1 h.2
  · rw [if_neg h]; exact sum_first a b w h
end Go.Proofs.Ytemijcjgdgdhjaa.Old
