/- Contracts: strings compared, keys, values, messages. -/
import Derived.Test.YtemijcjgdgdhjaaProg
import Derived.Test.YtemijcjgdgdhjaaPlain
import Derived.WalkLawsBesides
import Derived.Outline
namespace Go.Proofs.Ytemijcjgdgdhjaa.Old
open Go.RowKit

theorem nan_calls (s : Str) (w : World) : Calls Try.prog 140 #[.string s] w (Tells (.bool false) w) := by
  go_enter Try.func140, Try.ntmps140
  go_wp2
  go_ret
  exact ⟨rfl, rfl⟩

set_option maxHeartbeats 400000 in
theorem cmp_calls (a b : Str) (w : World) : Calls Try.prog 125 #[.string a, .string b] w (Tells (.int .i64 (scmp a b)) w) := by
  have hl := less_is a b
  have he := beq_is a b
  cases h : slt a b with
  | true =>
    have hs := scmp_lt h
    have hne : decide (a = b) = false := by simp; exact slt_ne h
    rw [h] at hl
    rw [hne] at he
    have HS := Lib.hid hs
    clear hs h hne
    go_enter Try.func125, Try.ntmps125
    go_wp2_with ((with_reducible refine (nan_calls _ _).mono ?_); rintro e w' ⟨rfl, rfl⟩)
    go_ret
    exact ⟨ret_int HS.out.symm, rfl⟩
  | false =>
    rw [h] at hl
    cases h' : slt b a with
    | true =>
      have hs := scmp_gt h'
      have hne : decide (a = b) = false := by simp; exact fun e => slt_ne h' e.symm
      rw [hne] at he
      have HS := Lib.hid hs
      clear hs h h' hne
      go_enter Try.func125, Try.ntmps125
      go_wp2_with ((with_reducible refine (nan_calls _ _).mono ?_); rintro e w' ⟨rfl, rfl⟩)
      go_ret
      exact ⟨ret_int HS.out.symm, rfl⟩
    | false =>
      obtain rfl := slt_tri h h'
      have hs := scmp_eq a
      have HS := Lib.hid hs
      clear hs h h' he
      go_enter Try.func125, Try.ntmps125
      go_wp2_with ((with_reducible refine (nan_calls _ _).mono ?_); rintro e w' ⟨rfl, rfl⟩)
      go_ret
      exact ⟨ret_int HS.out.symm, rfl⟩

theorem keyCmp_calls (a b c d : Str) (w : World) : Calls Try.prog 94 #[.agg #[.string a, .string b], .agg #[.string c, .string d]] w (Gives (.int .i64 (scmp a c)) w) := by
  go_enter Try.func94, Try.ntmps94
  go_wp2_with ((with_reducible refine (cmp_calls _ _ _).mono ?_); rintro e w' ⟨rfl, rfl⟩)
  go_ret
  exact ⟨rfl, ((Below.refl _ _).alloc (Nat.le_refl _) _).alloc (by simp) _⟩

theorem keyIs_calls (k : Str) (w : World) : Calls Try.prog 28 #[.string k] w (Tells (.bool (isKey k)) w) := by
  by_cases h1 : 1 ≤ k.size
  · by_cases h2 : k.size ≤ 8
    · have hk : isKey k = true := by unfold isKey; simp; omega
      have t1 : decide ((1 : Int) ≤ k.size) = true := by simp; omega
      have t2 : decide ((k.size : Int) ≤ 8) = true := by simp; omega
      have HK := Lib.hid hk
      clear hk
      go_enter Try.func28, Try.ntmps28
      go_wp2
      go_ret
      exact ⟨ret_bool HK.out.symm, rfl⟩
    · have hk : isKey k = false := by unfold isKey; simp; omega
      have t1 : decide ((1 : Int) ≤ k.size) = true := by simp; omega
      have t2 : decide ((k.size : Int) ≤ 8) = false := by simp; omega
      have HK := Lib.hid hk
      clear hk
      go_enter Try.func28, Try.ntmps28
      go_wp2
      go_ret
      exact ⟨ret_bool HK.out.symm, rfl⟩
  · have hk : isKey k = false := by unfold isKey; simp; omega
    have t1 : decide ((1 : Int) ≤ k.size) = false := by simp; omega
    have HK := Lib.hid hk
    clear hk
    go_enter Try.func28, Try.ntmps28
    go_wp2
    go_ret
    exact ⟨ret_bool HK.out.symm, rfl⟩

theorem isVal_calls (v : Str) (w : World) : Calls Try.prog 111 #[.string v] w (Tells (.bool (isVal v)) w) := by
  by_cases h2 : v.size ≤ 16
  · have hk : isVal v = true := by unfold isVal; simp; omega
    have t2 : decide ((v.size : Int) ≤ 16) = true := by simp; omega
    have HK := Lib.hid hk
    clear hk
    go_enter Try.func111, Try.ntmps111
    go_wp2
    go_ret
    exact ⟨ret_bool HK.out.symm, rfl⟩
  · have hk : isVal v = false := by unfold isVal; simp; omega
    have t2 : decide ((v.size : Int) ≤ 16) = false := by simp; omega
    have HK := Lib.hid hk
    clear hk
    go_enter Try.func111, Try.ntmps111
    go_wp2
    go_ret
    exact ⟨ret_bool HK.out.symm, rfl⟩
end Go.Proofs.Ytemijcjgdgdhjaa.Old
