/- Contracts: which messages can be, what they weigh. -/
import Derived.Test.YtemijcjgdgdhjaaKey
namespace Go.Proofs.Ytemijcjgdgdhjaa.Old
open Go.RowKit

theorem isMsg_put {k v : Str} : isMsg ⟨1, k, v⟩ = (isKey k && isVal v) := by simp [isMsg, isVal]
theorem isMsg_del {k v : Str} : isMsg ⟨2, k, v⟩ = (isKey k && decide (v.size = 0)) := by simp [isMsg]
theorem isMsg_add {k v : Str} : isMsg ⟨3, k, v⟩ = (isKey k && decide (v.size = 8)) := by simp [isMsg]
theorem isMsg_other {q : Int} {k v : Str} (h1 : q ≠ 1) (h2 : q ≠ 2) (h3 : q ≠ 3) : isMsg ⟨q, k, v⟩ = false := by simp [isMsg, h1, h2, h3]

theorem empty_is (v : Str) : v.toList.isEmpty = decide (v.size = 0) := by
  rw [ByteArray.toList_eq, Bool.eq_iff_iff]
  simp only [List.isEmpty_iff, decide_eq_true_eq, List.length_eq_zero_iff.symm]
  rfl

set_option maxHeartbeats 1600000 in
theorem msgIs_calls (q : Int) (k v : Str) (w : World) : Calls Try.prog 69 #[.agg #[.int .i64 q, .string k, .string v]] w (Gives (.bool (isMsg ⟨q, k, v⟩)) w) := by
  cases hk : isKey k with
  | false =>
    have hm : isMsg ⟨q, k, v⟩ = false := by simp [isMsg, hk]
    rw [hm]
    clear hm
    go_enter Try.func69, Try.ntmps69
    go_wp2_with ((with_reducible refine (keyIs_calls _ _).mono ?_); rintro e w' ⟨rfl, rfl⟩)
    go_ret
    exact ⟨rfl, ((Below.refl _ _).alloc (Nat.le_refl _) _)⟩
  | true =>
    by_cases h1 : q = 1
    · subst h1
      rw [isMsg_put, hk, Bool.true_and]
      go_enter Try.func69, Try.ntmps69
      go_wp2_with (first | ((with_reducible refine (keyIs_calls _ _).mono ?_); rintro e w' ⟨rfl, rfl⟩) | ((with_reducible refine (isVal_calls _ _).mono ?_); rintro e w' ⟨rfl, rfl⟩))
      go_ret
      exact ⟨rfl, ((Below.refl _ _).alloc (Nat.le_refl _) _)⟩
    have t1 : (q == 1) = false := beq_eq_false_iff_ne.2 h1
    by_cases h2 : q = 2
    · subst h2
      rw [isMsg_del, hk, Bool.true_and]
      have he := empty_is v
      have HE := Lib.hid he
      clear he h1 t1
      go_enter Try.func69, Try.ntmps69
      go_wp2_with (first | ((with_reducible refine (keyIs_calls _ _).mono ?_); rintro e w' ⟨rfl, rfl⟩))
      go_ret
      exact ⟨ret_bool HE.out, ((Below.refl _ _).alloc (Nat.le_refl _) _)⟩
    have t2 : (q == 2) = false := beq_eq_false_iff_ne.2 h2
    by_cases h3 : q = 3
    · subst h3
      rw [isMsg_add, hk, Bool.true_and]
      clear h1 h2 t1 t2
      go_enter Try.func69, Try.ntmps69
      go_wp2_with (first | ((with_reducible refine (keyIs_calls _ _).mono ?_); rintro e w' ⟨rfl, rfl⟩))
      go_ret
      exact ⟨ret_bool (by rw [Bool.eq_iff_iff]; simp; omega), ((Below.refl _ _).alloc (Nat.le_refl _) _)⟩
    have t3 : (q == 3) = false := beq_eq_false_iff_ne.2 h3
    rw [isMsg_other h1 h2 h3]
    clear h1 h2 h3
    go_enter Try.func69, Try.ntmps69
    go_wp2_with (first | ((with_reducible refine (keyIs_calls _ _).mono ?_); rintro e w' ⟨rfl, rfl⟩))
    go_ret
    exact ⟨rfl, ((Below.refl _ _).alloc (Nat.le_refl _) _)⟩

theorem isNot_calls (q : Int) (k v : Str) (w : World) : Calls Try.prog 100 #[.agg #[.int .i64 q, .string k, .string v]] w (Gives (.bool (!isMsg ⟨q, k, v⟩)) w) := by
  go_enter Try.func100, Try.ntmps100
  go_wp2_with fail
  refine (msgIs_calls _ _ _ _).mono ?_
  rintro e w1 ⟨rfl, hb⟩
  have hB : Below w.heap.size w w1 := ((Below.refl _ w).alloc (Nat.le_refl _) _).trans (hb.mono (by simp))
  clear hb
  go_wp2_with fail
  go_ret
  exact ⟨rfl, hB⟩

set_option maxHeartbeats 1600000 in
theorem rMsgIs_calls (q : Int) (k v : Str) (w : World) : Calls Try.prog 83 #[.agg #[.int .i64 q, .string k, .string v]] w (Gives (.bool (isMsg ⟨q, k, v⟩)) w) := by
  by_cases k1 : k.size = 0
  · have hk : isMsg ⟨q, k, v⟩ = false := by simp [isMsg, isKey]; omega
    have t1 : ((k.size : Int) == 0) = true := beq_iff_eq.2 (by omega)
    rw [hk]
    clear hk k1
    go_enter Try.func83, Try.ntmps83
    go_wp2
    go_ret
    exact ⟨rfl, ((Below.refl _ _).alloc (Nat.le_refl _) _)⟩
  have t1 : ((k.size : Int) == 0) = false := beq_eq_false_iff_ne.2 (by omega)
  by_cases k2 : 8 < k.size
  · have hk : isMsg ⟨q, k, v⟩ = false := by simp [isMsg, isKey]; omega
    have t2 : decide ((8 : Int) < k.size) = true := by simp; omega
    rw [hk]
    clear hk k1 k2
    go_enter Try.func83, Try.ntmps83
    go_wp2
    go_ret
    exact ⟨rfl, ((Below.refl _ _).alloc (Nat.le_refl _) _)⟩
  have t2 : decide ((8 : Int) < k.size) = false := by simp; omega
  have hk : isKey k = true := by unfold isKey; simp; omega
  clear k1 k2
  by_cases h1 : q = 1
  · subst h1
    rw [isMsg_put, hk, Bool.true_and]
    clear hk
    by_cases hv : v.size ≤ 16
    · have hv' : isVal v = true := by simp [isVal, hv]
      have t3 : decide ((v.size : Int) ≤ 16) = true := by simp; omega
      rw [hv']
      go_enter Try.func83, Try.ntmps83
      go_wp2
      go_ret
      exact ⟨rfl, ((Below.refl _ _).alloc (Nat.le_refl _) _)⟩
    · have hv' : isVal v = false := by simp [isVal]; omega
      have t3 : decide ((v.size : Int) ≤ 16) = false := by simp; omega
      rw [hv']
      go_enter Try.func83, Try.ntmps83
      go_wp2
      go_ret
      exact ⟨rfl, ((Below.refl _ _).alloc (Nat.le_refl _) _)⟩
  have u1 : (q == 1) = false := beq_eq_false_iff_ne.2 h1
  by_cases h2 : q = 2
  · subst h2
    rw [isMsg_del, hk, Bool.true_and]
    clear hk u1 h1
    by_cases hv : v.size = 0
    · have t3 : ((v.size : Int) == 0) = true := beq_iff_eq.2 (by omega)
      rw [decide_eq_true hv]
      clear hv
      go_enter Try.func83, Try.ntmps83
      go_wp2
      go_ret
      exact ⟨rfl, ((Below.refl _ _).alloc (Nat.le_refl _) _)⟩
    · have t3 : ((v.size : Int) == 0) = false := beq_eq_false_iff_ne.2 (by omega)
      rw [decide_eq_false hv]
      clear hv
      go_enter Try.func83, Try.ntmps83
      go_wp2
      go_ret
      exact ⟨rfl, ((Below.refl _ _).alloc (Nat.le_refl _) _)⟩
  have u2 : (q == 2) = false := beq_eq_false_iff_ne.2 h2
  by_cases h3 : q = 3
  · subst h3
    rw [isMsg_add, hk, Bool.true_and]
    clear hk u1 h1 u2 h2
    by_cases hv : v.size = 8
    · have t3 : ((v.size : Int) == 8) = true := beq_iff_eq.2 (by omega)
      rw [decide_eq_true hv]
      clear hv
      go_enter Try.func83, Try.ntmps83
      go_wp2
      go_ret
      exact ⟨rfl, ((Below.refl _ _).alloc (Nat.le_refl _) _)⟩
    · have t3 : ((v.size : Int) == 8) = false := beq_eq_false_iff_ne.2 (by omega)
      rw [decide_eq_false hv]
      clear hv
      go_enter Try.func83, Try.ntmps83
      go_wp2
      go_ret
      exact ⟨rfl, ((Below.refl _ _).alloc (Nat.le_refl _) _)⟩
  have u3 : (q == 3) = false := beq_eq_false_iff_ne.2 h3
  rw [isMsg_other h1 h2 h3]
  clear h1 h2 h3 hk
  go_enter Try.func83, Try.ntmps83
  go_wp2
  go_ret
  exact ⟨rfl, ((Below.refl _ _).alloc (Nat.le_refl _) _)⟩
end Go.Proofs.Ytemijcjgdgdhjaa.Old
