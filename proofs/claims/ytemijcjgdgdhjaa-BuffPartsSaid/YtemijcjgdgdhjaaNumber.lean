/- key.Number: the number of an eight-byte value. -/
import Derived.Test.YtemijcjgdgdhjaaPenIn
import Derived.Deep.RegionHeld3
namespace Go.Proofs.Ytemijcjgdgdhjaa.Old
open Go.RowKit

theorem fold_shift : ∀ (l : List UInt8) (a : Nat), l.foldl (fun a b => a * 256 + b.toNat) a = a * 256 ^ l.length + ofBe l
  | [], a => by simp [ofBe]
  | x :: l, a => by
    have h1 := fold_shift l (a * 256 + x.toNat)
    have h2 := fold_shift l (0 * 256 + x.toNat)
    simp only [List.foldl_cons, List.length_cons, ofBe] at *
    rw [h1, h2, Nat.add_mul, Nat.pow_succ, Nat.mul_assoc, Nat.mul_comm 256]
    simp only [Nat.zero_mul, Nat.zero_add]
    omega
theorem ofBe_append (a b : List UInt8) : ofBe (a ++ b) = ofBe a * 256 ^ b.length + ofBe b := by
  unfold ofBe; rw [List.foldl_append]; exact fold_shift b _
theorem num8_split (s : Str) (h : s.size = 8) : num8 s = ofBe (s.data.toList.take 4) * 4294967296 + ofBe (s.data.toList.drop 4) := by
  have hl : s.data.toList.length = 8 := by simpa using h
  conv => lhs; unfold num8; rw [← List.take_append_drop 4 s.data.toList]
  rw [ofBe_append, List.length_drop, hl]
theorem u64_or32 {x y : Int} (hx0 : 0 ≤ x) (hx : x % 4294967296 = 0) (hx1 : x < 18446744073709551616) (h0 : 0 ≤ y) (h1 : y < 4294967296) : bits .or .u64 x y = x + y :=
  bits_join .u64 64 (by decide) wraps_u64 32 x y hx0 hx hx1 h0 h1 (by omega)

theorem ret_pair {k : IntKind} {a b : Int} {v : Value} (h : a = b) : Ending.returned (.tuple #[.int k a, v]) = .returned (.tuple #[.int k b, v]) := by rw [h]
theorem keyNumber_no (s : Str) (w : World) (h : s.size ≠ 8) : Calls Try.prog 130 #[.string s] w (Tells (.tuple #[.int .u64 0, .bool false]) w) := by
  have t1 : ((s.size : Int) == 8) = false := beq_eq_false_iff_ne.2 (by omega)
  have t2 : ((s.size : Int) != 8) = true := by simp [bne, t1]
  clear h
  go_enter Try.func130, Try.ntmps130
  go_wp2
  go_ret2
  exact ⟨rfl, rfl⟩

set_option maxRecDepth 100000 in
set_option maxHeartbeats 400000 in
theorem keyNumber_yes (s : Str) (w : World) (h : s.size = 8) : Calls Try.prog 130 #[.string s] w (Gives (.tuple #[.int .u64 (num8 s), .bool true]) w) := by
  have t1 : ((s.size : Int) == 8) = true := beq_iff_eq.2 (by omega)
  have t2 : ((s.size : Int) != 8) = false := by simp [bne, t1]
  have g1 : (4 : Int) ≤ s.size := by omega
  have hn := num8_split s h
  have hh := ofBe_lt (s.data.toList.take 4)
  have hlo := ofBe_lt (s.data.toList.drop 4)
  have e1 : (s.data.toList.take 4).length = 4 := by simp; exact (by have : s.data.size = 8 := h; omega)
  have e2 : (s.data.toList.drop 4).length = 4 := by simp; exact (by have : s.data.size = 8 := h; omega)
  rw [e1] at hh
  rw [e2] at hlo
  have l1 : (s.data.toList.take 4).take 4 = s.data.toList.take 4 := by rw [List.take_take]; rfl
  have l2 : ((s.data.toList.drop 4).take (s.size - 4)).take 4 = s.data.toList.drop 4 := by
    rw [List.take_take, List.take_of_length_le (by rw [e2, h]; decide)]
  have L1 := Lib.hid l1
  have L2 := Lib.hid l2
  have HN := Lib.hid hn
  have HS := Lib.hid h
  clear l1 l2
  clear hn h e1 e2
  go_enter Try.func130, Try.ntmps130
  go_wp2_with fail
  go_region_held3 (fun _ => True) (trivial)
    ((first
      | (go_at_call 143; refine (inOf_calls _ _).mono ?_; rintro e w' ⟨rfl, rfl⟩)
      | (go_at_call 144; refine (inNum_ok _ (s.extract 0 4) 4 _ (by exact blk_self _ _) (Or.inr (Or.inr rfl)) (by simp; omega)).mono ?_; rintro e w1 ⟨rfl, h1, h2⟩)
      | (go_at_call 144; refine (inNum_ok _ (s.extract 4 s.size) 4 _ (by exact blk_self _ _) (Or.inr (Or.inr rfl)) (by have := HS.out; simp; omega)).mono ?_; rintro e w2 ⟨rfl, h3, h4⟩)))
  rw [L1.out, L2.out]
  have hB1 : Below w.heap.size w w1 := ((Below.refl _ w).alloc (Nat.le_refl _) _).drew.trans (h2.below (by simp) (Nat.le_refl _) (by simp))
  have hB2 : Below w.heap.size w w2 := (hB1.alloc hB1.size _).trans (h4.below (by have := hB1.size; simp; omega) hB1.size (by have := hB1.size; simp; omega))
  generalize ofBe (s.data.toList.take 4) = a at hh HN ⊢
  generalize ofBe (s.data.toList.drop 4) = b at hlo HN ⊢
  have hor := u64_or32 (x := (a : Int) * 4294967296) (y := b) (by omega) (by omega) (by omega) (by omega) (by omega)
  have HOR := Lib.hid hor
  have ha : (a : Int) < 4294967296 := by omega
  have hb : (b : Int) < 4294967296 := by omega
  clear hor h1 h2 h3 h4 hh hlo hB1
  go_wp2_with fail
  go_ret2
  exact ⟨ret_pair (by rw [HOR.out, HN.out]; simp), hB2⟩
end Go.Proofs.Ytemijcjgdgdhjaa.Old
