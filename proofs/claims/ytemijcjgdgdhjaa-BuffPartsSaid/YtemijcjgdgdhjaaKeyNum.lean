/- key.Value: a number's eight bytes. -/
import Derived.Test.YtemijcjgdgdhjaaPenNum
import Derived.Laws.BitsLemmas
namespace Go.Proofs.Ytemijcjgdgdhjaa.Old
open Go.RowKit

theorem holdsOut : Holds2 185 := ⟨by kernel_rfl, by decide⟩

theorem outBytes_some (B b : Nat) (l : List UInt8) (w : World) (h : BAt 185 B b (Lib.byteCells l) w) (h0 : l ≠ []) :
    Calls Try.prog 136 #[.pointer (some ⟨b, 0, none⟩)] w fun e w' => e = .returned (.string ⟨l.toArray⟩) ∧ Below B w w' := by
  have H := Lib.hid (bString_some B b l w h h0)
  clear h h0
  go_enter Try.func136, Try.ntmps136
  go_wp2_with fail
  refine H.out.mono ?_
  rintro e w' ⟨rfl, hb⟩
  go_wp2_with fail
  go_ret
  exact ⟨rfl, hb⟩

/-- A number's eight bytes, as a text. -/
def val8 (n : Nat) : Str := ⟨(be n 8).toArray⟩
theorem be_split (n : Nat) (h : n < 2 ^ 64) : be (n / 2 ^ 32) 4 ++ be (n % 2 ^ 32) 4 = be n 8 := by
  have e : ∀ i, i < 4 → UInt8.ofNat (n / 2 ^ 32 / 2 ^ (8 * i)) = UInt8.ofNat (n / 2 ^ (8 * (i + 4))) := by
    intro i hi
    rw [Nat.div_div_eq_div_mul, ← Nat.pow_add, show 32 + 8 * i = 8 * (i + 4) from by omega]
  have f : ∀ i, i < 4 → UInt8.ofNat (n % 2 ^ 32 / 2 ^ (8 * i)) = UInt8.ofNat (n / 2 ^ (8 * i)) := by
    intro i hi
    apply UInt8.toNat_inj.1
    simp only [UInt8.toNat_ofNat']
    match i, hi with
    | 0, _ => simp
    | 1, _ => simp; omega
    | 2, _ => simp; omega
    | 3, _ => simp; omega
  simp only [be, List.cons_append, List.nil_append, e 3 (by omega), e 2 (by omega), e 1 (by omega), e 0 (by omega), f 3 (by omega), f 2 (by omega), f 1 (by omega), f 0 (by omega)]
theorem wraps_u64 (n : Int) (h₀ : 0 ≤ n) (h₁ : n < 2 ^ 64) : IntKind.u64.wrap n = n := by
  show (if (IntKind.u64.signed && decide (n % 2 ^ 64 ≥ 2 ^ 63)) = true then n % 2 ^ 64 - 2 ^ 64 else n % 2 ^ 64) = n
  simp [IntKind.signed]; omega
theorem u64_low {x : Int} (h0 : 0 ≤ x) (h1 : x < 18446744073709551616) : bits .and .u64 x 4294967295 = x % 4294967296 := bits_mask .u64 64 (by decide) wraps_u64 32 (by decide) x h0 h1

set_option maxRecDepth 100000 in
set_option maxHeartbeats 1000000 in
theorem keyValue_calls (n : Nat) (w : World) (hn : n < 2 ^ 64) : Calls Try.prog 118 #[.int .u64 n] w (Gives (.string (val8 n)) w) := by
  have hn' : (n : Int) < 18446744073709551616 := by omega
  have hlo := u64_low (x := (n : Int)) (by omega) hn'
  have hwr : wrap64 ((n : Int) % 4294967296) = (n : Int) % 4294967296 := by unfold wrap64; omega
  have hz : ∀ z ∈ [(n : Int) / 4294967296, (n : Int) % 4294967296], Fits 4 z ∧ z ≤ 9223372036854775807 := by
    intro z hz
    simp at hz
    unfold Fits
    rcases hz with rfl | rfl <;> omega
  have hbe : bes 4 [(n : Int) / 4294967296, (n : Int) % 4294967296] = be n 8 := by
    rw [← be_split n hn]
    simp only [bes, List.flatMap_cons, List.flatMap_nil, List.append_nil]
    rw [show ((n : Int) / 4294967296).toNat = n / 2 ^ 32 from by omega, show ((n : Int) % 4294967296).toNat = n % 2 ^ 32 from by omega]
  have HN := Lib.hid hn
  have HLO := Lib.hid hlo
  have HWR := Lib.hid hwr
  have HZ := Lib.hid hz
  have HBE := Lib.hid hbe
  clear hn hlo hwr hz hbe
  go_enter Try.func118, Try.ntmps118
  go_wp2_with fail
  rw [HLO.out, HWR.out]
  refine (outNum_ok 4 185 holdsOut w.heap.size w.heap.size (some ⟨w.heap.size + 1, 0, none⟩) 2 2 [(n : Int) / 4294967296, (n : Int) % 4294967296] [] _ (by omega) ?c1 rfl (by omega) ?c2 ?c3 (by simp; omega) HZ.out (by simp)).mono ?_
  case c1 => exact BAt.fresh (blk_alloc (blk_self _ _))
  case c2 =>
    have := blk_self (w.alloc (.cells #[.pointer none, .slice none 0 0] 185)) (.cells #[.int .i64 ((n : Int) / 4294967296), .int .i64 ((n : Int) % 4294967296)] 3)
    simp only [World.size_alloc] at this
    intro i x hx
    refine ⟨w.heap.size + 1, 0, rfl, by simp, ?_⟩
    rw [blk_cell this]
    match i, hx with
    | 0, hx => simp at hx; simp [hx]
    | 1, hx => simp at hx; simp [hx]
  case c3 =>
    have := blk_self (w.alloc (.cells #[.pointer none, .slice none 0 0] 185)) (.cells #[.int .i64 ((n : Int) / 4294967296), .int .i64 ((n : Int) % 4294967296)] 3)
    simp only [World.size_alloc] at this
    intro a o ha _
    simp at ha
    obtain ⟨rfl, rfl⟩ := ha
    exact ⟨by omega, elem_of this (by decide), by simp⟩
  rintro e w1 ⟨rfl, hb1, hf1⟩
  rw [List.nil_append, HBE.out] at hb1
  have hB : Below w.heap.size w w1 := (((Below.refl _ w).alloc (Nat.le_refl _) _).alloc (by simp) _).trans (hf1.below (Nat.le_refl _) (Nat.le_refl _) (by simp; omega))
  have H1 := Lib.hid hb1
  clear hb1 hf1
  go_wp2_with fail
  refine (outBytes_some w.heap.size w.heap.size (be n 8) w1 H1.out (by simp [be])).mono ?_
  rintro e w2 ⟨rfl, hb2⟩
  have hB2 := hB.trans hb2
  clear hb2 hB
  go_wp2_with fail
  go_ret
  exact ⟨rfl, hB2⟩
end Go.Proofs.Ytemijcjgdgdhjaa.Old
