/- Contracts of pen.In: a text that is read. -/
import Derived.Test.YtemijcjgdgdhjaaKeyNum
import Derived.Lib.ConvBytes
namespace Go.Proofs.Ytemijcjgdgdhjaa.Old
open Go.RowKit

/-- The reader in block b. -/
def InAt (b : Nat) (s : Str) (bad : Bool) (w : World) : Prop := w.heap[b]? = some (.cells #[.string s, .bool bad] 211 (0, 0))
theorem InAt.lt {b : Nat} {s : Str} {bad : Bool} {w : World} (h : InAt b s bad w) : b < w.heap.size := blk_lt h

theorem inOf_calls (s : Str) (w : World) : Calls Try.prog 143 #[.string s] w fun e w' => e = .returned (.pointer (some ⟨w.heap.size, 0, none⟩)) ∧ w' = w.alloc (.cells #[.string s, .bool false] 211) := by
  go_enter Try.func143, Try.ntmps143
  go_wp2
  go_ret
  exact ⟨rfl, rfl⟩

theorem inFail_calls (b : Nat) (s : Str) (bad : Bool) (w : World) (h : InAt b s bad w) : Calls Try.prog 166 #[.pointer (some ⟨b, 0, none⟩)] w fun e w' => e = .returned (.tuple #[]) ∧ InAt b ⟨#[]⟩ true w' ∧ FrT 5 w.heap.size b w w' := by
  have h' : w.heap[b]? = some (.cells #[.string s, .bool bad] 211 (0, 0)) := h
  have c0 : w.cell? ⟨b, 0, none⟩ = some (.string s) := by rw [blk_cell h']; rfl
  have c1 : w.cell? ⟨b, 1, none⟩ = some (.bool bad) := by rw [blk_cell h']; rfl
  have f := blk_free h'
  have H := Lib.hid h'
  clear h h'
  go_enter Try.func166, Try.ntmps166
  go_wp2
  go_end0
  exact ⟨rfl, by unfold InAt; rw [blk_set (blk_set H.out)]; rfl, ((FrT.refl _ _ _ _).setCell _ _).setCell _ _⟩

/-- What Raw hands back and leaves. -/
def rawOk (s : Str) (bad : Bool) (n : Int) : Bool := !bad && decide (0 ≤ n ∧ n ≤ s.size)

set_option maxHeartbeats 1000000 in
theorem inRaw_bad (b : Nat) (s : Str) (bad : Bool) (n : Int) (w : World) (h : InAt b s bad w) (hr : rawOk s bad n = false) :
    Calls Try.prog 165 #[.pointer (some ⟨b, 0, none⟩), .int .i64 n] w fun e w' => e = .returned (.string ⟨#[]⟩) ∧ InAt b ⟨#[]⟩ true w' ∧ FrT 5 w.heap.size b w w' := by
  have h' : w.heap[b]? = some (.cells #[.string s, .bool bad] 211 (0, 0)) := h
  have c0 : w.cell? ⟨b, 0, none⟩ = some (.string s) := by rw [blk_cell h']; rfl
  have c1 : w.cell? ⟨b, 1, none⟩ = some (.bool bad) := by rw [blk_cell h']; rfl
  have H := Lib.hid h
  clear h h'
  cases bad with
  | true =>
    clear hr
    go_enter Try.func165, Try.ntmps165
    go_wp2_with fail
    refine (inFail_calls b s true w H.out).mono ?_
    rintro e w' ⟨rfl, h1, h2⟩
    go_wp2_with fail
    go_ret
    exact ⟨rfl, h1, h2⟩
  | false =>
    by_cases hn : n < 0
    · have t1 : decide (n < 0) = true := by simp; omega
      clear hr
      go_enter Try.func165, Try.ntmps165
      go_wp2_with fail
      refine (inFail_calls b s false w H.out).mono ?_
      rintro e w' ⟨rfl, h1, h2⟩
      go_wp2_with fail
      go_ret
      exact ⟨rfl, h1, h2⟩
    · have t1 : decide (n < 0) = false := by simp; omega
      have hgt : (s.size : Int) < n := by simp [rawOk] at hr; omega
      have t2 : decide ((s.size : Int) < n) = true := by simp; omega
      clear hr hn
      go_enter Try.func165, Try.ntmps165
      go_wp2_with fail
      refine (inFail_calls b s false w H.out).mono ?_
      rintro e w' ⟨rfl, h1, h2⟩
      go_wp2_with fail
      go_ret
      exact ⟨rfl, h1, h2⟩

set_option maxHeartbeats 1000000 in
theorem inRaw_ok (b : Nat) (s : Str) (n : Nat) (w : World) (h : InAt b s false w) (hr : n ≤ s.size) :
    Calls Try.prog 165 #[.pointer (some ⟨b, 0, none⟩), .int .i64 n] w fun e w' => e = .returned (.string (s.extract 0 n)) ∧ InAt b (s.extract n s.size) false w' ∧ FrT 5 w.heap.size b w w' := by
  have h' : w.heap[b]? = some (.cells #[.string s, .bool false] 211 (0, 0)) := h
  have c0 : w.cell? ⟨b, 0, none⟩ = some (.string s) := by rw [blk_cell h']; rfl
  have c1 : w.cell? ⟨b, 1, none⟩ = some (.bool false) := by rw [blk_cell h']; rfl
  have f := blk_free h'
  have t1 : decide ((n : Int) < 0) = false := by simp
  have t2 : decide (s.size < n) = false := by simp; omega
  have H := Lib.hid h'
  clear h h'
  go_enter Try.func165, Try.ntmps165
  go_wp2_with fail
  go_ret
  exact ⟨rfl, by unfold InAt; rw [blk_set H.out]; rfl, (FrT.refl _ _ _ _).setCell _ _⟩

/-- The number that bytes tell, the highest first. -/
def ofBe (l : List UInt8) : Nat := l.foldl (fun a b => a * 256 + b.toNat) 0
theorem ofBe_snoc (l : List UInt8) (x : UInt8) : ofBe (l ++ [x]) = ofBe l * 256 + x.toNat := by unfold ofBe; rw [List.foldl_append]; rfl
theorem fold_lt : ∀ (l : List UInt8) (a : Nat), l.foldl (fun a b => a * 256 + b.toNat) a < (a + 1) * 256 ^ l.length
  | [], a => by simp
  | x :: l, a => by
    have := fold_lt l (a * 256 + x.toNat)
    have hx := x.toNat_lt
    simp only [List.foldl_cons, List.length_cons, Nat.pow_succ]
    calc _ < (a * 256 + x.toNat + 1) * 256 ^ l.length := this
      _ ≤ ((a + 1) * 256) * 256 ^ l.length := Nat.mul_le_mul_right _ (by omega)
      _ = _ := by rw [Nat.mul_assoc, Nat.mul_comm 256]
theorem ofBe_lt (l : List UInt8) : ofBe l < 256 ^ l.length := by unfold ofBe; have := fold_lt l 0; simpa using this
theorem wraps_i64 (n : Int) (h₀ : 0 ≤ n) (h₁ : n < 2 ^ 63) : IntKind.i64.wrap n = n := by rw [IntKind.wrap_i64]; omega
theorem i64_or8 {x y : Int} (hx0 : 0 ≤ x) (hx : x % 256 = 0) (hx1 : x < 9223372036854775808) (h0 : 0 ≤ y) (h1 : y < 256) : bits .or .i64 x y = x + y :=
  bits_join .i64 63 (by decide) wraps_i64 8 x y hx0 hx hx1 h0 h1 (by omega)

set_option maxRecDepth 100000 in
set_option maxHeartbeats 1000000 in
theorem inNum_ok (b : Nat) (s : Str) (wd : Nat) (w : World) (h : InAt b s false w) (hw : wd = 1 ∨ wd = 2 ∨ wd = 4) (hr : wd ≤ s.size) :
    Calls Try.prog 144 #[.pointer (some ⟨b, 0, none⟩), .int .i64 wd] w fun e w' => e = .returned (.int .i64 (ofBe (s.data.toList.take wd))) ∧ InAt b (s.extract wd s.size) false w' ∧ FrT 5 w.heap.size b w w' := by
  have hiw : isWidth wd = true := by rcases hw with rfl | rfl | rfl <;> decide
  have hw4 : wd ≤ 4 := by omega
  have HIW := Lib.hid hiw
  have HH := Lib.hid h
  have HW := Lib.hid hw
  clear hiw h hw
  go_enter Try.func144, Try.ntmps144
  go_wp2_with fail
  refine (isWidth_calls _ _).mono ?_
  rintro e w' ⟨rfl, rfl⟩
  rw [HIW.out]
  go_wp2_with fail
  refine (inRaw_ok b s wd w HH.out hr).mono ?_
  rintro e w1 ⟨rfl, h1, h2⟩
  obtain ⟨t, ht⟩ : ∃ t : Str, s.extract 0 wd = t := ⟨_, rfl⟩
  have htl : t.data.toList = s.data.toList.take wd := by rw [← ht, ← ByteArray.toList_eq, Lib.extract_toList]; simp
  have hts : t.size = wd := by rw [← ht]; simp; omega
  rw [ht]
  have HTL := Lib.hid htl
  have HTS := Lib.hid hts
  have H1 := Lib.hid h1
  have hb1 := h1.lt
  clear ht htl h1 hts HH
  have hconv := Lib.run_convert_string_bytes (P := Try.prog) w1 9 181 5 t Try.underlying9 Try.underlying181 Try.underlying5
  have hnew := Lib.bytesWorld_at_new w1 5 t
  have hcell := fun j (hj : j < t.size) => Lib.bytesWorld_cell w1 5 t j hj
  have hold : InAt b (s.extract wd s.size) false (Lib.bytesWorld w1 5 t) := by
    unfold InAt
    rw [Lib.bytesWorld_at_old w1 5 t b hb1]
    exact H1.out
  have hfr : FrT 5 w.heap.size b w (Lib.bytesWorld w1 5 t) := h2.trans ⟨rfl, rfl, rfl, by rw [Lib.bytesWorld_size]; omega, fun k hk _ _ => Lib.bytesWorld_at_old w1 5 t k hk⟩
  have HC := Lib.hid hcell
  have HF := Lib.hid hfr
  have HO := Lib.hid hold
  clear hnew hcell hfr hold h2
  rw [HTS.out] at hconv
  go_wp2_with fail
  generalize Lib.bytesWorld w1 5 t = w2 at HC HF HO ⊢
  clear hconv
  generalize w1.heap.size = g at HC ⊢
  go_loop [5, 7, 16] (fun v _ i => ∃ k : Nat, k ≤ wd ∧ i = .int .i64 k ∧ v = .int .i64 (ofBe (t.data.toList.take k))) (fun _ _ i => wd - (intOf i).toNat)
  case atStart => exact ⟨0, by omega, rfl, rfl⟩
  case round =>
    obtain ⟨k, hk, rfl, rfl⟩ := hrel
    have hlt := ofBe_lt (t.data.toList.take k)
    have hlen : (t.data.toList.take k).length ≤ k := List.length_take_le _ _
    have hN : ofBe (t.data.toList.take k) < 256 ^ k := Nat.lt_of_lt_of_le hlt (Nat.pow_le_pow_right (by omega) hlen)
    generalize hv : ofBe (t.data.toList.take k) = v at hN ⊢
    have HV := Lib.hid hv
    clear hv hlt hlen
    by_cases hkw : k < wd
    · have hv3 : v < 16777216 := Nat.lt_of_lt_of_le hN (by
        have : k ≤ 3 := by omega
        calc 256 ^ k ≤ 256 ^ 3 := Nat.pow_le_pow_right (by omega) this
          _ = 16777216 := rfl)
      obtain ⟨c, hc⟩ : ∃ c : UInt8, t.data.toList[k]? = some c := ⟨t.data.toList[k]'(by have := HTS.out; simpa using (by omega : k < t.size)), List.getElem?_eq_getElem _⟩
      have c1 := HC.out k (by have := HTS.out; omega)
      rw [List.getD_eq_getElem?_getD, hc] at c1
      have hc256 : (c.toNat : Int) < 256 := by have := c.toNat_lt; omega
      have hs : ofBe (t.data.toList.take (k + 1)) = v * 256 + c.toNat := by
        rw [List.take_add_one, hc]; simp only [Option.toList_some]; rw [ofBe_snoc, HV.out]
      have hor := i64_or8 (x := (v : Int) * 256) (y := c.toNat) (by omega) (by omega) (by omega) (by omega) hc256
      have HS := Lib.hid hs
      have HOR := Lib.hid hor
      clear hs hor hc hN
      go_wp2_with fail
      go_round
      case rel => exact ⟨k + 1, by omega, by go_num, by rw [HOR.out, HS.out]; congr 1⟩
      case measure => simp [intOf]; omega
    · have hkw2 : k = wd := by omega
      have hv4 : v < 4294967296 := Nat.lt_of_lt_of_le hN (by
        calc 256 ^ k ≤ 256 ^ 4 := Nat.pow_le_pow_right (by omega) (by omega)
          _ = 4294967296 := rfl)
      have hfin : ofBe (s.data.toList.take wd) = v := by
        rw [← HTL.out, ← HV.out, List.take_of_length_le]
        have := HTS.out
        show t.data.toList.length ≤ k
        simp only [Array.length_toList]
        have : t.data.size = wd := this
        omega
      have HFIN := Lib.hid hfin
      have t1 : decide (k < wd) = false := by simp; omega
      have t2 : decide ((v : Int) < 0) = false := by simp
      clear hfin hkw2 hN
      go_wp2_with fail
      go_ret
      exact ⟨ret_int (by rw [HFIN.out]), HO.out, HF.out⟩

/-- The number of an eight-byte value. -/
def num8 (s : Str) : Nat := ofBe s.data.toList
end Go.Proofs.Ytemijcjgdgdhjaa.Old
