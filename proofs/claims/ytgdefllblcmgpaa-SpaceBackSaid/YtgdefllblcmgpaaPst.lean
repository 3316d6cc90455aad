/- Bytes of bools, plainly. -/
import Derived.Test.YtgdefllblcmgpaaPsq
namespace Go.Proofs.Ytgdefllblcmgpaa
open Go.RowKit
def b8 (a b c d e f g h : Bool) : Nat := a.toNat * 128 + b.toNat * 64 + c.toNat * 32 + d.toNat * 16 + e.toNat * 8 + f.toNat * 4 + g.toNat * 2 + h.toNat
/-- The byte of eight bools, the first one highest. -/
def byteF (f : Nat → Bool) : Nat := b8 (f 0) (f 1) (f 2) (f 3) (f 4) (f 5) (f 6) (f 7)
theorem b8_lt : ∀ a b c d e f g h : Bool, b8 a b c d e f g h < 256 := by decide +kernel
theorem byteF_lt (f : Nat → Bool) : byteF f < 256 := b8_lt ..
theorem b8_bit : ∀ a b c d e f g h : Bool, b8 a b c d e f g h / 128 % 2 = a.toNat ∧ b8 a b c d e f g h / 64 % 2 = b.toNat ∧ b8 a b c d e f g h / 32 % 2 = c.toNat ∧ b8 a b c d e f g h / 16 % 2 = d.toNat ∧ b8 a b c d e f g h / 8 % 2 = e.toNat ∧ b8 a b c d e f g h / 4 % 2 = f.toNat ∧ b8 a b c d e f g h / 2 % 2 = g.toNat ∧ b8 a b c d e f g h % 2 = h.toNat := by decide +kernel
def bitN (n q : Nat) : Bool := decide (n / 2 ^ (7 - q) % 2 = 1)
theorem toNat_bit (b : Bool) : decide (b.toNat = 1) = b := by cases b <;> rfl
theorem byteF_bit (f : Nat → Bool) (q : Nat) (h : q < 8) : bitN (byteF f) q = f q := by
  obtain ⟨h0, h1, h2, h3, h4, h5, h6, h7⟩ := b8_bit (f 0) (f 1) (f 2) (f 3) (f 4) (f 5) (f 6) (f 7)
  unfold bitN byteF
  match q, h with
  | 0, _ => rw [show 2 ^ (7 - 0) = 128 from rfl, h0, toNat_bit]
  | 1, _ => rw [show 2 ^ (7 - 1) = 64 from rfl, h1, toNat_bit]
  | 2, _ => rw [show 2 ^ (7 - 2) = 32 from rfl, h2, toNat_bit]
  | 3, _ => rw [show 2 ^ (7 - 3) = 16 from rfl, h3, toNat_bit]
  | 4, _ => rw [show 2 ^ (7 - 4) = 8 from rfl, h4, toNat_bit]
  | 5, _ => rw [show 2 ^ (7 - 5) = 4 from rfl, h5, toNat_bit]
  | 6, _ => rw [show 2 ^ (7 - 6) = 2 from rfl, h6, toNat_bit]
  | 7, _ => rw [show 2 ^ (7 - 7) = 1 from rfl, Nat.div_one, h7, toNat_bit]
theorem byte_back : ∀ n : Fin 256, byteF (bitN n.1) = n.1 := by decide +kernel
theorem byteF_back (n : Nat) (h : n < 256) : byteF (bitN n) = n := byte_back ⟨n, h⟩
def setF (f : Nat → Bool) (q k : Nat) : Bool := f k || decide (k = q)
theorem byte_or : ∀ n : Fin 256, ∀ q : Fin 8, n.1 ||| 2 ^ (7 - q.1) = byteF (setF (bitN n.1) q.1) := by decide +kernel
theorem byteF_congr {f g : Nat → Bool} (h : ∀ q, q < 8 → f q = g q) : byteF f = byteF g := by
  unfold byteF
  rw [h 0 (by omega), h 1 (by omega), h 2 (by omega), h 3 (by omega), h 4 (by omega), h 5 (by omega), h 6 (by omega), h 7 (by omega)]
theorem byteF_or (f : Nat → Bool) (q : Nat) (h : q < 8) : byteF f ||| 2 ^ (7 - q) = byteF (setF f q) := by
  rw [byte_or ⟨byteF f, byteF_lt f⟩ ⟨q, h⟩]
  refine byteF_congr fun k hk => ?_
  show (bitN (byteF f) k || _) = _
  rw [byteF_bit f k hk]
  rfl
/-- m bytes of bools. -/
def textF (f : Nat → Bool) (m : Nat) : List UInt8 := (List.range m).map fun j => UInt8.ofNat (byteF fun q => f (8 * j + q))
theorem textF_length (f : Nat → Bool) (m : Nat) : (textF f m).length = m := by simp [textF]
theorem textF_get (f : Nat → Bool) (m j : Nat) (h : j < m) : (textF f m)[j]? = some (UInt8.ofNat (byteF fun q => f (8 * j + q))) := by
  unfold textF
  rw [List.getElem?_map, List.getElem?_range h]
  rfl
theorem textF_set (f : Nat → Bool) (m i : Nat) : (textF f m).set (i / 8) (UInt8.ofNat (byteF (setF (fun q => f (8 * (i / 8) + q)) (i % 8)))) = textF (setF f i) m := by
  apply List.ext_getElem?
  intro j
  rcases Nat.lt_or_ge j m with h | h
  · rw [textF_get _ _ _ h]
    by_cases e : i / 8 = j
    · subst e
      rw [List.getElem?_set_self (by rw [textF_length]; exact h)]
      congr 2
      refine byteF_congr fun q hq => ?_
      show (_ || decide (q = i % 8)) = (_ || decide (8 * (i / 8) + q = i))
      congr 1
      have := Nat.div_add_mod i 8
      rw [Bool.eq_iff_iff, decide_eq_true_eq, decide_eq_true_eq]
      omega
    · rw [List.getElem?_set_ne e, textF_get _ _ _ h]
      congr 2
      refine byteF_congr fun q hq => ?_
      show _ = (_ || decide (8 * j + q = i))
      have := Nat.div_add_mod i 8
      have hne : ¬ 8 * j + q = i := by omega
      rw [decide_eq_false hne, Bool.or_false]
  · rw [List.getElem?_eq_none (by rw [List.length_set, textF_length]; exact h), List.getElem?_eq_none (by rw [textF_length]; exact h)]
theorem textF_congr {f g : Nat → Bool} {m : Nat} (h : ∀ i, i < 8 * m → f i = g i) : textF f m = textF g m := by
  unfold textF
  refine List.map_congr_left fun j hj => ?_
  have hj := List.mem_range.1 hj
  rw [byteF_congr fun q hq => h (8 * j + q) (by omega)]
/-- The bools of bytes. -/
def bitsF (t : List UInt8) (i : Nat) : Bool := match t[i / 8]? with
  | some b => bitN b.toNat (i % 8)
  | none => false
theorem text_bits (t : List UInt8) : textF (bitsF t) t.length = t := by
  apply List.ext_getElem?
  intro j
  rcases Nat.lt_or_ge j t.length with h | h
  · rw [textF_get _ _ _ h, List.getElem?_eq_getElem h]
    congr 1
    have e : (byteF fun q => bitsF t (8 * j + q)) = byteF (bitN t[j].toNat) := byteF_congr fun q hq => by
      unfold bitsF
      rw [show (8 * j + q) / 8 = j by omega, show (8 * j + q) % 8 = q by omega, List.getElem?_eq_getElem h]
    rw [e, byteF_back _ (UInt8.toNat_lt t[j])]
    exact UInt8.ofNat_toNat
  · rw [List.getElem?_eq_none (by rw [textF_length]; exact h), List.getElem?_eq_none h]
end Go.Proofs.Ytgdefllblcmgpaa
