/- Nodes' bytes, plainly. -/
import Derived.Test.YticpnfgiidljlaaGreatLc
namespace Go.Proofs.YticpnfgiidljlaaGreat
open Go.RowKit
set_option linter.unusedSimpArgs false
/-- What is left of bytes that are read, and whether something was wrong. -/
abbrev RdS := List UInt8 × Bool
def rawL (n : Int) (st : RdS) : List UInt8 × RdS := if st.2 = false ∧ 0 ≤ n ∧ n ≤ st.1.length then (st.1.take n.toNat, (st.1.drop n.toNat, false)) else ([], ([], true))
def beN (l : List UInt8) : Nat := l.foldl (fun a b => a * 256 + b.toNat) 0
def numL (w : Nat) (st : RdS) : Nat × RdS := (beN (rawL w st).1, (rawL w st).2)
def textL (most : Nat) (st : RdS) : List UInt8 × RdS := rawL (if most < (numL 1 st).1 then -1 else (numL 1 st).1) (numL 1 st).2
/-- A number's bytes, of so many the highest first. -/
def numB (z : Nat) : Nat → List UInt8
  | 0 => []
  | w + 1 => UInt8.ofNat (z / 256 ^ w) :: numB z w
def textB (t : List UInt8) : List UInt8 := UInt8.ofNat t.length :: t
theorem raw_ok (t rest : List UInt8) : rawL t.length (t ++ rest, false) = (t, (rest, false)) := by
  unfold rawL
  rw [if_pos ⟨rfl, by omega, by simp; omega⟩]
  simp
theorem beN_one (b : UInt8) : beN [b] = b.toNat := by simp [beN]
theorem num1_ok (z : Nat) (hz : z < 256) (rest : List UInt8) : numL 1 (UInt8.ofNat z :: rest, false) = (z, (rest, false)) := by
  have := raw_ok [UInt8.ofNat z] rest
  unfold numL
  rw [show ((1 : Nat) : Int) = (([UInt8.ofNat z] : List UInt8).length : Int) from rfl, show UInt8.ofNat z :: rest = [UInt8.ofNat z] ++ rest from rfl, this, beN_one, UInt8.toNat_ofNat', Nat.mod_eq_of_lt (by simpa using hz)]
theorem num2_ok (z : Nat) (hz : z < 65536) (rest : List UInt8) : numL 2 (numB z 2 ++ rest, false) = (z, (rest, false)) := by
  have := raw_ok (numB z 2) rest
  unfold numL
  rw [show ((2 : Nat) : Int) = ((numB z 2).length : Int) from rfl, this]
  simp [numB, beN]
  omega
theorem text_ok (most : Nat) (t rest : List UInt8) (h : t.length ≤ most) (hm : most < 256) : textL most (textB t ++ rest, false) = (t, (rest, false)) := by
  unfold textL
  rw [show textB t ++ rest = UInt8.ofNat t.length :: (t ++ rest) from rfl, num1_ok _ (by omega)]
  dsimp only
  rw [if_neg (by omega), raw_ok]
/-- So many, one behind the other. -/
def rdN {α : Type} (r : RdS → α × RdS) : Nat → RdS → List α × RdS
  | 0, st => ([], st)
  | k + 1, st => ((rdN r k st).1 ++ [(r (rdN r k st).2).1], (r (rdN r k st).2).2)
theorem rdN_len {α : Type} (r : RdS → α × RdS) (st : RdS) : ∀ k, (rdN r k st).1.length = k
  | 0 => rfl
  | k + 1 => by rw [rdN, List.length_append, rdN_len r st k]; rfl
theorem rdN_ok {α : Type} {r : RdS → α × RdS} {enc : α → List UInt8} (l : List α) (h : ∀ x ∈ l, ∀ rest, r (enc x ++ rest, false) = (x, (rest, false))) (rest : List UInt8) : ∀ k, k ≤ l.length → rdN r k (l.flatMap enc ++ rest, false) = (l.take k, ((l.drop k).flatMap enc ++ rest, false))
  | 0, _ => by simp [rdN]
  | k + 1, hk => by
    have hk' : k < l.length := by omega
    rw [rdN, rdN_ok l h rest k (by omega)]
    dsimp only
    rw [List.drop_eq_getElem_cons hk', List.flatMap_cons, List.append_assoc, h _ (List.getElem_mem hk'), List.take_add_one, List.getElem?_eq_getElem hk']
    rfl
end Go.Proofs.YticpnfgiidljlaaGreat
namespace Go.Proofs.YticpnfgiidljlaaGreat
open Go.RowKit
set_option linter.unusedSimpArgs false
def strL (s : Str) : List UInt8 := s.data.toList
def ofL' (l : List UInt8) : Str := ⟨l.toArray⟩
@[simp] theorem ofL_strL (s : Str) : ofL' (strL s) = s := rfl
@[simp] theorem strL_ofL (l : List UInt8) : strL (ofL' l) = l := by simp [strL, ofL']
theorem strL_len (s : Str) : (strL s).length = s.size := by simp [strL]
def itemB (x : Item) : List UInt8 := textB (strL x.key) ++ textB (strL x.val)
def decItem (st : RdS) : Item × RdS := (⟨ofL' (textL 8 st).1, ofL' (textL 16 (textL 8 st).2).1⟩, (textL 16 (textL 8 st).2).2)
theorem item_ok {x : Item} (h1 : x.key.size ≤ 8) (h2 : x.val.size ≤ 16) (rest : List UInt8) : decItem (itemB x ++ rest, false) = (x, (rest, false)) := by
  unfold decItem itemB
  rw [List.append_assoc, text_ok 8 _ _ (by rw [strL_len]; exact h1) (by omega)]
  dsimp only
  rw [text_ok 16 _ _ (by rw [strL_len]; exact h2) (by omega)]
  rfl
/-- A leaf's bytes, an inner node's. -/
def leafB (l : List Item) : List UInt8 := 1 :: UInt8.ofNat l.length :: l.flatMap itemB
def msgB (m : Msg) : List UInt8 := UInt8.ofNat m.kind.toNat :: (textB (strL m.key) ++ textB (strL m.val))
def innerB (kids : List Int) (pivots : List Str) (msgs : List Msg) : List UInt8 := 2 :: UInt8.ofNat kids.length :: (kids.flatMap (fun k => numB k.toNat 2) ++ (pivots.flatMap (fun p => textB (strL p)) ++ UInt8.ofNat msgs.length :: msgs.flatMap msgB))
def decLeaf (st : RdS) : List Item × RdS := rdN decItem (numL 1 st).1 (numL 1 st).2
theorem leaf_ok {l : List Item} (hl : l.length < 256) (h : ∀ x ∈ l, x.key.size ≤ 8 ∧ x.val.size ≤ 16) (rest : List UInt8) : decLeaf (UInt8.ofNat l.length :: (l.flatMap itemB ++ rest), false) = (l, (rest, false)) := by
  unfold decLeaf
  rw [num1_ok _ hl]
  dsimp only
  rw [rdN_ok (enc := itemB) l (fun x hx rest => item_ok (h x hx).1 (h x hx).2 rest) rest l.length (Nat.le_refl _)]
  simp
def noMsg : Msg := ⟨0, ⟨#[]⟩, ⟨#[]⟩⟩
def rawMsg (st : RdS) : Msg × RdS := (⟨(numL 1 st).1, ofL' (textL 8 (numL 1 st).2).1, ofL' (textL 16 (textL 8 (numL 1 st).2).2).1⟩, (textL 16 (textL 8 (numL 1 st).2).2).2)
def decMsg (st : RdS) : Msg × RdS := if isMsg (rawMsg st).1 = true then rawMsg st else (noMsg, ([], true))
theorem isMsg_sm {m : Msg} (h : isMsg m = true) : m.key.size ≤ 8 ∧ m.val.size ≤ 16 ∧ 1 ≤ m.kind ∧ m.kind ≤ 3 := by
  unfold isMsg isKey at h
  simp only [Bool.and_eq_true, decide_eq_true_eq] at h
  omega
theorem msg_ok {m : Msg} (h : isMsg m = true) (rest : List UInt8) : decMsg (msgB m ++ rest, false) = (m, (rest, false)) := by
  obtain ⟨h1, h2, h3, h4⟩ := isMsg_sm h
  have hr : rawMsg (msgB m ++ rest, false) = (m, (rest, false)) := by
    unfold rawMsg msgB
    rw [List.cons_append, List.append_assoc, num1_ok _ (by omega)]
    dsimp only
    rw [text_ok 8 _ _ (by rw [strL_len]; exact h1) (by omega)]
    dsimp only
    rw [text_ok 16 _ _ (by rw [strL_len]; exact h2) (by omega)]
    simp only [ofL_strL]
    rw [show ((m.kind.toNat : Nat) : Int) = m.kind by omega]
  unfold decMsg
  rw [hr, if_pos h]
/-- What is read of an inner node, behind its kind. -/
def decInner (st : RdS) : (List Nat × List (List UInt8) × List Msg) × RdS :=
  let s0 := numL 1 st
  let s1 := rdN (numL 2) s0.1 s0.2
  let s2 := rdN (textL 8) (s0.1 - 1) s1.2
  let s3 := numL 1 s2.2
  let s4 := rdN decMsg s3.1 s3.2
  ((s1.1, s2.1, s4.1), s4.2)
theorem inner_ok {kids : List Nat} {pivots : List (List UInt8)} {msgs : List Msg} (hk : kids.length < 256) (hp : pivots.length = kids.length - 1) (hm : msgs.length < 256) (h1 : ∀ k ∈ kids, k < 65536) (h2 : ∀ p ∈ pivots, p.length ≤ 8) (h3 : ∀ m ∈ msgs, isMsg m = true) (rest : List UInt8) :
    decInner (UInt8.ofNat kids.length :: (kids.flatMap (fun k => numB k 2) ++ (pivots.flatMap textB ++ UInt8.ofNat msgs.length :: (msgs.flatMap msgB ++ rest))), false) = ((kids, pivots, msgs), (rest, false)) := by
  unfold decInner
  rw [num1_ok _ hk]
  dsimp only
  rw [rdN_ok (enc := fun k => numB k 2) kids (fun x hx rest => num2_ok x (h1 x hx) rest) _ kids.length (Nat.le_refl _)]
  simp only [List.take_length, List.drop_length, List.flatMap_nil, List.nil_append]
  rw [← hp, rdN_ok (enc := textB) pivots (fun x hx rest => text_ok 8 x rest (h2 x hx) (by omega)) _ pivots.length (Nat.le_refl _)]
  simp only [List.take_length, List.drop_length, List.flatMap_nil, List.nil_append]
  rw [num1_ok _ hm]
  dsimp only
  rw [rdN_ok (enc := msgB) msgs (fun x hx rest => msg_ok (h3 x hx) rest) _ msgs.length (Nat.le_refl _)]
  simp
end Go.Proofs.YticpnfgiidljlaaGreat
