/- Nodes' bytes, plainly. -/
import Derived.Test.YticpnfgiidljlaaGreatLc
namespace Go.Proofs.YticpnfgiidljlaaGreat
open Go.RowKit
set_option linter.unusedSimpArgs false
/-- What is left of bytes that are read, and whether something was wrong. -/
abbrev RdS := List UInt8 × Bool
def rawL (n : Int) (st : RdS) : List UInt8 × RdS := if st.2 = false ∧ 0 ≤ n ∧ n ≤ st.1.length then (st.1.take n.toNat, (st.1.drop n.toNat, false)) else ([], ([], true))
def beN (l : List UInt8) : Nat := l.foldl (fun a b => a * 256 + b.toNat) 0
def numL (w : Nat) (st : RdS) : Nat × RdS := (beN (rawL w st).1, (rawL w st).2)
def textL (most : Nat) (st : RdS) : List UInt8 × RdS := rawL (if most < (numL 1 st).1 then -1 else (numL 1 st).1) (numL 1 st).2
/-- A number's bytes, of so many the highest first. -/
def numB (z : Nat) : Nat → List UInt8
  | 0 => []
  | w + 1 => UInt8.ofNat (z / 256 ^ w) :: numB z w
def textB (t : List UInt8) : List UInt8 := UInt8.ofNat t.length :: t
theorem raw_ok (t rest : List UInt8) : rawL t.length (t ++ rest, false) = (t, (rest, false)) := by
  unfold rawL
  rw [if_pos ⟨rfl, by omega, by simp; omega⟩]
  simp
theorem raw_back {n : Int} {st : RdS} {t r : List UInt8} (h : rawL n st = (t, (r, false))) : st.2 = false ∧ st.1 = t ++ r ∧ n = t.length := by
  unfold rawL at h
  split at h
  · rename_i hc
    obtain ⟨rfl, rfl, _⟩ : st.1.take n.toNat = t ∧ st.1.drop n.toNat = r ∧ True := by
      simp only [Prod.mk.injEq] at h
      exact ⟨h.1, h.2.1, trivial⟩
    refine ⟨hc.1, (List.take_append_drop _ _).symm, ?_⟩
    rw [List.length_take]
    omega
  · simp at h
theorem raw_bad {n : Int} {st : RdS} (h : st.2 = true) : rawL n st = ([], ([], true)) := by
  unfold rawL
  rw [if_neg fun q => by rw [h] at q; simp at q]
theorem beN_one (b : UInt8) : beN [b] = b.toNat := by simp [beN]
theorem num1_ok (z : Nat) (hz : z < 256) (rest : List UInt8) : numL 1 (UInt8.ofNat z :: rest, false) = (z, (rest, false)) := by
  have := raw_ok [UInt8.ofNat z] rest
  unfold numL
  rw [show ((1 : Nat) : Int) = (([UInt8.ofNat z] : List UInt8).length : Int) from rfl, show UInt8.ofNat z :: rest = [UInt8.ofNat z] ++ rest from rfl, this, beN_one, UInt8.toNat_ofNat', Nat.mod_eq_of_lt (by simpa using hz)]
theorem num1_back {st : RdS} {z : Nat} {r : List UInt8} (h : numL 1 st = (z, (r, false))) : st.2 = false ∧ st.1 = UInt8.ofNat z :: r ∧ z < 256 := by
  unfold numL at h
  simp only [Prod.mk.injEq] at h
  obtain ⟨h1, h2⟩ := h
  obtain ⟨q1, q2, q3⟩ := raw_back (n := ((1 : Nat) : Int)) (t := (rawL ((1 : Nat) : Int) st).1) (r := r) (st := st) (by rw [← h2])
  match ht : (rawL ((1 : Nat) : Int) st).1, q3 with
  | [b], _ =>
    rw [ht] at h1 q2
    rw [beN_one] at h1
    refine ⟨q1, ?_, by have := UInt8.toNat_lt b; omega⟩
    rw [q2, ← h1, UInt8.ofNat_toNat]
    rfl
theorem num2_ok (z : Nat) (hz : z < 65536) (rest : List UInt8) : numL 2 (numB z 2 ++ rest, false) = (z, (rest, false)) := by
  have := raw_ok (numB z 2) rest
  unfold numL
  rw [show ((2 : Nat) : Int) = ((numB z 2).length : Int) from rfl, this]
  simp [numB, beN]
  omega
theorem num2_back {st : RdS} {z : Nat} {r : List UInt8} (h : numL 2 st = (z, (r, false))) : st.2 = false ∧ st.1 = numB z 2 ++ r ∧ z < 65536 := by
  unfold numL at h
  simp only [Prod.mk.injEq] at h
  obtain ⟨h1, h2⟩ := h
  obtain ⟨q1, q2, q3⟩ := raw_back (n := ((2 : Nat) : Int)) (t := (rawL ((2 : Nat) : Int) st).1) (r := r) (st := st) (by rw [← h2])
  match ht : (rawL ((2 : Nat) : Int) st).1, q3 with
  | [a, b], _ =>
    rw [ht] at h1 q2
    have ha := UInt8.toNat_lt a
    have hb := UInt8.toNat_lt b
    have hz : z = a.toNat * 256 + b.toNat := by rw [← h1]; simp [beN]
    refine ⟨q1, ?_, by omega⟩
    rw [q2]
    congr 1
    simp only [numB, Nat.pow_one, Nat.pow_zero, Nat.div_one]
    congr 1
    · rw [hz, show (a.toNat * 256 + b.toNat) / 256 = a.toNat by omega, UInt8.ofNat_toNat]
    · congr 1
      apply UInt8.toNat_inj.1
      rw [UInt8.toNat_ofNat', hz]
      simp
theorem text_ok (most : Nat) (t rest : List UInt8) (h : t.length ≤ most) (hm : most < 256) : textL most (textB t ++ rest, false) = (t, (rest, false)) := by
  unfold textL
  rw [show textB t ++ rest = UInt8.ofNat t.length :: (t ++ rest) from rfl, num1_ok _ (by omega)]
  dsimp only
  rw [if_neg (by omega), raw_ok]
theorem text_back {most : Nat} {st : RdS} {t r : List UInt8} (h : textL most st = (t, (r, false))) : st.2 = false ∧ st.1 = textB t ++ r ∧ t.length ≤ most := by
  unfold textL at h
  obtain ⟨q1, q2, q3⟩ := raw_back h
  split at q3
  · omega
  · rename_i hn
    obtain ⟨k1, k2, k3⟩ := num1_back (st := st) (z := (numL 1 st).1) (r := (numL 1 st).2.1) (by rw [← q1])
    refine ⟨k1, ?_, by omega⟩
    rw [k2, q2, show (numL 1 st).1 = t.length by omega]
    rfl
theorem text_bad {most : Nat} {st : RdS} (h : st.2 = true) : textL most st = ([], ([], true)) := by
  unfold textL
  have : (numL 1 st).2 = ([], true) := by unfold numL; rw [raw_bad h]
  exact raw_bad (by rw [this])
theorem num_bad {w : Nat} {st : RdS} (h : st.2 = true) : numL w st = (0, ([], true)) := by
  unfold numL
  rw [raw_bad h]
  rfl
/-- So many, one behind the other. -/
def rdN {α : Type} (r : RdS → α × RdS) : Nat → RdS → List α × RdS
  | 0, st => ([], st)
  | k + 1, st => ((rdN r k st).1 ++ [(r (rdN r k st).2).1], (r (rdN r k st).2).2)
theorem rdN_len {α : Type} (r : RdS → α × RdS) (st : RdS) : ∀ k, (rdN r k st).1.length = k
  | 0 => rfl
  | k + 1 => by rw [rdN, List.length_append, rdN_len r st k]; rfl
theorem rdN_ok {α : Type} {r : RdS → α × RdS} {enc : α → List UInt8} (l : List α) (h : ∀ x ∈ l, ∀ rest, r (enc x ++ rest, false) = (x, (rest, false))) (rest : List UInt8) : ∀ k, k ≤ l.length → rdN r k (l.flatMap enc ++ rest, false) = (l.take k, ((l.drop k).flatMap enc ++ rest, false))
  | 0, _ => by simp [rdN]
  | k + 1, hk => by
    have hk' : k < l.length := by omega
    rw [rdN, rdN_ok l h rest k (by omega)]
    dsimp only
    rw [List.drop_eq_getElem_cons hk', List.flatMap_cons, List.append_assoc, h _ (List.getElem_mem hk'), List.take_add_one, List.getElem?_eq_getElem hk']
    rfl
theorem rdN_back {α : Type} {r : RdS → α × RdS} {enc : α → List UInt8} {P : α → Prop} (h : ∀ st x rest, r st = (x, (rest, false)) → st.2 = false ∧ st.1 = enc x ++ rest ∧ P x) (st : RdS) : ∀ k, (rdN r k st).2.2 = false → st.2 = false ∧ st.1 = (rdN r k st).1.flatMap enc ++ (rdN r k st).2.1 ∧ ∀ x ∈ (rdN r k st).1, P x
  | 0, hb => ⟨hb, by simp [rdN], fun x hx => by simp [rdN] at hx⟩
  | k + 1, hb => by
    rw [rdN] at hb ⊢
    dsimp only at hb ⊢
    obtain ⟨q1, q2, q3⟩ := h (rdN r k st).2 (r (rdN r k st).2).1 (r (rdN r k st).2).2.1 (by rw [← hb])
    obtain ⟨k1, k2, k3⟩ := rdN_back h st k q1
    refine ⟨k1, ?_, fun x hx => ?_⟩
    · rw [List.flatMap_append, List.append_assoc]
      rw [q2] at k2
      rw [k2]
      simp
    · rcases List.mem_append.1 hx with q | q
      · exact k3 x q
      · rw [List.mem_singleton.1 q]; exact q3
theorem rdN_bad {α : Type} {r : RdS → α × RdS} (h : ∀ st, st.2 = true → (r st).2.2 = true) {st : RdS} (hs : st.2 = true) : ∀ k, (rdN r k st).2.2 = true
  | 0 => hs
  | k + 1 => by rw [rdN]; exact h _ (rdN_bad h hs k)
end Go.Proofs.YticpnfgiidljlaaGreat
namespace Go.Proofs.YticpnfgiidljlaaGreat
open Go.RowKit
set_option linter.unusedSimpArgs false
def strL (s : Str) : List UInt8 := s.data.toList
def ofL' (l : List UInt8) : Str := ⟨l.toArray⟩
@[simp] theorem ofL_strL (s : Str) : ofL' (strL s) = s := rfl
@[simp] theorem strL_ofL (l : List UInt8) : strL (ofL' l) = l := by simp [strL, ofL']
theorem strL_len (s : Str) : (strL s).length = s.size := by simp [strL]
def itemB (x : Item) : List UInt8 := textB (strL x.key) ++ textB (strL x.val)
def decItem (st : RdS) : Item × RdS := (⟨ofL' (textL 8 st).1, ofL' (textL 16 (textL 8 st).2).1⟩, (textL 16 (textL 8 st).2).2)
theorem item_ok {x : Item} (h1 : x.key.size ≤ 8) (h2 : x.val.size ≤ 16) (rest : List UInt8) : decItem (itemB x ++ rest, false) = (x, (rest, false)) := by
  unfold decItem itemB
  rw [List.append_assoc, text_ok 8 _ _ (by rw [strL_len]; exact h1) (by omega)]
  dsimp only
  rw [text_ok 16 _ _ (by rw [strL_len]; exact h2) (by omega)]
  rfl
theorem item_back {st : RdS} {x : Item} {rest : List UInt8} (h : decItem st = (x, (rest, false))) : st.2 = false ∧ st.1 = itemB x ++ rest ∧ x.key.size ≤ 8 ∧ x.val.size ≤ 16 := by
  unfold decItem at h
  simp only [Prod.mk.injEq] at h
  obtain ⟨rfl, h2⟩ := h
  obtain ⟨q1, q2, q3⟩ := text_back (most := 16) (st := (textL 8 st).2) (t := (textL 16 (textL 8 st).2).1) (r := rest) (by rw [← h2])
  obtain ⟨k1, k2, k3⟩ := text_back (most := 8) (st := st) (t := (textL 8 st).1) (r := (textL 8 st).2.1) (by rw [← q1])
  refine ⟨k1, ?_, ?_, ?_⟩
  · unfold itemB
    simp only [strL_ofL]
    rw [k2, q2, List.append_assoc]
  · rw [← strL_len, strL_ofL]; exact k3
  · rw [← strL_len, strL_ofL]; exact q3
/-- A leaf's bytes, an inner node's. -/
def leafB (l : List Item) : List UInt8 := 1 :: UInt8.ofNat l.length :: l.flatMap itemB
def msgB (m : Msg) : List UInt8 := UInt8.ofNat m.kind.toNat :: (textB (strL m.key) ++ textB (strL m.val))
def innerB (kids : List Int) (pivots : List Str) (msgs : List Msg) : List UInt8 := 2 :: UInt8.ofNat kids.length :: (kids.flatMap (fun k => numB k.toNat 2) ++ (pivots.flatMap (fun p => textB (strL p)) ++ UInt8.ofNat msgs.length :: msgs.flatMap msgB))
def decLeaf (st : RdS) : List Item × RdS := rdN decItem (numL 1 st).1 (numL 1 st).2
theorem leaf_ok {l : List Item} (hl : l.length < 256) (h : ∀ x ∈ l, x.key.size ≤ 8 ∧ x.val.size ≤ 16) (rest : List UInt8) : decLeaf (UInt8.ofNat l.length :: (l.flatMap itemB ++ rest), false) = (l, (rest, false)) := by
  unfold decLeaf
  rw [num1_ok _ hl]
  dsimp only
  rw [rdN_ok (enc := itemB) l (fun x hx rest => item_ok (h x hx).1 (h x hx).2 rest) rest l.length (Nat.le_refl _)]
  simp
def noMsg : Msg := ⟨0, ⟨#[]⟩, ⟨#[]⟩⟩
def rawMsg (st : RdS) : Msg × RdS := (⟨(numL 1 st).1, ofL' (textL 8 (numL 1 st).2).1, ofL' (textL 16 (textL 8 (numL 1 st).2).2).1⟩, (textL 16 (textL 8 (numL 1 st).2).2).2)
def decMsg (st : RdS) : Msg × RdS := if isMsg (rawMsg st).1 = true then rawMsg st else (noMsg, ([], true))
theorem isMsg_sm {m : Msg} (h : isMsg m = true) : m.key.size ≤ 8 ∧ m.val.size ≤ 16 ∧ 1 ≤ m.kind ∧ m.kind ≤ 3 := by
  unfold isMsg isKey at h
  simp only [Bool.and_eq_true, decide_eq_true_eq] at h
  omega
theorem msg_ok {m : Msg} (h : isMsg m = true) (rest : List UInt8) : decMsg (msgB m ++ rest, false) = (m, (rest, false)) := by
  obtain ⟨h1, h2, h3, h4⟩ := isMsg_sm h
  have hr : rawMsg (msgB m ++ rest, false) = (m, (rest, false)) := by
    unfold rawMsg msgB
    rw [List.cons_append, List.append_assoc, num1_ok _ (by omega)]
    dsimp only
    rw [text_ok 8 _ _ (by rw [strL_len]; exact h1) (by omega)]
    dsimp only
    rw [text_ok 16 _ _ (by rw [strL_len]; exact h2) (by omega)]
    simp only [ofL_strL]
    rw [show ((m.kind.toNat : Nat) : Int) = m.kind by omega]
  unfold decMsg
  rw [hr, if_pos h]
theorem msg_back {st : RdS} {m : Msg} {rest : List UInt8} (h : decMsg st = (m, (rest, false))) : st.2 = false ∧ st.1 = msgB m ++ rest ∧ isMsg m = true := by
  unfold decMsg at h
  split at h
  · rename_i hm
    unfold rawMsg at h hm
    simp only [Prod.mk.injEq] at h
    obtain ⟨rfl, h2⟩ := h
    obtain ⟨q1, q2, q3⟩ := text_back (most := 16) (st := (textL 8 (numL 1 st).2).2) (t := (textL 16 (textL 8 (numL 1 st).2).2).1) (r := rest) (by rw [← h2])
    obtain ⟨k1, k2, k3⟩ := text_back (most := 8) (st := (numL 1 st).2) (t := (textL 8 (numL 1 st).2).1) (r := (textL 8 (numL 1 st).2).2.1) (by rw [← q1])
    obtain ⟨j1, j2, j3⟩ := num1_back (st := st) (z := (numL 1 st).1) (r := (numL 1 st).2.1) (by rw [← k1])
    refine ⟨j1, ?_, hm⟩
    unfold msgB
    simp only [strL_ofL]
    rw [j2, k2, q2]
    first | done | simp
  · simp at h
theorem decMsg_bad {st : RdS} (h : st.2 = true) : (decMsg st).2.2 = true := by
  unfold decMsg
  split
  · unfold rawMsg
    rw [num_bad h]
    dsimp only
    rw [text_bad rfl]
  · rfl
/-- What is read of an inner node, behind its kind. -/
def decInner (st : RdS) : (List Nat × List (List UInt8) × List Msg) × RdS :=
  let s0 := numL 1 st
  let s1 := rdN (numL 2) s0.1 s0.2
  let s2 := rdN (textL 8) (s0.1 - 1) s1.2
  let s3 := numL 1 s2.2
  let s4 := rdN decMsg s3.1 s3.2
  ((s1.1, s2.1, s4.1), s4.2)
theorem inner_ok {kids : List Nat} {pivots : List (List UInt8)} {msgs : List Msg} (hk : kids.length < 256) (hp : pivots.length = kids.length - 1) (hm : msgs.length < 256) (h1 : ∀ k ∈ kids, k < 65536) (h2 : ∀ p ∈ pivots, p.length ≤ 8) (h3 : ∀ m ∈ msgs, isMsg m = true) (rest : List UInt8) :
    decInner (UInt8.ofNat kids.length :: (kids.flatMap (fun k => numB k 2) ++ (pivots.flatMap textB ++ UInt8.ofNat msgs.length :: (msgs.flatMap msgB ++ rest))), false) = ((kids, pivots, msgs), (rest, false)) := by
  unfold decInner
  rw [num1_ok _ hk]
  dsimp only
  rw [rdN_ok (enc := fun k => numB k 2) kids (fun x hx rest => num2_ok x (h1 x hx) rest) _ kids.length (Nat.le_refl _)]
  simp only [List.take_length, List.drop_length, List.flatMap_nil, List.nil_append]
  rw [← hp, rdN_ok (enc := textB) pivots (fun x hx rest => text_ok 8 x rest (h2 x hx) (by omega)) _ pivots.length (Nat.le_refl _)]
  simp only [List.take_length, List.drop_length, List.flatMap_nil, List.nil_append]
  rw [num1_ok _ hm]
  dsimp only
  rw [rdN_ok (enc := msgB) msgs (fun x hx rest => msg_ok (h3 x hx) rest) _ msgs.length (Nat.le_refl _)]
  simp
end Go.Proofs.YticpnfgiidljlaaGreat
