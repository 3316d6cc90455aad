/- The document's reading of a node, plainly: what is looked at while it reads. -/
import Derived.Test.YticpnfgiidljlaaGreatNn
namespace Go.Proofs.YticpnfgiidljlaaGreat
open Go.RowKit
set_option linter.unusedSimpArgs false
set_option linter.unusedVariables false
def kindN (s : List UInt8) : Nat := (numL 1 (s, false)).1
/-- What is read of bytes, unlooked at. -/
def decN (s : List UInt8) : NodeV × RdS :=
  if kindN s = 1 then (.l (decLeaf (numL 1 (s, false)).2).1, (decLeaf (numL 1 (s, false)).2).2)
  else (.i (kidsI (decInner (numL 1 (s, false)).2).1.1) (pivS (decInner (numL 1 (s, false)).2).1.2.1) (decInner (numL 1 (s, false)).2).1.2.2, (decInner (numL 1 (s, false)).2).2)
theorem dec_ok {n : NodeV} (hg : n.good) (hf : n.fits = true) (rest : List UInt8) : (kindN (n.bytes ++ rest) = 1 ∨ kindN (n.bytes ++ rest) = 2) ∧ decN (n.bytes ++ rest) = (n, (rest, false)) := by
  cases n with
  | l o =>
    obtain ⟨h1, h2⟩ := hg
    have hw : iwts o ≤ 240 := by simpa [NodeV.fits] using hf
    have hl := iwts_len o
    have hb : (NodeV.l o).bytes ++ rest = UInt8.ofNat 1 :: (UInt8.ofNat o.length :: (o.flatMap itemB ++ rest)) := by simp [NodeV.bytes, leafB]
    have hk : kindN ((NodeV.l o).bytes ++ rest) = 1 := by unfold kindN; rw [hb, num1_ok 1 (by omega)]
    refine ⟨.inl hk, ?_⟩
    unfold decN
    rw [if_pos hk, hb, num1_ok 1 (by omega)]
    simp only
    rw [leaf_ok (by omega) (fun x hx => okI_small (h2 x hx)) rest]
  | i k p m =>
    obtain ⟨h1, h2, h3⟩ := hg
    obtain ⟨g1, g2, g3, g4⟩ := goodIn_iff.1 h1
    obtain ⟨f1, f2, f3⟩ := fitsIn_iff.1 hf
    have hl := mwts_len m
    have hb : (NodeV.i k p m).bytes ++ rest = UInt8.ofNat 2 :: (UInt8.ofNat (k.map Int.toNat).length :: ((k.map Int.toNat).flatMap (fun k => numB k 2) ++ ((p.map strL).flatMap textB ++ UInt8.ofNat m.length :: (m.flatMap msgB ++ rest)))) := by
      simp [NodeV.bytes, innerB, List.flatMap_map]
    have hk : kindN ((NodeV.i k p m).bytes ++ rest) = 2 := by unfold kindN; rw [hb, num1_ok 2 (by omega)]
    refine ⟨.inr hk, ?_⟩
    unfold decN
    rw [if_neg (by omega), hb, num1_ok 2 (by omega)]
    simp only
    rw [inner_ok (by simp; omega) (by simp; omega) (by omega) (by
      intro x hx
      obtain ⟨y, hy, rfl⟩ := List.mem_map.1 hx
      have := f3 y hy
      omega) (by
      intro x hx
      obtain ⟨y, hy, rfl⟩ := List.mem_map.1 hx
      have := isKey_size (riseB_keys g4 y hy)
      rw [strL_len]
      omega) h3 rest]
    simp only
    rw [kidsI_toNat g3, pivS_strL]
theorem leaf_back {st : RdS} (h : (decLeaf st).2.2 = false) : st.2 = false ∧ st.1 = UInt8.ofNat (decLeaf st).1.length :: ((decLeaf st).1.flatMap itemB ++ (decLeaf st).2.1) ∧ ∀ x ∈ (decLeaf st).1, x.key.size ≤ 8 ∧ x.val.size ≤ 16 := by
  unfold decLeaf at h ⊢
  obtain ⟨q1, q2, q3⟩ := rdN_back (enc := itemB) (P := fun x => x.key.size ≤ 8 ∧ x.val.size ≤ 16) (fun st x rest h => item_back h) (numL 1 st).2 (numL 1 st).1 h
  obtain ⟨k1, k2, k3⟩ := num1_back (st := st) (z := (numL 1 st).1) (r := (numL 1 st).2.1) (by rw [← q1])
  exact ⟨k1, by rw [k2, q2, rdN_len], q3⟩
theorem inner_back {st : RdS} (h : (decInner st).2.2 = false) : st.2 = false ∧ st.1 = UInt8.ofNat (decInner st).1.1.length :: ((decInner st).1.1.flatMap (fun k => numB k 2) ++ ((decInner st).1.2.1.flatMap textB ++ UInt8.ofNat (decInner st).1.2.2.length :: ((decInner st).1.2.2.flatMap msgB ++ (decInner st).2.1))) ∧ (∀ x ∈ (decInner st).1.2.2, isMsg x = true) := by
  unfold decInner at h ⊢
  dsimp only at h ⊢
  obtain ⟨q1, q2, q3⟩ := rdN_back (enc := msgB) (P := fun x => isMsg x = true) (fun st x rest h => msg_back h) _ _ h
  obtain ⟨a1, a2, a3⟩ := num1_back (st := (rdN (textL 8) ((numL 1 st).1 - 1) (rdN (numL 2) (numL 1 st).1 (numL 1 st).2).2).2) (z := _) (r := _) (by rw [← q1])
  obtain ⟨b1, b2, b3⟩ := rdN_back (enc := textB) (P := fun x => x.length ≤ 8) (fun st x rest h => text_back h) _ _ a1
  obtain ⟨c1, c2, c3⟩ := rdN_back (enc := fun k => numB k 2) (P := fun x => x < 65536) (fun st x rest h => num2_back h) _ _ b1
  obtain ⟨d1, d2, d3⟩ := num1_back (st := st) (z := (numL 1 st).1) (r := (numL 1 st).2.1) (by rw [← c1])
  refine ⟨d1, ?_, q3⟩
  rw [d2, c2, b2, a2, q2, rdN_len, rdN_len]
theorem kidsB (k : List Nat) : (kidsI k).flatMap (fun k => numB k.toNat 2) = k.flatMap (fun k => numB k 2) := by
  unfold kidsI
  rw [List.flatMap_map]
  rfl
theorem pivB (p : List (List UInt8)) : (pivS p).flatMap (fun p => textB (strL p)) = p.flatMap textB := by
  unfold pivS
  rw [List.flatMap_map]
  congr 1
/-- The way back. -/
theorem dec_back {s : List UInt8} (hk : kindN s = 1 ∨ kindN s = 2) (h : (decN s).2.2 = false) : s = (decN s).1.bytes ++ (decN s).2.1 := by
  unfold decN at h ⊢
  by_cases h1 : kindN s = 1
  · rw [if_pos h1] at h ⊢
    obtain ⟨q1, q2, _⟩ := leaf_back h
    obtain ⟨k1, k2, k3⟩ := num1_back (st := (s, false)) (z := (numL 1 (s, false)).1) (r := (numL 1 (s, false)).2.1) (Prod.ext rfl (Prod.ext rfl q1))
    unfold kindN at h1
    simp only at k2
    rw [h1, q2] at k2
    refine k2.trans ?_
    simp only [NodeV.bytes, leafB]
    simp
  · have h2 : kindN s = 2 := by omega
    rw [if_neg h1] at h ⊢
    obtain ⟨q1, q2, _⟩ := inner_back h
    obtain ⟨k1, k2, k3⟩ := num1_back (st := (s, false)) (z := (numL 1 (s, false)).1) (r := (numL 1 (s, false)).2.1) (Prod.ext rfl (Prod.ext rfl q1))
    unfold kindN at h2
    simp only at k2
    rw [h2, q2] at k2
    have hl : (kidsI (decInner (numL 1 (s, false)).2).1.1).length = (decInner (numL 1 (s, false)).2).1.1.length := by simp [kidsI]
    simp only [NodeV.bytes, innerB, kidsB, pivB, hl]
    refine k2.trans ?_
    simp
theorem parse_yes {s : List UInt8} (hk : kindN s = 1 ∨ kindN s = 2) (hs : (decN s).2 = ([], false)) (hg : (decN s).1.good) (hf : (decN s).1.fits = true) : parseV (ofL' s) = some (decN s).1 := by
  have hb := dec_back hk (by rw [hs])
  rw [hs, List.append_nil] at hb
  have := parse_of hg hf
  rwa [← hb] at this
theorem parse_no {s : List UInt8} {n : NodeV} (h : parseV (ofL' s) = some n) : (kindN s = 1 ∨ kindN s = 2) ∧ decN s = (n, ([], false)) ∧ n.good ∧ n.fits = true := by
  obtain ⟨h1, h2, h3⟩ := parse_good h
  have hs : n.bytes = s := by
    have := congrArg strL h3
    simpa using this
  have := dec_ok h1 h2 []
  rw [List.append_nil, hs] at this
  exact ⟨this.1, this.2, h1, h2⟩
theorem parse_none {s : List UInt8} (h : ¬ ((kindN s = 1 ∨ kindN s = 2) ∧ (decN s).2 = ([], false) ∧ (decN s).1.good ∧ (decN s).1.fits = true)) : parseV (ofL' s) = none := by
  cases hp : parseV (ofL' s) with
  | none => rfl
  | some n =>
    obtain ⟨h1, h2, h3, h4⟩ := parse_no hp
    exact absurd ⟨h1, by rw [h2], by rw [h2]; exact h3, by rw [h2]; exact h4⟩ h
end Go.Proofs.YticpnfgiidljlaaGreat
namespace Go.Proofs.YticpnfgiidljlaaGreat
open Go.RowKit
set_option linter.unusedSimpArgs false
set_option linter.unusedVariables false
theorem pw_adj {α : Type} (key : α → Str) {l : List α} (h : ∀ j (h1 : j < l.length) (h2 : j + 1 < l.length), slt (key l[j]) (key l[j + 1]) = true) : l.Pairwise (fun x y => slt (key x) (key y) = true) := by
  rw [List.pairwise_iff_getElem]
  intro i j hi hj hij
  obtain ⟨d, rfl⟩ : ∃ d, j = i + 1 + d := ⟨j - (i + 1), by omega⟩
  clear hij
  induction d with
  | zero => exact h i hi hj
  | succ d ih => exact slt_trans (ih (by omega)) (h (i + 1 + d) (by omega) hj)
theorem adj_pw {α : Type} (key : α → Str) {l : List α} (h : l.Pairwise (fun x y => slt (key x) (key y) = true)) (j : Nat) (h1 : j < l.length) (h2 : j + 1 < l.length) : slt (key l[j]) (key l[j + 1]) = true :=
  List.pairwise_iff_getElem.1 h j (j + 1) h1 h2 (by omega)
theorem rdN_take {α : Type} (r : RdS → α × RdS) (st : RdS) (j : Nat) : ∀ n, j ≤ n → (rdN r n st).1.take j = (rdN r j st).1
  | 0, h => by
    obtain rfl : j = 0 := by omega
    simp [rdN]
  | n + 1, h => by
    by_cases hj : j = n + 1
    · subst hj
      rw [List.take_of_length_le (by rw [rdN_len]; omega)]
    · rw [rdN, List.take_append_of_le_length (by rw [rdN_len]; omega)]
      exact rdN_take r st j n (by omega)
theorem rdN_get {α : Type} (r : RdS → α × RdS) (st : RdS) {j n : Nat} (h : j < n) (h' : j < (rdN r n st).1.length) : (rdN r n st).1[j] = (r (rdN r j st).2).1 := by
  have h1 := rdN_take r st (j + 1) n h
  have h2 : (rdN r n st).1[j]? = ((rdN r n st).1.take (j + 1))[j]? := by rw [List.getElem?_take, if_pos (by omega)]
  rw [h1, rdN, List.getElem?_append_right (by rw [rdN_len]; omega), rdN_len, Nat.sub_self, List.getElem?_eq_getElem h'] at h2
  simpa using h2
/-- What is looked at at a place: a key, above the one ahead. -/
def okL (l : List Item) (j : Nat) : Bool := match l[j]? with
  | some x => decide (0 < x.key.size) && (decide (j = 0) || slt (l.getD (j - 1) ⟨⟨#[]⟩, ⟨#[]⟩⟩).key x.key)
  | none => false
def okM (st : RdS) (l : List Msg) (j : Nat) : Bool := !(rdN decMsg (j + 1) st).2.2 && match l[j]? with
  | some x => (decide (j = 0) || slt (l.getD (j - 1) noMsg).key x.key)
  | none => false
theorem raw_len (n : Int) (st : RdS) : (rawL n st).1.length ≤ n.toNat := by
  unfold rawL
  split
  · simp; omega
  · simp
theorem text_len (most : Nat) (st : RdS) : (textL most st).1.length ≤ most := by
  have h := raw_len (if most < (numL 1 st).1 then -1 else ((numL 1 st).1 : Int)) (numL 1 st).2
  unfold textL
  split at h
  · rw [if_pos (by assumption)]; omega
  · rw [if_neg (by assumption)]; omega
theorem rdN_all {α : Type} {r : RdS → α × RdS} {Q : α → Prop} (h : ∀ st, Q (r st).1) (st : RdS) : ∀ n, ∀ x ∈ (rdN r n st).1, Q x
  | 0, x, hx => by simp [rdN] at hx
  | n + 1, x, hx => by
    rw [rdN] at hx
    rcases List.mem_append.1 hx with q | q
    · exact rdN_all h st n x q
    · rw [List.mem_singleton.1 q]; exact h _
theorem ofL'_len (l : List UInt8) : (ofL' l).size = l.length := by simp [ofL', ByteArray.size]
theorem items_small (st : RdS) (n : Nat) : ISmall (rdN decItem n st).1 := rdN_all (Q := fun x : Item => x.key.size ≤ 1000000 ∧ x.val.size ≤ 1000000) (fun st => by
  have h1 := text_len 8 st
  have h2 := text_len 16 (textL 8 st).2
  unfold decItem
  simp only [ofL'_len]
  omega) st n
theorem msgs_small (st : RdS) (n : Nat) : MSmall (rdN decMsg n st).1 := rdN_all (Q := fun x : Msg => x.key.size ≤ 1000000 ∧ x.val.size ≤ 1000000) (fun st => by
  have h1 := text_len 8 (numL 1 st).2
  have h2 := text_len 16 (textL 8 (numL 1 st).2).2
  unfold decMsg
  split
  · unfold rawMsg
    simp only [ofL'_len]
    omega
  · simp [noMsg, ByteArray.size]) st n
theorem okL_at (st : RdS) {n j : Nat} (h : j < n) : okL (rdN decItem n st).1 j = (decide (0 < (decItem (rdN decItem j st).2).1.key.size) && (decide (j = 0) || slt ((rdN decItem j st).1.getD (j - 1) ⟨⟨#[]⟩, ⟨#[]⟩⟩).key (decItem (rdN decItem j st).2).1.key)) := by
  have hl : j < (rdN decItem n st).1.length := by rw [rdN_len]; exact h
  unfold okL
  rw [List.getElem?_eq_getElem hl, rdN_get decItem st h hl]
  dsimp only
  by_cases h0 : j = 0
  · subst h0; simp
  · congr 3
    rw [List.getD_eq_getElem?_getD, List.getD_eq_getElem?_getD, ← rdN_take decItem st j n (by omega), List.getElem?_take, if_pos (by omega)]
theorem okM_at (st : RdS) {n j : Nat} (h : j < n) : okM st (rdN decMsg n st).1 j = (!(decMsg (rdN decMsg j st).2).2.2 && (decide (j = 0) || slt ((rdN decMsg j st).1.getD (j - 1) noMsg).key (decMsg (rdN decMsg j st).2).1.key)) := by
  have hl : j < (rdN decMsg n st).1.length := by rw [rdN_len]; exact h
  unfold okM
  rw [List.getElem?_eq_getElem hl, rdN_get decMsg st h hl, rdN]
  dsimp only
  by_cases h0 : j = 0
  · subst h0; simp
  · congr 3
    rw [List.getD_eq_getElem?_getD, List.getD_eq_getElem?_getD, ← rdN_take decMsg st j n (by omega), List.getElem?_take, if_pos (by omega)]
theorem okL_pos {l : List Item} (h : ∀ j, j < l.length → okL l j = true) : RiseI l ∧ ∀ x ∈ l, 0 < x.key.size := by
  refine ⟨pw_adj (fun x : Item => x.key) fun j h1 h2 => ?_, fun x hx => ?_⟩
  · have := h (j + 1) h2
    unfold okL at this
    rw [List.getElem?_eq_getElem h2] at this
    simp only [Nat.add_sub_cancel, List.getD_eq_getElem?_getD, List.getElem?_eq_getElem h1, Option.getD_some] at this
    simpa using (Bool.and_eq_true _ _ ▸ this).2
  · obtain ⟨j, hj, rfl⟩ := List.mem_iff_getElem.1 hx
    have := h j hj
    unfold okL at this
    rw [List.getElem?_eq_getElem hj] at this
    simp only [Bool.and_eq_true, decide_eq_true_eq] at this
    exact this.1
theorem okL_of {l : List Item} (h1 : RiseI l) (h2 : ∀ x ∈ l, 0 < x.key.size) (j : Nat) (hj : j < l.length) : okL l j = true := by
  unfold okL
  rw [List.getElem?_eq_getElem hj]
  simp only [Bool.and_eq_true, decide_eq_true_eq, Bool.or_eq_true]
  refine ⟨h2 _ (List.getElem_mem hj), ?_⟩
  by_cases h0 : j = 0
  · exact .inl h0
  · refine .inr ?_
    rw [List.getD_eq_getElem?_getD, List.getElem?_eq_getElem (by omega), Option.getD_some]
    have := adj_pw (fun x : Item => x.key) h1 (j - 1) (by omega) (by omega)
    simpa [show j - 1 + 1 = j by omega] using this
theorem rise_adj {l : List Msg} (h : ∀ j, j < l.length → (decide (j = 0) || slt (l.getD (j - 1) noMsg).key (l.getD j noMsg).key) = true) : Rise l := by
  rw [rise_iff]
  refine pw_adj (fun x : Msg => x.key) fun j h1 h2 => ?_
  have := h (j + 1) h2
  simpa [List.getD_eq_getElem?_getD, List.getElem?_eq_getElem h1, List.getElem?_eq_getElem h2] using this
theorem rise_at {l : List Msg} (h : Rise l) (j : Nat) (hj : j < l.length) : (decide (j = 0) || slt (l.getD (j - 1) noMsg).key (l.getD j noMsg).key) = true := by
  rw [rise_iff] at h
  by_cases h0 : j = 0
  · simp [h0]
  · have := adj_pw (fun x : Msg => x.key) h (j - 1) (by omega) (by omega)
    simp only [show j - 1 + 1 = j by omega] at this
    simp [List.getD_eq_getElem?_getD, List.getElem?_eq_getElem hj, List.getElem?_eq_getElem (show j - 1 < l.length by omega), this]
/-- What the document's reading comes to, of a leaf. -/
theorem leaf_read {s : List UInt8} (hk : kindN s = 1) (hok : ∀ j, j < (decLeaf (numL 1 (s, false)).2).1.length → okL (decLeaf (numL 1 (s, false)).2).1 j = true) :
    parseV (ofL' s) = if (decLeaf (numL 1 (s, false)).2).2 = ([], false) ∧ iwts (decLeaf (numL 1 (s, false)).2).1 ≤ 240 then some (.l (decLeaf (numL 1 (s, false)).2).1) else none := by
  have hd : decN s = (.l (decLeaf (numL 1 (s, false)).2).1, (decLeaf (numL 1 (s, false)).2).2) := by unfold decN; rw [if_pos hk]
  split
  · rename_i hc
    have hb := leaf_back (st := (numL 1 (s, false)).2) (by rw [hc.1])
    obtain ⟨r1, r2⟩ := okL_pos hok
    have := parse_yes (s := s) (.inl hk) (by rw [hd]; exact hc.1) (by
      rw [hd]
      refine ⟨r1, fun x hx => ?_⟩
      have h1 := r2 x hx
      have h2 := hb.2.2 x hx
      rw [okI_is]
      simp [isKey, isVal]
      omega) (by rw [hd]; simpa [NodeV.fits] using hc.2)
    rw [this, hd]
  · rename_i hc
    refine parse_none fun ⟨_, h2, h3, h4⟩ => hc ?_
    rw [hd] at h2 h3 h4
    exact ⟨h2, by simpa [NodeV.fits] using h4⟩
theorem leaf_unread {s : List UInt8} (hk : kindN s = 1) {j : Nat} (hj : j < (decLeaf (numL 1 (s, false)).2).1.length) (hok : okL (decLeaf (numL 1 (s, false)).2).1 j = false) : parseV (ofL' s) = none := by
  have hd : decN s = (.l (decLeaf (numL 1 (s, false)).2).1, (decLeaf (numL 1 (s, false)).2).2) := by unfold decN; rw [if_pos hk]
  refine parse_none fun ⟨_, _, h3, _⟩ => ?_
  rw [hd] at h3
  have := okL_of h3.1 (fun x hx => by have := h3.2 x hx; rw [okI_is] at this; simp [isKey] at this; omega) j hj
  rw [hok] at this
  cases this
theorem rdN_bad_mono {α : Type} {r : RdS → α × RdS} (h : ∀ st, st.2 = true → (r st).2.2 = true) (st : RdS) {j : Nat} (hb : (rdN r j st).2.2 = true) : ∀ n, j ≤ n → (rdN r n st).2.2 = true
  | 0, hn => by
    obtain rfl : j = 0 := by omega
    exact hb
  | n + 1, hn => by
    by_cases hj : j = n + 1
    · subst hj; exact hb
    · rw [rdN]
      exact h _ (rdN_bad_mono h st hb n (by omega))
/-- Where an inner node's messages begin, how many they are. -/
def msgsAt (st : RdS) : Nat × RdS := numL 1 (rdN (textL 8) ((numL 1 st).1 - 1) (rdN (numL 2) (numL 1 st).1 (numL 1 st).2).2).2
theorem inner_read {s : List UInt8} (hk : kindN s = 2) (st : RdS) (hst : st = (numL 1 (s, false)).2) (hok : ∀ j, j < (msgsAt st).1 → okM (msgsAt st).2 (decInner st).1.2.2 j = true) :
    parseV (ofL' s) = if (decInner st).2 = ([], false) ∧ goodIn (kidsI (decInner st).1.1) (pivS (decInner st).1.2.1) = true ∧ fitsIn (kidsI (decInner st).1.1) (decInner st).1.2.2 = true then some (.i (kidsI (decInner st).1.1) (pivS (decInner st).1.2.1) (decInner st).1.2.2) else none := by
  subst hst
  generalize hst : (numL 1 (s, false)).2 = st at hok ⊢
  have hd : decN s = (.i (kidsI (decInner st).1.1) (pivS (decInner st).1.2.1) (decInner st).1.2.2, (decInner st).2) := by unfold decN; rw [if_neg (by omega), hst]
  have hlen : (decInner st).1.2.2.length = (msgsAt st).1 := by unfold decInner msgsAt; dsimp only; rw [rdN_len]
  split
  · rename_i hc
    have hb := inner_back (st := st) (by rw [hc.1])
    have hr : Rise (decInner st).1.2.2 := rise_adj fun j hj => by
      have := hok j (by omega)
      unfold okM at this
      rw [List.getElem?_eq_getElem hj] at this
      simp only [Bool.and_eq_true] at this
      rw [List.getD_eq_getElem?_getD (i := j), List.getElem?_eq_getElem hj, Option.getD_some]
      exact this.2
    have := parse_yes (s := s) (.inr hk) (by rw [hd]; exact hc.1) (by rw [hd]; exact ⟨hc.2.1, hr, hb.2.2⟩) (by rw [hd]; exact hc.2.2)
    rw [this, hd]
  · rename_i hc
    refine parse_none fun ⟨_, h2, h3, h4⟩ => hc ?_
    rw [hd] at h2 h3 h4
    exact ⟨h2, h3.1, h4⟩
theorem inner_unread {s : List UInt8} (hk : kindN s = 2) (st : RdS) (hst : st = (numL 1 (s, false)).2) {j : Nat} (hj : j < (msgsAt st).1) (hok : okM (msgsAt st).2 (decInner st).1.2.2 j = false) : parseV (ofL' s) = none := by
  subst hst
  generalize hst : (numL 1 (s, false)).2 = st at hj hok ⊢
  have hd : decN s = (.i (kidsI (decInner st).1.1) (pivS (decInner st).1.2.1) (decInner st).1.2.2, (decInner st).2) := by unfold decN; rw [if_neg (by omega), hst]
  have hlen : (decInner st).1.2.2.length = (msgsAt st).1 := by unfold decInner msgsAt; dsimp only; rw [rdN_len]
  refine parse_none fun ⟨_, h2, h3, _⟩ => ?_
  rw [hd] at h2 h3
  have h5 := rise_at h3.2.1 j (by omega)
  unfold okM at hok
  rw [List.getElem?_eq_getElem (by omega)] at hok
  rw [List.getD_eq_getElem?_getD (i := j), List.getElem?_eq_getElem (by omega), Option.getD_some] at h5
  simp only [h5, Bool.and_true, Bool.not_eq_false'] at hok
  have h6 := rdN_bad_mono (r := decMsg) (fun st h => decMsg_bad h) (msgsAt st).2 hok (msgsAt st).1 (by omega)
  have h7 : (decInner st).2 = (rdN decMsg (msgsAt st).1 (msgsAt st).2).2 := rfl
  rw [← h7] at h6
  simp only at h2
  rw [h2] at h6
  cases h6
theorem kind_other {s : List UInt8} (h1 : kindN s ≠ 1) (h2 : kindN s ≠ 2) : parseV (ofL' s) = none := parse_none fun ⟨h, _⟩ => by omega
theorem bad_other {s : List UInt8} (h : (numL 1 (numL 1 (s, false)).2).2.2 = true) : parseV (ofL' s) = none := by
  refine parse_none fun ⟨hk, h2, h3, _⟩ => ?_
  unfold decN at h2
  split at h2
  · have : (decLeaf (numL 1 (s, false)).2).2.2 = true := by
      unfold decLeaf
      exact rdN_bad (fun st hs => by unfold decItem; rw [text_bad hs]; dsimp only; rw [text_bad rfl]) h _
    simp only at h2
    rw [h2] at this
    cases this
  · have : (decInner (numL 1 (s, false)).2).2.2 = true := by
      unfold decInner
      dsimp only
      refine rdN_bad (fun st hs => decMsg_bad hs) ?_ _
      rw [num_bad]
      refine rdN_bad (fun st hs => by rw [text_bad hs]) ?_ _
      exact rdN_bad (fun st hs => by rw [num_bad hs]) h _
    simp only at h2
    rw [h2] at this
    cases this
end Go.Proofs.YticpnfgiidljlaaGreat
