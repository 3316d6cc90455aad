/- pen.In: what reads, in the store. -/
import Derived.Test.YticpnfgiidljlaaGreatLc
import Derived.Test.YticpnfgiidljlaaGreatOd
import Derived.Test.YticpnfgiidljlaaGreatLw
import Derived.Test.YticpnfgiidljlaaGreatLr
import Derived.Test.YticpnfgiidljlaaGreatFacts
import Derived.Test.YticpnfgiidljlaaGreatNb
namespace Go.Proofs.YticpnfgiidljlaaGreat
open Go.RowKit
set_option linter.unusedSimpArgs false
/-- What is left of bytes that are read, and whether something was wrong. -/
abbrev RdS := List UInt8 × Bool
def rawL (n : Int) (st : RdS) : List UInt8 × RdS := if st.2 = false ∧ 0 ≤ n ∧ n ≤ st.1.length then (st.1.take n.toNat, (st.1.drop n.toNat, false)) else ([], ([], true))
def beN (l : List UInt8) : Nat := l.foldl (fun a b => a * 256 + b.toNat) 0
def numL (w : Nat) (st : RdS) : Nat × RdS := (beN (rawL w st).1, (rawL w st).2)
def textL (most : Nat) (st : RdS) : List UInt8 × RdS := rawL (if most < (numL 1 st).1 then -1 else (numL 1 st).1) (numL 1 st).2
/-- A number's bytes, of so many the highest first. -/
def numB (z : Nat) : Nat → List UInt8
  | 0 => []
  | w + 1 => UInt8.ofNat (z / 256 ^ w) :: numB z w
def textB (t : List UInt8) : List UInt8 := UInt8.ofNat t.length :: t
theorem raw_ok (t rest : List UInt8) : rawL t.length (t ++ rest, false) = (t, (rest, false)) := by
  unfold rawL
  rw [if_pos ⟨rfl, by omega, by simp; omega⟩]
  simp
theorem beN_one (b : UInt8) : beN [b] = b.toNat := by simp [beN]
theorem num1_ok (z : Nat) (hz : z < 256) (rest : List UInt8) : numL 1 (UInt8.ofNat z :: rest, false) = (z, (rest, false)) := by
  have := raw_ok [UInt8.ofNat z] rest
  unfold numL
  rw [show ((1 : Nat) : Int) = (([UInt8.ofNat z] : List UInt8).length : Int) from rfl, show UInt8.ofNat z :: rest = [UInt8.ofNat z] ++ rest from rfl, this, beN_one, UInt8.toNat_ofNat', Nat.mod_eq_of_lt (by simpa using hz)]
theorem num2_ok (z : Nat) (hz : z < 65536) (rest : List UInt8) : numL 2 (numB z 2 ++ rest, false) = (z, (rest, false)) := by
  have := raw_ok (numB z 2) rest
  unfold numL
  rw [show ((2 : Nat) : Int) = ((numB z 2).length : Int) from rfl, this]
  simp [numB, beN]
  omega
theorem text_ok (most : Nat) (t rest : List UInt8) (h : t.length ≤ most) (hm : most < 256) : textL most (textB t ++ rest, false) = (t, (rest, false)) := by
  unfold textL
  rw [show textB t ++ rest = UInt8.ofNat t.length :: (t ++ rest) from rfl, num1_ok _ (by omega)]
  dsimp only
  rw [if_neg (by omega), raw_ok]
/-- So many, one behind the other. -/
def rdN {α : Type} (r : RdS → α × RdS) : Nat → RdS → List α × RdS
  | 0, st => ([], st)
  | k + 1, st => ((rdN r k st).1 ++ [(r (rdN r k st).2).1], (r (rdN r k st).2).2)
theorem rdN_len {α : Type} (r : RdS → α × RdS) (st : RdS) : ∀ k, (rdN r k st).1.length = k
  | 0 => rfl
  | k + 1 => by rw [rdN, List.length_append, rdN_len r st k]; rfl
theorem rdN_ok {α : Type} {r : RdS → α × RdS} {enc : α → List UInt8} (l : List α) (h : ∀ x ∈ l, ∀ rest, r (enc x ++ rest, false) = (x, (rest, false))) (rest : List UInt8) : ∀ k, k ≤ l.length → rdN r k (l.flatMap enc ++ rest, false) = (l.take k, ((l.drop k).flatMap enc ++ rest, false))
  | 0, _ => by simp [rdN]
  | k + 1, hk => by
    have hk' : k < l.length := by omega
    rw [rdN, rdN_ok l h rest k (by omega)]
    dsimp only
    rw [List.drop_eq_getElem_cons hk', List.flatMap_cons, List.append_assoc, h _ (List.getElem_mem hk'), List.take_add_one, List.getElem?_eq_getElem hk']
    rfl
end Go.Proofs.YticpnfgiidljlaaGreat
namespace Go.Proofs.YticpnfgiidljlaaGreat
open Go.RowKit
set_option linter.unusedSimpArgs false
def strL (s : Str) : List UInt8 := s.data.toList
def ofL' (l : List UInt8) : Str := ⟨l.toArray⟩
@[simp] theorem ofL_strL (s : Str) : ofL' (strL s) = s := rfl
@[simp] theorem strL_ofL (l : List UInt8) : strL (ofL' l) = l := by simp [strL, ofL']
theorem strL_len (s : Str) : (strL s).length = s.size := by simp [strL]
def itemB (x : Item) : List UInt8 := textB (strL x.key) ++ textB (strL x.val)
def decItem (st : RdS) : Item × RdS := (⟨ofL' (textL 8 st).1, ofL' (textL 16 (textL 8 st).2).1⟩, (textL 16 (textL 8 st).2).2)
theorem item_ok {x : Item} (h1 : x.key.size ≤ 8) (h2 : x.val.size ≤ 16) (rest : List UInt8) : decItem (itemB x ++ rest, false) = (x, (rest, false)) := by
  unfold decItem itemB
  rw [List.append_assoc, text_ok 8 _ _ (by rw [strL_len]; exact h1) (by omega)]
  dsimp only
  rw [text_ok 16 _ _ (by rw [strL_len]; exact h2) (by omega)]
  rfl
/-- A leaf's bytes, an inner node's. -/
def leafB (l : List Item) : List UInt8 := 1 :: UInt8.ofNat l.length :: l.flatMap itemB
def msgB (m : Msg) : List UInt8 := UInt8.ofNat m.kind.toNat :: (textB (strL m.key) ++ textB (strL m.val))
def innerB (kids : List Int) (pivots : List Str) (msgs : List Msg) : List UInt8 := 2 :: UInt8.ofNat kids.length :: (kids.flatMap (fun k => numB k.toNat 2) ++ (pivots.flatMap (fun p => textB (strL p)) ++ UInt8.ofNat msgs.length :: msgs.flatMap msgB))
def decLeaf (st : RdS) : List Item × RdS := rdN decItem (numL 1 st).1 (numL 1 st).2
theorem leaf_ok {l : List Item} (hl : l.length < 256) (h : ∀ x ∈ l, x.key.size ≤ 8 ∧ x.val.size ≤ 16) (rest : List UInt8) : decLeaf (UInt8.ofNat l.length :: (l.flatMap itemB ++ rest), false) = (l, (rest, false)) := by
  unfold decLeaf
  rw [num1_ok _ hl]
  dsimp only
  rw [rdN_ok (enc := itemB) l (fun x hx rest => item_ok (h x hx).1 (h x hx).2 rest) rest l.length (Nat.le_refl _)]
  simp
def noMsg : Msg := ⟨0, ⟨#[]⟩, ⟨#[]⟩⟩
def rawMsg (st : RdS) : Msg × RdS := (⟨(numL 1 st).1, ofL' (textL 8 (numL 1 st).2).1, ofL' (textL 16 (textL 8 (numL 1 st).2).2).1⟩, (textL 16 (textL 8 (numL 1 st).2).2).2)
def decMsg (st : RdS) : Msg × RdS := if isMsg (rawMsg st).1 = true then rawMsg st else (noMsg, ([], true))
theorem isMsg_sm {m : Msg} (h : isMsg m = true) : m.key.size ≤ 8 ∧ m.val.size ≤ 16 ∧ 1 ≤ m.kind ∧ m.kind ≤ 3 := by
  unfold isMsg isKey at h
  simp only [Bool.and_eq_true, decide_eq_true_eq] at h
  omega
theorem msg_ok {m : Msg} (h : isMsg m = true) (rest : List UInt8) : decMsg (msgB m ++ rest, false) = (m, (rest, false)) := by
  obtain ⟨h1, h2, h3, h4⟩ := isMsg_sm h
  have hr : rawMsg (msgB m ++ rest, false) = (m, (rest, false)) := by
    unfold rawMsg msgB
    rw [List.cons_append, List.append_assoc, num1_ok _ (by omega)]
    dsimp only
    rw [text_ok 8 _ _ (by rw [strL_len]; exact h1) (by omega)]
    dsimp only
    rw [text_ok 16 _ _ (by rw [strL_len]; exact h2) (by omega)]
    simp only [ofL_strL]
    rw [show ((m.kind.toNat : Nat) : Int) = m.kind by omega]
  unfold decMsg
  rw [hr, if_pos h]
/-- What is read of an inner node, behind its kind. -/
def decInner (st : RdS) : (List Nat × List (List UInt8) × List Msg) × RdS :=
  let s0 := numL 1 st
  let s1 := rdN (numL 2) s0.1 s0.2
  let s2 := rdN (textL 8) (s0.1 - 1) s1.2
  let s3 := numL 1 s2.2
  let s4 := rdN decMsg s3.1 s3.2
  ((s1.1, s2.1, s4.1), s4.2)
theorem inner_ok {kids : List Nat} {pivots : List (List UInt8)} {msgs : List Msg} (hk : kids.length < 256) (hp : pivots.length = kids.length - 1) (hm : msgs.length < 256) (h1 : ∀ k ∈ kids, k < 65536) (h2 : ∀ p ∈ pivots, p.length ≤ 8) (h3 : ∀ m ∈ msgs, isMsg m = true) (rest : List UInt8) :
    decInner (UInt8.ofNat kids.length :: (kids.flatMap (fun k => numB k 2) ++ (pivots.flatMap textB ++ UInt8.ofNat msgs.length :: (msgs.flatMap msgB ++ rest))), false) = ((kids, pivots, msgs), (rest, false)) := by
  unfold decInner
  rw [num1_ok _ hk]
  dsimp only
  rw [rdN_ok (enc := fun k => numB k 2) kids (fun x hx rest => num2_ok x (h1 x hx) rest) _ kids.length (Nat.le_refl _)]
  simp only [List.take_length, List.drop_length, List.flatMap_nil, List.nil_append]
  rw [← hp, rdN_ok (enc := textB) pivots (fun x hx rest => text_ok 8 x rest (h2 x hx) (by omega)) _ pivots.length (Nat.le_refl _)]
  simp only [List.take_length, List.drop_length, List.flatMap_nil, List.nil_append]
  rw [num1_ok _ hm]
  dsimp only
  rw [rdN_ok (enc := msgB) msgs (fun x hx rest => msg_ok (h3 x hx) rest) _ msgs.length (Nat.le_refl _)]
  simp
end Go.Proofs.YticpnfgiidljlaaGreat
namespace Go.Proofs.YticpnfgiidljlaaGreat
open Go.RowKit
set_option linter.unusedSimpArgs false
set_option linter.unusedVariables false
set_option maxRecDepth 10000
/-- A reader's object. -/
def inO (st : RdS) : MO := ⟨[.sc (.string (ofL' st.1)), .sc (.bool st.2)], 0, false, false⟩
theorem inOf_spec (s : Str) (σ : Sto) : Spec Tryz.prog 35 [.sc (.string s)] σ fun r σ' => r = .mp σ.length 0 0 ∧ σ' = σ ++ [inO (s.data.toList, false)] := by
  refine spec_intro Tryz.func35 good35 rfl (by simp [Tryz.ntmps35]) ?_
  refine go1 [5] [] (cns Tryz.results35 trivial) ?_
  exact ⟨by simp, by simp [inO, ofL']⟩
theorem inFail_spec {l : Nat} {st : RdS} {σ : Sto} (h : σ[l]? = some (inO st)) : Spec Tryz.prog 89 [.mp l 0 0] σ fun r σ' => r = .tup [] ∧ σ' = σ.set l (inO ([], true)) := by
  unfold inO at h
  refine spec_intro Tryz.func89 good89 rfl (by simp [Tryz.ntmps89]) ?_
  refine go1 [] [] (cns Tryz.results89 trivial) ?_
  exact ⟨by simp, by simp [inO, ofL']⟩
theorem ext_take (t : List UInt8) (m : Nat) (h : m ≤ t.length) : ByteArray.extract (ofL' t) 0 m = ofL' (t.take m) := by
  apply ByteArray.ext
  apply Array.ext'
  simp [ofL', ByteArray.data_extract]
theorem ext_drop (t : List UInt8) (m : Nat) : ByteArray.extract (ofL' t) m t.length = ofL' (t.drop m) := by
  apply ByteArray.ext
  apply Array.ext'
  simp [ofL', ByteArray.data_extract]
  exact List.take_of_length_le (by simp)
theorem inRaw_spec {l : Nat} {st : RdS} {σ : Sto} (n : Int) (h : σ[l]? = some (inO st)) : Spec Tryz.prog 88 [.mp l 0 0, .sc (.int .i64 n)] σ fun r σ' => r = .sc (.string (ofL' (rawL n st).1)) ∧ σ' = σ.set l (inO (rawL n st).2) := by
  have hf := inFail_spec h
  unfold inO at h
  obtain ⟨t, b⟩ := st
  by_cases hc : b = false ∧ 0 ≤ n ∧ n ≤ t.length
  · obtain ⟨rfl, h0, h1⟩ := hc
    obtain ⟨m, rfl⟩ := Int.eq_ofNat_of_zero_le h0
    have hm : m ≤ t.length := by omega
    have hR : rawL m (t, false) = (t.take m, (t.drop m, false)) := by
      unfold rawL
      rw [if_pos ⟨rfl, h0, h1⟩]
      rfl
    rw [hR]
    have hsz : (ofL' t).size = t.length := by simp [ofL', ByteArray.size]
    clear hR hf h0 h1
    refine spec_intro Tryz.func88 good88 rfl (by simp [Tryz.ntmps88]) ?_
    refine go1 [] [] (cns Tryz.results88 trivial) ?_
    exact ⟨by rw [ext_take _ _ hm], by rw [ext_drop]; rfl⟩
  · have hR : rawL n (t, b) = ([], ([], true)) := by unfold rawL; rw [if_neg hc]
    rw [hR]
    clear hR
    refine spec_intro Tryz.func88 good88 rfl (by simp [Tryz.ntmps88]) ?_
    cases b with
    | true =>
      clear hc
      refine go1 [1] [] (cns Tryz.results88 trivial) ?_
      refine rwf_ca rfl fun C' hC hP => ?_
      clear hP
      (try simp [*, -List.all_eq_true]); (try (simp (disch := first | assumption | omega) only [wrap_id, wrapu_id, wrapb_id, tmod_nn, tdiv_nn, ite_yes, flatM_seg, flatM_0, flatM_1, flatM_2, flatI_seg, flatI_0, flatI_1, flatS_get]; (try simp [*, -List.all_eq_true])))
      refine hC.out _ _ _ (hf) fun r S1 hq => ?_
      clear hC C'
      obtain ⟨rfl, rfl⟩ := hq
      refine go1 [] [] (cns Tryz.results88 trivial) ?_
      exact ⟨by simp [ofL'], rfl⟩
    | false =>
      have hsz : (ofL' t).size = t.length := by simp [ofL', ByteArray.size]
      rcases (by omega : n < 0 ∨ 0 ≤ n) with h0 | h0
      · clear hc
        refine go1 [] [] (cns Tryz.results88 trivial) ?_
        refine rwf_ca rfl fun C' hC hP => ?_
        clear hP
        (try simp [*, -List.all_eq_true]); (try (simp (disch := first | assumption | omega) only [wrap_id, wrapu_id, wrapb_id, tmod_nn, tdiv_nn, ite_yes, flatM_seg, flatM_0, flatM_1, flatM_2, flatI_seg, flatI_0, flatI_1, flatS_get]; (try simp [*, -List.all_eq_true])))
        refine hC.out _ _ _ (hf) fun r S1 hq => ?_
        clear hC C'
        obtain ⟨rfl, rfl⟩ := hq
        refine go1 [] [] (cns Tryz.results88 trivial) ?_
        exact ⟨by simp [ofL'], rfl⟩
      · have h1 : (t.length : Int) < n := by
          rcases (by omega : (t.length : Int) < n ∨ n ≤ t.length) with h | h
          · exact h
          · exact absurd ⟨rfl, h0, h⟩ hc
        clear hc
        refine go1 [] [] (cns Tryz.results88 trivial) ?_
        refine rwf_ca rfl fun C' hC hP => ?_
        clear hP
        (try simp [*, -List.all_eq_true]); (try (simp (disch := first | assumption | omega) only [wrap_id, wrapu_id, wrapb_id, tmod_nn, tdiv_nn, ite_yes, flatM_seg, flatM_0, flatM_1, flatM_2, flatI_seg, flatI_0, flatI_1, flatS_get]; (try simp [*, -List.all_eq_true])))
        refine hC.out _ _ _ (hf) fun r S1 hq => ?_
        clear hC C'
        obtain ⟨rfl, rfl⟩ := hq
        refine go1 [] [] (cns Tryz.results88 trivial) ?_
        exact ⟨by simp [ofL'], rfl⟩
theorem isWidth_spec (x : Int) : PSpec Tryz.prog 87 [.sc (.int .i64 x)] (.sc (.bool (Old.isWidth x))) :=
  pspec_gives [.int .i64 x] good87 fun w => (Old.isWidth_calls x w).mono fun e w' h => ⟨h.1, h.2 ▸ Below.refl _ _⟩
/-- A number of one byte, or two. -/
theorem inNum_spec {l : Nat} {st : RdS} {σ : Sto} (n : Nat) (hn : n = 1 ∨ n = 2) (h : σ[l]? = some (inO st)) : Spec Tryz.prog 37 [.mp l 0 0, .sc (.int .i64 n)] σ fun r σ' => r = .sc (.int .i64 (numL n st).1) ∧ σ' = σ.set l (inO (numL n st).2) := by
  have hr := inRaw_spec n h
  have hw := isWidth_spec (n : Int)
  have hwt : Old.isWidth (n : Int) = true := by rcases hn with rfl | rfl <;> decide
  rw [hwt] at hw
  have hlen : (rawL n st).1.length ≤ 2 := by
    unfold rawL
    split
    · rcases hn with rfl | rfl <;> simp <;> omega
    · simp
  unfold numL
  obtain ⟨⟨t, st'⟩, hR⟩ : ∃ q, q = rawL n st := ⟨_, rfl⟩
  rw [← hR] at hr hlen ⊢
  simp only at hr hlen ⊢
  clear hR hn hwt h
  refine spec_intro Tryz.func37 good37 rfl (by simp [Tryz.ntmps37]) ?_
  refine go1 [] [] (cns hw (cns Tryz.results37 trivial)) ?_
  refine rwf_ca rfl fun C' hC hP => ?_
  clear hP
  (try simp [*, -List.all_eq_true]); (try (simp (disch := first | assumption | omega) only [wrap_id, wrapu_id, wrapb_id, tmod_nn, tdiv_nn, ite_yes, flatM_seg, flatM_0, flatM_1, flatM_2, flatI_seg, flatI_0, flatI_1, flatS_get]; (try simp [*, -List.all_eq_true])))
  refine hC.out _ _ _ (hr) fun r S1 hq => ?_
  clear hC C'
  obtain ⟨rfl, rfl⟩ := hq
  have hby : bytesA (ofL' t) = bytesL t := by simp [bytesA, bytesL, ofL']
  have hsz : (ofL' t).size = t.length := by simp [ofL', ByteArray.size]
  generalize List.set σ l (inO st') = S2
  refine go1 [] [] (cns Tryz.results37 trivial) ?_
  refine tri_for [0, 4, 14, 15] t.length (fun k_ e σ => σ = S2 ∧ e 16 = .sc (.int .i64 k_) ∧ e 5 = .sc (.int .i64 (beN (t.take k_)))) ?_ (fun j env' σ' hlt hk hI => ?_) (fun env' σ' hk hI => ?_)
  · exact ⟨rfl, by simp, by simp [beN]⟩
  · skip
    (try simp at hk)
    obtain ⟨rfl, h16, h5⟩ := hI
    have hg := t[j].toNat_lt
    have hcl : ∀ h, (bytesL t)[j]'h = .sc (.int .u8 t[j].toNat) := fun h => by simp [bytesL]
    have hx : beN (t.take (j + 1)) = beN (t.take j) * 256 + t[j].toNat := by
      rw [List.take_succ_eq_append_getElem hlt, beN, List.foldl_append]; rfl
    have hb : beN (t.take j) < 256 := by
      rcases (by omega : j = 0 ∨ j = 1) with rfl | rfl
      · simp [beN]
      · match t, hlt with
        | a :: _, _ => simp [beN]; exact a.toNat_lt
    generalize beN (t.take (j + 1)) = y at hx ⊢
    subst hx
    generalize beN (t.take j) = x at hb h5 ⊢
    generalize t[j].toNat = z at hg hcl ⊢
    have hsh : IntKind.i64.wrap ((x : Int) * 256) = (x : Int) * 256 := by rw [IntKind.wrap_i64]; omega
    refine go1 [] [] (cns Tryz.results37 trivial) ?_
    refine ⟨by simp [*], rfl, by simp, ?_⟩
    have hor : x * 256 ||| z = x * 256 + z := by
      have := Nat.shiftLeft_add_eq_or_of_lt (show z < 2 ^ 8 by omega) x
      rw [Nat.shiftLeft_eq, show x * 2 ^ 8 = x * 256 from rfl] at this
      exact this.symm
    have e1 : ((x : Int) * 256 % 2 ^ 64).toNat = x * 256 := by omega
    have e2 : z % 2 ^ 64 = z := by omega
    simp
    rw [show IntKind.i64.bits = 64 from rfl, show min 8 64 = 8 from rfl, show (x : Int) * 2 ^ 8 = x * 256 from rfl, hsh, e1, e2, hor, IntKind.wrap_i64]
    omega
  · skip
    (try simp at hk)
    obtain ⟨rfl, h16, h5⟩ := hI
    rw [List.take_length] at h5
    generalize beN t = x at h5 ⊢
    refine go1 [] [] (cns Tryz.results37 trivial) ?_
    exact ⟨rfl, rfl⟩
/-- A text of so many bytes at most. -/
theorem inText_spec {l : Nat} {st : RdS} {σ : Sto} (most : Nat) (hm : most < 256) (h : σ[l]? = some (inO st)) : Spec Tryz.prog 123 [.mp l 0 0, .sc (.int .i64 most)] σ fun r σ' => r = .sc (.string (ofL' (textL most st).1)) ∧ σ' = σ.set l (inO (textL most st).2) := by
  have hn := inNum_spec 1 (.inl rfl) h
  have hr := inRaw_spec (σ := σ.set l (inO (numL 1 st).2)) (if most < (numL 1 st).1 then -1 else ((numL 1 st).1 : Int)) (List.getElem?_set_self (lt_of_get h))
  rw [List.set_set] at hr
  unfold textL
  generalize rawL (if most < (numL 1 st).1 then -1 else ((numL 1 st).1 : Int)) (numL 1 st).2 = q at hr ⊢
  generalize List.set σ l (inO (numL 1 st).2) = S1 at hn hr
  generalize List.set σ l (inO q.2) = S2 at hr ⊢
  generalize (numL 1 st).1 = z at hn hr
  generalize ofL' q.1 = t at hr ⊢
  clear h
  refine spec_intro Tryz.func123 good123 rfl (by simp [Tryz.ntmps123]) ?_
  refine go1 [] [] (cns Tryz.results123 trivial) ?_
  refine rwf_ca rfl fun C' hC hP => ?_
  clear hP
  (try simp [*, -List.all_eq_true]); (try (simp (disch := first | assumption | omega) only [wrap_id, wrapu_id, wrapb_id, tmod_nn, tdiv_nn, ite_yes, flatM_seg, flatM_0, flatM_1, flatM_2, flatI_seg, flatI_0, flatI_1, flatS_get]; (try simp [*, -List.all_eq_true])))
  refine hC.out _ _ _ (hn) fun r S3 hq => ?_
  clear hC C'
  obtain ⟨rfl, rfl⟩ := hq
  by_cases hz : most < z
  · rw [if_pos hz] at hr
    refine go1 [] [] (cns Tryz.results123 trivial) ?_
    refine rwf_ca rfl fun C' hC hP => ?_
    clear hP
    (try simp [*, -List.all_eq_true]); (try (simp (disch := first | assumption | omega) only [wrap_id, wrapu_id, wrapb_id, tmod_nn, tdiv_nn, ite_yes, flatM_seg, flatM_0, flatM_1, flatM_2, flatI_seg, flatI_0, flatI_1, flatS_get]; (try simp [*, -List.all_eq_true])))
    refine hC.out _ _ _ (hr) fun r S4 hq => ?_
    clear hC C'
    obtain ⟨rfl, rfl⟩ := hq
    refine go1 [] [] (cns Tryz.results123 trivial) ?_
    exact ⟨rfl, rfl⟩
  · rw [if_neg hz] at hr
    refine go1 [] [] (cns Tryz.results123 trivial) ?_
    refine rwf_ca rfl fun C' hC hP => ?_
    clear hP
    (try simp [*, -List.all_eq_true]); (try (simp (disch := first | assumption | omega) only [wrap_id, wrapu_id, wrapb_id, tmod_nn, tdiv_nn, ite_yes, flatM_seg, flatM_0, flatM_1, flatM_2, flatI_seg, flatI_0, flatI_1, flatS_get]; (try simp [*, -List.all_eq_true])))
    refine hC.out _ _ _ (hr) fun r S4 hq => ?_
    clear hC C'
    obtain ⟨rfl, rfl⟩ := hq
    refine go1 [] [] (cns Tryz.results123 trivial) ?_
    exact ⟨rfl, rfl⟩
end Go.Proofs.YticpnfgiidljlaaGreat
