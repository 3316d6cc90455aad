/- The document's Parse; NodeParse's body, NodeBack's. -/
import Derived.Test.YticpnfgiidljlaaGreatNn
import Derived.Test.YticpnfgiidljlaaGreatNt
import Derived.Test.YticpnfgiidljlaaGreatLr
import Derived.Test.YticpnfgiidljlaaGreatNi
import Derived.Test.YticpnfgiidljlaaGreatNp
import Derived.Test.YticpnfgiidljlaaGreatNr
namespace Go.Proofs.YticpnfgiidljlaaGreat
open Go.RowKit
set_option linter.unusedSimpArgs false
set_option linter.unusedVariables false
def kindN (s : List UInt8) : Nat := (numL 1 (s, false)).1
/-- What is read of bytes, unlooked at. -/
def decN (s : List UInt8) : NodeV × RdS :=
  if kindN s = 1 then (.l (decLeaf (numL 1 (s, false)).2).1, (decLeaf (numL 1 (s, false)).2).2)
  else (.i (kidsI (decInner (numL 1 (s, false)).2).1.1) (pivS (decInner (numL 1 (s, false)).2).1.2.1) (decInner (numL 1 (s, false)).2).1.2.2, (decInner (numL 1 (s, false)).2).2)
theorem dec_ok {n : NodeV} (hg : n.good) (hf : n.fits = true) (rest : List UInt8) : (kindN (n.bytes ++ rest) = 1 ∨ kindN (n.bytes ++ rest) = 2) ∧ decN (n.bytes ++ rest) = (n, (rest, false)) := by
  cases n with
  | l o =>
    obtain ⟨h1, h2⟩ := hg
    have hw : iwts o ≤ 240 := by simpa [NodeV.fits] using hf
    have hl := iwts_len o
    have hb : (NodeV.l o).bytes ++ rest = UInt8.ofNat 1 :: (UInt8.ofNat o.length :: (o.flatMap itemB ++ rest)) := by simp [NodeV.bytes, leafB]
    have hk : kindN ((NodeV.l o).bytes ++ rest) = 1 := by unfold kindN; rw [hb, num1_ok 1 (by omega)]
    refine ⟨.inl hk, ?_⟩
    unfold decN
    rw [if_pos hk, hb, num1_ok 1 (by omega)]
    simp only
    rw [leaf_ok (by omega) (fun x hx => okI_small (h2 x hx)) rest]
  | i k p m =>
    obtain ⟨h1, h2, h3⟩ := hg
    obtain ⟨g1, g2, g3, g4⟩ := goodIn_iff.1 h1
    obtain ⟨f1, f2, f3⟩ := fitsIn_iff.1 hf
    have hl := mwts_len m
    have hb : (NodeV.i k p m).bytes ++ rest = UInt8.ofNat 2 :: (UInt8.ofNat (k.map Int.toNat).length :: ((k.map Int.toNat).flatMap (fun k => numB k 2) ++ ((p.map strL).flatMap textB ++ UInt8.ofNat m.length :: (m.flatMap msgB ++ rest)))) := by
      simp [NodeV.bytes, innerB, List.flatMap_map]
    have hk : kindN ((NodeV.i k p m).bytes ++ rest) = 2 := by unfold kindN; rw [hb, num1_ok 2 (by omega)]
    refine ⟨.inr hk, ?_⟩
    unfold decN
    rw [if_neg (by omega), hb, num1_ok 2 (by omega)]
    simp only
    rw [inner_ok (by simp; omega) (by simp; omega) (by omega) (by
      intro x hx
      obtain ⟨y, hy, rfl⟩ := List.mem_map.1 hx
      have := f3 y hy
      omega) (by
      intro x hx
      obtain ⟨y, hy, rfl⟩ := List.mem_map.1 hx
      have := isKey_size (riseB_keys g4 y hy)
      rw [strL_len]
      omega) h3 rest]
    simp only
    rw [kidsI_toNat g3, pivS_strL]
/-- No node's bytes begin another one's. -/
theorem bytes_pre {n n' : NodeV} (hg : n.good) (hf : n.fits = true) (hg' : n'.good) (hf' : n'.fits = true) {rest : List UInt8} (h : n.bytes ++ rest = n'.bytes) : n = n' ∧ rest = [] := by
  have h1 := (dec_ok hg hf rest).2
  have h2 := (dec_ok hg' hf' []).2
  rw [List.append_nil, ← h, h1] at h2
  simp only [Prod.mk.injEq] at h2
  exact ⟨h2.1, h2.2.1⟩
theorem parse_more {n : NodeV} (hg : n.good) (hf : n.fits = true) (b : UInt8) : parseV (ofL' (n.bytes ++ [b])) = none := by
  cases hp : parseV (ofL' (n.bytes ++ [b])) with
  | none => rfl
  | some n' =>
    obtain ⟨h1, h2, h3⟩ := parse_good hp
    have := bytes_pre hg hf h1 h2 (rest := [b]) (by have := congrArg strL h3; simpa using this.symm)
    exact absurd this.2 (by simp)
theorem bytes_ne (n : NodeV) : n.bytes ≠ [] := by
  cases n with
  | l o => simp [NodeV.bytes, leafB]
  | i k p m => simp [NodeV.bytes, innerB]
theorem parse_less {n : NodeV} (hg : n.good) (hf : n.fits = true) : parseV (ofL' (n.bytes.take (n.bytes.length - 1))) = none := by
  cases hp : parseV (ofL' (n.bytes.take (n.bytes.length - 1))) with
  | none => rfl
  | some n' =>
    obtain ⟨h1, h2, h3⟩ := parse_good hp
    have h4 : n'.bytes = n.bytes.take (n.bytes.length - 1) := by have := congrArg strL h3; simpa using this
    have h5 := bytes_pre h1 h2 hg hf (rest := n.bytes.drop (n.bytes.length - 1)) (by rw [h4, List.take_append_drop])
    have h6 := congrArg List.length h5.2
    have h7 : 0 < n.bytes.length := List.length_pos_iff.2 (bytes_ne n)
    rw [List.length_drop] at h6
    simp at h6
    omega
end Go.Proofs.YticpnfgiidljlaaGreat
namespace Go.Proofs.YticpnfgiidljlaaGreat
open Go.RowKit
set_option linter.unusedSimpArgs false
set_option linter.unusedVariables false
def NodeV.isL : NodeV → Bool
  | .l _ => true
  | .i _ _ _ => false
def NodeV.small : NodeV → Prop
  | .l o => o.length ≤ 90000
  | .i k p m => k.length ≤ 90000 ∧ p.length ≤ 90000 ∧ m.length ≤ 90000
theorem dFits_v (n : NodeV) (h : n.small) : PSpec Tryz.prog 11 [n.av] (.sc (.bool n.fits)) := by
  cases n with
  | l o => exact dFits_l o
  | i k p m => exact dFits_i k p m (by have := h.1; omega)
def sameB : NodeV → NodeV → Bool
  | .l o, .l o' => decide (o = o')
  | .i k p m, .i k' p' m' => decide (k = k') && decide (p = p') && decide (m = m')
  | _, _ => false
theorem dSame_v (n n' : NodeV) (h : n.small) (h' : n'.small) : PSpec Tryz.prog 13 [n.av, n'.av] (.sc (.bool (sameB n n'))) := by
  cases n with
  | l o =>
    cases n' with
    | l o' => exact dSame_ll o o' (by have : o.length ≤ 90000 := h; omega) (by have : o'.length ≤ 90000 := h'; omega)
    | i k p m => exact dSame_li o k p m
  | i k p m =>
    cases n' with
    | l o => exact dSame_il o k p m
    | i k' p' m' =>
      obtain ⟨a, b, c⟩ := h
      obtain ⟨a', b', c'⟩ := h'
      exact dSame_ii k k' p p' m m' (by omega) (by omega) (by omega) (by omega) (by omega) (by omega)
def NodeV.kids : NodeV → List Int
  | .l _ => []
  | .i k _ _ => k
def NodeV.ms : NodeV → List Msg
  | .l _ => []
  | .i _ _ m => m
theorem dBytes_g (n : NodeV) (hg : n.good) (h : n.small) : PSpec Tryz.prog 10 [n.av] (if n.fits = true then .tup [.sc (.string (ofL' n.bytes)), .sc (.int .i64 0)] else .tup [.sc (.string ⟨#[]⟩), .sc (.int .i64 8)]) := by
  refine dBytes_v n ?_
  cases n with
  | l o => trivial
  | i k p m => exact ⟨hg.1, hg.2.2, by have := h.1; omega⟩
end Go.Proofs.YticpnfgiidljlaaGreat
namespace Go.Proofs.YticpnfgiidljlaaGreat
open Go.RowKit
set_option linter.unusedSimpArgs false
set_option linter.unusedVariables false
set_option maxRecDepth 10000
theorem great12_no {o : List Item} {k : List Int} {p : List Str} {m : List Msg} (h : great12 o k p m = false) : o.length ≤ 60 ∧ k.length ≤ 30 ∧ p.length ≤ 30 ∧ m.length ≤ 40 := by
  unfold great12 at h
  simp only [Bool.or_eq_false_iff, decide_eq_false_iff_not] at h
  omega
theorem madeV_good {b : Bool} {o : List Item} {k : List Int} {p : List Str} {m : List Msg} {n : NodeV} (h : madeV b o k p m = some n) : n.good := by
  unfold madeV at h
  split at h
  · exact nodeL_good h
  · exact nodeI_good h
theorem madeV_isL {b : Bool} {o : List Item} {k : List Int} {p : List Str} {m : List Msg} {n : NodeV} (h : madeV b o k p m = some n) : n.isL = b := by
  unfold madeV at h
  cases b with
  | true =>
    rw [if_pos rfl] at h
    unfold nodeL at h
    split at h
    · cases ho : ofL o <;> rw [ho] at h <;> cases h
      rfl
    · cases h
  | false =>
    rw [if_neg (by simp)] at h
    unfold nodeI at h
    split at h
    · cases h; rfl
    · cases h
theorem madeV_small {b : Bool} {o : List Item} {k : List Int} {p : List Str} {m : List Msg} {n : NodeV} (h : madeV b o k p m = some n) (h0 : o.length ≤ 60) (h1 : k.length ≤ 30) (h2 : p.length ≤ 30) (h3 : m.length ≤ 40) : n.small := by
  unfold madeV at h
  cases b with
  | true =>
    rw [if_pos rfl] at h
    unfold nodeL at h
    split at h
    · cases ho : ofL o with
      | none => rw [ho] at h; cases h
      | some q =>
        rw [ho] at h
        cases h
        have := (ofL_some ho).2.length_eq
        show q.length ≤ 90000
        omega
    · cases h
  | false =>
    rw [if_neg (by simp)] at h
    unfold nodeI at h
    split at h
    · rename_i hc
      cases h
      have := (withM_ok m [] (by simp [Rise]) (by simp) (List.all_eq_true.1 hc.1)).2.2
      refine ⟨by omega, by omega, ?_⟩
      simp at this
      omega
    · cases h
end Go.Proofs.YticpnfgiidljlaaGreat
namespace Go.Proofs.YticpnfgiidljlaaGreat
open Go.RowKit
set_option linter.unusedSimpArgs false
set_option linter.unusedVariables false
theorem pw_adj {α : Type} (key : α → Str) {l : List α} (h : ∀ j (h1 : j < l.length) (h2 : j + 1 < l.length), slt (key l[j]) (key l[j + 1]) = true) : l.Pairwise (fun x y => slt (key x) (key y) = true) := by
  rw [List.pairwise_iff_getElem]
  intro i j hi hj hij
  obtain ⟨d, rfl⟩ : ∃ d, j = i + 1 + d := ⟨j - (i + 1), by omega⟩
  clear hij
  induction d with
  | zero => exact h i hi hj
  | succ d ih => exact slt_trans (ih (by omega)) (h (i + 1 + d) (by omega) hj)
theorem adj_pw {α : Type} (key : α → Str) {l : List α} (h : l.Pairwise (fun x y => slt (key x) (key y) = true)) (j : Nat) (h1 : j < l.length) (h2 : j + 1 < l.length) : slt (key l[j]) (key l[j + 1]) = true :=
  List.pairwise_iff_getElem.1 h j (j + 1) h1 h2 (by omega)
theorem ofL'_len (l : List UInt8) : (ofL' l).size = l.length := by simp [ofL', ByteArray.size]
end Go.Proofs.YticpnfgiidljlaaGreat
namespace Go.Proofs.YticpnfgiidljlaaGreat
open Go.RowKit
set_option linter.unusedSimpArgs false
end Go.Proofs.YticpnfgiidljlaaGreat
namespace Go.Proofs.YticpnfgiidljlaaGreat
open Go.RowKit
set_option linter.unusedSimpArgs false
set_option linter.unusedVariables false
set_option maxRecDepth 10000
end Go.Proofs.YticpnfgiidljlaaGreat
namespace Go.Proofs.YticpnfgiidljlaaGreat
open Go.RowKit
set_option linter.unusedSimpArgs false
set_option linter.unusedVariables false
set_option maxRecDepth 10000
end Go.Proofs.YticpnfgiidljlaaGreat
namespace Go.Proofs.YticpnfgiidljlaaGreat
open Go.RowKit
set_option linter.unusedSimpArgs false
set_option linter.unusedVariables false
set_option maxRecDepth 10000
theorem fits_small {n : NodeV} (hg : n.good) (hf : n.fits = true) : n.small := by
  cases n with
  | l o =>
    have hw : iwts o ≤ 240 := by simpa [NodeV.fits] using hf
    have hl := iwts_len o
    show o.length ≤ 90000
    omega
  | i k p m =>
    obtain ⟨g1, g2, g3, g4⟩ := goodIn_iff.1 hg.1
    obtain ⟨f1, f2, f3⟩ := fitsIn_iff.1 hf
    have hl := mwts_len m
    exact ⟨by omega, by omega, by omega⟩
theorem sameB_self (n : NodeV) : sameB n n = true := by cases n <;> simp [sameB]
end Go.Proofs.YticpnfgiidljlaaGreat
