/- The document's reading of a node, plainly: what is looked at while it reads. -/
import Derived.Test.YticpnfgiidljlaaGreatNn
namespace Go.Proofs.YticpnfgiidljlaaGreat
open Go.RowKit
set_option linter.unusedSimpArgs false
set_option linter.unusedVariables false
def kindN (s : List UInt8) : Nat := (numL 1 (s, false)).1
/-- What is read of bytes, unlooked at. -/
def decN (s : List UInt8) : NodeV × RdS :=
  if kindN s = 1 then (.l (decLeaf (numL 1 (s, false)).2).1, (decLeaf (numL 1 (s, false)).2).2)
  else (.i (kidsI (decInner (numL 1 (s, false)).2).1.1) (pivS (decInner (numL 1 (s, false)).2).1.2.1) (decInner (numL 1 (s, false)).2).1.2.2, (decInner (numL 1 (s, false)).2).2)
theorem dec_ok {n : NodeV} (hg : n.good) (hf : n.fits = true) (rest : List UInt8) : (kindN (n.bytes ++ rest) = 1 ∨ kindN (n.bytes ++ rest) = 2) ∧ decN (n.bytes ++ rest) = (n, (rest, false)) := by
  cases n with
  | l o =>
    obtain ⟨h1, h2⟩ := hg
    have hw : iwts o ≤ 240 := by simpa [NodeV.fits] using hf
    have hl := iwts_len o
    have hb : (NodeV.l o).bytes ++ rest = UInt8.ofNat 1 :: (UInt8.ofNat o.length :: (o.flatMap itemB ++ rest)) := by simp [NodeV.bytes, leafB]
    have hk : kindN ((NodeV.l o).bytes ++ rest) = 1 := by unfold kindN; rw [hb, num1_ok 1 (by omega)]
    refine ⟨.inl hk, ?_⟩
    unfold decN
    rw [if_pos hk, hb, num1_ok 1 (by omega)]
    simp only
    rw [leaf_ok (by omega) (fun x hx => okI_small (h2 x hx)) rest]
  | i k p m =>
    obtain ⟨h1, h2, h3⟩ := hg
    obtain ⟨g1, g2, g3, g4⟩ := goodIn_iff.1 h1
    obtain ⟨f1, f2, f3⟩ := fitsIn_iff.1 hf
    have hl := mwts_len m
    have hb : (NodeV.i k p m).bytes ++ rest = UInt8.ofNat 2 :: (UInt8.ofNat (k.map Int.toNat).length :: ((k.map Int.toNat).flatMap (fun k => numB k 2) ++ ((p.map strL).flatMap textB ++ UInt8.ofNat m.length :: (m.flatMap msgB ++ rest)))) := by
      simp [NodeV.bytes, innerB, List.flatMap_map]
    have hk : kindN ((NodeV.i k p m).bytes ++ rest) = 2 := by unfold kindN; rw [hb, num1_ok 2 (by omega)]
    refine ⟨.inr hk, ?_⟩
    unfold decN
    rw [if_neg (by omega), hb, num1_ok 2 (by omega)]
    simp only
    rw [inner_ok (by simp; omega) (by simp; omega) (by omega) (by
      intro x hx
      obtain ⟨y, hy, rfl⟩ := List.mem_map.1 hx
      have := f3 y hy
      omega) (by
      intro x hx
      obtain ⟨y, hy, rfl⟩ := List.mem_map.1 hx
      have := isKey_size (riseB_keys g4 y hy)
      rw [strL_len]
      omega) h3 rest]
    simp only
    rw [kidsI_toNat g3, pivS_strL]
/-- No node's bytes begin another one's. -/
theorem bytes_pre {n n' : NodeV} (hg : n.good) (hf : n.fits = true) (hg' : n'.good) (hf' : n'.fits = true) {rest : List UInt8} (h : n.bytes ++ rest = n'.bytes) : n = n' ∧ rest = [] := by
  have h1 := (dec_ok hg hf rest).2
  have h2 := (dec_ok hg' hf' []).2
  rw [List.append_nil, ← h, h1] at h2
  simp only [Prod.mk.injEq] at h2
  exact ⟨h2.1, h2.2.1⟩
theorem parse_more {n : NodeV} (hg : n.good) (hf : n.fits = true) (b : UInt8) : parseV (ofL' (n.bytes ++ [b])) = none := by
  cases hp : parseV (ofL' (n.bytes ++ [b])) with
  | none => rfl
  | some n' =>
    obtain ⟨h1, h2, h3⟩ := parse_good hp
    have := bytes_pre hg hf h1 h2 (rest := [b]) (by have := congrArg strL h3; simpa using this.symm)
    exact absurd this.2 (by simp)
theorem bytes_ne (n : NodeV) : n.bytes ≠ [] := by
  cases n with
  | l o => simp [NodeV.bytes, leafB]
  | i k p m => simp [NodeV.bytes, innerB]
theorem parse_less {n : NodeV} (hg : n.good) (hf : n.fits = true) : parseV (ofL' (n.bytes.take (n.bytes.length - 1))) = none := by
  cases hp : parseV (ofL' (n.bytes.take (n.bytes.length - 1))) with
  | none => rfl
  | some n' =>
    obtain ⟨h1, h2, h3⟩ := parse_good hp
    have h4 : n'.bytes = n.bytes.take (n.bytes.length - 1) := by have := congrArg strL h3; simpa using this
    have h5 := bytes_pre h1 h2 hg hf (rest := n.bytes.drop (n.bytes.length - 1)) (by rw [h4, List.take_append_drop])
    have h6 := congrArg List.length h5.2
    have h7 : 0 < n.bytes.length := List.length_pos_iff.2 (bytes_ne n)
    rw [List.length_drop] at h6
    simp at h6
    omega
end Go.Proofs.YticpnfgiidljlaaGreat
namespace Go.Proofs.YticpnfgiidljlaaGreat
open Go.RowKit
set_option linter.unusedSimpArgs false
set_option linter.unusedVariables false
theorem pw_adj {α : Type} (key : α → Str) {l : List α} (h : ∀ j (h1 : j < l.length) (h2 : j + 1 < l.length), slt (key l[j]) (key l[j + 1]) = true) : l.Pairwise (fun x y => slt (key x) (key y) = true) := by
  rw [List.pairwise_iff_getElem]
  intro i j hi hj hij
  obtain ⟨d, rfl⟩ : ∃ d, j = i + 1 + d := ⟨j - (i + 1), by omega⟩
  clear hij
  induction d with
  | zero => exact h i hi hj
  | succ d ih => exact slt_trans (ih (by omega)) (h (i + 1 + d) (by omega) hj)
theorem adj_pw {α : Type} (key : α → Str) {l : List α} (h : l.Pairwise (fun x y => slt (key x) (key y) = true)) (j : Nat) (h1 : j < l.length) (h2 : j + 1 < l.length) : slt (key l[j]) (key l[j + 1]) = true :=
  List.pairwise_iff_getElem.1 h j (j + 1) h1 h2 (by omega)
theorem ofL'_len (l : List UInt8) : (ofL' l).size = l.length := by simp [ofL', ByteArray.size]
end Go.Proofs.YticpnfgiidljlaaGreat
