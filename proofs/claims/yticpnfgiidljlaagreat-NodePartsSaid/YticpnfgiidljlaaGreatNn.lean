/- Nodes, plainly: which bytes are a node's. -/
import Derived.Test.YticpnfgiidljlaaGreatNm
import Derived.Test.YticpnfgiidljlaaGreatPoi
namespace Go.Proofs.YticpnfgiidljlaaGreat
open Go.RowKit
set_option linter.unusedSimpArgs false
set_option linter.unusedVariables false
theorem putL_last {m : Msg} : ∀ (l : List Msg), (∀ x ∈ l, slt x.key m.key = true) → putL l m = l ++ [m]
  | [], _ => rfl
  | a :: l, h => by
    unfold putL
    rw [if_pos (h a List.mem_cons_self), putL_last l fun x hx => h x (List.mem_cons_of_mem _ hx)]
    rfl
theorem with_go : ∀ (l a : List Msg), (a ++ l).Pairwise (fun x y => slt x.key y.key = true) → withM a l = a ++ l
  | [], a, _ => by simp [withM]
  | m :: l, a, h => by
    have h1 : putM a m = a ++ [m] := by
      rw [putM_eq]
      exact putL_last a fun x hx => (List.pairwise_append.1 h).2.2 x hx m List.mem_cons_self
    have h2 := with_go l (a ++ [m]) (by simpa using h)
    show withM (putM a m) l = _
    rw [h1, h2]
    simp
theorem with_self {l : List Msg} (h : Rise l) : withM [] l = l := by
  have := with_go l [] (by simpa using rise_iff.1 h)
  simpa using this
/-- A node as it is made. -/
def NodeV.good : NodeV → Prop
  | .l o => RiseI o ∧ ∀ x ∈ o, okI x = true
  | .i k p m => goodIn k p = true ∧ Rise m ∧ ∀ x ∈ m, isMsg x = true
theorem nodeL_good {l : List Item} {n : NodeV} (h : nodeL l = some n) : n.good := by
  unfold nodeL at h
  split at h
  · rename_i ha
    cases ho : ofL l with
    | none => rw [ho] at h; cases h
    | some o =>
      rw [ho] at h
      cases h
      exact ⟨(ofL_some ho).1, ofL_all ho ha⟩
  · cases h
theorem nodeI_good {k : List Int} {p : List Str} {m : List Msg} {n : NodeV} (h : nodeI k p m = some n) : n.good := by
  unfold nodeI at h
  split at h
  · rename_i hc
    cases h
    have hw := withM_ok m [] (by simp [Rise]) (by simp) (List.all_eq_true.1 hc.1)
    exact ⟨hc.2, hw.1, hw.2.1⟩
  · cases h
theorem parse_good {s : Str} {n : NodeV} (h : parseV s = some n) : n.good ∧ n.fits = true ∧ ofL' n.bytes = s := by
  unfold parseV at h
  simp only at h
  obtain ⟨q, h1, h2⟩ := Option.bind_eq_some_iff.1 h
  split at h2
  · rename_i hc
    cases h2
    refine ⟨?_, hc⟩
    split at h1
    · exact nodeL_good h1
    · split at h1
      · exact nodeI_good h1
      · cases h1
  · cases h2
theorem okI_small {x : Item} (h : okI x = true) : x.key.size ≤ 8 ∧ x.val.size ≤ 16 := by
  rw [okI_is] at h
  simp [isKey, isVal] at h
  omega
theorem kidsI_toNat {k : List Int} (h : ∀ x ∈ k, 0 ≤ x) : kidsI (k.map Int.toNat) = k := by
  unfold kidsI
  rw [List.map_map]
  conv => rhs; rw [← List.map_id k]
  refine List.map_congr_left fun x hx => ?_
  have := h x hx
  show Int.ofNat x.toNat = x
  exact Int.toNat_of_nonneg this
theorem pivS_strL (p : List Str) : pivS (p.map strL) = p := by
  unfold pivS
  rw [List.map_map]
  conv => rhs; rw [← List.map_id p]
  exact List.map_congr_left fun x _ => ofL_strL x
theorem parse_of {n : NodeV} (hg : n.good) (hf : n.fits = true) : parseV (ofL' n.bytes) = some n := by
  unfold parseV
  have hst : (ofL' n.bytes).data.toList = n.bytes := by simp [ofL']
  rw [hst]
  cases n with
  | l o =>
    obtain ⟨h1, h2⟩ := hg
    have hw : iwts o ≤ 240 := by simpa [NodeV.fits] using hf
    have hl := iwts_len o
    have hb : (NodeV.l o).bytes = UInt8.ofNat 1 :: (UInt8.ofNat o.length :: (o.flatMap itemB ++ [])) := by simp [NodeV.bytes, leafB]
    rw [hb, num1_ok 1 (by omega)]
    simp only
    rw [if_pos trivial, leaf_ok (by omega) (fun x hx => okI_small (h2 x hx)) []]
    simp only
    have hn : nodeL o = some (.l o) := by
      unfold nodeL
      rw [if_pos (List.all_eq_true.2 h2), ofL_rise h1]
      rfl
    rw [hn, Option.bind_some, if_pos ⟨hf, by rw [hb]⟩]
  | i k p m =>
    obtain ⟨h1, h2, h3⟩ := hg
    obtain ⟨g1, g2, g3, g4⟩ := goodIn_iff.1 h1
    obtain ⟨f1, f2, f3⟩ := fitsIn_iff.1 hf
    have hl := mwts_len m
    have hb : (NodeV.i k p m).bytes = UInt8.ofNat 2 :: (UInt8.ofNat (k.map Int.toNat).length :: ((k.map Int.toNat).flatMap (fun k => numB k 2) ++ ((p.map strL).flatMap textB ++ UInt8.ofNat m.length :: (m.flatMap msgB ++ [])))) := by
      simp [NodeV.bytes, innerB, List.flatMap_map]
    rw [hb, num1_ok 2 (by omega)]
    simp only
    rw [if_neg (by omega), if_pos trivial, inner_ok (by simp; omega) (by simp; omega) (by omega) (by
      intro x hx
      obtain ⟨y, hy, rfl⟩ := List.mem_map.1 hx
      have := f3 y hy
      omega) (by
      intro x hx
      obtain ⟨y, hy, rfl⟩ := List.mem_map.1 hx
      have := isKey_size (riseB_keys g4 y hy)
      rw [strL_len]
      omega) h3 []]
    simp only
    rw [kidsI_toNat g3, pivS_strL]
    have hn : nodeI k p m = some (.i k p m) := by
      unfold nodeI
      rw [if_pos ⟨List.all_eq_true.2 h3, h1⟩, with_self h2]
    rw [hn, Option.bind_some, if_pos ⟨hf, by rw [hb]⟩]
end Go.Proofs.YticpnfgiidljlaaGreat
