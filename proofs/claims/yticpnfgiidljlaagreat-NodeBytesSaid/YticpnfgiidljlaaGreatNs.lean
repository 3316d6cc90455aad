/- The law's awake: what the document fixes by number. -/
import Derived.Test.YticpnfgiidljlaaGreatNm
import Derived.Test.YticpnfgiidljlaaGreatPoi
import Derived.Test.YticpnfgiidljlaaGreatNq
import Derived.Test.YticpnfgiidljlaaGreatWmh
namespace Go.Proofs.YticpnfgiidljlaaGreat
open Go.RowKit
set_option linter.unusedSimpArgs false
set_option linter.unusedVariables false
theorem putL_last {m : Msg} : ∀ (l : List Msg), (∀ x ∈ l, slt x.key m.key = true) → putL l m = l ++ [m]
  | [], _ => rfl
  | a :: l, h => by
    unfold putL
    rw [if_pos (h a List.mem_cons_self), putL_last l fun x hx => h x (List.mem_cons_of_mem _ hx)]
    rfl
theorem with_go : ∀ (l a : List Msg), (a ++ l).Pairwise (fun x y => slt x.key y.key = true) → withM a l = a ++ l
  | [], a, _ => by simp [withM]
  | m :: l, a, h => by
    have h1 : putM a m = a ++ [m] := by
      rw [putM_eq]
      exact putL_last a fun x hx => (List.pairwise_append.1 h).2.2 x hx m List.mem_cons_self
    have h2 := with_go l (a ++ [m]) (by simpa using h)
    show withM (putM a m) l = _
    rw [h1, h2]
    simp
theorem with_self {l : List Msg} (h : Rise l) : withM [] l = l := by
  have := with_go l [] (by simpa using rise_iff.1 h)
  simpa using this
/-- A node as it is made. -/
def NodeV.good : NodeV → Prop
  | .l o => RiseI o ∧ ∀ x ∈ o, okI x = true
  | .i k p m => goodIn k p = true ∧ Rise m ∧ ∀ x ∈ m, isMsg x = true
theorem nodeL_good {l : List Item} {n : NodeV} (h : nodeL l = some n) : n.good := by
  unfold nodeL at h
  split at h
  · rename_i ha
    cases ho : ofL l with
    | none => rw [ho] at h; cases h
    | some o =>
      rw [ho] at h
      cases h
      exact ⟨(ofL_some ho).1, ofL_all ho ha⟩
  · cases h
theorem nodeI_good {k : List Int} {p : List Str} {m : List Msg} {n : NodeV} (h : nodeI k p m = some n) : n.good := by
  unfold nodeI at h
  split at h
  · rename_i hc
    cases h
    have hw := withM_ok m [] (by simp [Rise]) (by simp) (List.all_eq_true.1 hc.1)
    exact ⟨hc.2, hw.1, hw.2.1⟩
  · cases h
theorem okI_small {x : Item} (h : okI x = true) : x.key.size ≤ 8 ∧ x.val.size ≤ 16 := by
  rw [okI_is] at h
  simp [isKey, isVal] at h
  omega
theorem kidsI_toNat {k : List Int} (h : ∀ x ∈ k, 0 ≤ x) : kidsI (k.map Int.toNat) = k := by
  unfold kidsI
  rw [List.map_map]
  conv => rhs; rw [← List.map_id k]
  refine List.map_congr_left fun x hx => ?_
  have := h x hx
  show Int.ofNat x.toNat = x
  exact Int.toNat_of_nonneg this
theorem pivS_strL (p : List Str) : pivS (p.map strL) = p := by
  unfold pivS
  rw [List.map_map]
  conv => rhs; rw [← List.map_id p]
  exact List.map_congr_left fun x _ => ofL_strL x
theorem parse_of {n : NodeV} (hg : n.good) (hf : n.fits = true) : parseV (ofL' n.bytes) = some n := by
  unfold parseV
  have hst : (ofL' n.bytes).data.toList = n.bytes := by simp [ofL']
  rw [hst]
  cases n with
  | l o =>
    obtain ⟨h1, h2⟩ := hg
    have hw : iwts o ≤ 240 := by simpa [NodeV.fits] using hf
    have hl := iwts_len o
    have hb : (NodeV.l o).bytes = UInt8.ofNat 1 :: (UInt8.ofNat o.length :: (o.flatMap itemB ++ [])) := by simp [NodeV.bytes, leafB]
    rw [hb, num1_ok 1 (by omega)]
    simp only
    rw [if_pos trivial, leaf_ok (by omega) (fun x hx => okI_small (h2 x hx)) []]
    simp only
    have hn : nodeL o = some (.l o) := by
      unfold nodeL
      rw [if_pos (List.all_eq_true.2 h2), ofL_rise h1]
      rfl
    rw [hn, Option.bind_some, if_pos ⟨hf, by rw [hb]⟩]
  | i k p m =>
    obtain ⟨h1, h2, h3⟩ := hg
    obtain ⟨g1, g2, g3, g4⟩ := goodIn_iff.1 h1
    obtain ⟨f1, f2, f3⟩ := fitsIn_iff.1 hf
    have hl := mwts_len m
    have hb : (NodeV.i k p m).bytes = UInt8.ofNat 2 :: (UInt8.ofNat (k.map Int.toNat).length :: ((k.map Int.toNat).flatMap (fun k => numB k 2) ++ ((p.map strL).flatMap textB ++ UInt8.ofNat m.length :: (m.flatMap msgB ++ [])))) := by
      simp [NodeV.bytes, innerB, List.flatMap_map]
    rw [hb, num1_ok 2 (by omega)]
    simp only
    rw [if_neg (by omega), if_pos trivial, inner_ok (by simp; omega) (by simp; omega) (by omega) (by
      intro x hx
      obtain ⟨y, hy, rfl⟩ := List.mem_map.1 hx
      have := f3 y hy
      omega) (by
      intro x hx
      obtain ⟨y, hy, rfl⟩ := List.mem_map.1 hx
      have := isKey_size (riseB_keys g4 y hy)
      rw [strL_len]
      omega) h3 []]
    simp only
    rw [kidsI_toNat g3, pivS_strL]
    have hn : nodeI k p m = some (.i k p m) := by
      unfold nodeI
      rw [if_pos ⟨List.all_eq_true.2 h3, h1⟩, with_self h2]
    rw [hn, Option.bind_some, if_pos ⟨hf, by rw [hb]⟩]
end Go.Proofs.YticpnfgiidljlaaGreat
namespace Go.Proofs.YticpnfgiidljlaaGreat
open Go.RowKit
set_option linter.unusedSimpArgs false
set_option linter.unusedVariables false
set_option maxRecDepth 10000
/-- The node of a description. -/
def madeV (b : Bool) (o : List Item) (k : List Int) (p : List Str) (m : List Msg) : Option NodeV := if b = true then nodeL o else nodeI k p m
def avO (n : Option NodeV) : AV := (n.map NodeV.av).getD nP
theorem wMade_spec (b : Bool) (o : List Item) (k : List Int) (p : List Str) (m : List Msg) (h0 : o.length ≤ 900000) (h1 : k.length ≤ 900000) (h2 : p.length ≤ 900000) (h3 : m.length ≤ 900000) : PSpec Tryz.prog 12 [.agg (cN5 b o k p m)] (avO (madeV b o k p m)) := by
  have hln := dOfLeaf_nil
  have hin := dOfInner_nil
  unfold nP at hln hin
  cases b with
  | true =>
    have hof := lOf_spec o (by omega)
    unfold leafR at hof
    unfold avO madeV nodeL
    rw [if_pos rfl]
    cases ha : o.all okI with
    | false =>
      rw [ha, if_pos rfl] at hof
      rw [if_neg (by simp)]
      simp only [Option.map_none, Option.getD_none, nP]
      clear ha
      refine spec_pure (by simp) (by simp) ?_
      refine spec_intro Tryz.func12 good12 rfl (by simp [Tryz.ntmps12]) ?_
      exact go0 [] [] (cns hof (cns hln (cns Tryz.results12 (cns cN5.eq_1 trivial))))
    | true =>
      rw [ha, if_neg (by simp)] at hof
      rw [if_pos rfl]
      cases ho : ofL o with
      | none =>
        rw [ho] at hof
        simp only [Option.map_none, Option.getD_none, nP] at hof ⊢
        clear ha ho
        refine spec_pure (by simp) (by simp) ?_
        refine spec_intro Tryz.func12 good12 rfl (by simp [Tryz.ntmps12]) ?_
        exact go0 [] [] (cns hof (cns hln (cns Tryz.results12 (cns cN5.eq_1 trivial))))
      | some q =>
        rw [ho] at hof
        simp only [Option.map_some, Option.getD_some, NodeV.av] at hof ⊢
        have hl := dOfLeaf_spec q
        clear ha ho
        refine spec_pure (by simp) (by simp) ?_
        refine spec_intro Tryz.func12 good12 rfl (by simp [Tryz.ntmps12]) ?_
        exact go0 [] [] (cns hof (cns hl (cns Tryz.results12 (cns cN5.eq_1 trivial))))
  | false =>
    have hof := nOf_spec k p m h1 h2 h3
    unfold nOfR innerR at hof
    unfold avO madeV nodeI
    rw [if_neg (by simp)]
    cases ha : m.all isMsg with
    | false =>
      rw [ha, if_neg (by simp)] at hof
      rw [if_neg (by simp)]
      simp only [Option.map_none, Option.getD_none, nP]
      clear ha
      refine spec_pure (by simp) (by simp) ?_
      refine spec_intro Tryz.func12 good12 rfl (by simp [Tryz.ntmps12]) ?_
      exact go0 [] [] (cns hof (cns hin (cns Tryz.results12 (cns cN5.eq_1 trivial))))
    | true =>
      rw [ha, if_pos rfl] at hof
      cases hg : goodIn k p with
      | false =>
        rw [hg, if_neg (by simp)] at hof
        rw [if_neg (by simp)]
        simp only [Option.map_none, Option.getD_none, nP]
        clear ha hg
        refine spec_pure (by simp) (by simp) ?_
        refine spec_intro Tryz.func12 good12 rfl (by simp [Tryz.ntmps12]) ?_
        exact go0 [] [] (cns hof (cns hin (cns Tryz.results12 (cns cN5.eq_1 trivial))))
      | true =>
        rw [hg, if_pos rfl] at hof
        rw [if_pos ⟨rfl, rfl⟩]
        simp only [Option.map_some, Option.getD_some, NodeV.av]
        have hl := dOfInner_spec k p (withM [] m)
        clear ha hg
        refine spec_pure (by simp) (by simp) ?_
        refine spec_intro Tryz.func12 good12 rfl (by simp [Tryz.ntmps12]) ?_
        exact go0 [] [] (cns hof (cns hl (cns Tryz.results12 (cns cN5.eq_1 trivial))))
/-- A node as the reference's. -/
def NodeV.c5 : NodeV → List AV
  | .l o => cN5 true o [] [] []
  | .i k p m => cN5 false [] k p m
theorem wk5 {a : AV} {x y z u : AV} {x' y' z' u' : AV} (h1 : Wk x x') (h2 : Wk y y') (h3 : Wk z z') (h4 : Wk u u') : Wk (.agg [a, x, y, z, u]) (.agg [a, x', y', z', u']) := by
  have h : WkL [a, x, y, z, u] [a, x', y', z', u'] := .cons (.refl _) (.cons h1 (.cons h2 (.cons h3 (.cons h4 .nil))))
  exact .agg _ _ h.1 h.2
theorem wkT {a b c : AV} (h : Wk a b) : Wk (.tup [a, c]) (.tup [b, c]) := by
  have h : WkL [a, c] [b, c] := .cons h (.cons (.refl _) .nil)
  exact .tup _ _ h.1 h.2
def nS : AV := .sc (.slice none 0 0)
def soundR (b : Bool) (n : Option NodeV) : AV := match n with
  | some n => .tup [.agg n.c5, .sc (.bool true)]
  | none => .tup [.agg (cN5 b [] [] [] []), .sc (.bool false)]
theorem wSound_spec (b : Bool) (o : List Item) (k : List Int) (p : List Str) (m : List Msg) (h0 : o.length ≤ 90000) (h1 : k.length ≤ 90000) (h2 : p.length ≤ 90000) (h3 : m.length ≤ 90000) : PSpec Tryz.prog 17 [.agg (cN5 b o k p m)] (soundR b (madeV b o k p m)) := by
  cases b with
  | true =>
    have hof := rOf09_spec o (by omega)
    unfold ofR at hof
    unfold madeV nodeL
    rw [if_pos rfl]
    cases ha : o.all okI with
    | false =>
      rw [ha, if_pos rfl] at hof
      rw [if_neg (by simp)]
      clear ha
      have : PSpec Tryz.prog 17 [.agg (cN5 true o k p m)] (.tup [.agg [.sc (.bool true), nS, nS, nS, nS], .sc (.bool false)]) := by
        unfold nS
        refine spec_pure (by simp) (by simp) ?_
        refine spec_intro Tryz.func17 good17 rfl (by simp [Tryz.ntmps17]) ?_
        exact go0 [2] [] (cns hof (cns Tryz.results17 (cns cN5.eq_1 trivial)))
      exact pspec_wk this (wkT (wk5 .nil .nil .nil .nil))
    | true =>
      rw [ha, if_neg (by simp)] at hof
      rw [if_pos rfl]
      cases ho : ofL o with
      | none =>
        rw [ho] at hof
        simp only at hof
        clear ha ho
        have : PSpec Tryz.prog 17 [.agg (cN5 true o k p m)] (.tup [.agg [.sc (.bool true), nS, nS, nS, nS], .sc (.bool false)]) := by
          unfold nS
          refine spec_pure (by simp) (by simp) ?_
          refine spec_intro Tryz.func17 good17 rfl (by simp [Tryz.ntmps17]) ?_
          exact go0 [2] [] (cns hof (cns Tryz.results17 (cns cN5.eq_1 trivial)))
        exact pspec_wk this (wkT (wk5 .nil .nil .nil .nil))
      | some q =>
        rw [ho] at hof
        simp only at hof
        clear ha ho
        have : PSpec Tryz.prog 17 [.agg (cN5 true o k p m)] (.tup [.agg [.sc (.bool true), .fs (flatI q) q.length, nS, nS, nS], .sc (.bool true)]) := by
          unfold nS
          refine spec_pure (by simp) (by simp) ?_
          refine spec_intro Tryz.func17 good17 rfl (by simp [Tryz.ntmps17]) ?_
          exact go0 [2] [] (cns hof (cns Tryz.results17 (cns cN5.eq_1 trivial)))
        exact pspec_wk this (wkT (wk5 (.refl _) .nil .nil .nil))
  | false =>
    have hof := rOf11_spec k p m (by omega) (by omega) (by omega)
    unfold rOf11R nil3 at hof
    unfold madeV nodeI
    rw [if_neg (by simp)]
    by_cases hc : m.all isMsg = true ∧ goodIn k p = true
    · rw [if_pos hc] at hof ⊢
      clear hc
      generalize withM [] m = m' at *
      have : PSpec Tryz.prog 17 [.agg (cN5 false o k p m)] (.tup [.agg [.sc (.bool false), nS, .fs (flatN k) k.length, .fs (flatS p) p.length, .fs (flatM m') m'.length], .sc (.bool true)]) := by
        unfold nS
        refine spec_pure (by simp) (by simp) ?_
        refine spec_intro Tryz.func17 good17 rfl (by simp [Tryz.ntmps17]) ?_
        exact go0 [2] [] (cns hof (cns Tryz.results17 (cns cN5.eq_1 (cns cN3.eq_1 trivial))))
      exact pspec_wk this (wkT (wk5 .nil (.refl _) (.refl _) (.refl _)))
    · rw [if_neg hc] at hof ⊢
      clear hc
      have : PSpec Tryz.prog 17 [.agg (cN5 false o k p m)] (.tup [.agg [.sc (.bool false), nS, nS, nS, nS], .sc (.bool false)]) := by
        unfold nS
        refine spec_pure (by simp) (by simp) ?_
        refine spec_intro Tryz.func17 good17 rfl (by simp [Tryz.ntmps17]) ?_
        exact go0 [2] [] (cns hof (cns Tryz.results17 (cns cN5.eq_1 (cns cN3.eq_1 trivial))))
      exact pspec_wk this (wkT (wk5 .nil .nil .nil .nil))
end Go.Proofs.YticpnfgiidljlaaGreat
namespace Go.Proofs.YticpnfgiidljlaaGreat
open Go.RowKit
set_option linter.unusedSimpArgs false
set_option linter.unusedVariables false
set_option maxRecDepth 10000
def aw : Item := ⟨⟨#[97]⟩, ⟨#[98]⟩⟩
theorem aw_good : (NodeV.l [aw]).good := ⟨List.pairwise_singleton _ _, by decide⟩
theorem aw_fits : (NodeV.l [aw]).fits = true := by decide
theorem aw_bytes : ofL' (leafB [aw]) = ⟨#[1, 1, 1, 97, 1, 98]⟩ := by rfl
theorem aw_parse : parseV ⟨#[1, 1, 1, 97, 1, 98]⟩ = some (.l [aw]) := by
  have := parse_of aw_good aw_fits
  rwa [show (NodeV.l [aw]).bytes = leafB [aw] from rfl, aw_bytes] at this
theorem aw_more : parseV ⟨#[1, 1, 1, 97, 1, 98, 33]⟩ = none := by
  cases h : parseV ⟨#[1, 1, 1, 97, 1, 98, 33]⟩ with
  | none => rfl
  | some n =>
    have hd : (parseV ⟨#[1, 1, 1, 97, 1, 98, 33]⟩).isNone = true := by decide +kernel
    rw [h] at hd
    cases hd
theorem aw_of : leafR [aw] = .tup [.fp (cL [aw]) 0, .sc (.int .i64 0)] := by
  have h1 : [aw].all okI = true := by decide
  have h2 : ofL [aw] = some [aw] := ofL_rise (List.pairwise_singleton _ _)
  unfold leafR
  rw [h1, h2, if_neg (by simp)]
theorem wAwake_spec : PSpec Tryz.prog 7 [] (.sc (.bool true)) := by
  have h1 := lOf_spec [aw] (by simp)
  rw [aw_of] at h1
  have h2 := dOfLeaf_spec [aw]
  have h3 := dBytes_l [aw]
  rw [if_pos (by decide), aw_bytes] at h3
  have h4 := dParse_spec ⟨#[1, 1, 1, 97, 1, 98]⟩
  rw [aw_parse] at h4
  have h5 := dParse_spec ⟨#[1, 1, 1, 97, 1, 98, 33]⟩
  rw [aw_more] at h5
  have h6 := dSame_ll [aw] [aw] (by simp) (by simp)
  rw [decide_eq_true rfl] at h6
  have h7 := dIsLeaf_l [aw]
  have h8 := dOfLeaf_nil
  have h9 := dInner_l [aw]
  unfold nP at *
  unfold nodeR NodeV.av nP at *
  have hs : flatI [aw] = [.sc (.string ⟨#[97]⟩), .sc (.string ⟨#[98]⟩)] := rfl
  rw [hs] at h1
  simp only [List.length_singleton] at h1
  have hf : flatL (cNl [aw]) = true := by simp
  refine spec_pure (by simp) (by simp) ?_
  refine spec_intro Tryz.func7 good7 rfl (by simp [Tryz.ntmps7]) ?_
  exact go0 [] [] (cns h1 (cns h2 (cns h3 (cns h4 (cns h5 (cns h6 (cns h7 (cns h8 (cns h9 (cns Tryz.results7 trivial))))))))))
end Go.Proofs.YticpnfgiidljlaaGreat
