/- Nodes: Same, their bytes. -/
import Derived.Test.YticpnfgiidljlaaGreatNk
import Derived.Test.YticpnfgiidljlaaGreatNg
namespace Go.Proofs.YticpnfgiidljlaaGreat
open Go.RowKit
set_option linter.unusedSimpArgs false
set_option linter.unusedVariables false
set_option maxRecDepth 10000
theorem lSame_nil1 (l : List Item) : PSpec Tryz.prog 29 [nP, .fp (cL l) 0] (.sc (.bool false)) := by
  unfold nP
  refine spec_pure (by simp) (by simp) ?_
  refine spec_intro Tryz.func29 good29 rfl (by simp [Tryz.ntmps29]) ?_
  exact go0 [] [] (cns Tryz.results29 trivial)
theorem dSame_ll (l l' : List Item) (h : l.length ≤ 900000) (h' : l'.length ≤ 900000) : PSpec Tryz.prog 13 [.fp (cNl l) 0, .fp (cNl l') 0] (.sc (.bool (decide (l = l')))) := by
  have h1 := lSame_spec l l' h h'
  have h2 := nSame_nil
  generalize decide (l = l') = b at *
  cases b
  all_goals
    refine spec_pure (by simp) (by simp) ?_
    refine spec_intro Tryz.func13 good13 rfl (by simp [Tryz.ntmps13]) ?_
    exact go0 [] [] (cns h1 (cns h2 (cns Tryz.results13 (cns cNl.eq_1 trivial))))
theorem dSame_ii (k k' : List Int) (p p' : List Str) (m m' : List Msg) (h1 : k.length ≤ 900000) (h1' : k'.length ≤ 900000) (h2 : p.length ≤ 900000) (h2' : p'.length ≤ 900000) (h3 : m.length ≤ 900000) (h3' : m'.length ≤ 900000) :
    PSpec Tryz.prog 13 [.fp (cNi k p m) 0, .fp (cNi k' p' m') 0] (.sc (.bool (decide (k = k') && decide (p = p') && decide (m = m')))) := by
  have e1 := nSame_spec k k' p p' m m' h1 h1' h2 h2' h3 h3'
  have e2 := lSame_nil
  unfold nilP at e2
  generalize (decide (k = k') && decide (p = p') && decide (m = m')) = b at *
  refine spec_pure (by simp) (by simp) ?_
  refine spec_intro Tryz.func13 good13 rfl (by simp [Tryz.ntmps13]) ?_
  exact go0 [] [] (cns e2 (cns e1 (cns Tryz.results13 (cns cNi.eq_1 trivial))))
theorem dSame_li (l : List Item) (k : List Int) (p : List Str) (m : List Msg) : PSpec Tryz.prog 13 [.fp (cNl l) 0, .fp (cNi k p m) 0] (.sc (.bool false)) := by
  have e2 := lSame_nil2 l
  unfold nilP at e2
  refine spec_pure (by simp) (by simp) ?_
  refine spec_intro Tryz.func13 good13 rfl (by simp [Tryz.ntmps13]) ?_
  exact go0 [] [] (cns e2 (cns Tryz.results13 (cns cNl.eq_1 (cns cNi.eq_1 trivial))))
theorem dSame_il (l : List Item) (k : List Int) (p : List Str) (m : List Msg) : PSpec Tryz.prog 13 [.fp (cNi k p m) 0, .fp (cNl l) 0] (.sc (.bool false)) := by
  have e2 := lSame_nil1 l
  unfold nP at e2
  refine spec_pure (by simp) (by simp) ?_
  refine spec_intro Tryz.func13 good13 rfl (by simp [Tryz.ntmps13]) ?_
  exact go0 [] [] (cns e2 (cns Tryz.results13 (cns cNl.eq_1 (cns cNi.eq_1 trivial))))
theorem itemB_eq (x : Item) : itemB x = textsB [x.key, x.val] := by simp [itemB, textsB]
theorem itemB_length {x : Item} (h1 : x.key.size ≤ 255) (h2 : x.val.size ≤ 255) : (itemB x).length ≤ 600 := by
  simp [itemB, textB, strL_len]
  omega
theorem dWriteLeaf_spec {o : Nat} {bs : List UInt8} {σ : Sto} (l : List Item) (hl : l.length ≤ 200) (hz : ∀ x ∈ l, x.key.size ≤ 255 ∧ x.val.size ≤ 255) (h : OutAt o bs σ) (hn : bs.length ≤ 1000) :
    Spec Tryz.prog 38 [.mp o 0 0, .fp (cL l) 0] σ fun r σ' => r = .tup [] ∧ OutAt o (bs ++ leafB l) σ' := by
  have h1 := lLen_spec l
  have h2 := lItems_spec l (by omega)
  have hb : Spec Tryz.prog 90 [.mp o 0 0, .sc (.int .i64 1), .fs [.sc (.int .i64 1), .sc (.int .i64 l.length)] 2] _ _ := outNum_spec 1 [1, (l.length : Int)] (.inl rfl) (by intro z hz; simp at hz; rcases hz with rfl | rfl <;> omega) (by simp) h (by omega)
  have hB : leafB l = numsB 1 [1, (l.length : Int)] ++ l.flatMap itemB := by simp [leafB, numsB, numB]
  rw [hB, ← List.append_assoc]
  have hlb : (bs ++ numsB 1 [1, (l.length : Int)]).length ≤ 1002 := by rw [List.length_append, numsB_length]; simp; omega
  generalize bs ++ numsB 1 [1, (l.length : Int)] = cs at hb hlb ⊢
  replace hz := Lib.hid hz
  clear hB h
  refine spec_intro Tryz.func38 good38 rfl (by simp [Tryz.ntmps38]) ?_
  refine go1 [] [] (cns h1 (cns Tryz.results38 trivial)) ?_
  refine rwf_ca rfl fun C' hC hP => ?_
  clear hP
  (try simp [*, -List.all_eq_true]); (try (simp (disch := first | assumption | omega) only [wrap_id, wrapu_id, wrapb_id, tmod_nn, tdiv_nn, ite_yes, flatM_seg, flatM_0, flatM_1, flatM_2, flatI_seg, flatI_0, flatI_1, flatS_get]; (try simp [*, -List.all_eq_true])))
  refine hC.out _ _ _ (hb) fun r S1 hq => ?_
  clear hC C'
  obtain ⟨rfl, h3⟩ := hq
  replace h3 := Lib.hid h3
  clear hb h1
  refine go1 [] [] (cns h2 (cns Tryz.results38 trivial)) ?_
  clear h2
  refine tri_for [0, 12, 13] l.length (fun k_ e σ => e 14 = .sc (.int .i64 k_) ∧ OutAt o (cs ++ (l.take k_).flatMap itemB) σ) ?_ (fun j env' σ' hlt hk hI => ?_) (fun env' σ' hk hI => ?_)
  · exact ⟨by simp, by simpa using h3.out⟩
  · clear h3
    (try simp at hk)
    obtain ⟨h14, h⟩ := hI
    have hzj := hz.out _ (List.getElem_mem hlt)
    have hlen := flatMap_length_le itemB 600 (l.take j) fun t ht => itemB_length (hz.out t (List.mem_of_mem_take ht)).1 (hz.out t (List.mem_of_mem_take ht)).2
    have hlen2 : (cs ++ (l.take j).flatMap itemB).length ≤ 200000 := by
      rw [List.length_append]
      rw [List.length_take] at hlen
      omega
    rw [flatMap_take itemB l j hlt, ← List.append_assoc]
    generalize cs ++ (l.take j).flatMap itemB = ds at hlen2 h ⊢
    have sg := flatI_seg l j hlt
    generalize l[j] = x at hzj sg ⊢
    have ht : Spec Tryz.prog 91 [.mp o 0 0, .fs [.sc (.string x.key), .sc (.string x.val)] 2] _ _ := outText_spec [x.key, x.val] (by intro t ht; simp at ht; rcases ht with rfl | rfl <;> omega) (by simp) h (by omega)
    rw [← itemB_eq x] at ht
    clear hlen hz h hlb
    obtain ⟨k, v⟩ := x
    simp only [cI] at sg ht
    refine go1 [] [] (cns Tryz.results38 trivial) ?_
    refine rwf_ca rfl fun C' hC hP => ?_
    clear hP
    (try simp [*, -List.all_eq_true]); (try (simp (disch := first | assumption | omega) only [wrap_id, wrapu_id, wrapb_id, tmod_nn, tdiv_nn, ite_yes, flatM_seg, flatM_0, flatM_1, flatM_2, flatI_seg, flatI_0, flatI_1, flatS_get]; (try simp [*, -List.all_eq_true])))
    refine hC.out _ _ _ (ht) fun r S2 hq => ?_
    clear hC C'
    obtain ⟨rfl, h2⟩ := hq
    replace h2 := Lib.hid h2
    clear ht
    refine go1 [] [] (cns Tryz.results38 trivial) ?_
    exact ⟨by simp [*], by simp, h2.out⟩
  · skip
    (try simp at hk)
    obtain ⟨h14, h⟩ := hI
    rw [List.take_length] at h
    replace h := Lib.hid h
    refine go1 [] [] (cns Tryz.results38 trivial) ?_
    exact ⟨rfl, h.out⟩
theorem dWriteInner_spec {o : Nat} {bs : List UInt8} {σ : Sto} (k : List Int) (p : List Str) (m : List Msg) (hk : k.length ≤ 200) (hp : p.length ≤ 200) (hm : m.length ≤ 200) (hkz : ∀ x ∈ k, 0 ≤ x ∧ x < 65536) (hpz : ∀ t ∈ p, t.size ≤ 255) (hmz : ∀ x ∈ m, isMsg x = true) (h : OutAt o bs σ) (hn : bs.length ≤ 100) :
    Spec Tryz.prog 39 [.mp o 0 0, .fp (cIn k p m) 0] σ fun r σ' => r = .tup [] ∧ OutAt o (bs ++ innerB k p m) σ' := by
  have h1 := nLen_spec k p m
  have h2 := nKids_spec k p m (by omega)
  have h3 := nPivots_spec k p m (by omega)
  have h4 := nBuff_spec k p m
  have h5 := bLen_spec m
  have h6 := bList_spec m (by omega)
  have hb : Spec Tryz.prog 90 [.mp o 0 0, .sc (.int .i64 1), .fs [.sc (.int .i64 2), .sc (.int .i64 k.length)] 2] _ _ := outNum_spec 1 [2, (k.length : Int)] (.inl rfl) (by intro z hz; simp at hz; rcases hz with rfl | rfl <;> omega) (by simp) h (by omega)
  have hB : bs ++ innerB k p m = bs ++ numsB 1 [2, (k.length : Int)] ++ numsB 2 k ++ textsB p ++ numsB 1 [(m.length : Int)] ++ m.flatMap msgB := by
    simp [innerB, numsB, numB, textsB]
  rw [hB]
  have l1 := numsB_length 1 [2, (k.length : Int)]
  have l2 := numsB_length 2 k
  have l3 := textsB_length (ts := p) hpz
  have l4 := numsB_length 1 [(m.length : Int)]
  simp only [List.length_cons, List.length_nil] at l1 l4
  refine spec_intro Tryz.func39 good39 rfl (by simp [Tryz.ntmps39]) ?_
  replace hkz := Lib.hid hkz
  replace hpz := Lib.hid hpz
  replace hmz := Lib.hid hmz
  clear h hB
  refine go1 [] [] (cns h1 (cns Tryz.results39 trivial)) ?_
  refine rwf_ca rfl fun C' hC hP => ?_
  clear hP
  (try simp [*, -List.all_eq_true]); (try (simp (disch := first | assumption | omega) only [wrap_id, wrapu_id, wrapb_id, tmod_nn, tdiv_nn, ite_yes, flatM_seg, flatM_0, flatM_1, flatM_2, flatI_seg, flatI_0, flatI_1, flatS_get]; (try simp [*, -List.all_eq_true])))
  refine hC.out _ _ _ (hb) fun r S1 hq => ?_
  clear hC C'
  obtain ⟨rfl, q1⟩ := hq
  have c1 := outNum_spec 2 k (.inr rfl) (fun z hz => by have := hkz.out z hz; omega) (by omega) q1 (by rw [List.length_append]; omega)
  clear hb q1 h1
  refine go1 [] [] (cns h2 (cns Tryz.results39 trivial)) ?_
  refine rwf_ca rfl fun C' hC hP => ?_
  clear hP
  (try simp [*, -List.all_eq_true]); (try (simp (disch := first | assumption | omega) only [wrap_id, wrapu_id, wrapb_id, tmod_nn, tdiv_nn, ite_yes, flatM_seg, flatM_0, flatM_1, flatM_2, flatI_seg, flatI_0, flatI_1, flatS_get]; (try simp [*, -List.all_eq_true])))
  refine hC.out _ _ _ (c1) fun r S2 hq => ?_
  clear hC C'
  obtain ⟨rfl, q2⟩ := hq
  have c2 := outText_spec p hpz.out (by omega) q2 (by rw [List.length_append, List.length_append]; omega)
  clear c1 q2 h2
  refine go1 [] [] (cns h3 (cns Tryz.results39 trivial)) ?_
  refine rwf_ca rfl fun C' hC hP => ?_
  clear hP
  (try simp [*, -List.all_eq_true]); (try (simp (disch := first | assumption | omega) only [wrap_id, wrapu_id, wrapb_id, tmod_nn, tdiv_nn, ite_yes, flatM_seg, flatM_0, flatM_1, flatM_2, flatI_seg, flatI_0, flatI_1, flatS_get]; (try simp [*, -List.all_eq_true])))
  refine hC.out _ _ _ (c2) fun r S3 hq => ?_
  clear hC C'
  obtain ⟨rfl, q3⟩ := hq
  have c3 : Spec Tryz.prog 90 [.mp o 0 0, .sc (.int .i64 1), .fs [.sc (.int .i64 m.length)] 1] _ _ := outNum_spec 1 [(m.length : Int)] (.inl rfl) (by intro z hz; simp at hz; subst hz; omega) (by simp) q3 (by rw [List.length_append, List.length_append, List.length_append]; omega)
  clear c2 q3 h3
  refine go1 [] [] (cns h4 (cns h5 (cns Tryz.results39 trivial))) ?_
  refine rwf_ca rfl fun C' hC hP => ?_
  clear hP
  (try simp [*, -List.all_eq_true]); (try (simp (disch := first | assumption | omega) only [wrap_id, wrapu_id, wrapb_id, tmod_nn, tdiv_nn, ite_yes, flatM_seg, flatM_0, flatM_1, flatM_2, flatI_seg, flatI_0, flatI_1, flatS_get]; (try simp [*, -List.all_eq_true])))
  refine hC.out _ _ _ (c3) fun r S4 hq => ?_
  clear hC C'
  obtain ⟨rfl, q4⟩ := hq
  have c4 := mWrite_spec m hmz.out (by omega) q4 (by rw [List.length_append, List.length_append, List.length_append, List.length_append]; omega)
  clear c3 q4 h5
  refine go1 [] [] (cns h4 (cns h6 (cns Tryz.results39 trivial))) ?_
  refine rwf_ca rfl fun C' hC hP => ?_
  clear hP
  (try simp [*, -List.all_eq_true]); (try (simp (disch := first | assumption | omega) only [wrap_id, wrapu_id, wrapb_id, tmod_nn, tdiv_nn, ite_yes, flatM_seg, flatM_0, flatM_1, flatM_2, flatI_seg, flatI_0, flatI_1, flatS_get]; (try simp [*, -List.all_eq_true])))
  refine hC.out _ _ _ (c4) fun r S5 hq => ?_
  clear hC C'
  obtain ⟨rfl, q5⟩ := hq
  replace q5 := Lib.hid q5
  clear c4
  refine go1 [] [] (cns Tryz.results39 trivial) ?_
  exact ⟨rfl, q5.out⟩
theorem iwts_len (l : List Item) : 2 * (l.length : Int) ≤ iwts l := by
  induction l with
  | nil => simp [iwts]
  | cons x l ih => simp only [iwts, List.map_cons, List.sum_cons, List.length_cons] at *; have hx : iwt x = 2 + (x.key.size : Int) + x.val.size := rfl; omega
theorem iwts_mem {l : List Item} {x : Item} (h : x ∈ l) : iwt x ≤ iwts l := by
  induction l with
  | nil => simp at h
  | cons y l ih =>
    have h2 := iwts_len l
    simp only [iwts, List.map_cons, List.sum_cons] at *
    rcases List.mem_cons.1 h with rfl | h
    · omega
    · have := ih h
      have : 0 ≤ iwt y := by unfold iwt; omega
      omega
theorem mwts_len (l : List Msg) : 3 * (l.length : Int) ≤ mwts l := by
  induction l with
  | nil => simp [mwts]
  | cons x l ih => simp only [mwts, List.map_cons, List.sum_cons, List.length_cons] at *; have hx : mwt x = 3 + (x.key.size : Int) + x.val.size := rfl; omega
theorem out_new : OutAt 0 [] [⟨[.sc (.pointer none), .sc (.slice none 0 0)], 0, false, .ty 84⟩] :=
  ⟨_, _, .inl rfl, rfl, .inl ⟨rfl, rfl, rfl⟩, isH_nil 0⟩
theorem dBytes_l (l : List Item) : PSpec Tryz.prog 10 [.fp (cNl l) 0] (if iwts l ≤ 240 then .tup [.sc (.string (ofL' (leafB l))), .sc (.int .i64 0)] else .tup [.sc (.string ⟨#[]⟩), .sc (.int .i64 8)]) := by
  have hf := dFits_l l
  by_cases hw : iwts l ≤ 240
  · rw [if_pos hw]
    rw [decide_eq_true hw] at hf
    have hlen := iwts_len l
    have hwr := dWriteLeaf_spec l (by omega) (fun x hx => by have := iwts_mem hx; unfold iwt at this; omega) out_new (by simp)
    rw [List.nil_append] at hwr
    have hne : leafB l ≠ [] := by simp [leafB]
    have hbl : (leafB l).length ≤ 1000000 := by
      have := flatMap_length_le itemB 600 l fun x hx => itemB_length (by have := iwts_mem hx; unfold iwt at this; omega) (by have := iwts_mem hx; unfold iwt at this; omega)
      simp only [leafB, List.length_cons]
      omega
    clear hw hlen
    generalize leafB l = B at hwr hne hbl ⊢
    refine spec_pureFW (by simp) ?_
    refine spec_intro Tryz.func10 good10 rfl (by simp [Tryz.ntmps10]) ?_
    refine go1 [4,1000004] [] (cns hf (cns Tryz.results10 trivial)) ?_
    refine rwf_ca rfl fun C' hC hP => ?_
    clear hP
    (try simp [*, -List.all_eq_true]); (try (simp (disch := first | assumption | omega) only [wrap_id, wrapu_id, wrapb_id, tmod_nn, tdiv_nn, ite_yes, flatM_seg, flatM_0, flatM_1, flatM_2, flatI_seg, flatI_0, flatI_1, flatS_get]; (try simp [*, -List.all_eq_true])))
    refine hC.out _ _ _ (hwr) fun r S1 hq => ?_
    clear hC C'
    obtain ⟨rfl, q⟩ := hq
    have hby := outBytes_spec q hne (by omega)
    clear hwr q
    refine go1 [4,1000004] [] (cns Tryz.results10 trivial) ?_
    refine rwf_ca rfl fun C' hC hP => ?_
    clear hP
    (try simp [*, -List.all_eq_true]); (try (simp (disch := first | assumption | omega) only [wrap_id, wrapu_id, wrapb_id, tmod_nn, tdiv_nn, ite_yes, flatM_seg, flatM_0, flatM_1, flatM_2, flatI_seg, flatI_0, flatI_1, flatS_get]; (try simp [*, -List.all_eq_true])))
    refine hC.out _ _ _ (hby) fun r S2 hq => ?_
    clear hC C'
    obtain rfl := hq
    refine go1 [4,1000004] [] (cns Tryz.results10 trivial) ?_
    exact out_flat (by simp [AV.flat, flatL]) (.refl _)
  · rw [if_neg hw]
    rw [decide_eq_false hw] at hf
    clear hw
    refine spec_pure (by simp) (by simp) ?_
    refine spec_intro Tryz.func10 good10 rfl (by simp [Tryz.ntmps10]) ?_
    exact go0 [] [] (cns hf (cns Tryz.results10 trivial))
theorem riseB_keys {ps : List Str} (h : riseB ps = true) : ∀ t ∈ ps, isKey t = true := fun t ht => by
  obtain ⟨i, hi, rfl⟩ := List.getElem_of_mem ht
  have := List.all_eq_true.1 h i (by simpa using hi)
  unfold riseAt at this
  rw [List.getElem?_eq_getElem hi] at this
  simp only [Bool.and_eq_true] at this
  exact this.1
theorem goodIn_iff {k : List Int} {p : List Str} : goodIn k p = true ↔ 0 < k.length ∧ p.length + 1 = k.length ∧ (∀ x ∈ k, 0 ≤ x) ∧ riseB p = true := by
  simp only [goodIn, Bool.and_eq_true, decide_eq_true_eq, List.all_eq_true]
  constructor
  · rintro ⟨⟨⟨a, b⟩, c⟩, d⟩; exact ⟨a, b, c, d⟩
  · rintro ⟨a, b, c, d⟩; exact ⟨⟨⟨a, b⟩, c⟩, d⟩
theorem fitsIn_iff {k : List Int} {m : List Msg} : fitsIn k m = true ↔ k.length ≤ 6 ∧ mwts m ≤ 180 ∧ ∀ x ∈ k, x < 512 := by
  simp only [fitsIn, Bool.and_eq_true, decide_eq_true_eq, List.all_eq_true]
  constructor
  · rintro ⟨⟨a, b⟩, c⟩; exact ⟨a, b, c⟩
  · rintro ⟨a, b, c⟩; exact ⟨⟨a, b⟩, c⟩
theorem isKey_size {t : Str} (h : isKey t = true) : 1 ≤ t.size ∧ t.size ≤ 8 := by
  unfold isKey at h
  simp only [Bool.and_eq_true, decide_eq_true_eq] at h
  omega
theorem dBytes_i (k : List Int) (p : List Str) (m : List Msg) (hg : goodIn k p = true) (hm : ∀ x ∈ m, isMsg x = true) (hk : k.length ≤ 900000) : PSpec Tryz.prog 10 [.fp (cNi k p m) 0] (if fitsIn k m = true then .tup [.sc (.string (ofL' (innerB k p m))), .sc (.int .i64 0)] else .tup [.sc (.string ⟨#[]⟩), .sc (.int .i64 8)]) := by
  have hf := dFits_i k p m hk
  cases hw : fitsIn k m with
  | true =>
    rw [if_pos rfl]
    rw [hw] at hf
    obtain ⟨g1, g2, g3, g4⟩ := goodIn_iff.1 hg
    obtain ⟨f1, f2, f3⟩ := fitsIn_iff.1 hw
    have hlen := mwts_len m
    have hwr := dWriteInner_spec k p m (by omega) (by omega) (by omega) (fun x hx => ⟨g3 x hx, by have := f3 x hx; omega⟩) (fun t ht => by have := isKey_size (riseB_keys g4 t ht); omega) hm out_new (by simp)
    rw [List.nil_append] at hwr
    have hne : innerB k p m ≠ [] := by simp [innerB]
    have hbl : (innerB k p m).length ≤ 1000000 := by
      have b1 := numsB_length 2 k
      have b2 := textsB_length (ts := p) fun t ht => by have := isKey_size (riseB_keys g4 t ht); omega
      have b3 := flatMap_length_le msgB 100 m fun x hx => msgB_length (hm x hx)
      unfold numsB at b1
      unfold textsB at b2
      simp only [innerB, List.length_cons, List.length_append]
      omega
    clear hw hlen g1 g2 g3 g4 f1 f2 f3 hm hg
    generalize innerB k p m = B at hwr hne hbl ⊢
    refine spec_pureFW (by simp) ?_
    refine spec_intro Tryz.func10 good10 rfl (by simp [Tryz.ntmps10]) ?_
    refine go1 [4,1000004] [] (cns hf (cns Tryz.results10 trivial)) ?_
    refine rwf_ca rfl fun C' hC hP => ?_
    clear hP
    (try simp [*, -List.all_eq_true]); (try (simp (disch := first | assumption | omega) only [wrap_id, wrapu_id, wrapb_id, tmod_nn, tdiv_nn, ite_yes, flatM_seg, flatM_0, flatM_1, flatM_2, flatI_seg, flatI_0, flatI_1, flatS_get]; (try simp [*, -List.all_eq_true])))
    refine hC.out _ _ _ (hwr) fun r S1 hq => ?_
    clear hC C'
    obtain ⟨rfl, q⟩ := hq
    have hby := outBytes_spec q hne (by omega)
    clear hwr q
    refine go1 [4,1000004] [] (cns Tryz.results10 trivial) ?_
    refine rwf_ca rfl fun C' hC hP => ?_
    clear hP
    (try simp [*, -List.all_eq_true]); (try (simp (disch := first | assumption | omega) only [wrap_id, wrapu_id, wrapb_id, tmod_nn, tdiv_nn, ite_yes, flatM_seg, flatM_0, flatM_1, flatM_2, flatI_seg, flatI_0, flatI_1, flatS_get]; (try simp [*, -List.all_eq_true])))
    refine hC.out _ _ _ (hby) fun r S2 hq => ?_
    clear hC C'
    obtain rfl := hq
    refine go1 [4,1000004] [] (cns Tryz.results10 trivial) ?_
    exact out_flat (by simp [AV.flat, flatL]) (.refl _)
  | false =>
    rw [if_neg (by simp)]
    rw [hw] at hf
    clear hw
    refine spec_pure (by simp) (by simp) ?_
    refine spec_intro Tryz.func10 good10 rfl (by simp [Tryz.ntmps10]) ?_
    exact go0 [] [] (cns hf (cns Tryz.results10 trivial))
theorem dBytes_nil : PSpec Tryz.prog 10 [nP] (.tup [.sc (.string ⟨#[]⟩), .sc (.int .i64 2)]) := by
  unfold nP
  refine spec_pure (by simp) (by simp) ?_
  refine spec_intro Tryz.func10 good10 rfl (by simp [Tryz.ntmps10]) ?_
  exact go0 [] [] (cns Tryz.results10 trivial)
end Go.Proofs.YticpnfgiidljlaaGreat
