/- The document's reading of a node: leaves. -/
import Derived.Test.YticpnfgiidljlaaGreatNx
import Derived.Test.YticpnfgiidljlaaGreatLq
import Derived.Test.YticpnfgiidljlaaGreatNi
import Derived.Test.YticpnfgiidljlaaGreatNp
import Derived.Test.YticpnfgiidljlaaGreatNr
namespace Go.Proofs.YticpnfgiidljlaaGreat
open Go.RowKit
set_option linter.unusedSimpArgs false
set_option linter.unusedVariables false
set_option maxRecDepth 10000
theorem rNum12 (st : RdS) (Z : MO) (Y : Sto) : Spec Tryz.prog 47 [.mp 1 0 0, .sc (.int .i64 1)] (Z :: inO st :: Y) fun r σ' => r = .sc (.int .i64 (numL 1 st).1) ∧ σ' = Z :: inO (numL 1 st).2 :: Y := by
  have := rInNum_spec (l := 1) (σ := Z :: inO st :: Y) (st := st) 1 (.inl rfl) rfl
  simpa using this
theorem parse12_x (s : Str) {kk cnt : Nat} {st1 st2 : RdS} (h1 : numL 1 (s.data.toList, false) = (kk, st1)) (h2 : numL 1 st1 = (cnt, st2)) (hx : st2.2 = true ∨ (kk ≠ 1 ∧ kk ≠ 2)) :
    PSpec Tryz.prog 14 [.sc (.string s)] (.tup [.agg (cN5 false [] [] [] []), .sc (.bool false)]) := by
  have n1 := rNum12 (s.data.toList, false)
  have n2 := rNum12 st1
  rw [h1] at n1
  rw [h2] at n2
  clear h1 h2
  dsimp only at n1 n2
  obtain ⟨t2, b2⟩ := st2
  rw [show inO (s.data.toList, false) = ⟨[.sc (.string s), .sc (.bool false)], 0, false, false⟩ from rfl] at n1
  have hfin : Wk (.tup [.agg [.sc (.bool false), .sc (.slice none 0 0), .sc (.slice none 0 0), .sc (.slice none 0 0), .sc (.slice none 0 0)], .sc (.bool false)]) (.tup [.agg (cN5 false [] [] [] []), .sc (.bool false)]) :=
    .tupL (.cons (.aggL (.cons (.refl _) (.cons .nil (.cons .nil (.cons .nil (.cons .nil .nil)))))) (.cons (.refl _) .nil))
  simp only at hx
  by_cases hb : b2 = true
  · subst hb
    clear hx
    unfold inO at n2
    refine spec_pureFW (by simp) ?_
    refine spec_intro Tryz.func14 good14 rfl (by simp [Tryz.ntmps14]) ?_
    refine go1 [2,4,17,5,9,14,77] [] (cns Tryz.results14 trivial) ?_
    refine rwf_ca rfl fun C' hC hP => ?_
    clear hP
    (try simp [*, -List.all_eq_true]); (try (simp (disch := first | assumption | omega) only [wrap_id, wrapu_id, wrapb_id, tmod_nn, tdiv_nn, ite_yes, flatM_seg, flatM_0, flatM_1, flatM_2, flatI_seg, flatI_0, flatI_1, flatS_get]; (try simp [*, -List.all_eq_true])))
    refine hC.out _ _ _ (n1 _ _) fun r S1 hq => ?_
    clear hC C'
    obtain ⟨rfl, rfl⟩ := hq
    clear n1
    refine go1 [2,4,17,5,9,14,77] [] (cns Tryz.results14 trivial) ?_
    refine rwf_ca rfl fun C' hC hP => ?_
    clear hP
    (try simp [*, -List.all_eq_true]); (try (simp (disch := first | assumption | omega) only [wrap_id, wrapu_id, wrapb_id, tmod_nn, tdiv_nn, ite_yes, flatM_seg, flatM_0, flatM_1, flatM_2, flatI_seg, flatI_0, flatI_1, flatS_get]; (try simp [*, -List.all_eq_true])))
    refine hC.out _ _ _ (n2 _ _) fun r S1 hq => ?_
    clear hC C'
    obtain ⟨rfl, rfl⟩ := hq
    clear n2
    refine go1 [2,4,17,5,9,14,77] [] (cns Tryz.results14 trivial) ?_
    exact out_flat (by simp [AV.flat, flatL]) hfin
  · obtain rfl : b2 = false := by simpa using hb
    have hx := hx.resolve_left (by simp)
    unfold inO at n2
    have hx2 : (kk : Int) < 1 ∨ ((1 : Int) ≤ kk ∧ (2 : Int) < kk) := by omega
    clear hx hb
    refine spec_pureFW (by simp) ?_
    refine spec_intro Tryz.func14 good14 rfl (by simp [Tryz.ntmps14]) ?_
    refine go1 [2,4,17,5,9,14,77] [] (cns Tryz.results14 trivial) ?_
    refine rwf_ca rfl fun C' hC hP => ?_
    clear hP
    (try simp [*, -List.all_eq_true]); (try (simp (disch := first | assumption | omega) only [wrap_id, wrapu_id, wrapb_id, tmod_nn, tdiv_nn, ite_yes, flatM_seg, flatM_0, flatM_1, flatM_2, flatI_seg, flatI_0, flatI_1, flatS_get]; (try simp [*, -List.all_eq_true])))
    refine hC.out _ _ _ (n1 _ _) fun r S1 hq => ?_
    clear hC C'
    obtain ⟨rfl, rfl⟩ := hq
    clear n1
    refine go1 [2,4,17,5,9,14,77] [] (cns Tryz.results14 trivial) ?_
    refine rwf_ca rfl fun C' hC hP => ?_
    clear hP
    (try simp [*, -List.all_eq_true]); (try (simp (disch := first | assumption | omega) only [wrap_id, wrapu_id, wrapb_id, tmod_nn, tdiv_nn, ite_yes, flatM_seg, flatM_0, flatM_1, flatM_2, flatI_seg, flatI_0, flatI_1, flatS_get]; (try simp [*, -List.all_eq_true])))
    refine hC.out _ _ _ (n2 _ _) fun r S1 hq => ?_
    clear hC C'
    obtain ⟨rfl, rfl⟩ := hq
    clear n2
    rcases hx2 with h | ⟨h, h'⟩
    · skip
      refine go1 [2,4,17,5,9,14,77] [] (cns Tryz.results14 trivial) ?_
      exact out_flat (by simp [AV.flat, flatL]) hfin
    · have h'' : ¬ (kk : Int) < 1 := by omega
      clear h
      refine go1 [2,4,17,5,9,14,77] [] (cns Tryz.results14 trivial) ?_
      exact out_flat (by simp [AV.flat, flatL]) hfin
theorem nil5_wk : Wk (.tup [.agg [.sc (.bool false), .sc (.slice none 0 0), .sc (.slice none 0 0), .sc (.slice none 0 0), .sc (.slice none 0 0)], .sc (.bool false)]) (.tup [.agg (cN5 false [] [] [] []), .sc (.bool false)]) :=
  .tupL (.cons (.aggL (.cons (.refl _) (.cons .nil (.cons .nil (.cons .nil (.cons .nil .nil)))))) (.cons (.refl _) .nil))
theorem text12 (most : Nat) (hm : most < 256) {st : RdS} {σ : Sto} (h : σ[1]? = some (inO st)) : ∀ Y, Spec Tryz.prog 48 [.mp 1 0 0, .sc (.int .i64 most)] (σ ++ Y) fun r σ' => r = .sc (.string (ofL' (textL most st).1)) ∧ σ' = σ.set 1 (inO (textL most st).2) ++ Y := fun Y => by
  have := rInText_spec (σ := σ ++ Y) most hm (by rw [List.getElem?_append_left (lt_of_get h)]; exact h)
  rw [List.set_append_left _ _ (lt_of_get h)] at this; exact this
set_option maxHeartbeats 4000000 in
/-- A leaf, as the document reads it. -/
theorem parse12_l (s : Str) {cnt : Nat} {st1 st2 : RdS} (h1 : numL 1 (s.data.toList, false) = (1, st1)) (h2 : numL 1 st1 = (cnt, st2)) (hb : st2.2 = false) (hc : cnt < 256) (R : AV)
    (hR0 : ∀ j, j < cnt → okL (rdN decItem cnt st2).1 j = false → R = .tup [.agg (cN5 false [] [] [] []), .sc (.bool false)])
    (hR1 : (∀ j, j < cnt → okL (rdN decItem cnt st2).1 j = true) → R = .tup [.agg (cN5 true (rdN decItem cnt st2).1 [] [] []), .sc (.bool (decide ((rdN decItem cnt st2).2 = ([], false)) && decide (iwts (rdN decItem cnt st2).1 ≤ 240)))]) :
    PSpec Tryz.prog 14 [.sc (.string s)] R := by
  have n1 := rNum12 (s.data.toList, false)
  have n2 := rNum12 st1
  rw [h1] at n1
  rw [h2] at n2
  clear h1 h2
  dsimp only at n1 n2
  rw [show inO (s.data.toList, false) = ⟨[.sc (.string s), .sc (.bool false)], 0, false, false⟩ from rfl] at n1
  have hst : st2 = (st2.1, false) := Prod.ext rfl hb
  rw [hst] at n2 hR0 hR1
  clear hst hb
  generalize st2.1 = t2 at n2 hR0 hR1
  rw [show inO (t2, false) = ⟨[.sc (.string (ofL' t2)), .sc (.bool false)], 0, false, false⟩ from rfl] at n2
  unfold inO at n2
  refine spec_pureFW (by simp) ?_
  refine spec_intro Tryz.func14 good14 rfl (by simp [Tryz.ntmps14]) ?_
  refine go1 [2,4,17,5,9,14,77] [] (cns Tryz.results14 trivial) ?_
  refine rwf_ca rfl fun C' hC hP => ?_
  clear hP
  (try simp [*, -List.all_eq_true]); (try (simp (disch := first | assumption | omega) only [wrap_id, wrapu_id, wrapb_id, tmod_nn, tdiv_nn, ite_yes, flatM_seg, flatM_0, flatM_1, flatM_2, flatI_seg, flatI_0, flatI_1, flatS_get]; (try simp [*, -List.all_eq_true])))
  refine hC.out _ _ _ (n1 _ _) fun r S1 hq => ?_
  clear hC C'
  obtain ⟨rfl, rfl⟩ := hq
  clear n1
  refine go1 [2,4,17,5,9,14,77] [] (cns Tryz.results14 trivial) ?_
  refine rwf_ca rfl fun C' hC hP => ?_
  clear hP
  (try simp [*, -List.all_eq_true]); (try (simp (disch := first | assumption | omega) only [wrap_id, wrapu_id, wrapb_id, tmod_nn, tdiv_nn, ite_yes, flatM_seg, flatM_0, flatM_1, flatM_2, flatI_seg, flatI_0, flatI_1, flatS_get]; (try simp [*, -List.all_eq_true])))
  refine hC.out _ _ _ (n2 _ _) fun r S1 hq => ?_
  clear hC C'
  obtain ⟨rfl, rfl⟩ := hq
  clear n2
  refine go1 [2,4,17,5,9,14,77] [] (cns Tryz.results14 trivial) ?_
  refine tri_for [2, 4, 5, 7] cnt (fun k_ e σ => e 8 = .sc (.int .i64 k_) ∧ (∀ i, i < k_ → okL (rdN decItem cnt (t2, false)).1 i = true) ∧ ∃ v, σ[0]? = some ⟨[.sc (.bool false), .sc (.slice none 0 0), .sc (.slice none 0 0), .sc (.slice none 0 0), .sc (.slice none 0 0)], 0, false, false⟩ ∧ σ[1]? = some (inO (rdN decItem k_ (t2, false)).2) ∧ σ[2]? = some ⟨[.sc (.bool true), v, .sc (.slice none 0 0), .sc (.slice none 0 0), .sc (.slice none 0 0)], 0, false, false⟩ ∧ Own 2 σ v k_ (flatI (rdN decItem k_ (t2, false)).1) ∧ ¬ isH 0 v ∧ ¬ isH 1 v ∧ ¬ isH 2 v) ?_ (fun j env' σ' hlt hk hI => ?_) (fun env' σ' hk hI => ?_)
  · exact ⟨by simp, fun i hi => by omega, _, rfl, rfl, rfl, by simpa [rdN, flatI, flatC] using Own.nil 2 _, isH_nil 0, isH_nil 1, isH_nil 2⟩
  · skip
    (try simp at hk)
    obtain ⟨h8, hok, v, g0, g1, g2, o1, m0, m1, m2⟩ := hI
    have hat := okL_at (t2, false) hlt
    have hd : rdN decItem (j + 1) (t2, false) = ((rdN decItem j (t2, false)).1 ++ [(decItem (rdN decItem j (t2, false)).2).1], (decItem (rdN decItem j (t2, false)).2).2) := rfl
    have hstep : okL (rdN decItem cnt (t2, false)).1 j = true → ∀ i, i < j + 1 → okL (rdN decItem cnt (t2, false)).1 i = true := fun h i hi => by
      rcases (by omega : i < j ∨ i = j) with q | rfl
      · exact hok i q
      · exact h
    have hno := hR0 j hlt
    clear hok hR1 hR0
    rw [hd]
    clear hd
    generalize okL (rdN decItem cnt (t2, false)).1 j = okj at hat hno hstep
    have hlen := rdN_len decItem (t2, false) j
    generalize (rdN decItem j (t2, false)).1 = items at o1 hat hlen ⊢
    generalize (rdN decItem j (t2, false)).2 = sj at g1 hat ⊢
    have t1 := text12 8 (by omega) g1
    have l1 : (σ'.set 1 (inO (textL 8 sj).2))[1]? = some (inO (textL 8 sj).2) := List.getElem?_set_self (lt_of_get g1)
    have t3 := text12 16 (by omega) l1
    rw [List.set_set] at t3
    have len1 : (σ'.set 1 (inO (textL 8 sj).2)).length = σ'.length := by simp
    have len2 : (σ'.set 1 (inO (textL 16 (textL 8 sj).2).2)).length = σ'.length := by simp
    have h3l := lt_of_get g2
    have k0 : ∀ X, (σ'.set 1 (inO (textL 16 (textL 8 sj).2).2) ++ X)[0]? = some ⟨[.sc (.bool false), .sc (.slice none 0 0), .sc (.slice none 0 0), .sc (.slice none 0 0), .sc (.slice none 0 0)], 0, false, false⟩ := fun X => by rw [List.getElem?_append_left (by rw [len2]; omega), List.getElem?_set_ne (by omega)]; exact g0
    have k1 : ∀ X, (σ'.set 1 (inO (textL 16 (textL 8 sj).2).2) ++ X)[1]? = some (inO (textL 16 (textL 8 sj).2).2) := fun X => by rw [List.getElem?_append_left (by rw [len2]; omega), List.getElem?_set_self (by omega)]
    have k2 : ∀ X, (σ'.set 1 (inO (textL 16 (textL 8 sj).2).2) ++ X)[2]? = some ⟨[.sc (.bool true), v, .sc (.slice none 0 0), .sc (.slice none 0 0), .sc (.slice none 0 0)], 0, false, false⟩ := fun X => by rw [List.getElem?_append_left (by rw [len2]; omega), List.getElem?_set_ne (by omega)]; exact g2
    have o2 := ownSet2 o1 m1 (inO (textL 16 (textL 8 sj).2).2)
    have K0 := Lib.hid k0
    have K1 := Lib.hid k1
    clear k1
    replace k0 := fun X (h : 0 < (σ'.set 1 (inO (textL 16 (textL 8 sj).2).2) ++ X).length) => by have := k0 X; rw [List.getElem?_eq_getElem h] at this; exact Option.some.inj this
    clear l1 g0 g1 g2 o1
    unfold decItem at hat ⊢
    simp only at hat ⊢
    generalize ofL' (textL 16 (textL 8 sj).2).1 = b at *
    generalize (textL 16 (textL 8 sj).2).2 = sk at *
    generalize σ'.set 1 (inO (textL 8 sj).2) = T1 at *
    generalize σ'.set 1 (inO sk) = T2 at *
    generalize ofL' (textL 8 sj).1 = a at *
    have h3l' := Lib.hid (show 3 ≤ T2.length by omega)
    clear h3l
    by_cases ha : a = ⟨#[]⟩
    · have hz : okj = false := by rw [hat, ha]; rfl
      rw [hno hz]
      subst ha
      clear hat hstep hno hz
      refine go1 [2,4,17,5,9,14,77] [] (cns Tryz.results14 trivial) ?_
      refine rwf_ca rfl fun C' hC hP => ?_
      clear hP
      (try simp [*, -List.all_eq_true]); (try (simp (disch := first | assumption | omega) only [wrap_id, wrapu_id, wrapb_id, tmod_nn, tdiv_nn, ite_yes, flatM_seg, flatM_0, flatM_1, flatM_2, flatI_seg, flatI_0, flatI_1, flatS_get]; (try simp [*, -List.all_eq_true])))
      refine hC.out _ _ _ (t1 _) fun r S1 hq => ?_
      clear hC C'
      obtain ⟨rfl, rfl⟩ := hq
      refine go1 [2,4,17,5,9,14,77] [] (cns Tryz.results14 trivial) ?_
      refine rwf_ca rfl fun C' hC hP => ?_
      clear hP
      (try simp [*, -List.all_eq_true]); (try (simp (disch := first | assumption | omega) only [wrap_id, wrapu_id, wrapb_id, tmod_nn, tdiv_nn, ite_yes, flatM_seg, flatM_0, flatM_1, flatM_2, flatI_seg, flatI_0, flatI_1, flatS_get]; (try simp [*, -List.all_eq_true])))
      refine hC.out _ _ _ (t3 _) fun r S1 hq => ?_
      clear hC C'
      obtain ⟨rfl, rfl⟩ := hq
      clear t1 t3
      refine go1 [2,4,17,5,9,14,77] [] (cns Tryz.results14 trivial) ?_
      exact out_flat (by simp [AV.flat, flatL]) nil5_wk
    · have hz : (0 < ByteArray.size a) := by
        rcases Nat.eq_zero_or_pos a.size with h | h
        · exact absurd (ByteArray.ext (Array.eq_empty_of_size_eq_zero h)) ha
        · exact h
      rw [decide_eq_true hz, Bool.true_and] at hat
      clear hz
      have ha' : ¬ ByteArray.toList a = [] := nil_list ha
      match j, hlen with
      | 0, hlen =>
        obtain rfl := List.length_eq_zero_iff.1 hlen
        have hz : okj = true := by rw [hat]; rfl
        replace hstep := hstep hz
        clear hat hno hz k0
        refine go1 [2,4,17,5,9,14,77] [] (cns Tryz.results14 trivial) ?_
        refine rwf_ca rfl fun C' hC hP => ?_
        clear hP
        (try simp [*, -List.all_eq_true]); (try (simp (disch := first | assumption | omega) only [wrap_id, wrapu_id, wrapb_id, tmod_nn, tdiv_nn, ite_yes, flatM_seg, flatM_0, flatM_1, flatM_2, flatI_seg, flatI_0, flatI_1, flatS_get]; (try simp [*, -List.all_eq_true])))
        refine hC.out _ _ _ (t1 _) fun r S1 hq => ?_
        clear hC C'
        obtain ⟨rfl, rfl⟩ := hq
        refine go1 [2,4,17,5,9,14,77] [] (cns Tryz.results14 trivial) ?_
        refine rwf_ca rfl fun C' hC hP => ?_
        clear hP
        (try simp [*, -List.all_eq_true]); (try (simp (disch := first | assumption | omega) only [wrap_id, wrapu_id, wrapb_id, tmod_nn, tdiv_nn, ite_yes, flatM_seg, flatM_0, flatM_1, flatM_2, flatI_seg, flatI_0, flatI_1, flatS_get]; (try simp [*, -List.all_eq_true])))
        refine hC.out _ _ _ (t3 _) fun r S1 hq => ?_
        clear hC C'
        obtain ⟨rfl, rfl⟩ := hq
        clear t1 t3
        refine go1 [2,4,17,5,9,14,77] [] (cns Tryz.results14 trivial) ?_
        have o3 := o2.append [⟨[.sc (.string a), .sc (.string b)], 0, false, false⟩]
        refine rwf_app rfl rfl elem22 zero71 rfl bytes71 (by decide) slc22 fun G hG => ?_
        (try simp [*, -List.all_eq_true])
        refine hG.out _ _ _ _ _ (o3) (by simp) (by simp) (by omega) fun v1 S5 q1 q2 => ?_
        clear hG G
        have p0 := q2.1 0 _ (K0.out _) m0
        have p1 := q2.1 1 _ (K1.out _) m1
        have p2 := q2.1 2 _ (k2 _) m2
        have z0 := frame_not q2 m0 (by simp)
        have z1 := frame_not q2 m1 (by have := h3l'.out; simp; omega)
        have z2 := frame_not q2 m2 (by have := h3l'.out; simp; omega)
        replace z0 := Lib.hid z0
        replace z1 := Lib.hid z1
        replace z2 := Lib.hid z2
        replace p0 := Lib.hid p0
        replace p1 := Lib.hid p1
        clear q2 o3 K0 K1 k2
        have q1' := q1
        obtain ⟨iq, gq, oq, cq, rfl, -, -, -⟩ := q1'.resolve_left (fun ⟨_, h, _⟩ => by omega)
        replace q1 := Lib.hid q1
        refine go1 [2,4,17,5,9,14,77] [] (cns Tryz.results14 trivial) ?_
        exact ⟨by simp [*], by simp [*], hstep, _, by rw [List.getElem?_set_ne (by omega)]; exact p0.out, by rw [List.getElem?_set_ne (by omega)]; exact p1.out, List.getElem?_set_self (lt_of_get p2), ownSet2 (by simpa [flatI_append, flatI, flatC, cI] using q1.out) z2.out _, z0.out, z1.out, z2.out⟩
      | j + 1, hlen =>
        have hy : j < items.length := by omega
        rw [show items.getD (j + 1 - 1) ⟨⟨#[]⟩, ⟨#[]⟩⟩ = items[j] by rw [List.getD_eq_getElem?_getD, Nat.add_sub_cancel, List.getElem?_eq_getElem hy, Option.getD_some]] at hat
        obtain ⟨i, g, off, c, rfl, e1, e2, e3⟩ := o2.resolve_left (fun ⟨_, h, _⟩ => by omega)
        have hcell : c[off + j * 2]? = some (.sc (.string items[j].key)) := by
          have := flatI_0 items j hy
          rw [← e3, List.getElem?_take, if_pos (by omega), List.getElem?_drop] at this
          exact this
        have hi := fun X : Sto => show (T2 ++ X)[i]? = some ⟨c, g, false, false⟩ by rw [List.getElem?_append_left (lt_of_get e1)]; exact e1
        generalize items[j].key = y at hat hcell
        rw [show (decide (j + 1 = 0)) = false by simp, Bool.false_or] at hat
        cases hs : slt y a with
        | false =>
          rw [hs] at hat
          rw [hno hat]
          clear hat hstep hno e1 e3 o2
          refine go1 [2,4,17,5,9,14,77] [] (cns Tryz.results14 trivial) ?_
          refine rwf_ca rfl fun C' hC hP => ?_
          clear hP
          (try simp [*, -List.all_eq_true]); (try (simp (disch := first | assumption | omega) only [wrap_id, wrapu_id, wrapb_id, tmod_nn, tdiv_nn, ite_yes, flatM_seg, flatM_0, flatM_1, flatM_2, flatI_seg, flatI_0, flatI_1, flatS_get]; (try simp [*, -List.all_eq_true])))
          refine hC.out _ _ _ (t1 _) fun r S1 hq => ?_
          clear hC C'
          obtain ⟨rfl, rfl⟩ := hq
          refine go1 [2,4,17,5,9,14,77] [] (cns Tryz.results14 trivial) ?_
          refine rwf_ca rfl fun C' hC hP => ?_
          clear hP
          (try simp [*, -List.all_eq_true]); (try (simp (disch := first | assumption | omega) only [wrap_id, wrapu_id, wrapb_id, tmod_nn, tdiv_nn, ite_yes, flatM_seg, flatM_0, flatM_1, flatM_2, flatI_seg, flatI_0, flatI_1, flatS_get]; (try simp [*, -List.all_eq_true])))
          refine hC.out _ _ _ (t3 _) fun r S1 hq => ?_
          clear hC C'
          obtain ⟨rfl, rfl⟩ := hq
          clear t1 t3
          refine go1 [2,4,17,5,9,14,77] [] (cns Tryz.results14 trivial) ?_
          exact out_flat (by simp [AV.flat, flatL]) nil5_wk
        | true =>
          replace hstep := hstep (by rw [hat, hs])
          clear hat hno e1 e3 k0
          refine go1 [2,4,17,5,9,14,77] [] (cns Tryz.results14 trivial) ?_
          refine rwf_ca rfl fun C' hC hP => ?_
          clear hP
          (try simp [*, -List.all_eq_true]); (try (simp (disch := first | assumption | omega) only [wrap_id, wrapu_id, wrapb_id, tmod_nn, tdiv_nn, ite_yes, flatM_seg, flatM_0, flatM_1, flatM_2, flatI_seg, flatI_0, flatI_1, flatS_get]; (try simp [*, -List.all_eq_true])))
          refine hC.out _ _ _ (t1 _) fun r S1 hq => ?_
          clear hC C'
          obtain ⟨rfl, rfl⟩ := hq
          refine go1 [2,4,17,5,9,14,77] [] (cns Tryz.results14 trivial) ?_
          refine rwf_ca rfl fun C' hC hP => ?_
          clear hP
          (try simp [*, -List.all_eq_true]); (try (simp (disch := first | assumption | omega) only [wrap_id, wrapu_id, wrapb_id, tmod_nn, tdiv_nn, ite_yes, flatM_seg, flatM_0, flatM_1, flatM_2, flatI_seg, flatI_0, flatI_1, flatS_get]; (try simp [*, -List.all_eq_true])))
          refine hC.out _ _ _ (t3 _) fun r S1 hq => ?_
          clear hC C'
          obtain ⟨rfl, rfl⟩ := hq
          clear t1 t3
          refine go1 [2,4,17,5,9,14,77] [] (cns Tryz.results14 trivial) ?_
          have o3 := o2.append [⟨[.sc (.string a), .sc (.string b)], 0, false, false⟩]
          refine rwf_app rfl rfl elem22 zero71 rfl bytes71 (by decide) slc22 fun G hG => ?_
          (try simp [*, -List.all_eq_true])
          refine hG.out _ _ _ _ _ (o3) (by simp) (by simp) (by omega) fun v1 S5 q1 q2 => ?_
          clear hG G
          have p0 := q2.1 0 _ (K0.out _) m0
          have p1 := q2.1 1 _ (K1.out _) m1
          have p2 := q2.1 2 _ (k2 _) m2
          have z0 := frame_not q2 m0 (by simp)
          have z1 := frame_not q2 m1 (by have := h3l'.out; simp; omega)
          have z2 := frame_not q2 m2 (by have := h3l'.out; simp; omega)
          replace z0 := Lib.hid z0
          replace z1 := Lib.hid z1
          replace z2 := Lib.hid z2
          replace p0 := Lib.hid p0
          replace p1 := Lib.hid p1
          clear q2 o3 K0 K1 k2
          have q1' := q1
          obtain ⟨iq, gq, oq, cq, rfl, -, -, -⟩ := q1'.resolve_left (fun ⟨_, h, _⟩ => by omega)
          replace q1 := Lib.hid q1
          refine go1 [2,4,17,5,9,14,77] [] (cns Tryz.results14 trivial) ?_
          exact ⟨by simp [*], by simp [*], hstep, _, by rw [List.getElem?_set_ne (by omega)]; exact p0.out, by rw [List.getElem?_set_ne (by omega)]; exact p1.out, List.getElem?_set_self (lt_of_get p2), ownSet2 (by simpa [flatI_append, flatI, flatC, cI] using q1.out) z2.out _, z0.out, z1.out, z2.out⟩
  · skip
    (try simp at hk)
    obtain ⟨h8, hok, v, g0, g1, g2, o1, m0, m1, m2⟩ := hI
    rw [hR1 hok]
    clear hR1 hR0 hok
    have hlen := rdN_len decItem (t2, false) cnt
    have hsm := items_small (t2, false) cnt
    generalize (rdN decItem cnt (t2, false)).1 = L at *
    generalize (rdN decItem cnt (t2, false)).2 = E at *
    have hf := rFits12_l L [] [] [] (by omega) hsm
    clear hsm
    refine tri_restC 2 1 rfl rfl g2 rfl o1 (by simp) m2 fun s1 r2 rr rl => ?_
    have q0 := rr 0 _ (by omega) m0 g0
    have q1 := rr 1 _ (by omega) m1 g1
    clear rr rl g0 g1 g2 o1 m0 m1 m2
    simp only [List.set_cons_succ, List.set_cons_zero] at r2
    refine tri_restC 2 2 rfl rfl r2 rfl (Own.nil 1 _) (by simp [flatL]) (isH_nil 2) fun s2 g2 rr rl => ?_
    have g0 := rr 0 _ (by omega) (isH_nil 0) q0
    have g1 := rr 1 _ (by omega) (isH_nil 1) q1
    clear rr rl r2 q0 q1
    simp only [List.set_cons_succ, List.set_cons_zero] at g2
    refine tri_restC 2 3 rfl rfl g2 rfl (Own.nil 1 _) (by simp [flatL]) (isH_nil 2) fun s3 r2 rr rl => ?_
    have q0 := rr 0 _ (by omega) (isH_nil 0) g0
    have q1 := rr 1 _ (by omega) (isH_nil 1) g1
    clear rr rl g2 g0 g1
    simp only [List.set_cons_succ, List.set_cons_zero] at r2
    refine tri_restC 2 4 rfl rfl r2 rfl (Own.nil 1 _) (by simp [flatL]) (isH_nil 2) fun s4 g2 rr rl => ?_
    have g0 := rr 0 _ (by omega) (isH_nil 0) q0
    have g1 := rr 1 _ (by omega) (isH_nil 1) q1
    clear rr rl r2 q0 q1
    simp only [List.set_cons_succ, List.set_cons_zero] at g2
    obtain ⟨t, bad⟩ := E
    unfold inO at g1
    simp only at g1
    have hcn : cN5 true L [] [] [] = [.sc (.bool true), .fs (flatI L) cnt, .fs [] 0, .fs [] 0, .fs [] 0] := by rw [← hlen]; rfl
    rw [hcn] at hf ⊢
    clear hcn
    cases bad with
    | true =>
      rw [show decide ((t, true) = (([] : List UInt8), false)) = false by simp, Bool.false_and]
      clear hf
      refine go1 [2,4,17,5,9,14,77] [] (cns Tryz.results14 trivial) ?_
      exact out_flat (by simp [AV.flat, flatL]) (.refl _)
    | false =>
      by_cases ht : t = []
      · subst ht
        rw [show decide ((([] : List UInt8), false) = (([] : List UInt8), false)) = true by simp, Bool.true_and]
        rw [show ofL' [] = (⟨#[]⟩ : Str) from rfl] at g1
        cases hx : decide (iwts L ≤ 240) with
        | true =>
          rw [hx] at hf
          clear hx
          refine go1 [2,4,17,5,9,14,77] [] (cns hf (cns Tryz.results14 trivial)) ?_
          exact out_flat (by simp [AV.flat, flatL]) (.refl _)
        | false =>
          rw [hx] at hf
          clear hx
          refine go1 [2,4,17,5,9,14,77] [] (cns hf (cns Tryz.results14 trivial)) ?_
          exact out_flat (by simp [AV.flat, flatL]) (.refl _)
      · rw [show decide ((t, false) = (([] : List UInt8), false)) = false by simp [ht], Bool.false_and]
        have ht' : ofL' t ≠ (⟨#[]⟩ : Str) := fun e => ht (by have := congrArg strL e; rw [strL_ofL] at this; rw [this]; rfl)
        clear hf ht
        generalize ofL' t = ts at *
        have ht2 := nil_list ht'
        refine go1 [2,4,17,5,9,14,77] [] (cns Tryz.results14 trivial) ?_
        exact out_flat (by simp [AV.flat, flatL]) (.refl _)
end Go.Proofs.YticpnfgiidljlaaGreat
