/- The document's reading of a node: inner nodes. -/
import Derived.Test.YticpnfgiidljlaaGreatNy
namespace Go.Proofs.YticpnfgiidljlaaGreat
open Go.RowKit
set_option linter.unusedSimpArgs false
set_option linter.unusedVariables false
set_option maxRecDepth 10000
theorem num12 (w : Nat) (hw : w = 1 ∨ w = 2) {st : RdS} {σ : Sto} (h : σ[1]? = some (inO st)) : Spec Tryz.prog 47 [.mp 1 0 0, .sc (.int .i64 w)] σ fun r σ' => r = .sc (.int .i64 (numL w st).1) ∧ σ' = σ.set 1 (inO (numL w st).2) :=
  rInNum_spec (σ := σ) w hw h
set_option maxHeartbeats 8000000 in
/-- An inner node, as the document reads it. -/
theorem parse12_i (s : Str) {cnt nm : Nat} {st1 sk sp sm E : RdS} {t2 : List UInt8} {K : List Nat} {PV : List (List UInt8)} {MS : List Msg} (h1 : numL 1 (s.data.toList, false) = (2, st1)) (h2 : numL 1 st1 = (cnt, (t2, false))) (hc : cnt < 256)
    (hK : rdN (numL 2) cnt (t2, false) = (K, sk)) (hP : rdN (textL 8) (cnt - 1) sk = (PV, sp)) (hN : numL 1 sp = (nm, sm)) (hM : rdN decMsg nm sm = (MS, E)) (R : AV)
    (hR0 : ∀ j, j < nm → okM sm MS j = false → R = .tup [.agg (cN5 false [] [] [] []), .sc (.bool false)])
    (hR1 : (∀ j, j < nm → okM sm MS j = true) → R = .tup [.agg (cN5 false [] (kidsI K) (pivS PV) MS), .sc (.bool (decide (E = ([], false)) && goodIn (kidsI K) (pivS PV) && fitsIn (kidsI K) MS))]) :
    PSpec Tryz.prog 14 [.sc (.string s)] R := by
  have n1 := rNum12 (s.data.toList, false)
  have n2 := rNum12 st1
  rw [h1] at n1
  rw [h2] at n2
  clear h1 h2
  dsimp only at n1 n2
  rw [show inO (s.data.toList, false) = ⟨[.sc (.string s), .sc (.bool false)], 0, false, false⟩ from rfl] at n1
  rw [show inO (t2, false) = ⟨[.sc (.string (ofL' t2)), .sc (.bool false)], 0, false, false⟩ from rfl] at n2
  unfold inO at n2
  refine spec_pureFW (by simp) ?_
  refine spec_intro Tryz.func14 good14 rfl (by simp [Tryz.ntmps14]) ?_
  refine go1 [2,4,17,5,9,14,77,107,122,161] [] (cns Tryz.results14 trivial) ?_
  refine rwf_ca rfl fun C' hC hP => ?_
  clear hP
  (try simp [*, -List.all_eq_true]); (try (simp (disch := first | assumption | omega) only [wrap_id, wrapu_id, wrapb_id, tmod_nn, tdiv_nn, ite_yes, flatM_seg, flatM_0, flatM_1, flatM_2, flatI_seg, flatI_0, flatI_1, flatS_get]; (try simp [*, -List.all_eq_true])))
  refine hC.out _ _ _ (n1 _ _) fun r S1 hq => ?_
  clear hC C'
  obtain ⟨rfl, rfl⟩ := hq
  clear n1
  refine go1 [2,4,17,5,9,14,77,107,122,161] [] (cns Tryz.results14 trivial) ?_
  refine rwf_ca rfl fun C' hC hP => ?_
  clear hP
  (try simp [*, -List.all_eq_true]); (try (simp (disch := first | assumption | omega) only [wrap_id, wrapu_id, wrapb_id, tmod_nn, tdiv_nn, ite_yes, flatM_seg, flatM_0, flatM_1, flatM_2, flatI_seg, flatI_0, flatI_1, flatS_get]; (try simp [*, -List.all_eq_true])))
  refine hC.out _ _ _ (n2 _ _) fun r S1 hq => ?_
  clear hC C'
  obtain ⟨rfl, rfl⟩ := hq
  clear n2
  refine go1 [2,4,17,5,9,14,77,107,122,161] [] (cns Tryz.results14 trivial) ?_
  refine tri_for [2, 3, 4, 5, 7] cnt (fun k_ e σ => e 10 = .sc (.int .i64 k_) ∧ ∃ v, σ[0]? = some ⟨[.sc (.bool false), .sc (.slice none 0 0), .sc (.slice none 0 0), .sc (.slice none 0 0), .sc (.slice none 0 0)], 0, false, false⟩ ∧ σ[1]? = some (inO (rdN (numL 2) k_ (t2, false)).2) ∧ σ[2]? = some ⟨[.sc (.bool false), .sc (.slice none 0 0), v, .sc (.slice none 0 0), .sc (.slice none 0 0)], 0, false, false⟩ ∧ Own 1 σ v k_ (flatN (kidsI (rdN (numL 2) k_ (t2, false)).1)) ∧ ¬ isH 0 v ∧ ¬ isH 1 v ∧ ¬ isH 2 v) ?_ (fun j env' σ' hlt hk hI => ?_) (fun env' σ' hk hI => ?_)
  · exact ⟨by simp, _, rfl, rfl, rfl, by simpa [rdN, kidsI, flatN, flatC] using Own.nil 1 _, isH_nil 0, isH_nil 1, isH_nil 2⟩
  · skip
    (try simp at hk)
    obtain ⟨h10, v, g0, g1, g2, o1, m0, m1, m2⟩ := hI
    have hd : rdN (numL 2) (j + 1) (t2, false) = ((rdN (numL 2) j (t2, false)).1 ++ [(numL 2 (rdN (numL 2) j (t2, false)).2).1], (numL 2 (rdN (numL 2) j (t2, false)).2).2) := rfl
    rw [hd]
    clear hd hR0 hR1 hK hP hN hM
    generalize (rdN (numL 2) j (t2, false)).1 = items at o1 ⊢
    generalize (rdN (numL 2) j (t2, false)).2 = sj at g1 ⊢
    have t1 := num12 2 (.inr rfl) g1
    have h3l := lt_of_get g2
    have len2 : (σ'.set 1 (inO (numL 2 sj).2)).length = σ'.length := by simp
    have k0 : (σ'.set 1 (inO (numL 2 sj).2))[0]? = some ⟨[.sc (.bool false), .sc (.slice none 0 0), .sc (.slice none 0 0), .sc (.slice none 0 0), .sc (.slice none 0 0)], 0, false, false⟩ := by rw [List.getElem?_set_ne (by omega)]; exact g0
    have k1 : (σ'.set 1 (inO (numL 2 sj).2))[1]? = some (inO (numL 2 sj).2) := List.getElem?_set_self (by omega)
    have k2 : (σ'.set 1 (inO (numL 2 sj).2))[2]? = some ⟨[.sc (.bool false), .sc (.slice none 0 0), v, .sc (.slice none 0 0), .sc (.slice none 0 0)], 0, false, false⟩ := by rw [List.getElem?_set_ne (by omega)]; exact g2
    have o2 := ownSet2 o1 m1 (inO (numL 2 sj).2)
    clear g0 g1 o1
    replace k0 := Lib.hid k0
    replace k1 := Lib.hid k1
    have h3l' := Lib.hid (show 3 ≤ (σ'.set 1 (inO (numL 2 sj).2)).length by omega)
    clear h3l
    generalize σ'.set 1 (inO (numL 2 sj).2) = T2 at *
    generalize (numL 2 sj).1 = a at *
    generalize (numL 2 sj).2 = sk' at *
    refine go1 [2,4,17,5,9,14,77,107,122,161] [(22, [(2, .u 2), (4, .q 2)])] (cns Tryz.results14 trivial) ?_
    refine rwc_u rfl v (fun s hs => by simp [*]) ?_
    refine go1 [2,4,17,5,9,14,77,107,122,161] [(22, [(2, .u 2), (4, .q 2)])] (cns Tryz.results14 trivial) ?_
    refine rwc_q rfl fun C' hC => ?_
    (try simp [*, -List.all_eq_true])
    refine hC.out _ _ _ t1 ⟨_, _, rfl, rfl⟩ fun r s' hq => ?_
    clear hC C'
    obtain ⟨rfl, rfl⟩ := hq
    refine ⟨k2.trans g2.symm, ?_⟩
    clear g2 t1
    refine go1 [2,4,17,5,9,14,77,107,122,161] [(22, [(2, .u 2), (4, .q 2)])] (cns Tryz.results14 trivial) ?_
    refine rwc_app rfl rfl elem23 zero3 rfl bytes3 (by decide) slc23 fun G hG => ?_
    (try simp [*, -List.all_eq_true])
    refine hG.out _ _ _ _ _ (o2) (by simp) (by simp) (by simp; try omega) fun v1 S5 q1 q2 => ?_
    clear hG G
    have p0 := q2.1 0 _ k0.out m0
    have p1 := q2.1 1 _ k1.out m1
    have p2 := q2.1 2 _ k2 m2
    have z0 := frame_not q2 m0 (by have := h3l'.out; omega)
    have z1 := frame_not q2 m1 (by have := h3l'.out; omega)
    have z2 := frame_not q2 m2 (by have := h3l'.out; omega)
    replace z0 := Lib.hid z0
    replace z1 := Lib.hid z1
    replace z2 := Lib.hid z2
    replace p0 := Lib.hid p0
    replace p1 := Lib.hid p1
    clear q2 o2 k0 k1 k2
    have q1' := q1
    obtain ⟨iq, gq, oq, cq, rfl, -, -, -⟩ := q1'.resolve_left (fun ⟨_, h, _⟩ => by omega)
    replace q1 := Lib.hid q1
    refine go1 [2,4,17,5,9,14,77,107,122,161] [(22, [(2, .u 2), (4, .q 2)])] (cns Tryz.results14 trivial) ?_
    exact ⟨by simp [*], by simp [*], _, by rw [List.getElem?_set_ne (by omega)]; exact p0.out, by rw [List.getElem?_set_ne (by omega)]; exact p1.out, List.getElem?_set_self (lt_of_get p2), ownSet2 (by simpa [flatN_append, flatN, flatC, cN, kidsI] using q1.out) z2.out _, z0.out, z1.out, z2.out⟩
  · skip
    (try simp at hk)
    obtain ⟨h10, v, g0, g1, g2, o1, m0, m1, m2⟩ := hI
    refine tri_restC 2 2 rfl rfl g2 rfl o1 (by simp) m2 fun s1 r2 rr rl => ?_
    have q0 := rr 0 _ (by omega) m0 g0
    have q1 := rr 1 _ (by omega) m1 g1
    clear rr rl g0 g1 g2 o1 m0 m1 m2
    simp only [List.set_cons_succ, List.set_cons_zero] at r2
    refine tri_restC 2 1 rfl rfl r2 rfl (Own.nil 2 _) (by simp [flatL]) (isH_nil 2) fun s2 g2 rr rl => ?_
    have g0 := rr 0 _ (by omega) (isH_nil 0) q0
    have g1 := rr 1 _ (by omega) (isH_nil 1) q1
    clear rr rl r2 q0 q1
    simp only [List.set_cons_succ, List.set_cons_zero] at g2
    rw [hK] at g1 g2
    simp only at g1 g2
    have hlk : K.length = cnt := by have := rdN_len (numL 2) (t2, false) cnt; rw [hK] at this; exact this
    have hKI : (kidsI K).length = cnt := by simp [kidsI, hlk]
    clear hK hlk v
    generalize kidsI K = KI at *
    have hsub : IntKind.i64.wrap ((cnt : Int) - 1) = (cnt : Int) - 1 := by rw [IntKind.wrap_i64]; omega
    replace g0 := Lib.hid g0
    replace g1 := Lib.hid g1
    replace g2 := Lib.hid g2
    refine go1 [2,4,17,5,9,14,77,107,122,161] [] (cns Tryz.results14 trivial) ?_
    refine tri_for [2, 3, 4, 5, 7] (cnt - 1) (fun k_ e σ => e 11 = .sc (.int .i64 k_) ∧ ∃ v, σ[0]? = some ⟨[.sc (.bool false), .sc (.slice none 0 0), .sc (.slice none 0 0), .sc (.slice none 0 0), .sc (.slice none 0 0)], 0, false, false⟩ ∧ σ[1]? = some (inO (rdN (textL 8) k_ sk).2) ∧ σ[2]? = some ⟨[.sc (.bool false), .fs [] 0, .fs (flatN KI) cnt, v, .sc (.slice none 0 0)], 0, false, false⟩ ∧ Own 1 σ v k_ (flatS (pivS (rdN (textL 8) k_ sk).1)) ∧ ¬ isH 0 v ∧ ¬ isH 1 v ∧ ¬ isH 2 v) ?_ (fun j env' σ' hlt hk hI => ?_) (fun env' σ' hk hI => ?_)
    · exact ⟨by simp, _, g0.out, by simpa [rdN] using g1.out, g2.out, by simpa [rdN, pivS, flatS, flatC] using Own.nil 1 _, isH_nil 0, isH_nil 1, isH_nil 2⟩
    · clear g0 g1 g2
      (try simp at hk)
      obtain ⟨h11, v, g0, g1, g2, o1, m0, m1, m2⟩ := hI
      have hd : rdN (textL 8) (j + 1) sk = ((rdN (textL 8) j sk).1 ++ [(textL 8 (rdN (textL 8) j sk).2).1], (textL 8 (rdN (textL 8) j sk).2).2) := rfl
      rw [hd]
      have hcond : ((j : Int) < (cnt : Int) - 1) = True := by rw [eq_iff_iff, iff_true]; omega
      clear hd hR0 hR1 hP hN hM
      generalize (rdN (textL 8) j sk).1 = items at o1 ⊢
      generalize (rdN (textL 8) j sk).2 = sj at g1 ⊢
      have t1 := rInText_spec 8 (by omega) g1
      have h3l := lt_of_get g2
      have len2 : (σ'.set 1 (inO (textL 8 sj).2)).length = σ'.length := by simp
      have k0 : (σ'.set 1 (inO (textL 8 sj).2))[0]? = some ⟨[.sc (.bool false), .sc (.slice none 0 0), .sc (.slice none 0 0), .sc (.slice none 0 0), .sc (.slice none 0 0)], 0, false, false⟩ := by rw [List.getElem?_set_ne (by omega)]; exact g0
      have k1 : (σ'.set 1 (inO (textL 8 sj).2))[1]? = some (inO (textL 8 sj).2) := List.getElem?_set_self (by omega)
      have k2 : (σ'.set 1 (inO (textL 8 sj).2))[2]? = some ⟨[.sc (.bool false), .fs [] 0, .fs (flatN KI) cnt, v, .sc (.slice none 0 0)], 0, false, false⟩ := by rw [List.getElem?_set_ne (by omega)]; exact g2
      have o2 := ownSet2 o1 m1 (inO (textL 8 sj).2)
      clear g0 g1 o1
      replace k0 := Lib.hid k0
      replace k1 := Lib.hid k1
      have h3l' := Lib.hid (show 3 ≤ (σ'.set 1 (inO (textL 8 sj).2)).length by omega)
      clear h3l
      generalize σ'.set 1 (inO (textL 8 sj).2) = T2 at *
      generalize (textL 8 sj).1 = a at *
      generalize (textL 8 sj).2 = sk' at *
      refine go1 [2,4,17,5,9,14,77,107,122,161] [(26, [(2, .u 2), (4, .q 2)])] (cns Tryz.results14 trivial) ?_
      refine rwc_u rfl v (fun s hs => by simp [*]) ?_
      refine go1 [2,4,17,5,9,14,77,107,122,161] [(26, [(2, .u 2), (4, .q 2)])] (cns Tryz.results14 trivial) ?_
      refine rwc_q rfl fun C' hC => ?_
      (try simp [*, -List.all_eq_true])
      refine hC.out _ _ _ t1 ⟨_, _, rfl, rfl⟩ fun r s' hq => ?_
      clear hC C'
      obtain ⟨rfl, rfl⟩ := hq
      refine ⟨k2.trans g2.symm, ?_⟩
      clear g2 t1
      refine go1 [2,4,17,5,9,14,77,107,122,161] [(26, [(2, .u 2), (4, .q 2)])] (cns Tryz.results14 trivial) ?_
      refine rwc_app rfl rfl elem24 zero9 rfl bytes9 (by decide) slc24 fun G hG => ?_
      (try simp [*, -List.all_eq_true])
      refine hG.out _ _ _ _ _ (o2) (by simp) (by simp) (by simp; try omega) fun v1 S5 q1 q2 => ?_
      clear hG G
      have p0 := q2.1 0 _ k0.out m0
      have p1 := q2.1 1 _ k1.out m1
      have p2 := q2.1 2 _ k2 m2
      have z0 := frame_not q2 m0 (by have := h3l'.out; omega)
      have z1 := frame_not q2 m1 (by have := h3l'.out; omega)
      have z2 := frame_not q2 m2 (by have := h3l'.out; omega)
      replace z0 := Lib.hid z0
      replace z1 := Lib.hid z1
      replace z2 := Lib.hid z2
      replace p0 := Lib.hid p0
      replace p1 := Lib.hid p1
      clear q2 o2 k0 k1 k2
      have q1' := q1
      obtain ⟨iq, gq, oq, cq, rfl, -, -, -⟩ := q1'.resolve_left (fun ⟨_, h, _⟩ => by omega)
      replace q1 := Lib.hid q1
      refine go1 [2,4,17,5,9,14,77,107,122,161] [(26, [(2, .u 2), (4, .q 2)])] (cns Tryz.results14 trivial) ?_
      exact ⟨by simp [*], by simp [*], _, by rw [List.getElem?_set_ne (by omega)]; exact p0.out, by rw [List.getElem?_set_ne (by omega)]; exact p1.out, List.getElem?_set_self (lt_of_get p2), ownSet2 (by simpa [flatS, flatC, cS, pivS] using q1.out) z2.out _, z0.out, z1.out, z2.out⟩
    · clear g0 g1 g2
      (try simp at hk)
      obtain ⟨h11, v, g0, g1, g2, o1, m0, m1, m2⟩ := hI
      have hcond : (((cnt - 1 : Nat) : Int) < (cnt : Int) - 1) = False := by rw [eq_iff_iff, iff_false]; omega
      refine tri_restC 2 3 rfl rfl g2 rfl o1 (by simp) m2 fun s1 r2 rr rl => ?_
      have q0 := rr 0 _ (by omega) m0 g0
      have q1 := rr 1 _ (by omega) m1 g1
      clear rr rl g0 g1 g2 o1 m0 m1 m2
      simp only [List.set_cons_succ, List.set_cons_zero] at r2
      rw [hP] at q1 r2
      simp only at q1 r2
      have hlp : PV.length = cnt - 1 := by have := rdN_len (textL 8) sk (cnt - 1); rw [hP] at this; exact this
      have hPS : (pivS PV).length = cnt - 1 := by simp [pivS, hlp]
      clear hP hlp v
      generalize pivS PV = PS at *
      have t1 := num12 1 (.inl rfl) q1
      rw [hN] at t1
      simp only at t1
      have hnm : nm < 256 := by have := num1_lt sp; rw [hN] at this; exact this
      have h3l := lt_of_get r2
      have g0 : (s1.set 1 (inO sm))[0]? = some ⟨[.sc (.bool false), .sc (.slice none 0 0), .sc (.slice none 0 0), .sc (.slice none 0 0), .sc (.slice none 0 0)], 0, false, false⟩ := by rw [List.getElem?_set_ne (by omega)]; exact q0
      have g1 : (s1.set 1 (inO sm))[1]? = some (inO sm) := List.getElem?_set_self (by omega)
      have g2 : (s1.set 1 (inO sm))[2]? = some ⟨[.sc (.bool false), .fs [] 0, .fs (flatN KI) cnt, .fs (flatS PS) (cnt - 1), .sc (.slice none 0 0)], 0, false, false⟩ := by rw [List.getElem?_set_ne (by omega)]; exact r2
      clear hN q0 q1 r2 h3l
      generalize s1.set 1 (inO sm) = S1 at *
      replace g0 := Lib.hid g0
      replace g1 := Lib.hid g1
      replace g2 := Lib.hid g2
      generalize hnp : cnt - 1 = np at *
      refine go1 [2,4,17,5,9,14,77,107,122,161] [] (cns Tryz.results14 trivial) ?_
      refine rwf_ca rfl fun C' hC hP => ?_
      clear hP
      (try simp [*, -List.all_eq_true]); (try (simp (disch := first | assumption | omega) only [wrap_id, wrapu_id, wrapb_id, tmod_nn, tdiv_nn, ite_yes, flatM_seg, flatM_0, flatM_1, flatM_2, flatI_seg, flatI_0, flatI_1, flatS_get]; (try simp [*, -List.all_eq_true])))
      refine hC.out _ _ _ (t1) fun r S6 hq => ?_
      clear hC C'
      obtain ⟨rfl, rfl⟩ := hq
      clear t1
      refine go1 [2,4,17,5,9,14,77,107,122,161] [] (cns Tryz.results14 trivial) ?_
      refine tri_for [2, 4, 5, 12] nm (fun k_ e σ => e 13 = .sc (.int .i64 k_) ∧ (∀ i, i < k_ → okM sm MS i = true) ∧ ∃ v, σ[0]? = some ⟨[.sc (.bool false), .sc (.slice none 0 0), .sc (.slice none 0 0), .sc (.slice none 0 0), .sc (.slice none 0 0)], 0, false, false⟩ ∧ σ[1]? = some (inO (rdN decMsg k_ sm).2) ∧ σ[2]? = some ⟨[.sc (.bool false), .fs [] 0, .fs (flatN KI) cnt, .fs (flatS PS) np, v], 0, false, false⟩ ∧ Own 3 σ v k_ (flatM (rdN decMsg k_ sm).1) ∧ ¬ isH 0 v ∧ ¬ isH 1 v ∧ ¬ isH 2 v) ?_ (fun j env' σ' hlt hk hI => ?_) (fun env' σ' hk hI => ?_)
      · exact ⟨by simp, fun i hi => by omega, _, g0.out, by simpa [rdN] using g1.out, g2.out, by simpa [rdN, flatM, flatC] using Own.nil 3 _, isH_nil 0, isH_nil 1, isH_nil 2⟩
      · clear g0 g1 g2
        (try simp at hk)
        obtain ⟨h13, hok, v, g0, g1, g2, o1, m0, m1, m2⟩ := hI
        have hat := okM_at sm hlt
        rw [hM] at hat
        simp only at hat
        have hd : rdN decMsg (j + 1) sm = ((rdN decMsg j sm).1 ++ [(decMsg (rdN decMsg j sm).2).1], (decMsg (rdN decMsg j sm).2).2) := rfl
        have hstep : okM sm MS j = true → ∀ i, i < j + 1 → okM sm MS i = true := fun h i hi => by
          rcases (by omega : i < j ∨ i = j) with q | rfl
          · exact hok i q
          · exact h
        have hno := hR0 j hlt
        clear hok hR1 hR0 hM hcond hKI hPS hsub
        rw [hd]
        clear hd
        generalize okM sm MS j = okj at hat hno hstep
        have hlen := rdN_len decMsg sm j
        generalize (rdN decMsg j sm).1 = items at o1 hat hlen ⊢
        generalize (rdN decMsg j sm).2 = sj at g1 hat ⊢
        have t1 := rRead08_spec g1
        have h3l := lt_of_get g2
        have len2 : (σ'.set 1 (inO (decMsg sj).2)).length = σ'.length := by simp
        have k0 : ∀ X, (σ'.set 1 (inO (decMsg sj).2) ++ X)[0]? = some ⟨[.sc (.bool false), .sc (.slice none 0 0), .sc (.slice none 0 0), .sc (.slice none 0 0), .sc (.slice none 0 0)], 0, false, false⟩ := fun X => by rw [List.getElem?_append_left (by rw [len2]; omega), List.getElem?_set_ne (by omega)]; exact g0
        have k1 : ∀ X, (σ'.set 1 (inO (decMsg sj).2) ++ X)[1]? = some (inO (decMsg sj).2) := fun X => by rw [List.getElem?_append_left (by rw [len2]; omega), List.getElem?_set_self (by omega)]
        have k2 : ∀ X, (σ'.set 1 (inO (decMsg sj).2) ++ X)[2]? = some ⟨[.sc (.bool false), .fs [] 0, .fs (flatN KI) cnt, .fs (flatS PS) np, v], 0, false, false⟩ := fun X => by rw [List.getElem?_append_left (by rw [len2]; omega), List.getElem?_set_ne (by omega)]; exact g2
        have o2 := fun X => (ownSet2 o1 m1 (inO (decMsg sj).2)).append X
        clear g0 g1 g2 o1
        generalize σ'.set 1 (inO (decMsg sj).2) = T1 at *
        generalize (decMsg sj).2 = sk' at *
        generalize (decMsg sj).1 = mm at *
        obtain ⟨mq, mk, mv⟩ := mm
        simp only [cM] at t1
        simp only at hat
        have h3l' := Lib.hid (show 3 ≤ T1.length by omega)
        clear h3l len2
        replace k0 := Lib.hid k0
        replace k1 := Lib.hid k1
        replace k2 := Lib.hid k2
        replace o2 := Lib.hid o2
        refine go1 [2,4,17,5,9,14,77,107,122,161] [] (cns Tryz.results14 trivial) ?_
        refine rwf_ca rfl fun C' hC hP => ?_
        clear hP
        (try simp [*, -List.all_eq_true]); (try (simp (disch := first | assumption | omega) only [wrap_id, wrapu_id, wrapb_id, tmod_nn, tdiv_nn, ite_yes, flatM_seg, flatM_0, flatM_1, flatM_2, flatI_seg, flatI_0, flatI_1, flatS_get]; (try simp [*, -List.all_eq_true])))
        refine hC.out _ _ _ (t1) fun r S7 hq => ?_
        clear hC C'
        obtain ⟨rfl, X, rfl⟩ := hq
        clear t1
        have K0 : ∀ Y, (T1 ++ X ++ Y)[0]? = some ⟨[.sc (.bool false), .sc (.slice none 0 0), .sc (.slice none 0 0), .sc (.slice none 0 0), .sc (.slice none 0 0)], 0, false, false⟩ := fun Y => by rw [List.append_assoc]; exact k0.out _
        have K1 : ∀ Y, (T1 ++ X ++ Y)[1]? = some (inO sk') := fun Y => by rw [List.append_assoc]; exact k1.out _
        have K2 : ∀ Y, (T1 ++ X ++ Y)[2]? = some ⟨[.sc (.bool false), .fs [] 0, .fs (flatN KI) cnt, .fs (flatS PS) np, v], 0, false, false⟩ := fun Y => by rw [List.append_assoc]; exact k2.out _
        have O2 := o2.out X
        have h4l' := Lib.hid (show 3 ≤ (T1 ++ X).length by have := h3l'.out; simp; omega)
        clear k0 k1 k2 o2 h3l'
        generalize T1 ++ X = T2 at *
        have k0 := fun Y (h : 0 < (T2 ++ Y).length) => by have := K0 Y; rw [List.getElem?_eq_getElem h] at this; exact Option.some.inj this
        have k1 := K1
        have k2 := K2
        have h3l' := h4l'
        clear K2 h4l'
        replace K0 := Lib.hid K0
        replace K1 := Lib.hid K1
        obtain ⟨tj, bj⟩ := sk'
        unfold inO at k1
        simp only at k1 hat
        cases bj with
        | true =>
          have hz : okj = false := by rw [hat]; rfl
          rw [hno hz]
          clear hat hstep hno hz
          refine go1 [2,4,17,5,9,14,77,107,122,161] [] (cns Tryz.results14 trivial) ?_
          exact out_flat (by simp [AV.flat, flatL]) nil5_wk
        | false =>
          rw [Bool.not_false, Bool.true_and] at hat
          match j, hlen with
          | 0, hlen =>
            obtain rfl := List.length_eq_zero_iff.1 hlen
            have hz : okj = true := by rw [hat]; rfl
            replace hstep := hstep hz
            clear hat hno hz k0
            refine go1 [2,4,17,5,9,14,77,107,122,161] [] (cns Tryz.results14 trivial) ?_
            have o3 := O2.append [⟨[.sc (.int .i64 mq), .sc (.string mk), .sc (.string mv)], 0, false, false⟩]
            refine rwf_app rfl rfl elem25 zero73 rfl bytes73 (by decide) slc25 fun G hG => ?_
            (try simp [*, -List.all_eq_true])
            refine hG.out _ _ _ _ _ (o3) (by simp) (by simp) (by omega) fun v1 S5 q1 q2 => ?_
            clear hG G
            have p0 := q2.1 0 _ (K0.out _) m0
            have p1 := q2.1 1 _ (K1.out _) m1
            have p2 := q2.1 2 _ (k2 _) m2
            have z0 := frame_not q2 m0 (by have := h3l'.out; simp <;> omega)
            have z1 := frame_not q2 m1 (by have := h3l'.out; simp <;> omega)
            have z2 := frame_not q2 m2 (by have := h3l'.out; simp <;> omega)
            replace z0 := Lib.hid z0
            replace z1 := Lib.hid z1
            replace z2 := Lib.hid z2
            replace p0 := Lib.hid p0
            replace p1 := Lib.hid p1
            clear q2 o3 K0 K1 k2
            have q1' := q1
            obtain ⟨iq, gq, oq, cq, rfl, -, -, -⟩ := q1'.resolve_left (fun ⟨_, h, _⟩ => by omega)
            replace q1 := Lib.hid q1
            refine go1 [2,4,17,5,9,14,77,107,122,161] [] (cns Tryz.results14 trivial) ?_
            exact ⟨by simp [*], by simp [*], hstep, _, by rw [List.getElem?_set_ne (by omega)]; exact p0.out, by rw [List.getElem?_set_ne (by omega)]; exact p1.out, List.getElem?_set_self (lt_of_get p2), ownSet2 (by simpa [flatM, flatC, cM] using q1.out) z2.out _, z0.out, z1.out, z2.out⟩
          | j + 1, hlen =>
            have hy : j < items.length := by omega
            rw [show items.getD (j + 1 - 1) noMsg = items[j] by rw [List.getD_eq_getElem?_getD, Nat.add_sub_cancel, List.getElem?_eq_getElem hy, Option.getD_some]] at hat
            obtain ⟨i, g, off, c, rfl, e1, e2, e3⟩ := O2.resolve_left (fun ⟨_, h, _⟩ => by omega)
            have hcell : c[off + (j * 3 + 1)]? = some (.sc (.string items[j].key)) := by
              have := flatM_1 items j hy
              rw [← e3, List.getElem?_take, if_pos (by omega), List.getElem?_drop] at this
              exact this
            rw [← Nat.add_assoc] at hcell
            have hi := fun X : Sto => show (T2 ++ X)[i]? = some ⟨c, g, false, false⟩ by rw [List.getElem?_append_left (lt_of_get e1)]; exact e1
            generalize items[j].key = y at hat hcell
            rw [show (decide (j + 1 = 0)) = false by simp, Bool.false_or] at hat
            cases hs : slt y mk with
            | false =>
              rw [hs] at hat
              rw [hno hat]
              clear hat hstep hno e1 e3 O2
              refine go1 [2,4,17,5,9,14,77,107,122,161] [] (cns Tryz.results14 trivial) ?_
              exact out_flat (by simp [AV.flat, flatL]) nil5_wk
            | true =>
              replace hstep := hstep (by rw [hat, hs])
              clear hat hno e1 e3 k0
              refine go1 [2,4,17,5,9,14,77,107,122,161] [] (cns Tryz.results14 trivial) ?_
              have o3 := O2.append [⟨[.sc (.int .i64 mq), .sc (.string mk), .sc (.string mv)], 0, false, false⟩]
              refine rwf_app rfl rfl elem25 zero73 rfl bytes73 (by decide) slc25 fun G hG => ?_
              (try simp [*, -List.all_eq_true])
              refine hG.out _ _ _ _ _ (o3) (by simp) (by simp) (by omega) fun v1 S5 q1 q2 => ?_
              clear hG G
              have p0 := q2.1 0 _ (K0.out _) m0
              have p1 := q2.1 1 _ (K1.out _) m1
              have p2 := q2.1 2 _ (k2 _) m2
              have z0 := frame_not q2 m0 (by have := h3l'.out; simp <;> omega)
              have z1 := frame_not q2 m1 (by have := h3l'.out; simp <;> omega)
              have z2 := frame_not q2 m2 (by have := h3l'.out; simp <;> omega)
              replace z0 := Lib.hid z0
              replace z1 := Lib.hid z1
              replace z2 := Lib.hid z2
              replace p0 := Lib.hid p0
              replace p1 := Lib.hid p1
              clear q2 o3 K0 K1 k2
              have q1' := q1
              obtain ⟨iq, gq, oq, cq, rfl, -, -, -⟩ := q1'.resolve_left (fun ⟨_, h, _⟩ => by omega)
              replace q1 := Lib.hid q1
              refine go1 [2,4,17,5,9,14,77,107,122,161] [] (cns Tryz.results14 trivial) ?_
              exact ⟨by simp [*], by simp [*], hstep, _, by rw [List.getElem?_set_ne (by omega)]; exact p0.out, by rw [List.getElem?_set_ne (by omega)]; exact p1.out, List.getElem?_set_self (lt_of_get p2), ownSet2 (by simpa [flatM, flatC, cM] using q1.out) z2.out _, z0.out, z1.out, z2.out⟩
      · clear g0 g1 g2
        (try simp at hk)
        obtain ⟨h13, hok, v, g0, g1, g2, o1, m0, m1, m2⟩ := hI
        rw [hR1 hok]
        clear hR1 hR0 hok
        have hlm := rdN_len decMsg sm nm
        have hsm := msgs_small sm nm
        rw [hM] at g1 o1 hlm hsm
        simp only at g1 o1 hlm hsm
        have hg := rGood_spec KI PS (by omega) (by omega)
        have hf := rFits12_i [] KI PS MS (by omega) (by omega) hsm
        clear hM hsm hcond hsub
        refine tri_restC 2 4 rfl rfl g2 rfl o1 (by simp) m2 fun s4 r2 rr rl => ?_
        have q0 := rr 0 _ (by omega) m0 g0
        have q1 := rr 1 _ (by omega) m1 g1
        clear rr rl g0 g1 g2 o1 m0 m1 m2
        simp only [List.set_cons_succ, List.set_cons_zero] at r2
        obtain ⟨t, bad⟩ := E
        unfold inO at q1
        simp only at q1
        have hcn : cN5 false [] KI PS MS = [.sc (.bool false), .fs [] 0, .fs (flatN KI) cnt, .fs (flatS PS) np, .fs (flatM MS) nm] := by rw [← hKI, ← hPS, ← hlm]; rfl
        rw [hcn] at hf ⊢
        rw [hKI, hPS] at hg
        clear hcn hKI hPS hlm
        generalize goodIn KI PS = gd at *
        generalize fitsIn KI MS = ft at *
        cases bad with
        | true =>
          rw [show decide ((t, true) = (([] : List UInt8), false)) = false by simp, Bool.false_and, Bool.false_and]
          clear hf hg
          refine go1 [2,4,17,5,9,14,77,107,122,161] [] (cns Tryz.results14 trivial) ?_
          exact out_flat (by simp [AV.flat, flatL]) (.refl _)
        | false =>
          by_cases ht : t = []
          · subst ht
            rw [show decide ((([] : List UInt8), false) = (([] : List UInt8), false)) = true by simp, Bool.true_and]
            rw [show ofL' [] = (⟨#[]⟩ : Str) from rfl] at q1
            cases gd with
            | false =>
              clear hf
              refine go1 [2,4,17,5,9,14,77,107,122,161] [] (cns hg (cns Tryz.results14 trivial)) ?_
              exact out_flat (by simp [AV.flat, flatL]) (.refl _)
            | true =>
              cases ft with
              | false =>
                refine go1 [2,4,17,5,9,14,77,107,122,161] [] (cns hg (cns hf (cns Tryz.results14 trivial))) ?_
                exact out_flat (by simp [AV.flat, flatL]) (.refl _)
              | true =>
                refine go1 [2,4,17,5,9,14,77,107,122,161] [] (cns hg (cns hf (cns Tryz.results14 trivial))) ?_
                exact out_flat (by simp [AV.flat, flatL]) (.refl _)
          · rw [show decide ((t, false) = (([] : List UInt8), false)) = false by simp [ht], Bool.false_and, Bool.false_and]
            have ht' : ofL' t ≠ (⟨#[]⟩ : Str) := fun e => ht (by have := congrArg strL e; rw [strL_ofL] at this; rw [this]; rfl)
            clear hf hg ht
            generalize ofL' t = ts at *
            have ht2 := nil_list ht'
            refine go1 [2,4,17,5,9,14,77,107,122,161] [] (cns Tryz.results14 trivial) ?_
            exact out_flat (by simp [AV.flat, flatL]) (.refl _)
end Go.Proofs.YticpnfgiidljlaaGreat
