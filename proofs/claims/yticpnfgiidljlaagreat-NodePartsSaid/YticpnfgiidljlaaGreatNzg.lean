/- NodeParts's body: inner nodes; the whole. -/
import Derived.Test.YticpnfgiidljlaaGreatNzf
import Derived.Test.YticpnfgiidljlaaGreatNze
namespace Go.Proofs.YticpnfgiidljlaaGreat
open Go.RowKit
set_option linter.unusedSimpArgs false
set_option linter.unusedVariables false
set_option maxRecDepth 10000
set_option maxHeartbeats 8000000 in
theorem nodeParts_i (b : Bool) (o : List Item) (k : List Int) (p : List Str) (m : List Msg) (K : List Int) (P : List Str) (M : List Msg) (hg : (NodeV.i K P M).good) (hkl : K.length ≤ 30) (hml : M.length ≤ 90)
    (ha : PSpec Tryz.prog 7 [] (.sc (.bool true))) (g1 : PSpec Tryz.prog 8 [.agg (cN5 b o k p m)] (.sc (.bool false))) (hm : PSpec Tryz.prog 12 [.agg (cN5 b o k p m)] (.fp (cNi K P M) 0)) :
    PSpec Tryz.prog 6 [.agg (cN5 b o k p m)] (.sc (.bool true)) := by
  obtain ⟨hgi, hr, hmm⟩ := hg
  obtain ⟨y1, y2, y3, y4⟩ := goodIn_iff.1 hgi
  have o2 := pspec_args (lOf_spec [] (by simp)) (xs' := [.sc (.slice none 0 0)]) (.cons .nil .nil)
  rw [leafR_nil] at o2
  have f1 := dLeaf_i K P M
  have f2 := dIsLeaf_i K P M
  have f3 := dKids_i K P M (by omega)
  have f4 := dInner_i K P M
  have f5 := lParts_nil
  have f6 := nParts_spec K P M hgi hr hmm (by omega) (by omega)
  have f7 := nSame_spec K K P P M M (by omega) (by omega) (by omega) (by omega) (by omega) (by omega)
  rw [show (decide (K = K) && decide (P = P) && decide (M = M)) = true by simp] at f7
  obtain ⟨c1, c2, c3⟩ := cntP_ok y1
  have hpart : ∀ j, j < cntP K.length → (partsT K P M (cntP K.length))[j]? = some (partT K P M j) := fun j hj => by simp [partsT, hj]
  have hcell : ∀ j, j < cntP K.length → (flatIV (partsT K P M (cntP K.length)))[j]? = some (.fp (cIn (partT K P M j).1 (partT K P M j).2.1 (partT K P M j).2.2) 0) := fun j hj => by
    have h1 := flatIV_get (partsT K P M (cntP K.length)) j (by simpa using hj)
    have h2 := hpart j hj
    rw [List.getElem?_eq_getElem (by simpa using hj)] at h2
    rw [Option.some.inj h2] at h1
    exact h1
  have hcl := flatIV_length (partsT K P M (cntP K.length))
  rw [partsT_length] at hcl
  have hbet : ∀ j, j + 1 < cntP K.length → (flatS (betT K P (cntP K.length - 1)))[j]? = some (.sc (.string (P.getD (fromP K.length (cntP K.length) (j + 1) - 1) ⟨#[]⟩))) := fun j hj => by
    rw [flatS_get _ j (by simp; omega)]
    simp [betT]
  have hbl : (flatS (betT K P (cntP K.length - 1))).length = cntP K.length - 1 := by simp
  have hsz := fun j => sizeP_ok (n := K.length) (i := j) c1 c3 c2
  have hfe : ∀ j, j < cntP K.length → fromP K.length (cntP K.length) j + sizeP K.length (cntP K.length) j ≤ K.length := fun j hj => by
    have := fromP_le (n := K.length) (i := j + 1) c1 (by omega)
    rw [fromP_succ] at this
    exact this
  have hpl : ∀ j, j < cntP K.length → (partT K P M j).1.length = sizeP K.length (cntP K.length) j := fun j hj => by
    have := hfe j hj
    simp [partT, pieceT]
    omega
  have hpm : ∀ j, ∀ x ∈ (partT K P M j).2.2, isMsg x = true := fun j x hx => (takeM_good hr hmm _ _ _).2 x hx
  have hofs := fun j => dOfInner_spec (partT K P M j).1 (partT K P M j).2.1 (partT K P M j).2.2
  have hfit : ∀ j, j < cntP K.length → (∀ x ∈ K, x < 512) → PSpec Tryz.prog 11 [.fp (cNi (partT K P M j).1 (partT K P M j).2.1 (partT K P M j).2.2) 0] (.sc (.bool (decide (mwts (partT K P M j).2.2 ≤ 180)))) := fun j hj h => by
    have h1 := hpl j hj
    have h2 := hsz j
    have := dFits_i (partT K P M j).1 (partT K P M j).2.1 (partT K P M j).2.2 (by omega)
    have e : fitsIn (partT K P M j).1 (partT K P M j).2.2 = decide (mwts (partT K P M j).2.2 ≤ 180) := by
      unfold fitsIn
      rw [decide_eq_true (show (partT K P M j).1.length ≤ 6 by omega), Bool.true_and]
      have : (partT K P M j).1.all (fun x => decide (x < 512)) = true := List.all_eq_true.2 fun x hx => by
        rw [decide_eq_true_eq]
        exact h x (List.mem_of_mem_drop (List.mem_of_mem_take hx))
      rw [this, Bool.and_true]
    rwa [e] at this
  have hbuf := fun j => nBuff_spec (partT K P M j).1 (partT K P M j).2.1 (partT K P M j).2.2
  have hwt := fun j => bWeight_spec (partT K P M j).2.2
  have hjoin : ∀ j, j + 1 < cntP K.length → PSpec Tryz.prog 33 [.fp (cIn (firstT K P M (fromP K.length (cntP K.length) (j + 1))).1 (firstT K P M (fromP K.length (cntP K.length) (j + 1))).2.1 (firstT K P M (fromP K.length (cntP K.length) (j + 1))).2.2) 0, .sc (.string (P.getD (fromP K.length (cntP K.length) (j + 1) - 1) ⟨#[]⟩)), .fp (cIn (partT K P M (j + 1)).1 (partT K P M (j + 1)).2.1 (partT K P M (j + 1)).2.2) 0]
      (.tup [.fp (cIn (firstT K P M (fromP K.length (cntP K.length) (j + 2))).1 (firstT K P M (fromP K.length (cntP K.length) (j + 2))).2.1 (firstT K P M (fromP K.length (cntP K.length) (j + 2))).2.2) 0, .sc (.int .i64 0)]) := fun j hj => by
    have s1 := hfe (j + 1) hj
    have s2 := hsz (j + 1)
    have s3 := fromP_pos (n := K.length) (i := j + 1) c1 c3 (by omega)
    obtain ⟨q1, q2, q3⟩ := first_join hgi hr hmm s3 s2.1 s1
    rw [← fromP_succ] at q1 q2 q3
    have hgf := good_take hgi (f := fromP K.length (cntP K.length) (j + 2)) (fromP_pos c1 c3 (by omega)) (fromP_le c1 (by omega))
    have t1 := takeM_len M ⟨#[]⟩ (hiP P (fromP K.length (cntP K.length) (j + 1))) true
    have t2 := takeM_len M (loP P (fromP K.length (cntP K.length) (j + 1))) (hiP P (fromP K.length (cntP K.length) (j + 1) + sizeP K.length (cntP K.length) (j + 1))) true
    have hj := nJoin_spec (firstT K P M (fromP K.length (cntP K.length) (j + 1))).1 (partT K P M (j + 1)).1 (firstT K P M (fromP K.length (cntP K.length) (j + 1))).2.1 (partT K P M (j + 1)).2.1 (firstT K P M (fromP K.length (cntP K.length) (j + 1))).2.2 (partT K P M (j + 1)).2.2 (P.getD (fromP K.length (cntP K.length) (j + 1) - 1) ⟨#[]⟩)
      (by simp [firstT, partT, pieceT]; omega) (by simp [firstT, partT, pieceT]; omega) (by simp only [firstT, partT, pieceT]; omega) (takeM_good hr hmm _ _ _).1 (takeM_good hr hmm _ _ _).2 (hpm (j + 1))
      (by
        show goodIn (_ ++ (pieceT K P M _ _).1) (_ ++ (pieceT K P M _ _).2.1) = true
        rw [q1, q2]
        exact hgf)
    have e1 : (firstT K P M (fromP K.length (cntP K.length) (j + 1))).1 ++ (partT K P M (j + 1)).1 = (firstT K P M (fromP K.length (cntP K.length) (j + 2))).1 := q1
    have e2 : (firstT K P M (fromP K.length (cntP K.length) (j + 1))).2.1 ++ [P.getD (fromP K.length (cntP K.length) (j + 1) - 1) ⟨#[]⟩] ++ (partT K P M (j + 1)).2.1 = (firstT K P M (fromP K.length (cntP K.length) (j + 2))).2.1 := q2
    have e3 : withM (firstT K P M (fromP K.length (cntP K.length) (j + 1))).2.2 (partT K P M (j + 1)).2.2 = (firstT K P M (fromP K.length (cntP K.length) (j + 2))).2.2 := q3
    rw [e1, e2, e3] at hj
    exact hj
  have hend : firstT K P M (fromP K.length (cntP K.length) (cntP K.length)) = (K, P, M) := by rw [fromP_end c1, first_all hgi hmm]
  have hp0 := part_first K P M
  have h0 := hcell 0 (by omega)
  rw [hp0] at h0
  replace hcell := Lib.hid hcell
  replace hbet := Lib.hid hbet
  replace hofs := Lib.hid hofs
  replace hfit := Lib.hid hfit
  replace hbuf := Lib.hid hbuf
  replace hwt := Lib.hid hwt
  replace hjoin := Lib.hid hjoin
  replace hend := Lib.hid hend
  clear hpart hpl hpm hfe hsz hgi hr hmm y2 y3 y4 c2 hp0
  have hn30 : cntP K.length ≤ 30 := by omega
  clear c3
  generalize hN : cntP K.length = N at *
  generalize hF : (fun j => firstT K P M (fromP K.length N j)) = F
  have hF1 : ∀ j, firstT K P M (fromP K.length N j) = F j := fun j => by rw [← hF]
  simp only [hF1] at hjoin hend h0
  clear hF hF1
  generalize hQ : partT K P M = Q at *
  generalize (fun j => P.getD (fromP K.length N j - 1) (⟨#[]⟩ : Str)) = B
  generalize flatIV (partsT K P M N) = PC at *
  generalize flatS (betT K P (N - 1)) = BC at *
  clear hQ hN
  refine spec_pure (by simp) (by simp) ?_
  refine spec_intro Tryz.func6 good6 rfl (by simp [Tryz.ntmps6]) ?_
  refine go1 [] [] (cns ha (cns g1 (cns hm (cns o2 (cns f1 (cns f5 (cns Tryz.results6 (cns cN5.eq_1 trivial)))))))) ?_
  refine tri_for [3, 6] 0 (fun k_ e σ => σ = [] ∧ e 7 = .sc (.int .i64 k_)) ?_ (fun j env' σ' hlt hk hI => ?_) (fun env' σ' hk hI => ?_)
  · exact ⟨by simp, by simp⟩
  · skip
    (try simp at hk)
    obtain ⟨rfl, h7⟩ := hI
    omega
  · skip
    (try simp at hk)
    obtain ⟨rfl, h7⟩ := hI
    refine go1 [] [] (cns f2 (cns f3 (cns Tryz.results6 trivial))) ?_
    refine tri_for [3, 12] K.length (fun k_ e σ => σ = [] ∧ e 13 = .sc (.int .i64 k_) ∧ ∀ x ∈ K.take k_, x < 512) ?_ (fun j env' σ' hlt hk hI => ?_) (fun env' σ' hk hI => ?_)
    · exact ⟨by simp, by simp, by simp⟩
    · skip
      (try simp at hk)
      obtain ⟨rfl, h13, hx⟩ := hI
      clear hcell hbet hofs hfit hbuf hwt hjoin hend h0
      by_cases hj : K[j] < 512
      · have nx : ∀ x ∈ K.take (j + 1), x < 512 := fun x hm => by
          rw [List.take_succ_eq_append_getElem hlt] at hm
          rcases List.mem_append.1 hm with q | q
          · exact hx x q
          · rw [List.mem_singleton.1 q]; exact hj
        replace nx := Lib.hid nx
        have hj' : ¬ (512 : Int) ≤ K[j] := by omega
        clear hx
        refine go1 [] [] (cns Tryz.results6 trivial) ?_
        exact ⟨by simp [*], rfl, by simp, nx.out⟩
      · have hj' : (512 : Int) ≤ K[j] := by omega
        clear hx
        exact go0 [] [] (cns Tryz.results6 trivial)
    · skip
      (try simp at hk)
      obtain ⟨rfl, h13, hx⟩ := hI
      rw [List.take_length] at hx
      have hfit' := fun j hj => hfit.out j hj hx
      replace hfit' := Lib.hid hfit'
      clear hfit hx
      have hN1 : (N : Int) ≠ 0 := by omega
      refine go1 [] [] (cns f4 (cns f6 (cns Tryz.results6 trivial))) ?_
      refine tri_for [3, 14, 15] N (fun k_ e σ => σ = [] ∧ e 17 = .sc (.int .i64 k_) ∧ e 16 = .fp (cIn (F (max k_ 1)).1 (F (max k_ 1)).2.1 (F (max k_ 1)).2.2) 0) ?_ (fun j env' σ' hlt hk hI => ?_) (fun env' σ' hk hI => ?_)
      · exact ⟨by simp, by simp, by simp⟩
      · skip
        (try simp at hk)
        obtain ⟨rfl, h17, h16⟩ := hI
        have z1 := hcell.out j hlt
        have z2 := hofs.out j
        have z3 := hfit'.out j hlt
        have z4 := hbuf.out j
        have z5 := hwt.out j
        have z6 : ∀ i, j = i + 1 → BC[i]? = some (.sc (.string (P.getD (fromP K.length N (i + 1) - 1) ⟨#[]⟩))) := fun i hi => hbet.out i (by omega)
        have z7 : ∀ i, j = i + 1 → _ := fun i hi => hjoin.out i (by omega)
        clear hcell hofs hfit' hbuf hwt hbet hjoin hend h0
        generalize hX : Q j = X at *
        obtain ⟨x1, x2, x3⟩ := X
        simp only at z1 z2 z3 z4 z5
        replace z1 := fun (h : j < PC.length) => by have := z1; rw [List.getElem?_eq_getElem h] at this; exact Option.some.inj this
        match j with
        | 0 =>
          clear z6 z7
          rw [show max 0 1 = 1 from rfl] at h16
          rw [show max (0 + 1) 1 = 1 from rfl]
          generalize F 1 = Y at *
          obtain ⟨u1, u2, u3⟩ := Y
          simp only at h16 ⊢
          cases hw : decide (mwts x3 ≤ 180) with
          | true =>
            rw [hw] at z3
            have hw' : mwts x3 ≤ 180 := of_decide_eq_true hw
            clear hw
            refine go1 [] [] (cns z2 (cns z3 (cns z4 (cns z5 (cns Tryz.results6 trivial))))) ?_
            exact ⟨by simp [*], rfl, by simp, by simp [*]⟩
          | false =>
            rw [hw] at z3
            have hw' : ¬ mwts x3 ≤ 180 := of_decide_eq_false hw
            clear hw
            refine go1 [] [] (cns z2 (cns z3 (cns z4 (cns z5 (cns Tryz.results6 trivial))))) ?_
            exact ⟨by simp [*], rfl, by simp, by simp [*]⟩
        | i + 1 =>
          have y6 := z6 i rfl
          have y7 := z7 i rfl
          clear z6 z7
          rw [hX] at y7
          rw [show max (i + 1) 1 = i + 1 by omega] at h16
          rw [show max (i + 1 + 1) 1 = i + 2 by omega]
          generalize F (i + 1) = Y at *
          generalize F (i + 2) = Y2 at *
          obtain ⟨u1, u2, u3⟩ := Y
          obtain ⟨v1, v2, v3⟩ := Y2
          simp only at h16 y7 ⊢
          generalize P.getD (fromP K.length N (i + 1) - 1) ⟨#[]⟩ = t at *
          clear hX
          cases hw : decide (mwts x3 ≤ 180) with
          | true =>
            rw [hw] at z3
            have hw' : mwts x3 ≤ 180 := of_decide_eq_true hw
            clear hw
            refine go1 [] [] (cns z2 (cns z3 (cns z4 (cns z5 (cns y7 (cns Tryz.results6 trivial)))))) ?_
            exact ⟨by simp [*], rfl, by simp, by simp [*]⟩
          | false =>
            rw [hw] at z3
            have hw' : ¬ mwts x3 ≤ 180 := of_decide_eq_false hw
            clear hw
            refine go1 [] [] (cns z2 (cns z3 (cns z4 (cns z5 (cns y7 (cns Tryz.results6 trivial)))))) ?_
            exact ⟨by simp [*], rfl, by simp, by simp [*]⟩
      · skip
        (try simp at hk)
        obtain ⟨rfl, h17, h16⟩ := hI
        rw [show max N 1 = N by omega, hend.out] at h16
        clear hcell hofs hfit' hbuf hwt hbet hjoin hend h0
        simp only at h16
        exact go0 [] [] (cns f4 (cns f7 (cns Tryz.results6 trivial)))
theorem nodeParts_spec (b : Bool) (o : List Item) (k : List Int) (p : List Str) (m : List Msg) (h0 : o.length ≤ 9223372036854775807) (h1 : k.length ≤ 9223372036854775807) (h2 : p.length ≤ 9223372036854775807) (h3 : m.length ≤ 9223372036854775807) :
    PSpec Tryz.prog 6 [.agg (cN5 b o k p m)] (.sc (.bool true)) := by
  have ha := wAwake_spec
  have g1 := wGreat_spec o k p m h0 h1 h2 h3 b
  clear h0 h1 h2 h3
  cases hg : great12 o k p m with
  | true =>
    rw [hg] at g1
    clear hg
    refine spec_pure (by simp) (by simp) ?_
    refine spec_intro Tryz.func6 good6 rfl (by simp [Tryz.ntmps6]) ?_
    exact go0 [] [] (cns ha (cns g1 (cns Tryz.results6 (cns cN5.eq_1 trivial))))
  | false =>
    rw [hg] at g1
    obtain ⟨b0, b1, b2, b3⟩ := great12_no hg
    clear hg
    have hm := wMade_spec b o k p m (by omega) (by omega) (by omega) (by omega)
    cases hn : madeV b o k p m with
    | none =>
      rw [hn] at hm
      unfold avO nP at hm
      simp only [Option.map_none, Option.getD_none] at hm
      clear hn
      refine spec_pure (by simp) (by simp) ?_
      refine spec_intro Tryz.func6 good6 rfl (by simp [Tryz.ntmps6]) ?_
      exact go0 [] [] (cns ha (cns g1 (cns hm (cns Tryz.results6 (cns cN5.eq_1 trivial)))))
    | some n =>
      have hgd := madeV_good hn
      have hsm := madeV_small hn b0 b1 b2 b3
      rw [hn, show avO (some n) = n.av from rfl] at hm
      cases n with
      | l l => exact nodeParts_l b o k p m l hgd hsm ha g1 hm
      | i K P M =>
        have hL := madeV_isL hn
        have hb : b = false := by rw [← hL]; rfl
        subst hb
        unfold madeV at hn
        rw [if_neg (by simp)] at hn
        unfold nodeI at hn
        split at hn
        · rename_i hc
          simp only [Option.some.injEq, NodeV.i.injEq] at hn
          obtain ⟨rfl, rfl, rfl⟩ := hn
          have := (withM_ok m [] (by simp [Rise]) (by simp) (List.all_eq_true.1 hc.1)).2.2
          simp at this
          exact nodeParts_i false o k p m k p (withM [] m) hgd b1 (by omega) ha g1 hm
        · cases hn
end Go.Proofs.YticpnfgiidljlaaGreat
