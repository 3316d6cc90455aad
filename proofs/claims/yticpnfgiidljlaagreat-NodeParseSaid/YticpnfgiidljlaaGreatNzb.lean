/- The document's Parse; NodeParse's body, NodeBack's. -/
import Derived.Test.YticpnfgiidljlaaGreatNr
import Derived.Test.YticpnfgiidljlaaGreatWgd
import Derived.Test.YticpnfgiidljlaaGreatSa
import Derived.Test.YticpnfgiidljlaaGreatNza
namespace Go.Proofs.YticpnfgiidljlaaGreat
open Go.RowKit
set_option linter.unusedSimpArgs false
set_option linter.unusedVariables false
set_option maxRecDepth 10000
def aw : Item := ⟨⟨#[97]⟩, ⟨#[98]⟩⟩
theorem aw_good : (NodeV.l [aw]).good := ⟨List.pairwise_singleton _ _, by decide⟩
theorem aw_fits : (NodeV.l [aw]).fits = true := by decide
theorem aw_bytes : ofL' (leafB [aw]) = ⟨#[1, 1, 1, 97, 1, 98]⟩ := by rfl
theorem aw_parse : parseV ⟨#[1, 1, 1, 97, 1, 98]⟩ = some (.l [aw]) := by
  have := parse_of aw_good aw_fits
  rwa [show (NodeV.l [aw]).bytes = leafB [aw] from rfl, aw_bytes] at this
theorem aw_more : parseV ⟨#[1, 1, 1, 97, 1, 98, 33]⟩ = none := by
  cases h : parseV ⟨#[1, 1, 1, 97, 1, 98, 33]⟩ with
  | none => rfl
  | some n =>
    have hd : (parseV ⟨#[1, 1, 1, 97, 1, 98, 33]⟩).isNone = true := by decide +kernel
    rw [h] at hd
    cases hd
theorem aw_of : leafR [aw] = .tup [.fp (cL [aw]) 0, .sc (.int .i64 0)] := by
  have h1 : [aw].all okI = true := by decide
  have h2 : ofL [aw] = some [aw] := ofL_rise (List.pairwise_singleton _ _)
  unfold leafR
  rw [h1, h2, if_neg (by simp)]
theorem wAwake_spec : PSpec Tryz.prog 7 [] (.sc (.bool true)) := by
  have h1 := lOf_spec [aw] (by simp)
  rw [aw_of] at h1
  have h2 := dOfLeaf_spec [aw]
  have h3 := dBytes_l [aw]
  rw [if_pos (by decide), aw_bytes] at h3
  have h4 := dParse_spec ⟨#[1, 1, 1, 97, 1, 98]⟩
  rw [aw_parse] at h4
  have h5 := dParse_spec ⟨#[1, 1, 1, 97, 1, 98, 33]⟩
  rw [aw_more] at h5
  have h6 := dSame_ll [aw] [aw] (by simp) (by simp)
  rw [decide_eq_true rfl] at h6
  have h7 := dIsLeaf_l [aw]
  have h8 := dOfLeaf_nil
  have h9 := dInner_l [aw]
  unfold nP at *
  unfold nodeR NodeV.av nP at *
  have hs : flatI [aw] = [.sc (.string ⟨#[97]⟩), .sc (.string ⟨#[98]⟩)] := rfl
  rw [hs] at h1
  simp only [List.length_singleton] at h1
  have hf : flatL (cNl [aw]) = true := by simp
  refine spec_pure (by simp) (by simp) ?_
  refine spec_intro Tryz.func7 good7 rfl (by simp [Tryz.ntmps7]) ?_
  exact go0 [] [] (cns h1 (cns h2 (cns h3 (cns h4 (cns h5 (cns h6 (cns h7 (cns h8 (cns h9 (cns Tryz.results7 trivial))))))))))
end Go.Proofs.YticpnfgiidljlaaGreat
namespace Go.Proofs.YticpnfgiidljlaaGreat
open Go.RowKit
set_option linter.unusedSimpArgs false
set_option linter.unusedVariables false
set_option maxRecDepth 10000
end Go.Proofs.YticpnfgiidljlaaGreat
namespace Go.Proofs.YticpnfgiidljlaaGreat
open Go.RowKit
set_option linter.unusedSimpArgs false
set_option linter.unusedVariables false
def NodeV.isL : NodeV → Bool
  | .l _ => true
  | .i _ _ _ => false
def NodeV.small : NodeV → Prop
  | .l o => o.length ≤ 90000
  | .i k p m => k.length ≤ 90000 ∧ p.length ≤ 90000 ∧ m.length ≤ 90000
def sameB : NodeV → NodeV → Bool
  | .l o, .l o' => decide (o = o')
  | .i k p m, .i k' p' m' => decide (k = k') && decide (p = p') && decide (m = m')
  | _, _ => false
theorem rSame12_v (n n' : NodeV) (h : n.small) (h' : n'.small) : PSpec Tryz.prog 15 [.agg n.c5, .agg n'.c5] (.sc (.bool (sameB n n'))) := by
  cases n with
  | l o =>
    have q : o.length ≤ 90000 := h
    cases n' with
    | l o' =>
      have q' : o'.length ≤ 90000 := h'
      have := rSame12_spec true true o o' [] [] [] [] [] [] (by omega) (by omega) (by simp) (by simp) (by simp) (by simp) (by simp) (by simp)
      simpa [sameB, NodeV.c5] using this
    | i k p m =>
      obtain ⟨a, b, c⟩ := h'
      have := rSame12_spec true false o [] [] k [] p [] m (by omega) (by simp) (by simp) (by omega) (by simp) (by omega) (by simp) (by omega)
      simpa [sameB, NodeV.c5] using this
  | i k p m =>
    obtain ⟨a, b, c⟩ := h
    cases n' with
    | l o =>
      have q : o.length ≤ 90000 := h'
      have := rSame12_spec false true [] o k [] p [] m [] (by simp) (by omega) (by omega) (by simp) (by omega) (by simp) (by omega) (by simp)
      simpa [sameB, NodeV.c5] using this
    | i k' p' m' =>
      obtain ⟨a', b', c'⟩ := h'
      have := rSame12_spec false false [] [] k k' p p' m m' (by simp) (by simp) (by omega) (by omega) (by omega) (by omega) (by omega) (by omega)
      simpa [sameB, NodeV.c5, Bool.and_assoc] using this
def NodeV.its : NodeV → List Item
  | .l o => o
  | .i _ _ _ => []
def NodeV.kids : NodeV → List Int
  | .l _ => []
  | .i k _ _ => k
def NodeV.pv : NodeV → List Str
  | .l _ => []
  | .i _ p _ => p
def NodeV.ms : NodeV → List Msg
  | .l _ => []
  | .i _ _ m => m
theorem NodeV.c5_is (n : NodeV) : n.c5 = cN5 n.isL n.its n.kids n.pv n.ms := by cases n <;> rfl
end Go.Proofs.YticpnfgiidljlaaGreat
namespace Go.Proofs.YticpnfgiidljlaaGreat
open Go.RowKit
set_option linter.unusedSimpArgs false
set_option linter.unusedVariables false
set_option maxRecDepth 10000
end Go.Proofs.YticpnfgiidljlaaGreat
namespace Go.Proofs.YticpnfgiidljlaaGreat
open Go.RowKit
set_option linter.unusedSimpArgs false
set_option linter.unusedVariables false
set_option maxRecDepth 10000
/-- What the document reads of bytes is what the program reads. -/
theorem rParse12_spec (s : Str) : ∃ b o k p m, (∀ n, parseV s = some n → cN5 b o k p m = n.c5) ∧ PSpec Tryz.prog 14 [.sc (.string s)] (.tup [.agg (cN5 b o k p m), .sc (.bool (parseV s).isSome)]) := by
  rcases h1 : numL 1 (s.data.toList, false) with ⟨kk, st1⟩
  rcases h2 : numL 1 st1 with ⟨cnt, st2⟩
  have hs : ofL' s.data.toList = s := ofL_strL s
  have hk : kindN s.data.toList = kk := by unfold kindN; rw [h1]
  have e1 : (numL 1 (s.data.toList, false)).2 = st1 := by rw [h1]
  have hc : cnt < 256 := by have := num1_lt st1; rw [h2] at this; exact this
  have nil : ∀ (h : parseV s = none), (PSpec Tryz.prog 14 [.sc (.string s)] (.tup [.agg (cN5 false [] [] [] []), .sc (.bool false)])) → ∃ b o k p m, (∀ n, parseV s = some n → cN5 b o k p m = n.c5) ∧ PSpec Tryz.prog 14 [.sc (.string s)] (.tup [.agg (cN5 b o k p m), .sc (.bool (parseV s).isSome)]) := fun h hp =>
    ⟨_, _, _, _, _, fun n hn => by (rw [h] at hn; cases hn), by rw [h]; exact hp⟩
  cases hb : st2.2 with
  | true =>
    refine nil ?_ (parse12_x s h1 h2 (.inl hb))
    rw [← hs]
    exact bad_other (by rw [e1, h2]; exact hb)
  | false =>
    have hst : st2 = (st2.1, false) := Prod.ext rfl hb
    by_cases k1 : kk = 1
    · subst k1
      have hdl : decLeaf st1 = rdN decItem cnt st2 := by unfold decLeaf; rw [h2]
      by_cases hex : ∃ j, j < cnt ∧ okL (rdN decItem cnt st2).1 j = false
      · obtain ⟨j, hj, hbad⟩ := hex
        refine nil ?_ (parse12_l s h1 h2 hb hc _ (fun _ _ _ => rfl) (fun h => by rw [h j hj] at hbad; cases hbad))
        rw [← hs]
        exact leaf_unread (j := j) hk (by rw [e1, hdl, rdN_len]; exact hj) (by rw [e1, hdl]; exact hbad)
      · have hall : ∀ j, j < cnt → okL (rdN decItem cnt st2).1 j = true := fun j hj => by
          cases h : okL (rdN decItem cnt st2).1 j with
          | true => rfl
          | false => exact absurd ⟨j, hj, h⟩ hex
        have hp := parse12_l s h1 h2 hb hc _ (fun j hj h => by rw [hall j hj] at h; cases h) (fun _ => rfl)
        have hr := leaf_read (s := s.data.toList) hk (by
          rw [e1, hdl]
          intro j hj
          rw [rdN_len] at hj
          exact hall j hj)
        rw [hs, e1, hdl] at hr
        by_cases hcd : (rdN decItem cnt st2).2 = ([], false) ∧ iwts (rdN decItem cnt st2).1 ≤ 240
        · rw [if_pos hcd] at hr
          rw [decide_eq_true hcd.1, decide_eq_true hcd.2] at hp
          rw [hr]
          exact ⟨_, _, _, _, _, (fun n hn => by cases hn; rfl), hp⟩
        · rw [if_neg hcd] at hr
          have : (decide ((rdN decItem cnt st2).2 = ([], false)) && decide (iwts (rdN decItem cnt st2).1 ≤ 240)) = false := by
            rw [Bool.and_eq_false_iff, decide_eq_false_iff_not, decide_eq_false_iff_not]
            exact Decidable.not_and_iff_or_not.1 hcd
          rw [this] at hp
          rw [hr]
          exact ⟨_, _, _, _, _, (fun n hn => by cases hn), hp⟩
    · by_cases k2 : kk = 2
      · subst k2
        rcases hK : rdN (numL 2) cnt (st2.1, false) with ⟨K, sk⟩
        rcases hP : rdN (textL 8) (cnt - 1) sk with ⟨PV, sp⟩
        rcases hN : numL 1 sp with ⟨nm, sm⟩
        rcases hM : rdN decMsg nm sm with ⟨MS, E⟩
        have hdi : decInner st1 = ((K, PV, MS), E) := by
          unfold decInner
          simp only [h2]
          rw [hst, hK]
          simp only
          rw [hP]
          simp only
          rw [hN]
          simp only
          rw [hM]
        have hma : msgsAt st1 = (nm, sm) := by
          unfold msgsAt
          rw [h2]
          dsimp only
          rw [hst, hK]
          dsimp only
          rw [hP]
          exact hN
        have h2' := h2
        rw [hst] at h2'
        by_cases hex : ∃ j, j < nm ∧ okM sm MS j = false
        · obtain ⟨j, hj, hbad⟩ := hex
          refine nil ?_ (parse12_i s h1 h2' hc hK hP hN hM _ (fun _ _ _ => rfl) (fun h => by rw [h j hj] at hbad; cases hbad))
          rw [← hs]
          exact inner_unread (j := j) hk st1 e1.symm (by rw [hma]; exact hj) (by rw [hma, hdi]; exact hbad)
        · have hall : ∀ j, j < nm → okM sm MS j = true := fun j hj => by
            cases h : okM sm MS j with
            | true => rfl
            | false => exact absurd ⟨j, hj, h⟩ hex
          have hp := parse12_i s h1 h2' hc hK hP hN hM _ (fun j hj h => by rw [hall j hj] at h; cases h) (fun _ => rfl)
          have hr := inner_read (s := s.data.toList) hk st1 e1.symm (by
            rw [hma, hdi]
            exact hall)
          rw [hs, hdi] at hr
          simp only at hr
          by_cases hcd : E = ([], false) ∧ goodIn (kidsI K) (pivS PV) = true ∧ fitsIn (kidsI K) MS = true
          · rw [if_pos hcd] at hr
            rw [decide_eq_true hcd.1, hcd.2.1, hcd.2.2] at hp
            rw [hr]
            exact ⟨_, _, _, _, _, (fun n hn => by cases hn; rfl), hp⟩
          · rw [if_neg hcd] at hr
            have : (decide (E = ([], false)) && goodIn (kidsI K) (pivS PV) && fitsIn (kidsI K) MS) = false := by
              cases hx : (decide (E = ([], false)) && goodIn (kidsI K) (pivS PV) && fitsIn (kidsI K) MS) with
              | false => rfl
              | true =>
                simp only [Bool.and_eq_true, decide_eq_true_eq] at hx
                exact absurd ⟨hx.1.1, hx.1.2, hx.2⟩ hcd
            rw [this] at hp
            rw [hr]
            exact ⟨_, _, _, _, _, (fun n hn => by cases hn), hp⟩
      · refine nil ?_ (parse12_x s h1 h2 (.inr ⟨k1, k2⟩))
        rw [← hs]
        exact kind_other (by rw [hk]; exact k1) (by rw [hk]; exact k2)
theorem fits_small {n : NodeV} (hg : n.good) (hf : n.fits = true) : n.small := by
  cases n with
  | l o =>
    have hw : iwts o ≤ 240 := by simpa [NodeV.fits] using hf
    have hl := iwts_len o
    show o.length ≤ 90000
    omega
  | i k p m =>
    obtain ⟨g1, g2, g3, g4⟩ := goodIn_iff.1 hg.1
    obtain ⟨f1, f2, f3⟩ := fitsIn_iff.1 hf
    have hl := mwts_len m
    exact ⟨by omega, by omega, by omega⟩
theorem wForm_v (n : NodeV) (h : n.small) : PSpec Tryz.prog 16 [n.av] (.agg n.c5) := by
  cases n with
  | l o => exact wForm_l o (by have : o.length ≤ 90000 := h; omega)
  | i k p m => exact wForm_i k p m (by have := h.1; omega) (by have := h.2.1; omega) (by have := h.2.2; omega)
theorem sameB_self (n : NodeV) : sameB n n = true := by cases n <;> simp [sameB]
theorem nodeParse_spec (s : Str) : PSpec Tryz.prog 4 [.sc (.string s)] (.sc (.bool true)) := by
  have ha := wAwake_spec
  by_cases hl : (300 : Int) < s.size
  · skip
    refine spec_pure (by simp) (by simp) ?_
    refine spec_intro Tryz.func4 good4 rfl (by simp [Tryz.ntmps4]) ?_
    exact go0 [] [] (cns ha (cns Tryz.results4 trivial))
  have hp := dParse_spec s
  obtain ⟨b, o, k, p, m, hc, hr⟩ := rParse12_spec s
  cases hv : parseV s with
  | none =>
    rw [hv] at hp hr
    simp only [nodeR, nP, Option.isSome_none] at hp hr
    clear hc hv
    refine spec_pure (by simp) (by simp) ?_
    refine spec_intro Tryz.func4 good4 rfl (by simp [Tryz.ntmps4]) ?_
    exact go0 [] [] (cns ha (cns hp (cns hr (cns Tryz.results4 (cns cN5.eq_1 trivial)))))
  | some n =>
    obtain ⟨g1, g2, _⟩ := parse_good hv
    have hsm := fits_small g1 g2
    have hcn := hc n hv
    rw [hcn, NodeV.c5_is] at hr
    have f1 := wForm_v n hsm
    have f2 := rSame12_v n n hsm hsm
    rw [sameB_self] at f2
    rw [NodeV.c5_is] at f1 f2
    rw [hv] at hp hr
    simp only [nodeR, Option.isSome_some] at hp hr
    have hfl := n.av_flat
    obtain ⟨cs, hav⟩ := n.av_fp
    rw [hav] at hp f1 hfl
    clear hc hcn hv g1 g2 hsm hav
    generalize n.isL = b1 at *
    generalize n.its = oo at *
    generalize n.kids = kk at *
    generalize n.pv = pp at *
    generalize n.ms = mm at *
    refine spec_pure (by simp) (by simp) ?_
    refine spec_intro Tryz.func4 good4 rfl (by simp [Tryz.ntmps4]) ?_
    exact go0 [] [] (cns ha (cns hp (cns hr (cns f1 (cns f2 (cns Tryz.results4 (cns cN5.eq_1 trivial)))))))
end Go.Proofs.YticpnfgiidljlaaGreat
