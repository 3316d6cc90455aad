/- NodeBytes's body. -/
import Derived.Test.YticpnfgiidljlaaGreatNt
namespace Go.Proofs.YticpnfgiidljlaaGreat
open Go.RowKit
set_option linter.unusedSimpArgs false
set_option linter.unusedVariables false
def NodeV.isL : NodeV → Bool
  | .l _ => true
  | .i _ _ _ => false
def NodeV.small : NodeV → Prop
  | .l o => o.length ≤ 90000
  | .i k p m => k.length ≤ 90000 ∧ p.length ≤ 90000 ∧ m.length ≤ 90000
theorem dIsLeaf_v (n : NodeV) : PSpec Tryz.prog 18 [n.av] (.sc (.bool n.isL)) := by
  cases n with
  | l o => exact dIsLeaf_l o
  | i k p m => exact dIsLeaf_i k p m
theorem dFits_v (n : NodeV) (h : n.small) : PSpec Tryz.prog 11 [n.av] (.sc (.bool n.fits)) := by
  cases n with
  | l o => exact dFits_l o
  | i k p m => exact dFits_i k p m (by have := h.1; omega)
theorem rFits12_v (n : NodeV) (hg : n.good) (h : n.small) : PSpec Tryz.prog 19 [.agg n.c5] (.sc (.bool n.fits)) := by
  cases n with
  | l o => exact rFits12_l o [] [] [] (by have : o.length ≤ 90000 := h; omega) fun x hx => by have := okI_small (hg.2 x hx); omega
  | i k p m => exact rFits12_i [] k p m (by have := h.1; omega) (by have := h.2.2; omega) (msmall hg.2.2)
theorem rBytes12_v (n : NodeV) (hg : n.good) (hf : n.fits = true) : PSpec Tryz.prog 21 [.agg n.c5] (.sc (.string (ofL' n.bytes))) := by
  cases n with
  | l o =>
    have hw : iwts o ≤ 240 := by simpa [NodeV.fits] using hf
    have hl := iwts_len o
    exact rBytes12_l o [] [] [] (by omega) fun x hx => by have := okI_small (hg.2 x hx); omega
  | i k p m =>
    obtain ⟨g1, g2, g3, g4⟩ := goodIn_iff.1 hg.1
    obtain ⟨f1, f2, f3⟩ := fitsIn_iff.1 hf
    have hl := mwts_len m
    exact rBytes12_i [] k p m (by omega) (by omega) (by omega) (fun x hx => ⟨g3 x hx, by have := f3 x hx; omega⟩) (fun t ht => by have := isKey_size (riseB_keys g4 t ht); omega) hg.2.2
def sameB : NodeV → NodeV → Bool
  | .l o, .l o' => decide (o = o')
  | .i k p m, .i k' p' m' => decide (k = k') && decide (p = p') && decide (m = m')
  | _, _ => false
theorem dSame_v (n n' : NodeV) (h : n.small) (h' : n'.small) : PSpec Tryz.prog 13 [n.av, n'.av] (.sc (.bool (sameB n n'))) := by
  cases n with
  | l o =>
    cases n' with
    | l o' => exact dSame_ll o o' (by have : o.length ≤ 90000 := h; omega) (by have : o'.length ≤ 90000 := h'; omega)
    | i k p m => exact dSame_li o k p m
  | i k p m =>
    cases n' with
    | l o => exact dSame_il o k p m
    | i k' p' m' =>
      obtain ⟨a, b, c⟩ := h
      obtain ⟨a', b', c'⟩ := h'
      exact dSame_ii k k' p p' m m' (by omega) (by omega) (by omega) (by omega) (by omega) (by omega)
theorem rSame12_v (n n' : NodeV) (h : n.small) (h' : n'.small) : PSpec Tryz.prog 15 [.agg n.c5, .agg n'.c5] (.sc (.bool (sameB n n'))) := by
  cases n with
  | l o =>
    have q : o.length ≤ 90000 := h
    cases n' with
    | l o' =>
      have q' : o'.length ≤ 90000 := h'
      have := rSame12_spec true true o o' [] [] [] [] [] [] (by omega) (by omega) (by simp) (by simp) (by simp) (by simp) (by simp) (by simp)
      simpa [sameB, NodeV.c5] using this
    | i k p m =>
      obtain ⟨a, b, c⟩ := h'
      have := rSame12_spec true false o [] [] k [] p [] m (by omega) (by simp) (by simp) (by omega) (by simp) (by omega) (by simp) (by omega)
      simpa [sameB, NodeV.c5] using this
  | i k p m =>
    obtain ⟨a, b, c⟩ := h
    cases n' with
    | l o =>
      have q : o.length ≤ 90000 := h'
      have := rSame12_spec false true [] o k [] p [] m [] (by simp) (by omega) (by omega) (by simp) (by omega) (by simp) (by omega) (by simp)
      simpa [sameB, NodeV.c5] using this
    | i k' p' m' =>
      obtain ⟨a', b', c'⟩ := h'
      have := rSame12_spec false false [] [] k k' p p' m m' (by simp) (by simp) (by omega) (by omega) (by omega) (by omega) (by omega) (by omega)
      simpa [sameB, NodeV.c5, Bool.and_assoc] using this
def NodeV.its : NodeV → List Item
  | .l o => o
  | .i _ _ _ => []
def NodeV.kids : NodeV → List Int
  | .l _ => []
  | .i k _ _ => k
def NodeV.pv : NodeV → List Str
  | .l _ => []
  | .i _ p _ => p
def NodeV.ms : NodeV → List Msg
  | .l _ => []
  | .i _ _ m => m
theorem NodeV.c5_is (n : NodeV) : n.c5 = cN5 n.isL n.its n.kids n.pv n.ms := by cases n <;> rfl
theorem dKids_v (n : NodeV) (h : n.small) : PSpec Tryz.prog 20 [n.av] (.fs (flatN n.kids) n.kids.length) := by
  cases n with
  | l o => exact pspec_wk (dKids_l o) .nil
  | i k p m => exact dKids_i k p m (by have := h.1; omega)
theorem dBytes_g (n : NodeV) (hg : n.good) (h : n.small) : PSpec Tryz.prog 10 [n.av] (if n.fits = true then .tup [.sc (.string (ofL' n.bytes)), .sc (.int .i64 0)] else .tup [.sc (.string ⟨#[]⟩), .sc (.int .i64 8)]) := by
  refine dBytes_v n ?_
  cases n with
  | l o => trivial
  | i k p m => exact ⟨hg.1, hg.2.2, by have := h.1; omega⟩
end Go.Proofs.YticpnfgiidljlaaGreat
namespace Go.Proofs.YticpnfgiidljlaaGreat
open Go.RowKit
set_option linter.unusedSimpArgs false
set_option linter.unusedVariables false
set_option maxRecDepth 10000
theorem great12_no {o : List Item} {k : List Int} {p : List Str} {m : List Msg} (h : great12 o k p m = false) : o.length ≤ 60 ∧ k.length ≤ 30 ∧ p.length ≤ 30 ∧ m.length ≤ 40 := by
  unfold great12 at h
  simp only [Bool.or_eq_false_iff, decide_eq_false_iff_not] at h
  omega
theorem madeV_good {b : Bool} {o : List Item} {k : List Int} {p : List Str} {m : List Msg} {n : NodeV} (h : madeV b o k p m = some n) : n.good := by
  unfold madeV at h
  split at h
  · exact nodeL_good h
  · exact nodeI_good h
theorem madeV_isL {b : Bool} {o : List Item} {k : List Int} {p : List Str} {m : List Msg} {n : NodeV} (h : madeV b o k p m = some n) : n.isL = b := by
  unfold madeV at h
  cases b with
  | true =>
    rw [if_pos rfl] at h
    unfold nodeL at h
    split at h
    · cases ho : ofL o <;> rw [ho] at h <;> cases h
      rfl
    · cases h
  | false =>
    rw [if_neg (by simp)] at h
    unfold nodeI at h
    split at h
    · cases h; rfl
    · cases h
theorem madeV_small {b : Bool} {o : List Item} {k : List Int} {p : List Str} {m : List Msg} {n : NodeV} (h : madeV b o k p m = some n) (h0 : o.length ≤ 60) (h1 : k.length ≤ 30) (h2 : p.length ≤ 30) (h3 : m.length ≤ 40) : n.small := by
  unfold madeV at h
  cases b with
  | true =>
    rw [if_pos rfl] at h
    unfold nodeL at h
    split at h
    · cases ho : ofL o with
      | none => rw [ho] at h; cases h
      | some q =>
        rw [ho] at h
        cases h
        have := (ofL_some ho).2.length_eq
        show q.length ≤ 90000
        omega
    · cases h
  | false =>
    rw [if_neg (by simp)] at h
    unfold nodeI at h
    split at h
    · rename_i hc
      cases h
      have := (withM_ok m [] (by simp [Rise]) (by simp) (List.all_eq_true.1 hc.1)).2.2
      refine ⟨by omega, by omega, ?_⟩
      simp at this
      omega
    · cases h
set_option maxHeartbeats 4000000 in
theorem nodeBytes_spec (b : Bool) (o : List Item) (k : List Int) (p : List Str) (m : List Msg) (b' : Bool) (o' : List Item) (k' : List Int) (p' : List Str) (m' : List Msg)
    (h0 : o.length ≤ 9223372036854775807) (h1 : k.length ≤ 9223372036854775807) (h2 : p.length ≤ 9223372036854775807) (h3 : m.length ≤ 9223372036854775807) (h0' : o'.length ≤ 9223372036854775807) (h1' : k'.length ≤ 9223372036854775807) (h2' : p'.length ≤ 9223372036854775807) (h3' : m'.length ≤ 9223372036854775807) :
    PSpec Tryz.prog 5 [.agg (cN5 b o k p m), .agg (cN5 b' o' k' p' m')] (.sc (.bool true)) := by
  have ha := wAwake_spec
  have g1 := wGreat_spec o k p m h0 h1 h2 h3 b
  have g2 := wGreat_spec o' k' p' m' h0' h1' h2' h3' b'
  clear h0 h1 h2 h3 h0' h1' h2' h3'
  have hcx : cN5 b o k p m = [.sc (.bool b), .fs (flatI o) o.length, .fs (flatN k) k.length, .fs (flatS p) p.length, .fs (flatM m) m.length] := rfl
  cases hg : great12 o k p m with
  | true =>
    rw [hg] at g1
    clear g2 hg
    refine spec_pure (by simp) (by simp) ?_
    refine spec_intro Tryz.func5 good5 rfl (by simp [Tryz.ntmps5]) ?_
    exact go0 [] [] (cns ha (cns g1 (cns Tryz.results5 trivial)))
  | false =>
    rw [hg] at g1
    obtain ⟨b0, b1, b2, b3⟩ := great12_no hg
    clear hg
    cases hg' : great12 o' k' p' m' with
    | true =>
      rw [hg'] at g2
      clear hg'
      refine spec_pure (by simp) (by simp) ?_
      refine spec_intro Tryz.func5 good5 rfl (by simp [Tryz.ntmps5]) ?_
      exact go0 [] [] (cns ha (cns g1 (cns g2 (cns Tryz.results5 trivial))))
    | false =>
      rw [hg'] at g2
      obtain ⟨b0', b1', b2', b3'⟩ := great12_no hg'
      clear hg'
      have hm := wMade_spec b o k p m (by omega) (by omega) (by omega) (by omega)
      have hs := wSound_spec b o k p m (by omega) (by omega) (by omega) (by omega)
      cases hn : madeV b o k p m with
      | none =>
        rw [hn] at hm hs
        unfold soundR at hs
        unfold avO nP at hm
        simp only [Option.map_none, Option.getD_none] at hm
        clear hn
        refine spec_pure (by simp) (by simp) ?_
        refine spec_intro Tryz.func5 good5 rfl (by simp [Tryz.ntmps5]) ?_
        exact go0 [] [] (cns ha (cns g1 (cns g2 (cns hm (cns hs (cns Tryz.results5 trivial))))))
      | some n =>
        have hgd := madeV_good hn
        have hsm := madeV_small hn b0 b1 b2 b3
        have hL := madeV_isL hn
        rw [hn, show avO (some n) = n.av from rfl] at hm
        rw [hn, show soundR b (some n) = .tup [.agg n.c5, .sc (.bool true)] from rfl, NodeV.c5_is] at hs
        have f1 := dIsLeaf_v n
        rw [hL] at f1 hs
        have f2 := dFits_v n hsm
        have f3 := rFits12_v n hgd hsm
        rw [NodeV.c5_is, hL] at f3
        have f4 := dKids_v n hsm
        have f5 := dBytes_g n hgd hsm
        have f6 := rBytes12_v n hgd
        rw [NodeV.c5_is, hL] at f6
        have hfl := n.av_flat
        have e1 := fun n' h => dSame_v n n' hsm h
        have e2 := fun n' h => rSame12_v n n' hsm h
        rw [NodeV.c5_is, hL] at e2
        generalize sameB n = sB at e1 e2
        obtain ⟨cs, hav⟩ := n.av_fp
        rw [hav] at hm f1 f2 f4 f5 hfl e1
        replace e1 := Lib.hid e1
        replace e2 := Lib.hid e2
        generalize n.its = oo at *
        generalize n.kids = kk at *
        generalize n.pv = pp at *
        generalize n.ms = mm at *
        cases hF : n.fits with
        | false =>
          rw [hF] at f2 f3 f5
          rw [if_neg (by simp)] at f5
          clear f6 hn hF hav hL e1 e2
          refine spec_pure (by simp) (by simp) ?_
          refine spec_intro Tryz.func5 good5 rfl (by simp [Tryz.ntmps5]) ?_
          exact go0 [] [] (cns ha (cns g1 (cns g2 (cns hm (cns hs (cns f1 (cns f2 (cns f3 (cns f4 (cns f5 (cns Tryz.results5 (cns cN5.eq_1 trivial))))))))))))
        | true =>
          rw [hF] at f2 f3 f5
          rw [if_pos rfl] at f5
          replace f6 := f6 hF
          generalize ofL' n.bytes = tx at *
          clear hn hF hav hL
          have n1 := dBytes_nil
          have n2 := dIsLeaf_nil
          have n3 := dLeaf_nil
          have n4 := dInner_nil
          have n5 := dKids_nil
          have n6 := dFits_nil
          have n7 := dOfInner_nil
          have n8 := dSame_nn
          have n9 := dSame_xn cs (by simpa [AV.flat] using hfl)
          unfold nP at n1 n2 n3 n4 n5 n6 n7 n8 n9
          have hm' := wMade_spec b' o' k' p' m' (by omega) (by omega) (by omega) (by omega)
          have hs' := wSound_spec b' o' k' p' m' (by omega) (by omega) (by omega) (by omega)
          cases hn' : madeV b' o' k' p' m' with
          | none =>
            rw [hn'] at hm' hs'
            unfold soundR at hs'
            unfold avO nP at hm'
            simp only [Option.map_none, Option.getD_none] at hm'
            clear hn' e1 e2
            refine spec_pure (by simp) (by simp) ?_
            refine spec_intro Tryz.func5 good5 rfl (by simp [Tryz.ntmps5]) ?_
            exact go0 [] [] (cns ha (cns g1 (cns g2 (cns hm (cns hs (cns f1 (cns f2 (cns f3 (cns f4 (cns f5 (cns f6 (cns hm' (cns hs' (cns n1 (cns n2 (cns n3 (cns n4 (cns n5 (cns n6 (cns n7 (cns n8 (cns n9 (cns Tryz.results5 (cns cN5.eq_1 trivial))))))))))))))))))))))))
          | some n' =>
            have hsm' := madeV_small hn' b0' b1' b2' b3'
            have hL' := madeV_isL hn'
            rw [hn', show avO (some n') = n'.av from rfl] at hm'
            rw [hn', show soundR b' (some n') = .tup [.agg n'.c5, .sc (.bool true)] from rfl, NodeV.c5_is, hL'] at hs'
            have q1 := e1.out n' hsm'
            have q2 := e2.out n' hsm'
            rw [NodeV.c5_is, hL'] at q2
            have hfl' := n'.av_flat
            obtain ⟨cs', hav'⟩ := n'.av_fp
            rw [hav'] at hm' q1 hfl'
            generalize sB n' = bb at *
            generalize n'.its = oo' at *
            generalize n'.kids = kk' at *
            generalize n'.pv = pp' at *
            generalize n'.ms = mm' at *
            clear hn' hav' hL' e1 e2 hsm'
            cases bb
            all_goals
              refine spec_pure (by simp) (by simp) ?_
              refine spec_intro Tryz.func5 good5 rfl (by simp [Tryz.ntmps5]) ?_
              exact go0 [] [] (cns ha (cns g1 (cns g2 (cns hm (cns hs (cns f1 (cns f2 (cns f3 (cns f4 (cns f5 (cns f6 (cns hm' (cns hs' (cns q1 (cns q2 (cns n1 (cns n2 (cns n3 (cns n4 (cns n5 (cns n6 (cns n7 (cns n8 (cns n9 (cns Tryz.results5 (cns cN5.eq_1 trivial))))))))))))))))))))))))))
end Go.Proofs.YticpnfgiidljlaaGreat
