/- Spaces: touches, covers, isApart. -/
import Derived.Test.YtgdefllblcmgpaaYa
import Derived.Test.YtgdefllblcmgpaaZRd
import Derived.Test.YtgdefllblcmgpaaPsr
namespace Go.Proofs.Ytgdefllblcmgpaa
open Go.RowKit
set_option linter.unusedSimpArgs false
set_option maxRecDepth 10000
theorem sTouches_spec (n : Int) (e : List Ext) (x : Ext) (hl : e.length ≤ 1000000) (he : Ends e) (h1 : -9223372036854775808 ≤ xe x) (h2 : xe x ≤ 9223372036854775807) : PSpec Try.prog 28 [.fp (cSp n e) 0, .agg (cE x)] (.sc (.bool (touchX e x))) := by
  have h := sFind_spec n e x.lo hl he
  have hx := sEnd_spec x h1 h2
  unfold touchX
  unfold findR at h
  clear he h1 h2
  rcases Nat.lt_or_ge (findX e x.lo) e.length with hlt | hge
  · rw [if_pos hlt] at h
    have a0 := flatE_0 e (findX e x.lo) hlt
    rw [List.getElem?_eq_getElem hlt]
    generalize findX e x.lo = F at *
    generalize xe x = z at *
    have hc : cE x = [.sc (.int .i64 x.lo), .sc (.int .i64 x.sz)] := rfl
    rw [hc] at hx ⊢
    by_cases hy : e[F].lo < z
    · skip
      refine spec_pure (by simp) (by simp) ?_
      refine spec_intro Try.func28 good28 rfl (by simp [Try.ntmps28]) ?_
      refine go1 [] [] (cns h (cns hx (cns Try.results28 (cns cSp.eq_1 trivial)))) ?_
      simp [hy]
    · skip
      refine spec_pure (by simp) (by simp) ?_
      refine spec_intro Try.func28 good28 rfl (by simp [Try.ntmps28]) ?_
      refine go1 [] [] (cns h (cns hx (cns Try.results28 (cns cSp.eq_1 trivial)))) ?_
      simp [hy]
  · rw [if_neg (by omega)] at h
    rw [List.getElem?_eq_none hge]
    have hc : cE x = [.sc (.int .i64 x.lo), .sc (.int .i64 x.sz)] := rfl
    rw [hc] at hx ⊢
    refine spec_pure (by simp) (by simp) ?_
    refine spec_intro Try.func28 good28 rfl (by simp [Try.ntmps28]) ?_
    exact go0 [] [] (cns h (cns hx (cns Try.results28 (cns cSp.eq_1 trivial))))
theorem sCovers_spec (n : Int) (e : List Ext) (x : Ext) (hl : e.length ≤ 1000000) (he : Ends e) (h1 : -9223372036854775808 ≤ xe x) (h2 : xe x ≤ 9223372036854775807) : PSpec Try.prog 34 [.fp (cSp n e) 0, .agg (cE x)] (.sc (.bool (coverX e x))) := by
  have h := sFind_spec n e x.lo hl he
  have hx := sEnd_spec x h1 h2
  unfold coverX
  unfold findR at h
  clear h1 h2
  rcases Nat.lt_or_ge (findX e x.lo) e.length with hlt | hge
  · rw [if_pos hlt] at h
    have a0 := flatE_0 e (findX e x.lo) hlt
    have sg := flatE_seg e (findX e x.lo) hlt
    obtain ⟨b1, b2⟩ := he e[findX e x.lo] (List.getElem_mem hlt)
    have hy := sEnd_spec e[findX e x.lo] b1 b2
    rw [List.getElem?_eq_getElem hlt]
    clear he b1 b2
    generalize findX e x.lo = F at *
    generalize xe x = z at *
    have hc : cE x = [.sc (.int .i64 x.lo), .sc (.int .i64 x.sz)] := rfl
    rw [hc] at hx ⊢
    generalize hy0 : e[F] = y at *
    dsimp only
    generalize xe y = u at *
    by_cases q1 : y.lo ≤ x.lo
    · by_cases q2 : z ≤ u
      · skip
        refine spec_pure (by simp) (by simp) ?_
        refine spec_intro Try.func34 good34 rfl (by simp [Try.ntmps34]) ?_
        repeat' (first
         | (with_reducible first | refine Stp.pf ?_ | refine block_x (by decide) ?_ | refine ret_n ?_)
         | refine tri_reg [] ?_ | refine tri_regc [] [] mixed (by decide +kernel) ?_
         | (refine rwf_nilt rfl (by decide +kernel) fun B hB => ?_; (try simp [*]); refine hB.out _ fun b => ?_; clear hB B)
         | (refine Rul.pf ⟨rfl, rfl⟩ fun B C hB => ?_; (try simp [*, -List.all_eq_true, cSp, Try.results34]); (try (simp (disch := first | assumption | omega) only [wc, ite_yes]; (try simp [*, -List.all_eq_true, cSp, Try.results34]))); first | (first | refine hB.out.1 _ (fun hb => ?_) fun hb => ⟨rfl, ?_⟩ | refine hB.out.1 _ (fun hb => ?_) fun hb => ?_) <;> clear hB C B <;> (try simp only [Bool.not_true, Bool.not_false] at hb) <;> (first | (exfalso; simp at hb; done) | (exfalso; simp at hb; omega) | (rw [hb]; (try simp at hb)) | (try simp at hb)) | ((first | refine hB.out.1 _ _ ?_ | refine hB.out.1 _ ?_ | refine hB.out.2.1 _ _ _ (h) ?_ | refine hB.out.2.2 _ _ _ (h) ?_ | refine hB.out.2.1 _ _ _ (hx) ?_ | refine hB.out.2.2 _ _ _ (hx) ?_ | refine hB.out.2.1 _ _ _ (hy) ?_ | refine hB.out.2.2 _ _ _ (hy) ?_ | refine hB.out.2 ⟨rfl, ?_⟩); clear hB C B) | (refine hB.out.2 _ ?_; clear hB C B; (try rfl)))
         | refine rwf_o ?_ | refine rwc_o .n rfl ?_ | refine rwc_o .z rfl ?_ | refine rwc_o .w rfl ?_ | refine rwc_o .b rfl ?_ | refine rwc_o _ rfl ?_)
        all_goals first | (simp [q1, q2]; done) | (exfalso; omega)
      · skip
        refine spec_pure (by simp) (by simp) ?_
        refine spec_intro Try.func34 good34 rfl (by simp [Try.ntmps34]) ?_
        repeat' (first
         | (with_reducible first | refine Stp.pf ?_ | refine block_x (by decide) ?_ | refine ret_n ?_)
         | refine tri_reg [] ?_ | refine tri_regc [] [] mixed (by decide +kernel) ?_
         | (refine rwf_nilt rfl (by decide +kernel) fun B hB => ?_; (try simp [*]); refine hB.out _ fun b => ?_; clear hB B)
         | (refine Rul.pf ⟨rfl, rfl⟩ fun B C hB => ?_; (try simp [*, -List.all_eq_true, cSp, Try.results34]); (try (simp (disch := first | assumption | omega) only [wc, ite_yes]; (try simp [*, -List.all_eq_true, cSp, Try.results34]))); first | (first | refine hB.out.1 _ (fun hb => ?_) fun hb => ⟨rfl, ?_⟩ | refine hB.out.1 _ (fun hb => ?_) fun hb => ?_) <;> clear hB C B <;> (try simp only [Bool.not_true, Bool.not_false] at hb) <;> (first | (exfalso; simp at hb; done) | (exfalso; simp at hb; omega) | (rw [hb]; (try simp at hb)) | (try simp at hb)) | ((first | refine hB.out.1 _ _ ?_ | refine hB.out.1 _ ?_ | refine hB.out.2.1 _ _ _ (h) ?_ | refine hB.out.2.2 _ _ _ (h) ?_ | refine hB.out.2.1 _ _ _ (hx) ?_ | refine hB.out.2.2 _ _ _ (hx) ?_ | refine hB.out.2.1 _ _ _ (hy) ?_ | refine hB.out.2.2 _ _ _ (hy) ?_ | refine hB.out.2 ⟨rfl, ?_⟩); clear hB C B) | (refine hB.out.2 _ ?_; clear hB C B; (try rfl)))
         | refine rwf_o ?_ | refine rwc_o .n rfl ?_ | refine rwc_o .z rfl ?_ | refine rwc_o .w rfl ?_ | refine rwc_o .b rfl ?_ | refine rwc_o _ rfl ?_)
        all_goals first | (simp [q1, q2]; done) | (exfalso; omega)
    · skip
      refine spec_pure (by simp) (by simp) ?_
      refine spec_intro Try.func34 good34 rfl (by simp [Try.ntmps34]) ?_
      repeat' (first
       | (with_reducible first | refine Stp.pf ?_ | refine block_x (by decide) ?_ | refine ret_n ?_)
       | refine tri_reg [] ?_ | refine tri_regc [] [] mixed (by decide +kernel) ?_
       | (refine rwf_nilt rfl (by decide +kernel) fun B hB => ?_; (try simp [*]); refine hB.out _ fun b => ?_; clear hB B)
       | (refine Rul.pf ⟨rfl, rfl⟩ fun B C hB => ?_; (try simp [*, -List.all_eq_true, cSp, Try.results34]); (try (simp (disch := first | assumption | omega) only [wc, ite_yes]; (try simp [*, -List.all_eq_true, cSp, Try.results34]))); first | (first | refine hB.out.1 _ (fun hb => ?_) fun hb => ⟨rfl, ?_⟩ | refine hB.out.1 _ (fun hb => ?_) fun hb => ?_) <;> clear hB C B <;> (try simp only [Bool.not_true, Bool.not_false] at hb) <;> (first | (exfalso; simp at hb; done) | (exfalso; simp at hb; omega) | (rw [hb]; (try simp at hb)) | (try simp at hb)) | ((first | refine hB.out.1 _ _ ?_ | refine hB.out.1 _ ?_ | refine hB.out.2.1 _ _ _ (h) ?_ | refine hB.out.2.2 _ _ _ (h) ?_ | refine hB.out.2.1 _ _ _ (hx) ?_ | refine hB.out.2.2 _ _ _ (hx) ?_ | refine hB.out.2.1 _ _ _ (hy) ?_ | refine hB.out.2.2 _ _ _ (hy) ?_ | refine hB.out.2 ⟨rfl, ?_⟩); clear hB C B) | (refine hB.out.2 _ ?_; clear hB C B; (try rfl)))
       | refine rwf_o ?_ | refine rwc_o .n rfl ?_ | refine rwc_o .z rfl ?_ | refine rwc_o .w rfl ?_ | refine rwc_o .b rfl ?_ | refine rwc_o _ rfl ?_)
      all_goals first | (simp [q1]; done) | (exfalso; omega)
  · rw [if_neg (by omega)] at h
    rw [List.getElem?_eq_none hge]
    clear he
    have hc : cE x = [.sc (.int .i64 x.lo), .sc (.int .i64 x.sz)] := rfl
    rw [hc] at hx ⊢
    refine spec_pure (by simp) (by simp) ?_
    refine spec_intro Try.func34 good34 rfl (by simp [Try.ntmps34]) ?_
    exact go0 [] [] (cns h (cns hx (cns Try.results34 (cns cSp.eq_1 trivial))))
def apartX (l : List Ext) : Bool := decide (l.Pairwise fun x y => xe x ≤ y.lo ∨ xe y ≤ x.lo)
theorem apartX_iff {l : List Ext} : apartX l = true ↔ Apart l := by unfold apartX Apart; rw [decide_eq_true_eq]
set_option maxHeartbeats 1000000 in
theorem sApart_spec (l : List Ext) (hl : l.length ≤ 1000000) (h1 : ∀ x ∈ l, 1 ≤ x.sz) (he : Ends l) : PSpec Try.prog 38 [.fs (flatE l) l.length] (.sc (.bool (apartX l))) := by
  have hv := vals_spec l
  have hs := sorted_spec l (by omega) []
  unfold seqE fCmp at *
  refine spec_pure (by simp) (by simp) ?_
  refine spec_intro Try.func38 good38 rfl (by simp [Try.ntmps38]) ?_
  refine go1 [] [] (cns hv (cns Try.results38 trivial)) ?_
  refine rwf_ca rfl fun C' hC hP => ?_
  clear hP
  (try simp [*, -List.all_eq_true]); (try (simp (disch := first | assumption | omega) only [wrap_id, wrapu_id, wrapb_id, tmod_nn, tdiv_nn, ite_yes, flatM_seg, flatM_0, flatM_1, flatM_2, flatI_seg, flatI_0, flatI_1, flatS_get]; (try simp [*, -List.all_eq_true])))
  refine hC.out _ _ _ (hs) fun r s hq => ?_
  clear hC C'
  clear hs
  obtain ⟨l', hp, hso, hq⟩ := hq
  have hsl : l'.Pairwise fun x y => ¬ y.lo < x.lo := hso.imp fun h => by simpa [ltE] using h
  have key := apart_sorted hp hsl h1
  have hlen := hp.length_eq
  have he' : Ends l' := fun x hx => he x (hp.mem_iff.1 hx)
  rcases hq with ⟨rfl, rfl, rfl⟩ | ⟨hpos, rfl, X, rfl⟩
  · have hap : apartX [] = true := rfl
    rw [hap]
    clear key hso hsl hp hlen he'
    refine go1 [] [] (cns Try.results38 trivial) ?_
    refine tri_for [3] 0 (fun k e σ => σ = [] ∧ e 4 = .sc (.int .i64 1)) ?_ (fun k env' σ' hlt hk hI => ?_) (fun env' σ' hk hI => ?_)
    · exact ⟨rfl, by simp⟩
    · omega
    · skip
      (try simp at hk)
      obtain ⟨rfl, h4⟩ := hI
      exact go0 [] [] (cns Try.results38 trivial)
  · have o1 : Own 2 (([] : Sto) ++ ⟨flatE l', 0, false, false⟩ :: X) (.ms ([] : Sto).length 0 0 l.length 2) l.length (flatE l') := .inr ⟨0, 0, 0, flatE l', rfl, rfl, by simp [hlen], by rw [← hlen]; exact List.take_of_length_le (by simp)⟩
    obtain ⟨u1, hu1, wu1⟩ := frz_own o1 (by simp) 0
    replace key := Lib.hid key
    replace he' := Lib.hid he'
    replace hlen := Lib.hid hlen
    clear hv hso hsl hp o1
    refine go1 [] [] (cns Try.results38 trivial) ?_
    refine tri_frz 3 _ (by simp; exact hu1) ?_
    refine tri_wk 3 (x := .fs (flatE l') l.length) (by simpa using wu1) ?_
    generalize freezeL _ _ = S
    clear hu1 wu1
    refine tri_for [3] (l.length - 1) (fun k_ e σ => σ = S ∧ e 4 = .sc (.int .i64 (k_ + 1 : Nat)) ∧ ∀ (i : Nat) (h : i + 1 < l'.length), i < k_ → xe l'[i] ≤ l'[i + 1].lo) ?_ (fun j env' σ' hlt hk hI => ?_) (fun env' σ' hk hI => ?_)
    · exact ⟨rfl, by simp, fun i h h2 => by omega⟩
    · skip
      (try simp at hk)
      obtain ⟨rfl, h4, ha⟩ := hI
      have hlt2 : j + 1 < l'.length := by have := hlen.out; omega
      have hlt3 : j + 1 < l.length := by omega
      obtain ⟨b1, b2⟩ := he'.out l'[j] (List.getElem_mem (by omega))
      have hend := sEnd_spec l'[j] b1 b2
      have sg := flatE_seg l' j (by omega)
      have a0 := flatE_0 l' (j + 1) hlt2
      have e1 : ((j + 1 : Nat) : Int) - 1 = (j : Nat) := by omega
      by_cases hx : xe l'[j] ≤ l'[j + 1].lo
      · replace ha := Lib.hid ha
        replace hlen := hlen.out
        clear key he'
        refine go1 [] [] (cns hend (cns Try.results38 trivial)) ?_
        exact ⟨by simp [*], rfl, by simp, fun i' h' h2 => by
          rcases Nat.lt_or_ge i' j with q | q
          · exact ha.out i' h' q
          · have : i' = j := by omega
            subst this
            exact hx⟩
      · have hap : apartX l = false := by
          cases h : apartX l with
          | false => rfl
          | true => exact absurd (key.out.2 (apartX_iff.1 h) j hlt2) hx
        rw [hap]
        clear key he' ha hap
        replace hlen := hlen.out
        exact go0 [] [] (cns hend (cns Try.results38 trivial))
    · skip
      (try simp at hk)
      obtain ⟨rfl, h4, ha⟩ := hI
      have hap : apartX l = true := apartX_iff.2 (key.out.1 fun i h => ha i h (by have := hlen.out; omega))
      rw [hap]
      clear ha hap key he'
      have h5 : ¬ l.length - 1 + 1 < l.length := by omega
      generalize l.length - 1 + 1 = i at *
      exact go0 [] [] (cns Try.results38 trivial)
end Go.Proofs.Ytgdefllblcmgpaa
