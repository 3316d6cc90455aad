/- Leaves: do, With. -/
import Derived.Test.YtemijcjgdgdhjabGreatEg
import Derived.Test.YtemijcjgdgdhjabGreatPli
namespace Go.Proofs.YtemijcjgdgdhjabGreat
open Go.RowKit
set_option linter.unusedSimpArgs false
set_option maxRecDepth 10000
theorem placeI_row (l : List Item) (hl : l.length ≤ 1000000) (hr : RiseI l) (k : Str) (σ : Sto) (p : Nat) (v : AV) (x : Value) (fu : Bool) (hσ : σ[p]? = some ⟨[v, .sc x], 0, false, fu⟩) (hv : RowAt 2 p σ v l.length (flatI l)) :
    Spec Tryz.prog 51 [.mp p 0 0, .sc (.string k)] σ (fun r s => r = .tup [.sc (.int .i64 (lowI l k)), .sc (.bool (hitI l k))] ∧ s = σ) := by
  rcases hv with ⟨rfl, h1, h2⟩ | ⟨i, g, off, c, rfl, h1, h2, h3, h4⟩
  · obtain rfl := List.length_eq_zero_iff.1 h1
    refine lend [p] 9 (xs' := [.fp [.sc (.slice none 0 0), .sc x] 0, .sc (.string k)]) (by simp [frz, frzL, hσ, AV.flat, flatL]) rfl ?_
    exact pspec_args (lPlace_spec [] hl hr k x) (.cons (.fpL (.cons .nil (.cons (.refl _) .nil))) (.cons (.refl _) .nil))
  · refine lend [p, i] 9 (xs' := [.fp [.fs (flatI l) l.length, .sc x] 0, .sc (.string k)]) (by simp [frz, frzL, hσ, h2, h3, h4, AV.flat, flatL]) rfl ?_
    exact lPlace_spec l hl hr k x
theorem act_eq (l : List Item) (m : Msg) : actM (lookI m.key l) m = if (applyM m ((lookI m.key l).getD ⟨#[]⟩) (lookI m.key l).isSome).2 = true then some (applyM m ((lookI m.key l).getD ⟨#[]⟩) (lookI m.key l).isSome).1 else none := rfl
set_option maxHeartbeats 1000000 in
theorem lDo_spec (l : List Item) (hl : l.length < 1000000) (hr : RiseI l) (m : Msg) (σ : Sto) (p : Nat) (v : AV) (x : Value) (hσ : σ[p]? = some ⟨[v, .sc x], 0, false, false⟩) (hv : RowAt 2 p σ v l.length (flatI l)) :
    Spec Tryz.prog 32 [.mp p 0 0, .agg (cM m)] σ (fun r s => r = .tup [] ∧ ∃ v', s[p]? = some ⟨[v', .sc x], 0, false, false⟩ ∧ RowAt 2 p s v' (stepI l m).length (flatI (stepI l m))) := by
  have hpl := placeI_row l (by omega) hr m.key σ p v x false hσ hv
  obtain ⟨e1, e2⟩ := lookI_hit (k := m.key) hr
  have hst := stepI_is (m := m) hr
  rw [act_eq, ← e1] at hst
  have hap := mApply_spec m ((lookI m.key l).getD ⟨#[]⟩) (hitI l m.key)
  have hp := lt_of_get hσ
  have hle := lowI_le l m.key
  cases hh : hitI l m.key with
  | false =>
    have e3 : (lookI m.key l).getD ⟨#[]⟩ = ⟨#[]⟩ := by rw [lookI_none (hitI_no hr hh)]; rfl
    rw [hh] at hpl hst hap
    rw [e3] at hst hap
    clear e1 e2 e3
    generalize hA : applyM m ⟨#[]⟩ false = A at *
    obtain ⟨a1, a2⟩ := A
    cases a2 with
    | false =>
      simp only [Bool.false_eq_true, if_false] at hst
      rw [hst, restI_id (hitI_no hr hh)]
      replace hr := Lib.hid hr
      clear hst hle hA hh
      refine spec_intro Tryz.func32 good32 rfl (by simp [Tryz.ntmps32]) ?_
      replace hv := Lib.hid hv
      repeat' (first
       | (with_reducible first | refine Stp.pf ?_ | refine block_x (by decide) ?_ | refine ret_n ?_)
       | refine tri_reg [58] ?_ | refine tri_regc (id := 10) [58] [(7, .b), (8, .w)] mixed (by decide +kernel) ?_ | refine tri_regc (id := 12) [58] [(8, .w)] mixed (by decide +kernel) ?_ | refine tri_regc [58] [] mixed (by decide +kernel) ?_
       | (refine rwf_nilt rfl (by decide +kernel) fun B hB => ?_; (try simp [*]); refine hB.out _ fun b => ?_; clear hB B)
       | (refine Rul.pf ⟨rfl, rfl⟩ fun B C hB => ?_; (try simp [*, -List.all_eq_true, Tryz.results32]); (try (simp (disch := first | assumption | omega) only [wc, ite_yes]; (try simp [*, -List.all_eq_true, Tryz.results32]))); first | (first | refine hB.out.1 _ (fun hb => ?_) fun hb => ⟨rfl, ?_⟩ | refine hB.out.1 _ (fun hb => ?_) fun hb => ?_) <;> clear hB C B <;> (try simp only [Bool.not_true, Bool.not_false] at hb) <;> (first | (exfalso; simp at hb; done) | (exfalso; simp at hb; omega) | (rw [hb]; (try simp at hb)) | (try simp at hb)) | ((first | refine hB.out.1 _ _ ?_ | refine hB.out.1 _ ?_ | refine hB.out.2.1 _ _ _ (hpl) ?_ | refine hB.out.2.2 _ _ _ (hpl) ?_ | refine hB.out.2.1 _ _ _ (hap) ?_ | refine hB.out.2.2 _ _ _ (hap) ?_ | refine hB.out.2 ⟨rfl, ?_⟩); clear hB C B) | (refine hB.out.2 _ ?_; clear hB C B; (try rfl)))
       | refine rwf_o ?_ | refine rwc_o .n rfl ?_ | refine rwc_o .z rfl ?_ | refine rwc_o .w rfl ?_ | refine rwc_o .b rfl ?_ | refine rwc_o _ rfl ?_)
      exact ⟨rfl, v, hσ, hv.out⟩
    | true =>
      simp only [if_true] at hst
      rw [step_ins hr hh] at hst
      have hlen : (l.take (lowI l m.key) ++ ⟨m.key, a1⟩ :: l.drop (lowI l m.key)).length = l.length + 1 := by simp; omega
      have hcall := insI_spec l (by omega) ⟨m.key, a1⟩ (lowI l m.key) hle (σ ++ [⟨cI ⟨m.key, a1⟩, 0, false, false⟩]) v p σ.length (by simp; omega) (hv.append _) (by simp) hv.fresh
      rw [hst, hlen]
      replace hr := Lib.hid hr
      generalize l.take (lowI l m.key) ++ ⟨m.key, a1⟩ :: l.drop (lowI l m.key) = R at *
      clear hst hA hh hp
      refine spec_intro Tryz.func32 good32 rfl (by simp [Tryz.ntmps32]) ?_
      replace hv := Lib.hid hv
      repeat' (first
       | (with_reducible first | refine Stp.pf ?_ | refine block_x (by decide) ?_ | refine ret_n ?_)
       | refine tri_reg [58] ?_ | refine tri_regc (id := 10) [58] [(7, .b), (8, .w)] mixed (by decide +kernel) ?_ | refine tri_regc (id := 12) [58] [(8, .w)] mixed (by decide +kernel) ?_ | refine tri_regc [58] [] mixed (by decide +kernel) ?_
       | (refine rwf_nilt rfl (by decide +kernel) fun B hB => ?_; (try simp [*]); refine hB.out _ fun b => ?_; clear hB B)
       | (refine Rul.pf ⟨rfl, rfl⟩ fun B C hB => ?_; (try simp [*, -List.all_eq_true, Tryz.results32]); (try (simp (disch := first | assumption | omega) only [wc, ite_yes]; (try simp [*, -List.all_eq_true, Tryz.results32]))); first | (first | refine hB.out.1 _ (fun hb => ?_) fun hb => ⟨rfl, ?_⟩ | refine hB.out.1 _ (fun hb => ?_) fun hb => ?_) <;> clear hB C B <;> (try simp only [Bool.not_true, Bool.not_false] at hb) <;> (first | (exfalso; simp at hb; done) | (exfalso; simp at hb; omega) | (rw [hb]; (try simp at hb)) | (try simp at hb)) | ((first | refine hB.out.1 _ _ ?_ | refine hB.out.1 _ ?_ | refine hB.out.2.1 _ _ _ (hpl) ?_ | refine hB.out.2.2 _ _ _ (hpl) ?_ | refine hB.out.2.1 _ _ _ (hap) ?_ | refine hB.out.2.2 _ _ _ (hap) ?_ | refine hB.out.2 ⟨rfl, ?_⟩); clear hB C B) | (refine hB.out.2 _ ?_; clear hB C B; (try rfl)))
       | refine rwf_o ?_ | refine rwc_o .n rfl ?_ | refine rwc_o .z rfl ?_ | refine rwc_o .w rfl ?_ | refine rwc_o .b rfl ?_ | refine rwc_o _ rfl ?_)
      refine rwc_cw rfl fun C' hC => ?_
      simp
      refine hC.out _ _ _ hcall ?_ fun r s hq => ?_
      · exact ⟨_, _, rowAt_new (by simp; have := lt_of_get hσ; omega) (Nat.le_of_eq (by rw [flatI_length, hlen])) (List.take_of_length_le (by rw [flatI_length, hlen]; omega))⟩
      clear hC C' hcall
      obtain ⟨q1, q2⟩ := hq
      rw [get_app hσ] at q2
      rcases q1 with ⟨rfl, q3, _⟩ | ⟨i', g', off', c', rfl, q3, q4, q5, q6⟩
      · omega
      clear hv
      repeat' (first
       | (with_reducible first | refine Stp.pf ?_ | refine block_x (by decide) ?_ | refine ret_n ?_)
       | refine tri_reg [58] ?_ | refine tri_regc (id := 10) [58] [(7, .b), (8, .w)] mixed (by decide +kernel) ?_ | refine tri_regc (id := 12) [58] [(8, .w)] mixed (by decide +kernel) ?_ | refine tri_regc [58] [] mixed (by decide +kernel) ?_
       | (refine rwf_nilt rfl (by decide +kernel) fun B hB => ?_; (try simp [*]); refine hB.out _ fun b => ?_; clear hB B)
       | (refine Rul.pf ⟨rfl, rfl⟩ fun B C hB => ?_; (try simp [*, -List.all_eq_true, Tryz.results32]); (try (simp (disch := first | assumption | omega) only [wc, ite_yes]; (try simp [*, -List.all_eq_true, Tryz.results32]))); first | (first | refine hB.out.1 _ (fun hb => ?_) fun hb => ⟨rfl, ?_⟩ | refine hB.out.1 _ (fun hb => ?_) fun hb => ?_) <;> clear hB C B <;> (try simp only [Bool.not_true, Bool.not_false] at hb) <;> (first | (exfalso; simp at hb; done) | (exfalso; simp at hb; omega) | (rw [hb]; (try simp at hb)) | (try simp at hb)) | ((first | refine hB.out.1 _ _ ?_ | refine hB.out.1 _ ?_ | refine hB.out.2 ⟨rfl, ?_⟩); clear hB C B) | (refine hB.out.2 _ ?_; clear hB C B; (try rfl)))
       | refine rwf_o ?_ | refine rwc_o .n rfl ?_ | refine rwc_o .z rfl ?_ | refine rwc_o .w rfl ?_ | refine rwc_o .b rfl ?_ | refine rwc_o _ rfl ?_)
      exact ⟨rfl, _, List.getElem?_set_self (lt_of_get q2), .inr ⟨i', g', off', c', rfl, q3, by rw [List.getElem?_set_ne (Ne.symm q3)]; exact q4, q5, q6⟩⟩
  | true =>
    obtain ⟨hh2, hkey⟩ := hit_lowI hh
    have e3 := e2 hh hh2
    rw [hh] at hpl hst hap
    rw [← e3] at hst hap
    clear e1 e2
    rcases hv with ⟨rfl, h1, h2⟩ | ⟨i, g, off, c, rfl, h1, h2, h3, h4⟩
    · omega
    have hseg := segI h4 (lowI l m.key) hh2
    have hsg1 : c[off + lowI l m.key * 2 + 1]? = some (.sc (.string l[lowI l m.key].val)) := by
      have := congrArg (fun q => q[1]?) hseg
      simp only [List.getElem?_take, List.getElem?_drop] at this
      simpa [cI] using this
    generalize hA : applyM m l[lowI l m.key].val true = A at *
    obtain ⟨a1, a2⟩ := A
    cases a2 with
    | true =>
      simp only [if_true] at hst
      rw [step_set hr hh] at hst
      have hlen : (l.set (lowI l m.key) ⟨m.key, a1⟩).length = l.length := by simp
      have hws := wr_setC (c := cI) cI_length (⟨m.key, a1⟩ : Item) (lowI l m.key) hh2 h3 h4
      have hwl := wr_length c (off + lowI l m.key * 2) (cI ⟨m.key, a1⟩) (by simp; omega)
      rw [hst, hlen]
      replace hr := Lib.hid hr
      replace hws := Lib.hid hws
      clear hst hA hh hp e3 h4 hkey
      generalize l[lowI l m.key].val = old at *
      refine spec_intro Tryz.func32 good32 rfl (by simp [Tryz.ntmps32]) ?_
      repeat' (first
       | (with_reducible first | refine Stp.pf ?_ | refine block_x (by decide) ?_ | refine ret_n ?_)
       | refine tri_reg [58] ?_ | refine tri_regc (id := 10) [58] [(7, .b), (8, .w)] mixed (by decide +kernel) ?_ | refine tri_regc (id := 12) [58] [(8, .w)] mixed (by decide +kernel) ?_ | refine tri_regc [58] [] mixed (by decide +kernel) ?_
       | (refine rwf_nilt rfl (by decide +kernel) fun B hB => ?_; (try simp [*]); refine hB.out _ fun b => ?_; clear hB B)
       | (refine Rul.pf ⟨rfl, rfl⟩ fun B C hB => ?_; (try simp [*, -List.all_eq_true, Tryz.results32]); (try (simp (disch := first | assumption | omega) only [wc, ite_yes]; (try simp [*, -List.all_eq_true, Tryz.results32]))); first | (first | refine hB.out.1 _ (fun hb => ?_) fun hb => ⟨rfl, ?_⟩ | refine hB.out.1 _ (fun hb => ?_) fun hb => ?_) <;> clear hB C B <;> (try simp only [Bool.not_true, Bool.not_false] at hb) <;> (first | (exfalso; simp at hb; done) | (exfalso; simp at hb; omega) | (rw [hb]; (try simp at hb)) | (try simp at hb)) | ((first | refine hB.out.1 _ _ ?_ | refine hB.out.1 _ ?_ | refine hB.out.2.1 _ _ _ (hpl) ?_ | refine hB.out.2.2 _ _ _ (hpl) ?_ | refine hB.out.2.1 _ _ _ (hap) ?_ | refine hB.out.2.2 _ _ _ (hap) ?_ | refine hB.out.2 ⟨rfl, ?_⟩); clear hB C B) | (refine hB.out.2 _ ?_; clear hB C B; (try rfl)))
       | refine rwf_o ?_ | refine rwc_o .n rfl ?_ | refine rwc_o .z rfl ?_ | refine rwc_o .w rfl ?_ | refine rwc_o .b rfl ?_ | refine rwc_o _ rfl ?_)
      refine ⟨rfl, _, by rw [List.getElem?_set_ne h1]; exact hσ, .inr ⟨i, g, off, _, by simp, h1, ?_, by rw [hwl]; exact h3, hws.out⟩⟩
      rw [List.getElem?_set_self (lt_of_get h2), wr_eq _ _ _ (by simp; omega)]
      simp [cI]
    | false =>
      simp only [Bool.false_eq_true, if_false] at hst
      rw [rest_hit hr hh] at hst
      have hlen : (l.take (lowI l m.key) ++ l.drop (lowI l m.key + 1)).length = l.length - 1 := by simp; omega
      have hcall := delI_spec l (by omega) (lowI l m.key) hh2 σ i g off c false h2 h3 h4
      have e5 : ((lowI l m.key + 1 : Nat) : Int) = (lowI l m.key : Int) + 1 := by omega
      rw [e5] at hcall
      rw [hst, hlen]
      replace hr := Lib.hid hr
      clear hst hA hh hp e3 h4 hkey
      generalize l.take (lowI l m.key) ++ l.drop (lowI l m.key + 1) = R at *
      generalize l[lowI l m.key].val = old at *
      refine spec_intro Tryz.func32 good32 rfl (by simp [Tryz.ntmps32]) ?_
      repeat' (first
       | (with_reducible first | refine Stp.pf ?_ | refine block_x (by decide) ?_ | refine ret_n ?_)
       | refine tri_reg [58] ?_ | refine tri_regc (id := 10) [58] [(7, .b), (8, .w)] mixed (by decide +kernel) ?_ | refine tri_regc (id := 12) [58] [(8, .w)] mixed (by decide +kernel) ?_ | refine tri_regc [58] [] mixed (by decide +kernel) ?_
       | (refine rwf_nilt rfl (by decide +kernel) fun B hB => ?_; (try simp [*]); refine hB.out _ fun b => ?_; clear hB B)
       | (refine Rul.pf ⟨rfl, rfl⟩ fun B C hB => ?_; (try simp [*, -List.all_eq_true, Tryz.results32]); (try (simp (disch := first | assumption | omega) only [wc, ite_yes]; (try simp [*, -List.all_eq_true, Tryz.results32]))); first | (first | refine hB.out.1 _ (fun hb => ?_) fun hb => ⟨rfl, ?_⟩ | refine hB.out.1 _ (fun hb => ?_) fun hb => ?_) <;> clear hB C B <;> (try simp only [Bool.not_true, Bool.not_false] at hb) <;> (first | (exfalso; simp at hb; done) | (exfalso; simp at hb; omega) | (rw [hb]; (try simp at hb)) | (try simp at hb)) | ((first | refine hB.out.1 _ _ ?_ | refine hB.out.1 _ ?_ | refine hB.out.2.1 _ _ _ (hpl) ?_ | refine hB.out.2.2 _ _ _ (hpl) ?_ | refine hB.out.2.1 _ _ _ (hap) ?_ | refine hB.out.2.2 _ _ _ (hap) ?_ | refine hB.out.2 ⟨rfl, ?_⟩); clear hB C B) | (refine hB.out.2 _ ?_; clear hB C B; (try rfl)))
       | refine rwf_o ?_ | refine rwc_o .n rfl ?_ | refine rwc_o .z rfl ?_ | refine rwc_o .w rfl ?_ | refine rwc_o .b rfl ?_ | refine rwc_o _ rfl ?_)
      refine rwf_ca rfl fun C' hC hP => ?_
      clear hP
      (try simp [*, -List.all_eq_true]); (try (simp (disch := first | assumption | omega) only [wrap_id, wrapu_id, wrapb_id, tmod_nn, tdiv_nn, ite_yes, flatM_seg, flatM_0, flatM_1, flatM_2, flatI_seg, flatI_0, flatI_1, flatS_get]; (try simp [*, -List.all_eq_true])))
      refine hC.out _ _ _ (hcall) fun r s hq => ?_
      clear hC C'
      obtain ⟨c', rfl, rfl, q5, q6⟩ := hq
      clear hcall
      have hpi : (List.set σ i ⟨c', g, false, false⟩)[p]? = some ⟨[.ms i g off l.length 2, .sc x], 0, false, false⟩ := by rw [List.getElem?_set_ne h1]; exact hσ
      have hii : (List.set σ i ⟨c', g, false, false⟩)[i]? = some ⟨c', g, false, false⟩ := List.getElem?_set_self (lt_of_get h2)
      generalize List.set σ i ⟨c', g, false, false⟩ = S at *
      clear hσ h2
      repeat' (first
       | (with_reducible first | refine Stp.pf ?_ | refine block_x (by decide) ?_ | refine ret_n ?_)
       | refine tri_reg [58] ?_ | refine tri_regc (id := 10) [58] [(7, .b), (8, .w)] mixed (by decide +kernel) ?_ | refine tri_regc (id := 12) [58] [(8, .w)] mixed (by decide +kernel) ?_ | refine tri_regc [58] [] mixed (by decide +kernel) ?_
       | (refine rwf_nilt rfl (by decide +kernel) fun B hB => ?_; (try simp [*]); refine hB.out _ fun b => ?_; clear hB B)
       | (refine Rul.pf ⟨rfl, rfl⟩ fun B C hB => ?_; (try simp [*, -List.all_eq_true, Tryz.results32]); (try (simp (disch := first | assumption | omega) only [wc, ite_yes]; (try simp [*, -List.all_eq_true, Tryz.results32]))); first | (first | refine hB.out.1 _ (fun hb => ?_) fun hb => ⟨rfl, ?_⟩ | refine hB.out.1 _ (fun hb => ?_) fun hb => ?_) <;> clear hB C B <;> (try simp only [Bool.not_true, Bool.not_false] at hb) <;> (first | (exfalso; simp at hb; done) | (exfalso; simp at hb; omega) | (rw [hb]; (try simp at hb)) | (try simp at hb)) | ((first | refine hB.out.1 _ _ ?_ | refine hB.out.1 _ ?_ | refine hB.out.2 ⟨rfl, ?_⟩); clear hB C B) | (refine hB.out.2 _ ?_; clear hB C B; (try rfl)))
       | refine rwf_o ?_ | refine rwc_o .n rfl ?_ | refine rwc_o .z rfl ?_ | refine rwc_o .w rfl ?_ | refine rwc_o .b rfl ?_ | refine rwc_o _ rfl ?_)
      exact ⟨rfl, _, List.getElem?_set_self (lt_of_get hpi), .inr ⟨i, g, off, c', rfl, h1, by rw [List.getElem?_set_ne (Ne.symm h1)]; exact hii, q5, q6⟩⟩
end Go.Proofs.YtemijcjgdgdhjabGreat
