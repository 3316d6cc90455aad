/- Spaces: Take; what nil answers. -/
import Derived.Test.YtgdefllblcmgpaaYh
import Derived.Test.YtgdefllblcmgpaaPsr
namespace Go.Proofs.Ytgdefllblcmgpaa
open Go.RowKit
set_option linter.unusedSimpArgs false
set_option maxRecDepth 10000
/-- What Take tells, and what is free behind it. -/
def takeX (es : List Ext) (k : Int) : Ext × Int × List Ext := if k < 1 then (⟨0, 0⟩, 1, es) else if (bestX es k).sz = 0 then (⟨0, 0⟩, 9, es) else (⟨(bestX es k).lo, k⟩, 0, cutX es ⟨(bestX es k).lo, k⟩)
theorem best_in {es : List Ext} {k n : Int} (hn : Norm n es) (hk : 1 ≤ k) (hb : (bestX es k).sz ≠ 0) : (0 ≤ (bestX es k).lo ∧ 1 ≤ k ∧ xe ⟨(bestX es k).lo, k⟩ ≤ n) ∧ coverX es ⟨(bestX es k).lo, k⟩ = true := by
  obtain ⟨b1, b2, b3⟩ := bestX_ok k hk es ⟨0, 0⟩ (.inl rfl)
  change ((bestX es k).sz = 0 ∨ k ≤ (bestX es k).sz) at b1
  change (bestX es k = _ ∨ bestX es k ∈ es) at b2
  have hm : bestX es k ∈ es := b2.resolve_left fun q => hb (by rw [q])
  have hs : k ≤ (bestX es k).sz := b1.resolve_left hb
  have hx := hn.2 _ hm
  have e : xe (⟨(bestX es k).lo, k⟩ : Ext) = (bestX es k).lo + k := rfl
  have e2 : xe (bestX es k) = (bestX es k).lo + (bestX es k).sz := rfl
  refine ⟨⟨hx.1, hk, by omega⟩, (cover_iff hn hk).2 fun i i1 i2 => ⟨_, hm, i1, by rw [e] at i2; omega⟩⟩
theorem RowAt.set_ne {k p b : Nat} {σ : Sto} {v : AV} {n : Nat} {cs : List AV} (h : RowAt k p σ v n cs) (hb : ¬ isH b v) (X : MO) : RowAt k p (σ.set b X) v n cs := by
  rcases h with h | ⟨i, g, off, c, rfl, h2, h3, h4⟩
  · exact .inl h
  · exact .inr ⟨i, g, off, c, rfl, h2, by rw [List.getElem?_set_ne (fun e => hb (by rw [e]; exact isH_self ..))]; exact h3, h4⟩
theorem SpV.set_ne {p b : Nat} {n : Int} {v : AV} {e : List Ext} {σ : Sto} (h : SpV p n v e σ) (hp : b ≠ p) (hb : ¬ isH b v) (X : MO) : SpV p n v e (σ.set b X) := ⟨by rw [List.getElem?_set_ne hp]; exact h.1, h.2.set_ne hb X⟩
def TakeI (p : Nat) (n : Int) (v : AV) (es : List Ext) (σ : Sto) (o : Ext) (s : Sto) : Prop := SpV p n v es s ∧ s[σ.length]? = some ⟨cE ⟨0, 0⟩, 0, false, false⟩ ∧ s[σ.length + 1]? = some ⟨cE o, 0, false, false⟩ ∧ FrR p v σ s v
theorem TakeI.set {p : Nat} {n : Int} {v : AV} {es : List Ext} {σ : Sto} {o x : Ext} {s : Sto} (h : TakeI p n v es σ o s) (hv : ¬ isH (σ.length + 1) v) (hp : p < σ.length) : TakeI p n v es σ x (s.set (σ.length + 1) ⟨cE x, 0, false, false⟩) :=
  ⟨h.1.set_ne (by omega) hv _, by rw [List.getElem?_set_ne (by omega)]; exact h.2.1, List.getElem?_set_self (lt_of_get h.2.2.1), h.2.2.2.set_h (.inr (by omega)) _⟩
set_option maxHeartbeats 1000000 in
theorem sTake_spec (p : Nat) (n : Int) (es : List Ext) (k : Int) (σ : Sto) (v : AV) (h : SpV p n v es σ) (hn : Norm n es) (h0 : 0 ≤ n ∧ n ≤ 512) :
    Spec Try.prog 12 [.mp p 0 0, .sc (.int .i64 k)] σ (fun r s => r = .tup [.agg (cE (takeX es k).1), .sc (.int .i64 (takeX es k).2.1)] ∧ StepP p n v (takeX es k).2.2 σ s) := by
  have hpl := lt_of_get h.1
  have hF0 := FrR.refl p v σ
  unfold takeX
  by_cases hk : k < 1
  · rw [if_pos hk]
    have fin : StepP p n v es σ (σ ++ [⟨cE ⟨0, 0⟩, 0, false, false⟩]) := ⟨v, h.app _, hF0.trans (FrR.app ..)⟩
    replace fin := Lib.hid fin
    refine spec_intro Try.func12 good12 rfl (by simp [Try.ntmps12]) ?_
    clear h hF0 hpl
    refine go1 [4,6] [] (cns Try.results12 trivial) ?_
    exact ⟨rfl, fin.out⟩
  · rw [if_neg hk]
    have hel := norm_len hn h0.1
    rcases rowAt_shape h.2 with rfl | ⟨i, g, off, rfl⟩
    · have he0 : es = [] := by
        rcases h.2 with ⟨_, q, _⟩ | ⟨_, _, _, _, q, _⟩
        · exact List.length_eq_zero_iff.1 q
        · cases q
      subst he0
      rw [if_pos (show (bestX [] k).sz = 0 from rfl)]
      have fin : StepP p n (.sc (.slice none 0 0)) [] σ (σ ++ [⟨cE ⟨0, 0⟩, 0, false, false⟩, ⟨cE ⟨0, 0⟩, 0, false, false⟩]) := ⟨_, h.app _, hF0.trans (FrR.app ..)⟩
      replace fin := Lib.hid fin
      have hpX : ∀ X : Sto, (σ ++ X)[p]? = some ⟨[.sc (.int .i64 n), .sc (.slice none 0 0)], 0, false, false⟩ := fun X => (h.app X).1
      clear h hF0 hpl hn
      refine spec_intro Try.func12 good12 rfl (by simp [Try.ntmps12]) ?_
      refine go1 [4,6] [] (cns Try.results12 trivial) ?_
      obtain ⟨S, rfl⟩ : ∃ S, S = σ := ⟨_, rfl⟩
      refine tri_for [0, 1, 4, 5, 6, 21, 22] 0 (fun k e σ => σ = S ++ [⟨cE ⟨0, 0⟩, 0, false, false⟩, ⟨cE ⟨0, 0⟩, 0, false, false⟩] ∧ e 23 = .sc (.int .i64 0)) ?_ (fun k env' σ' hlt hk hI => ?_) (fun env' σ' hk hI => ?_)
      · exact ⟨by simp; rfl, by simp⟩
      · omega
      · skip
        (try simp at hk)
        obtain ⟨rfl, h23⟩ := hI
        refine go1 [4,6] [] (cns Try.results12 (cns cE.eq_1 trivial)) ?_
        exact ⟨rfl, fin.out⟩
    · have hiσ : i ≠ σ.length ∧ i ≠ σ.length + 1 := by
        rcases h.2 with ⟨q, _⟩ | ⟨i', g', off', c, q, h1, h2, _⟩
        · cases q
        · cases q
          have := lt_of_get h2
          omega
      have hS : TakeI p n (.ms i g off es.length 2) es σ ⟨0, 0⟩ (σ ++ [⟨cE ⟨0, 0⟩, 0, false, false⟩, ⟨cE ⟨0, 0⟩, 0, false, false⟩]) := ⟨h.app _, by simp, by simp, hF0.trans (FrR.app ..)⟩
      replace hS := Lib.hid hS
      have hpX : ∀ X : Sto, (σ ++ X)[p]? = some ⟨[.sc (.int .i64 n), .ms i g off es.length 2], 0, false, false⟩ := fun X => (h.app X).1
      clear h hF0
      replace hpl := Lib.hid hpl
      refine spec_intro Try.func12 good12 rfl (by simp [Try.ntmps12]) ?_
      refine go1 [4,6] [] (cns Try.results12 trivial) ?_
      obtain ⟨S, rfl⟩ : ∃ S, S = σ := ⟨_, rfl⟩
      clear hpX
      refine tri_for [0, 1, 4, 5, 6, 21, 22] es.length (fun k_ e σ => e 23 = .sc (.int .i64 k_) ∧ TakeI p n (.ms i g off es.length 2) es S (bestX (es.take k_) k) σ) ?_ (fun j env' σ' hlt hk hI => ?_) (fun env' σ' hk hI => ?_)
      · exact ⟨by simp, by simpa [cE, bestX] using hS.out⟩
      · skip
        (try simp at hk)
        obtain ⟨h23, hI⟩ := hI
        clear hS
        have hnx : ∀ x, TakeI p n (.ms i g off es.length 2) es S x (List.set σ' (S.length + 1) ⟨cE x, 0, false, false⟩) := fun x => hI.set (by rintro ⟨_, _, _, _, q⟩; cases q; omega) hpl.out
        rw [bestX_succ k hlt]
        obtain ⟨⟨k1, k2⟩, k3, k4, k5⟩ := id hI
        obtain ⟨i', g', off', c, hq, hip, h2, h3, h4⟩ := row_ms k2 (by omega)
        cases hq
        have sg := segE h4 _ hlt
        have hnx := Lib.hid (hnx es[j])
        replace hI := Lib.hid hI
        clear k2 k5 h4
        unfold bestS
        generalize es[j] = x at *
        generalize bestX (es.take j) k = o at *
        by_cases c1 : k ≤ x.sz
        · by_cases c2 : o.sz = 0
          · rw [if_pos ⟨c1, .inl c2⟩]
            refine go1 [4,6] [] (cns Try.results12 (cns cE.eq_1 trivial)) ?_
            exact ⟨by simp [*], by simp, hnx.out⟩
          · by_cases c3 : x.sz < o.sz
            · rw [if_pos ⟨c1, .inr c3⟩]
              refine go1 [4,6] [] (cns Try.results12 (cns cE.eq_1 trivial)) ?_
              exact ⟨by simp [*], by simp, hnx.out⟩
            · rw [if_neg fun q => by omega]
              refine go1 [4,6] [] (cns Try.results12 (cns cE.eq_1 trivial)) ?_
              exact ⟨by simp [*], by simp, hI.out⟩
        · rw [if_neg fun q => c1 q.1]
          refine go1 [4,6] [] (cns Try.results12 (cns cE.eq_1 trivial)) ?_
          exact ⟨by simp [*], by simp, hI.out⟩
      · skip
        (try simp at hk)
        obtain ⟨h23, hI⟩ := hI
        rw [List.take_length] at hI
        clear hS
        have hbp : ¬ S.length = p := by have := hpl.out; omega
        have hv4 : ¬ isH S.length (.ms i g off es.length 2) := by rintro ⟨_, _, _, _, q⟩; cases q; omega
        have hv6 : ¬ isH (S.length + 1) (.ms i g off es.length 2) := by rintro ⟨_, _, _, _, q⟩; cases q; omega
        by_cases hb : (bestX es k).sz = 0
        · rw [if_pos hb]
          have fin : StepP p n (.ms i g off es.length 2) es S (List.set σ' S.length ⟨cE ⟨0, 0⟩, 0, false, false⟩) := ⟨_, hI.1.set_ne hbp hv4 _, hI.2.2.2.set_h (.inr (Nat.le_refl _)) _⟩
          replace fin := Lib.hid fin
          obtain ⟨⟨k1, k2⟩, k3, k4, k5⟩ := hI
          clear k2 k5
          generalize bestX es k = o at *
          refine go1 [4,6] [] (cns Try.results12 (cns cE.eq_1 trivial)) ?_
          exact ⟨rfl, fin.out⟩
        · rw [if_neg hb]
          obtain ⟨q1, q2⟩ := best_in hn (by omega) hb
          have hI2 := hI.set (x := ⟨(bestX es k).lo, k⟩) hv6 hpl.out
          have hcut := sCut_spec p n es ⟨(bestX es k).lo, k⟩ _ _ hI2.1.1 hI2.1.2 hn h0 q1 q2
          obtain ⟨⟨k1, k2⟩, k3, k4, k5⟩ := hI
          replace hI2 := Lib.hid hI2
          clear k2 k5 q1 q2 hn
          generalize bestX es k = o at *
          refine go1 [4,6] [] (cns Try.results12 (cns cE.eq_1 trivial)) ?_
          refine rwf_ca rfl fun C' hC hP => ?_
          clear hP
          (try simp [*, -List.all_eq_true, cE.eq_1]); (try (simp (disch := first | assumption | omega) only [wrap_id, wrapu_id, wrapb_id, tmod_nn, tdiv_nn, ite_yes, flatM_seg, flatM_0, flatM_1, flatM_2, flatI_seg, flatI_0, flatI_1, flatS_get]; (try simp [*, -List.all_eq_true, cE.eq_1])))
          refine hC.out _ _ _ (hcut) fun r s3 hq => ?_
          clear hC C'
          obtain ⟨rfl, v', m1, m2, m3⟩ := hq
          clear hcut
          obtain ⟨I1, I2, I3, I4⟩ := hI2.out
          have r4 := m3.1 _ _ hbp hv4 I2
          have r6 := m3.1 _ _ (by have := hpl.out; omega) hv6 I3
          have hnv : ¬ isH S.length v' := fun q => by
            have := lt_of_get I2
            exact (m3.2.1 _ q).elim hv4 fun r => by omega
          have fin : StepP p n (.ms i g off es.length 2) (cutX es ⟨o.lo, k⟩) S (List.set s3 S.length ⟨cE ⟨o.lo, k⟩, 0, false, false⟩) :=
            ⟨v', (show SpV p n v' (cutX es ⟨o.lo, k⟩) s3 from ⟨m1, m2⟩).set_ne hbp hnv _, (I4.trans m3).set_h (.inr (Nat.le_refl _)) _⟩
          replace fin := Lib.hid fin
          clear m1 m2 m3 I1 I2 I3 I4 hI2 k1 k3 k4 hnv hbp hv4 hv6
          refine go1 [4,6] [] (cns Try.results12 (cns cE.eq_1 trivial)) ?_
          exact ⟨rfl, fin.out⟩
end Go.Proofs.Ytgdefllblcmgpaa
