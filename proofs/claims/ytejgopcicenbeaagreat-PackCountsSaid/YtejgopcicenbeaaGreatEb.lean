/- Leaves: slices.CompactFunc where two are twins; Of. -/
import Derived.Test.YtejgopcicenbeaaGreatEa
import Derived.Test.YtejgopcicenbeaaGreatPle
import Derived.Test.YtejgopcicenbeaaGreatLw
namespace Go.Proofs.YtejgopcicenbeaaGreat
open Go.RowKit Go.Sort
set_option linter.unusedSimpArgs false
set_option maxRecDepth 10000
/-- Row d, kept as an array, in object i: a cell can be written. -/
theorem AtD.put {σ0 : Sto} {i g off N : Nat} {d : Array Item} {σ : Sto} (h : AtD σ0 i g off N d σ) : ∃ c : List AV, σ[i]? = some ⟨c, g, false, false⟩ ∧ off + d.size * 2 ≤ c.length ∧ (∀ k, k < d.size → List.take 2 (List.drop (off + k * 2) c) = cI d[k]!) ∧
    ∀ (a : Nat) (y : Item), a < d.size → ∃ d' : Array Item, d'.size = d.size ∧ AtD σ0 i g off N d' (List.set σ i ⟨wr c (off + a * 2) (cI y), g, false, false⟩) := by
  obtain ⟨h0, c, rfl, h1, h2, h3⟩ := h
  have hsz : d.toList.length = d.size := by simp
  have hseg : ∀ k, k < d.size → List.take 2 (List.drop (off + k * 2) c) = cI d[k]! := fun k hk => by
    have hk' : k < d.toList.length := by omega
    rw [getElem!_pos d k hk, ← Array.getElem_toList, ← flatC_seg cI_length d.toList k hk', show flatC cI d.toList = flatI d.toList from rfl, ← h3, List.drop_take, List.take_take, List.drop_drop]
    congr 1; omega
  refine ⟨c, by simp [h0], by omega, hseg, ?_⟩
  intro a y ha
  have w0 := wr_length c (off + a * 2) (cI y) (by simp; omega)
  have w1 := wr_setC (c := cI) (cells := c) (l := d.toList) (off := off) cI_length y a (by rw [hsz]; exact ha) (by rw [hsz]; omega) (by rw [hsz]; exact h3)
  rw [hsz] at w1
  refine ⟨(d.toList.set a y).toArray, by simp, h0, wr c (off + a * 2) (cI y), by simp, by rw [w0, h1], by simpa using h2, ?_⟩
  simpa [flatI] using w1
theorem compI_yes (σ0 : Sto) (i g off N : Nat) (d : Array Item) (σ : Sto) (hN : N ≤ 100000000) (h : AtD σ0 i g off N d σ) (q : Nat) (hq : q + 1 < d.size) (htw : d[q + 1]!.key = d[q]!.key) :
    Spec Tryz.prog 59 [.ms i g off d.size 2, fTwin] σ (fun r _ => ∃ m, m < d.size ∧ r = .ms i g off m 2) := by
  have hdN : d.size ≤ N := by obtain ⟨_, _, _, _, h2, _⟩ := h; omega
  unfold fTwin
  refine spec_intro Tryz.func59 good59 rfl (by simp [Tryz.ntmps59]) ?_
  generalize hS : σ = S at *
  repeat' (first
   | (with_reducible first | refine Stp.pf ?_ | refine block_x (by decide) ?_ | refine ret_n ?_)
   | refine tri_reg [] ?_ | refine tri_regc [] [] mixed (by decide +kernel) ?_
   | (refine rwf_nilt rfl (by decide +kernel) fun B hB => ?_; (try simp [*]); refine hB.out _ fun b => ?_; clear hB B)
   | (refine Rul.pf ⟨rfl, rfl⟩ fun B C hB => ?_; (try simp [*, -List.all_eq_true, Tryz.results59]); (try (simp (disch := first | assumption | omega) only [wc, ite_yes]; (try simp [*, -List.all_eq_true, Tryz.results59]))); first | (first | refine hB.out.1 _ (fun hb => ?_) fun hb => ⟨rfl, ?_⟩ | refine hB.out.1 _ (fun hb => ?_) fun hb => ?_) <;> clear hB C B <;> (try simp only [Bool.not_true, Bool.not_false] at hb) <;> (first | (exfalso; simp at hb; done) | (exfalso; simp at hb; omega) | (rw [hb]; (try simp at hb)) | (try simp at hb)) | ((first | refine hB.out.1 _ _ ?_ | refine hB.out.1 _ ?_ | refine hB.out.2 ⟨rfl, ?_⟩); clear hB C B) | (refine hB.out.2 _ ?_; clear hB C B; (try rfl)))
   | refine rwf_o ?_ | refine rwc_o .n rfl ?_ | refine rwc_o .z rfl ?_ | refine rwc_o .w rfl ?_ | refine rwc_o .b rfl ?_ | refine rwc_o _ rfl ?_)
  refine tri_whl [0, 1] d.size (fun m e σ => σ = S ∧ ∃ j : Nat, 1 ≤ j ∧ j ≤ q + 1 ∧ m = d.size - j ∧ e 5 = .sc (.int .i64 j)) ?_ (fun m env' σ' hm hk hI => ?_)
  · exact ⟨d.size - 1, by omega, rfl, 1, by omega, by omega, rfl, by simp⟩
  · skip
    (try simp at hk)
    obtain ⟨rfl, j, hj1, hjn, hmj, h5⟩ := hI
    obtain ⟨c, r1, r2, r3, -⟩ := h.put
    obtain ⟨p, rfl⟩ : ∃ p, j = p + 1 := ⟨j - 1, by omega⟩
    have sg1 := r3 (p + 1) (by omega)
    have sg0 := r3 p (by omega)
    have tw := iTwin_spec d[p + 1]! d[p]!
    have e1 : ((p + 1 : Nat) : Int) - 1 = (p : Nat) := by omega
    have hpq : p + 1 = q + 1 → d[p + 1]!.key = d[p]!.key := fun e => by
      obtain rfl : p = q := by omega
      exact htw
    clear r3
    replace h := Lib.hid h
    replace htw := Lib.hid htw
    generalize d[p + 1]! = x at *
    generalize d[p]! = y at *
    generalize hj : p + 1 = j at *
    cases hb : decide (x.key = y.key) with
    | false =>
      have hlt : j < q + 1 := by
        rcases Nat.lt_or_ge j (q + 1) with h | h
        · exact h
        · have := hpq (by omega); rw [decide_eq_false_iff_not] at hb; exact absurd this hb
      rw [hb] at tw
      clear hb hpq
      refine go1 [] [] (cns tw (cns Tryz.results59 trivial)) ?_
      exact ⟨by simp [*], d.size - (j + 1), by omega, rfl, j + 1, by omega, by omega, rfl, by simp⟩
    | true =>
      rw [hb] at tw
      clear hb hpq
      obtain ⟨off2, ho2⟩ : ∃ o, off + j * 2 = o := ⟨_, rfl⟩
      rw [ho2] at sg1
      have hjd : ¬ j = d.size := by omega
      repeat' (first
       | (with_reducible first | refine Stp.pf ?_ | refine block_x (by decide) ?_ | refine ret_n ?_)
       | refine tri_reg [] ?_ | refine tri_regc [] [] mixed (by decide +kernel) ?_
       | (refine rwf_nilt rfl (by decide +kernel) fun B hB => ?_; (try simp [*]); refine hB.out _ fun b => ?_; clear hB B)
       | (refine Rul.pf ⟨rfl, rfl⟩ fun B C hB => ?_; (try simp [*, -List.all_eq_true, Tryz.results59]); (try (simp (disch := first | assumption | omega) only [wc, ite_yes]; (try simp [*, -List.all_eq_true, Tryz.results59]))); first | (first | refine hB.out.1 _ (fun hb => ?_) fun hb => ⟨rfl, ?_⟩ | refine hB.out.1 _ (fun hb => ?_) fun hb => ?_) <;> clear hB C B <;> (try simp only [Bool.not_true, Bool.not_false] at hb) <;> (first | (exfalso; simp at hb; done) | (exfalso; simp at hb; omega) | (rw [hb]; (try simp at hb)) | (try simp at hb)) | ((first | refine hB.out.1 _ _ ?_ | refine hB.out.1 _ ?_ | refine hB.out.2.1 _ _ _ (tw) ?_ | refine hB.out.2.2 _ _ _ (tw) ?_ | refine hB.out.2 ⟨rfl, ?_⟩); clear hB C B) | (refine hB.out.2 _ ?_; clear hB C B; (try rfl)))
       | refine rwf_o ?_ | refine rwc_o .n rfl ?_ | refine rwc_o .z rfl ?_ | refine rwc_o .w rfl ?_ | refine rwc_o .b rfl ?_ | refine rwc_o _ rfl ?_)
      clear sg0 sg1 tw e1 hj1
      refine tri_whx [0, 1, 4, 6] d.size (fun m e σ => ∃ (t a : Nat) (d1 : Array Item), 1 ≤ t ∧ t ≤ d.size - j ∧ j ≤ a ∧ a + 1 ≤ j + t ∧ m = d.size - t ∧ e 7 = .sc (.int .i64 t) ∧ e 5 = .sc (.int .i64 a) ∧ d1.size = d.size ∧ AtD σ0 i g off N d1 σ) (fun e σ => ∃ (a : Nat) (d1 : Array Item), a < d.size ∧ e 5 = .sc (.int .i64 a) ∧ d1.size = d.size ∧ AtD σ0 i g off N d1 σ) ?_ (fun m env' σ' hm hk hI => ?_) (fun env' σ' hk hI => ?_)
      · exact ⟨d.size - 1, by omega, 1, j, d, by omega, by omega, by omega, by omega, rfl, by simp, by simp [*], rfl, h.out⟩
      · skip
        (try simp at hk)
        obtain ⟨t, a, d1, ht1, htn, ha1, ha2, hmt, h7, h5, hs1, hA⟩ := hI
        clear h
        by_cases ht : t < d.size - j
        · obtain ⟨c1, u1, u2, u3, u4⟩ := hA.put
          obtain ⟨b, rfl⟩ : ∃ b, t = b + 1 := ⟨t - 1, by omega⟩
          have sg1 := u3 (j + (b + 1)) (by omega)
          have sg0 := u3 (j + b) (by omega)
          obtain ⟨d2, v1, v2⟩ := u4 a d1[j + (b + 1)]! (by omega)
          have tw := iTwin_spec d1[j + (b + 1)]! d1[j + b]!
          have e1 : ((b + 1 : Nat) : Int) - 1 = (b : Nat) := by omega
          rw [Nat.add_mul, ← Nat.add_assoc, ho2] at sg0 sg1
          clear u3 u4
          replace v2 := Lib.hid v2
          replace hA := Lib.hid hA
          generalize d1[j + (b + 1)]! = x at *
          generalize d1[j + b]! = y at *
          generalize hbt : b + 1 = t at *
          generalize decide (x.key = y.key) = bo at *
          cases bo with
          | true =>
            refine go1 [] [] (cns tw (cns Tryz.results59 trivial)) ?_
            refine ⟨by simp [*], d.size - (t + 1), by omega, t + 1, a, d1, by omega, by omega, by omega, by omega, rfl, by simp, by simp [*], hs1, hA.out⟩
          | false =>
            refine go1 [] [] (cns tw (cns Tryz.results59 trivial)) ?_
            refine ⟨by simp [*], d.size - (t + 1), by omega, t + 1, a + 1, d2, by omega, by omega, by omega, by omega, rfl, by simp, by simp, by omega, v2.out⟩
        · skip
          refine go1 [] [] (cns Tryz.results59 trivial) ?_
          exact ⟨rfl, by simp [*], a, d1, by omega, by simp [*], hs1, hA⟩
      · skip
        (try simp at hk)
        obtain ⟨a, d1, ha, h5, hs1, hA⟩ := hI
        clear h
        obtain ⟨c1, u1, u2, u3, u4⟩ := hA.put
        clear u3 u4
        replace hA := Lib.hid hA
        have had : ¬ a = d.size := by omega
        have had2 : ¬ d.size - a = 0 := by omega
        repeat' (first
         | (with_reducible first | refine Stp.pf ?_ | refine block_x (by decide) ?_ | refine ret_n ?_)
         | refine tri_reg [] ?_ | refine tri_regc [] [] mixed (by decide +kernel) ?_
         | (refine rwf_nilt rfl (by decide +kernel) fun B hB => ?_; (try simp [*]); refine hB.out _ fun b => ?_; clear hB B)
         | (refine Rul.pf ⟨rfl, rfl⟩ fun B C hB => ?_; (try simp [*, -List.all_eq_true, Tryz.results59]); (try (simp (disch := first | assumption | omega) only [wc, ite_yes]; (try simp [*, -List.all_eq_true, Tryz.results59]))); first | (first | refine hB.out.1 _ (fun hb => ?_) fun hb => ⟨rfl, ?_⟩ | refine hB.out.1 _ (fun hb => ?_) fun hb => ?_) <;> clear hB C B <;> (try simp only [Bool.not_true, Bool.not_false] at hb) <;> (first | (exfalso; simp at hb; done) | (exfalso; simp at hb; omega) | (rw [hb]; (try simp at hb)) | (try simp at hb)) | ((first | refine hB.out.1 _ _ ?_ | refine hB.out.1 _ ?_ | refine hB.out.2 ⟨rfl, ?_⟩); clear hB C B) | (refine hB.out.2 _ ?_; clear hB C B; (try rfl)))
         | refine rwf_o ?_ | refine rwc_o .n rfl ?_ | refine rwc_o .z rfl ?_ | refine rwc_o .w rfl ?_ | refine rwc_o .b rfl ?_ | refine rwc_o _ rfl ?_)
        exact ⟨a, ha, rfl⟩
theorem ok_small {l : List Item} (h : ∀ x ∈ l, okI x = true) : ISmall l := fun x hx => by
  have := h x hx
  rw [okI_is] at this
  simp [isKey, isVal] at this
  omega
/-- What leaf.Of comes to. -/
def leafR (l : List Item) : AV := if l.all okI = false then .tup [.sc (.pointer none), .sc (.int .i64 1)] else match ofL l with
  | none => .tup [.sc (.pointer none), .sc (.int .i64 11)]
  | some o => .tup [.fp (cL o) 0, .sc (.int .i64 0)]
theorem compI_nil : PSpec Tryz.prog 59 [.fs [] 0, fTwin] (.fs [] 0) := by
  unfold fTwin
  refine spec_pure (by simp) (by simp) ?_
  refine spec_intro Tryz.func59 good59 rfl (by simp [Tryz.ntmps59]) ?_
  exact go0 [] [] (cns Tryz.results59 trivial)
theorem lOf_spec (l : List Item) (hl : l.length ≤ 1000000) : PSpec Tryz.prog 33 [.fs (flatI l) l.length] (leafR l) := by
  have hc := contI_spec l hl
  unfold leafR fBad at *
  refine spec_pureFW (by simp) ?_
  refine spec_intro Tryz.func33 good33 rfl (by simp [Tryz.ntmps33]) ?_
  cases ho : l.all okI with
  | false =>
    rw [ho] at hc
    rw [if_pos rfl]
    clear ho
    refine go1 [] [] (cns hc (cns Tryz.results33 trivial)) ?_
    all_goals exact out_flat rfl (.refl _)
  | true =>
    rw [ho] at hc
    rw [if_neg (by simp)]
    have hv := vals_spec l
    have hs := sorted_spec l (by omega) []
    unfold fCmp at hs
    refine go1 [] [] (cns hc (cns hv (cns Tryz.results33 trivial))) ?_
    refine rwf_ca rfl fun C' hC hP => ?_
    clear hP
    (try simp [*, -List.all_eq_true]); (try (simp (disch := first | assumption | omega) only [wrap_id, wrapu_id, wrapb_id, tmod_nn, tdiv_nn, ite_yes, flatM_seg, flatM_0, flatM_1, flatM_2, flatI_seg, flatI_0, flatI_1, flatS_get]; (try simp [*, -List.all_eq_true])))
    refine hC.out _ _ _ (hs) fun r s hq => ?_
    clear hC C'
    clear hs hc hv
    obtain ⟨l', hp, hsl, hq⟩ := hq
    have hlen := hp.length_eq
    rcases hq with ⟨rfl, rfl, rfl⟩ | ⟨hpos, rfl, X, hX⟩
    · have hm := lMade_spec [] (by simp) (fun x hx => by simp at hx)
      have hcn := compI_nil
      unfold fTwin at hcn
      refine go1 [] [] (cns hcn (cns hm (cns Tryz.results33 trivial))) ?_
      exact out_flat rfl (.refl _)
    · have h1 : s[0]? = some ⟨flatI l', 0, false, false⟩ := by rw [hX]; rfl
      rcases of_sorted hp hsl with ⟨ht, hof⟩ | ⟨⟨k, hk, htw⟩, hof⟩
      · have hcn := compI_no 0 0 0 l' (flatI l') false s (by omega) h1 (by simp) (List.take_of_length_le (by simp)) ht
        have hm := lMade_spec l' (by omega) (ok_small fun x hx => List.all_eq_true.1 ho x (hp.mem_iff.1 hx))
        have htk : List.take (l.length * 2) (flatI l') = flatI l' := List.take_of_length_le (by simp [hlen])
        rw [hof]
        unfold fTwin at hcn
        rw [hlen] at hcn hm
        clear hX hp hsl ht ho hof
        repeat' (first
         | (with_reducible first | refine Stp.pf ?_ | refine block_x (by decide) ?_ | refine ret_n ?_)
         | refine tri_reg [] ?_ | refine tri_regc [] [] mixed (by decide +kernel) ?_
         | (refine rwf_nilt rfl (by decide +kernel) fun B hB => ?_; (try simp [*]); refine hB.out _ fun b => ?_; clear hB B)
         | (refine Rul.pf ⟨rfl, rfl⟩ fun B C hB => ?_; (try simp [*, -List.all_eq_true, Tryz.results33]); (try (simp (disch := first | assumption | omega) only [wc, ite_yes]; (try simp [*, -List.all_eq_true, Tryz.results33]))); first | (first | refine hB.out.1 _ (fun hb => ?_) fun hb => ⟨rfl, ?_⟩ | refine hB.out.1 _ (fun hb => ?_) fun hb => ?_) <;> clear hB C B <;> (try simp only [Bool.not_true, Bool.not_false] at hb) <;> (first | (exfalso; simp at hb; done) | (exfalso; simp at hb; omega) | (rw [hb]; (try simp at hb)) | (try simp at hb)) | ((first | refine hB.out.1 _ _ ?_ | refine hB.out.1 _ ?_ | refine hB.out.2 ⟨rfl, ?_⟩); clear hB C B) | (refine hB.out.2 _ ?_; clear hB C B; (try rfl)))
         | refine rwf_o ?_ | refine rwc_o .n rfl ?_ | refine rwc_o .z rfl ?_ | refine rwc_o .w rfl ?_ | refine rwc_o .b rfl ?_ | refine rwc_o _ rfl ?_)
        refine rwf_ca rfl fun C' hC hP => ?_
        clear hP
        (try simp [*, -List.all_eq_true]); (try (simp (disch := first | assumption | omega) only [wrap_id, wrapu_id, wrapb_id, tmod_nn, tdiv_nn, ite_yes, flatM_seg, flatM_0, flatM_1, flatM_2, flatI_seg, flatI_0, flatI_1, flatS_get]; (try simp [*, -List.all_eq_true])))
        refine hC.out _ _ _ (hcn) fun r s2 hq => ?_
        clear hC C'
        obtain ⟨rfl, rfl⟩ := hq
        clear hcn
        refine go1 [] [] (cns Tryz.results33 trivial) ?_
        refine rwf_cf [0] rfl fun C' hC => ?_
        simp [*]
        refine hC.out _ _ _ hm ?_
        clear hC C' hm
        refine go1 [] [] (cns Tryz.results33 trivial) ?_
        exact out_flat (by simp [AV.flat, flatL]) (.refl _)
      · have hA : AtD s 0 0 0 (l.length * 2) l'.toArray s := by
          refine ⟨lt_of_get h1, flatI l', ?_, by simp [hlen], by simp [hlen], ?_⟩
          · rw [hX]; rfl
          · simp [List.take_of_length_le]
        have hcy := compI_yes s 0 0 0 (l.length * 2) l'.toArray s (by omega) hA k (by simpa using hk) (by
          rw [getElem!_pos _ _ (by simpa using hk), getElem!_pos _ _ (by simp; omega)]
          simpa using htw)
        rw [hof]
        unfold fTwin at hcy
        rw [show l'.toArray.size = l.length by simp [hlen]] at hcy
        clear hX hp hsl ho hof hA h1
        refine go1 [] [] (cns Tryz.results33 trivial) ?_
        refine rwf_ca rfl fun C' hC hP => ?_
        clear hP
        (try simp [*, -List.all_eq_true]); (try (simp (disch := first | assumption | omega) only [wrap_id, wrapu_id, wrapb_id, tmod_nn, tdiv_nn, ite_yes, flatM_seg, flatM_0, flatM_1, flatM_2, flatI_seg, flatI_0, flatI_1, flatS_get]; (try simp [*, -List.all_eq_true])))
        refine hC.out _ _ _ (hcy) fun r s2 hq => ?_
        clear hC C'
        obtain ⟨m, hmm, rfl⟩ := hq
        clear hcy
        refine go1 [] [] (cns Tryz.results33 trivial) ?_
        all_goals exact out_flat rfl (.refl _)
end Go.Proofs.YtejgopcicenbeaaGreat
