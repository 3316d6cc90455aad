/- Pack: isBad, check, fill. -/
import Derived.Test.YtejgopcicenbeaaGreatEb
import Derived.Test.YtejgopcicenbeaaGreatPkd
import Derived.Test.YtejgopcicenbeaaGreatPle
import Derived.Test.YtejgopcicenbeaaGreatLw
namespace Go.Proofs.YtejgopcicenbeaaGreat
open Go.RowKit
set_option linter.unusedSimpArgs false
set_option linter.unusedVariables false
set_option maxRecDepth 10000
theorem pBad_spec (x : Item) : PSpec Tryz.prog 53 [.agg (cI x)] (.sc (.bool (!okI x))) := by
  have h := okI_is x
  cases h1 : isKey x.key with
  | true =>
    rw [h1] at h
    refine spec_pure (by simp) (by simp) ?_
    refine spec_intro Tryz.func53 good53 rfl (by simp [Tryz.ntmps53]) ?_
    refine go1 [] [] (cns (fun x1 => keyIs_spec x1) (cns (fun x1 => isVal_spec x1) (cns Tryz.results53 (cns cI.eq_1 trivial)))) ?_
    all_goals simp_all
  | false =>
    rw [h1] at h
    refine spec_pure (by simp) (by simp) ?_
    refine spec_intro Tryz.func53 good53 rfl (by simp [Tryz.ntmps53]) ?_
    repeat' (first
     | (with_reducible first | refine Stp.pf ?_ | refine block_x (by decide) ?_ | refine ret_n ?_)
     | refine tri_reg [] ?_ | refine tri_regc [] [] mixed (by decide +kernel) ?_
     | (refine rwf_nilt rfl (by decide +kernel) fun B hB => ?_; (try simp [*]); refine hB.out _ fun b => ?_; clear hB B)
     | (refine Rul.pf ⟨rfl, rfl⟩ fun B C hB => ?_; (try simp [*, -List.all_eq_true, cI, Tryz.results53]); (try (simp (disch := first | assumption | omega) only [wc, ite_yes]; (try simp [*, -List.all_eq_true, cI, Tryz.results53]))); first | (first | refine hB.out.1 _ (fun hb => ?_) fun hb => ⟨rfl, ?_⟩ | refine hB.out.1 _ (fun hb => ?_) fun hb => ?_) <;> clear hB C B <;> (try simp only [Bool.not_true, Bool.not_false] at hb) <;> (first | (exfalso; simp at hb; done) | (exfalso; simp at hb; omega) | (rw [hb]; (try simp at hb)) | (try simp at hb)) | ((first | refine hB.out.1 _ _ ?_ | refine hB.out.1 _ ?_ | refine hB.out.2.1 _ _ _ (keyIs_spec _) ?_ | refine hB.out.2.2 _ _ _ (keyIs_spec _) ?_ | refine hB.out.2.1 _ _ _ (isVal_spec _) ?_ | refine hB.out.2.2 _ _ _ (isVal_spec _) ?_ | refine hB.out.2 ⟨rfl, ?_⟩); clear hB C B) | (refine hB.out.2 _ ?_; clear hB C B; (try rfl)))
     | refine rwf_o ?_ | refine rwc_o .n rfl ?_ | refine rwc_o .z rfl ?_ | refine rwc_o .w rfl ?_ | refine rwc_o .b rfl ?_ | refine rwc_o _ rfl ?_)
    all_goals simp_all
def pfBad : AV := .fn (.func 53) [] []
theorem idxP_no (l : List Item) (hl : l.length ≤ 1000000) (h : l.all okI = true) : PSpec Tryz.prog 76 [.fs (flatI l) l.length, pfBad] (.sc (.int .i64 (-1))) := by
  unfold pfBad
  refine spec_pure (by simp) (by simp) ?_
  refine spec_intro Tryz.func76 good76 rfl (by simp [Tryz.ntmps76]) ?_
  refine go1 [] [] (cns Tryz.results76 trivial) ?_
  refine tri_for [0, 1, 7] l.length (fun k e σ => σ = [] ∧ e 8 = .sc (.int .i64 k)) ?_ (fun k env' σ' hlt hk hI => ?_) (fun env' σ' hk hI => ?_)
  · exact ⟨by simp, by simp⟩
  · skip
    (try simp at hk)
    obtain ⟨rfl, h8⟩ := hI
    have hok := List.all_eq_true.1 h _ (List.getElem_mem hlt)
    have bad := pBad_spec l[k]
    rw [hok, Bool.not_true] at bad
    have sg := flatI_seg l k hlt
    clear hok
    generalize l[k] = x at *
    refine go1 [] [] (cns bad (cns Tryz.results76 trivial)) ?_
    exact ⟨by simp [*], rfl, by simp⟩
  · skip
    (try simp at hk)
    obtain ⟨rfl, h8⟩ := hI
    exact go0 [] [] (cns Tryz.results76 trivial)
theorem idxP_yes (l : List Item) (hl : l.length ≤ 1000000) (h : l.all okI = false) : ∃ k : Nat, PSpec Tryz.prog 76 [.fs (flatI l) l.length, pfBad] (.sc (.int .i64 k)) := by
  obtain ⟨j, hj, hb1, hb2⟩ : ∃ j, ∃ hj : j < l.length, okI l[j] = false ∧ ∀ i (hi : i < j), okI (l[i]'(by omega)) = true := by
    have hlt : l.findIdx (fun x => !okI x) < l.length := by
      rw [List.findIdx_lt_length]
      obtain ⟨x, hx, hb⟩ := List.all_eq_false.1 h
      exact ⟨x, hx, by simpa using hb⟩
    refine ⟨_, hlt, ?_, fun i hi => ?_⟩
    · have := List.findIdx_getElem (w := hlt); simpa using this
    · have := List.not_of_lt_findIdx hi; simpa using this
  refine ⟨j, ?_⟩
  replace hb2 := Lib.hid hb2
  unfold pfBad
  refine spec_pure (by simp) (by simp) ?_
  refine spec_intro Tryz.func76 good76 rfl (by simp [Tryz.ntmps76]) ?_
  refine go1 [] [] (cns Tryz.results76 trivial) ?_
  refine tri_whl [0, 1, 7] j (fun m e σ => σ = [] ∧ ∃ k : Nat, k ≤ j ∧ m = j - k ∧ e 8 = .sc (.int .i64 k)) ?_ (fun m env' σ' hm hk hI => ?_)
  · exact ⟨j, by omega, rfl, 0, by omega, by omega, by simp⟩
  · skip
    (try simp at hk)
    obtain ⟨rfl, k, hkj, hmk, h8⟩ := hI
    have hkl : k < l.length := by omega
    have sg := flatI_seg l k hkl
    have bad := pBad_spec l[k]
    rcases Nat.lt_or_ge k j with hlt | hge
    · have hok := hb2.out k hlt
      rw [hok, Bool.not_true] at bad
      clear hok hb1
      generalize l[k] = x at *
      refine go1 [] [] (cns bad (cns Tryz.results76 trivial)) ?_
      exact ⟨by simp [*], j - (k + 1), by omega, rfl, k + 1, by omega, rfl, by simp⟩
    · obtain rfl : k = j := by omega
      rw [hb1, Bool.not_false] at bad
      clear hb1
      generalize l[k] = x at *
      exact go0 [] [] (cns bad (cns Tryz.results76 trivial))
theorem contP_spec (l : List Item) (hl : l.length ≤ 1000000) : PSpec Tryz.prog 52 [.fs (flatI l) l.length, pfBad] (.sc (.bool (!l.all okI))) := by
  cases h : l.all okI with
  | true =>
    have := idxP_no l hl h
    unfold pfBad at *
    refine spec_pure (by simp) (by simp) ?_
    refine spec_intro Tryz.func52 good52 rfl (by simp [Tryz.ntmps52]) ?_
    exact go0 [] [] (cns this (cns Tryz.results52 trivial))
  | false =>
    obtain ⟨k, this⟩ := idxP_yes l hl h
    unfold pfBad at *
    refine spec_pure (by simp) (by simp) ?_
    refine spec_intro Tryz.func52 good52 rfl (by simp [Tryz.ntmps52]) ?_
    exact go0 [] [] (cns this (cns Tryz.results52 trivial))
    all_goals simp; omega
/-- Whether each item's key is below the next one's. -/
def upI (l : List Item) : Bool := match l with
  | x :: y :: l => ltI x y && upI (y :: l)
  | _ => true
theorem upI_iff : ∀ l : List Item, upI l = true ↔ ∀ i (h : i + 1 < l.length), ltI l[i] l[i + 1] = true
  | [] => by simp [upI]
  | [x] => by simp [upI]
  | x :: y :: l => by
    rw [upI, Bool.and_eq_true, upI_iff (y :: l)]
    constructor
    · rintro ⟨h1, h2⟩ i h
      cases i with
      | zero => exact h1
      | succ i => exact h2 i (by simpa using h)
    · intro h
      exact ⟨h 0 (by simp), fun i hi => h (i + 1) (by simpa using hi)⟩
theorem upI_rise : ∀ l : List Item, upI l = true ↔ RiseI l
  | [] => by simp [upI, RiseI]
  | [x] => by simp [upI, RiseI]
  | x :: y :: l => by
    rw [upI, Bool.and_eq_true, upI_rise (y :: l)]
    unfold RiseI
    rw [List.pairwise_cons (a := x)]
    constructor
    · rintro ⟨h1, h2⟩
      refine ⟨fun z hz => ?_, h2⟩
      rcases List.mem_cons.1 hz with rfl | hz
      · exact h1
      · exact slt_trans h1 ((List.pairwise_cons.1 h2).1 z hz)
    · rintro ⟨h1, h2⟩
      exact ⟨h1 y (by simp), h2⟩
theorem upI_first : ∀ l : List Item, upI l = false → ∃ j, ∃ h : j + 1 < l.length, ltI l[j] l[j + 1] = false ∧ ∀ i (hi : i < j), ltI (l[i]'(by omega)) (l[i + 1]'(by omega)) = true
  | [], h => by simp [upI] at h
  | [x], h => by simp [upI] at h
  | x :: y :: l, h => by
    rw [upI] at h
    cases hc : ltI x y with
    | false => exact ⟨0, by simp, hc, fun i hi => absurd hi (by omega)⟩
    | true =>
      rw [hc, Bool.true_and] at h
      obtain ⟨j, hj, h1, h2⟩ := upI_first (y :: l) h
      refine ⟨j + 1, by simpa using hj, h1, fun i hi => ?_⟩
      cases i with
      | zero => exact hc
      | succ i => exact h2 i (by omega)
/-- What check comes to. -/
def chkI (l : List Item) : Int := if l.all okI = false then 1 else if upI l = true then 0 else 11
theorem pCheck_spec (l : List Item) (hl : l.length ≤ 1000000) : PSpec Tryz.prog 31 [.fs (flatI l) l.length] (.sc (.int .i64 (chkI l))) := by
  have hc := contP_spec l hl
  unfold pfBad at hc
  unfold chkI
  cases ho : l.all okI with
  | false =>
    rw [ho] at hc
    rw [if_pos rfl]
    clear ho
    refine spec_pure (by simp) (by simp) ?_
    refine spec_intro Tryz.func31 good31 rfl (by simp [Tryz.ntmps31]) ?_
    exact go0 [] [] (cns hc (cns Tryz.results31 trivial))
  | true =>
    rw [ho] at hc
    rw [if_neg (by simp)]
    clear ho
    by_cases hu : upI l = true
    · rw [if_pos hu]
      have hu := Lib.hid ((upI_iff l).1 hu)
      refine spec_pure (by simp) (by simp) ?_
      refine spec_intro Tryz.func31 good31 rfl (by simp [Tryz.ntmps31]) ?_
      refine go1 [] [] (cns hc (cns Tryz.results31 trivial)) ?_
      clear hc
      refine tri_whl [0] l.length (fun m e σ => σ = [] ∧ ∃ k : Nat, 1 ≤ k ∧ (k ≤ l.length ∨ k = 1) ∧ m = l.length - k ∧ e 3 = .sc (.int .i64 k)) ?_ (fun m env' σ' hm hk hI => ?_)
      · exact ⟨l.length - 1, by omega, rfl, 1, by omega, by omega, rfl, by simp⟩
      · skip
        (try simp at hk)
        obtain ⟨rfl, k, hk1, hkl, hmk, h3⟩ := hI
        rcases Nat.lt_or_ge k l.length with hlt | hge
        · obtain ⟨i, rfl⟩ : ∃ i, k = i + 1 := ⟨k - 1, by omega⟩
          have hb := hu.out i hlt
          have sg := flatI_seg l i (by omega)
          have sg2 := flatI_seg l (i + 1) hlt
          have w1 : IntKind.i64.wrap (((i + 1 : Nat) : Int) - 1) = (i : Int) := by rw [IntKind.wrap_i64]; omega
          have cm := keyCmp_spec l[i] l[i + 1]
          have hn : ¬ 0 ≤ cmpI l[i] l[i + 1] := by have := cmpI_yes hb; omega
          generalize cmpI l[i] l[i + 1] = cv at *
          generalize l[i] = x at *
          generalize l[i + 1] = y at *
          clear hb hkl
          refine go1 [] [] (cns cm (cns Tryz.results31 trivial)) ?_
          exact ⟨by simp [*], l.length - (i + 1 + 1), by omega, rfl, i + 1 + 1, by omega, by omega, rfl, by simp⟩
        · skip
          exact go0 [] [] (cns Tryz.results31 trivial)
    · rw [if_neg hu]
      obtain ⟨j, hj, hb1, hb2⟩ := upI_first l (by simpa using hu)
      replace hb2 := Lib.hid hb2
      clear hu
      refine spec_pure (by simp) (by simp) ?_
      refine spec_intro Tryz.func31 good31 rfl (by simp [Tryz.ntmps31]) ?_
      refine go1 [] [] (cns hc (cns Tryz.results31 trivial)) ?_
      clear hc
      refine tri_whl [0] j (fun m e σ => σ = [] ∧ ∃ k : Nat, k ≤ j ∧ m = j - k ∧ e 3 = .sc (.int .i64 ((k + 1 : Nat) : Int))) ?_ (fun m env' σ' hm hk hI => ?_)
      · exact ⟨j, by omega, rfl, 0, by omega, rfl, by simp⟩
      · skip
        (try simp at hk)
        obtain ⟨rfl, i, hij, hmk, h3⟩ := hI
        have sg := flatI_seg l i (by omega)
        have sg2 := flatI_seg l (i + 1) (by omega)
        have w1 : IntKind.i64.wrap (((i + 1 : Nat) : Int) - 1) = (i : Int) := by rw [IntKind.wrap_i64]; omega
        have cm := keyCmp_spec l[i] l[i + 1]
        have hlt : i + 1 < l.length := by omega
        rcases Nat.lt_or_ge i j with hlj | hge
        · have hb := hb2.out i hlj
          have hn : ¬ 0 ≤ cmpI l[i] l[i + 1] := by have := cmpI_yes hb; omega
          clear hb hb1
          generalize cmpI l[i] l[i + 1] = cv at *
          generalize l[i] = x at *
          generalize l[i + 1] = y at *
          refine go1 [] [] (cns cm (cns Tryz.results31 trivial)) ?_
          exact ⟨by simp [*], j - (i + 1), by omega, rfl, i + 1, by omega, rfl, by simp⟩
        · obtain rfl : i = j := by omega
          have hn : 0 ≤ cmpI l[i] l[i + 1] := by
            have := cmpI_lt l[i] l[i + 1]
            rw [hb1] at this
            simpa using this
          clear hb1
          generalize cmpI l[i] l[i + 1] = cv at *
          generalize l[i] = x at *
          generalize l[i + 1] = y at *
          exact go0 [] [] (cns cm (cns Tryz.results31 trivial))
/-- So far as a leaf is filled, it isn't too heavy; one more would be. -/
theorem fillN_at : ∀ (l : List Item) (s : Int) (k : Nat) (h : k < l.length), (k < fillN l s → s + (iwts (l.take k) + iwt l[k]) ≤ 240) ∧ (k = fillN l s → 240 < s + (iwts (l.take k) + iwt l[k]))
  | [], s, k, h => by simp at h
  | x :: l, s, k, h => by
    unfold fillN
    by_cases hc : 240 < s + iwt x
    · rw [if_pos hc]
      exact ⟨fun q => absurd q (by omega), fun q => by subst q; simpa [iwts] using hc⟩
    · rw [if_neg hc]
      cases k with
      | zero => exact ⟨fun _ => by simp only [List.take_zero, List.getElem_cons_zero]; simp only [iwts, List.map_nil, List.sum_nil]; omega, fun q => by omega⟩
      | succ k =>
        obtain ⟨h1, h2⟩ := fillN_at l (s + iwt x) k (by simpa using h)
        rw [List.take_succ_cons]
        simp only [List.getElem_cons_succ, iwts, List.map_cons, List.sum_cons] at h1 h2 ⊢
        exact ⟨fun q => by have := h1 (by omega); omega, fun q => by have := h2 (by omega); omega⟩
theorem pFill_spec (l : List Item) (hl : l.length ≤ 1000000) (hs : ISmall l) : PSpec Tryz.prog 32 [.fs (flatI l) l.length] (.sc (.int .i64 (fillN l 0))) := by
  have hfl := fillN_le l 0
  have hb := iwts_bd l hs
  have hw : ∀ k, 0 ≤ iwts (l.take k) ∧ iwts (l.take k) ≤ 2000002 * l.length := fun k => by
    have := iwts_bd (l.take k) fun x hx => hs x (List.mem_of_mem_take hx)
    have h2 : (l.take k).length ≤ l.length := by simp; omega
    omega
  have hst := fun (k : Nat) (h : k < l.length) => fillN_at l 0 k h
  replace hs := Lib.hid hs
  replace hw := Lib.hid hw
  replace hst := Lib.hid hst
  generalize fillN l 0 = F at *
  clear hb
  refine spec_pure (by simp) (by simp) ?_
  refine spec_intro Tryz.func32 good32 rfl (by simp [Tryz.ntmps32]) ?_
  refine go1 [] [] (cns Tryz.results32 trivial) ?_
  refine tri_whl [0, 2] F (fun m e σ => σ = [] ∧ ∃ k : Nat, k ≤ F ∧ m = F - k ∧ e 3 = .sc (.int .i64 k) ∧ e 4 = .sc (.int .i64 (iwts (l.take k)))) ?_ (fun m env' σ' hm hk hI => ?_)
  · exact ⟨F, by omega, rfl, 0, by omega, rfl, by simp, by simp [iwts]⟩
  · skip
    (try simp at hk)
    obtain ⟨rfl, k, hkF, hmk, h3, h4⟩ := hI
    rcases Nat.lt_or_ge k l.length with hlt | hge
    · have hm := hs.out l[k] (List.getElem_mem hlt)
      have h0 := hw.out k
      have h1 := hw.out (k + 1)
      have h2 := iwts_take l k l[k] (List.getElem?_eq_getElem hlt)
      have wsp := iWeight_spec l[k] hm.1 hm.2
      have sg := flatI_seg l k hlt
      have h9 := hst.out k hlt
      simp only [Int.zero_add] at h9
      have hb := iwt_nn l[k]
      have hb3 : iwt l[k] ≤ 2000002 := by unfold iwt; omega
      rw [← h2] at h9
      have w1 : IntKind.i64.wrap (iwts (l.take k) + iwt l[k]) = iwts (l.take (k + 1)) := by rw [h2, IntKind.wrap_i64]; omega
      clear h2
      generalize l[k] = x at *
      generalize hW : iwts (l.take (k + 1)) = W1 at *
      replace hW := Lib.hid hW
      generalize iwts (l.take k) = W0 at *
      generalize iwt x = w at *
      clear hm hb hb3 h0 h1
      rcases Nat.lt_or_ge k F with hlF | hgF
      · have hn : ¬ 240 < W1 := by have := h9.1 hlF; omega
        clear h9
        refine go1 [] [] (cns wsp (cns Tryz.results32 trivial)) ?_
        exact ⟨by simp [*], F - (k + 1), by omega, rfl, k + 1, by omega, rfl, by simp, by simp [hW.out]⟩
      · obtain rfl : k = F := by omega
        have hn : 240 < W1 := h9.2 rfl
        clear h9
        repeat' (first
         | (with_reducible first | refine Stp.pf ?_ | refine block_x (by decide) ?_ | refine ret_n ?_)
         | refine tri_reg [] ?_ | refine tri_regc [] [] mixed (by decide +kernel) ?_
         | (refine rwf_nilt rfl (by decide +kernel) fun B hB => ?_; (try simp [*]); refine hB.out _ fun b => ?_; clear hB B)
         | (refine Rul.pf ⟨rfl, rfl⟩ fun B C hB => ?_; (try simp [*, -List.all_eq_true, Tryz.results32]); (try (simp (disch := first | assumption | omega) only [wc, ite_yes]; (try simp [*, -List.all_eq_true, Tryz.results32]))); first | (first | refine hB.out.1 _ (fun hb => ?_) fun hb => ⟨rfl, ?_⟩ | refine hB.out.1 _ (fun hb => ?_) fun hb => ?_) <;> clear hB C B <;> (try simp only [Bool.not_true, Bool.not_false] at hb) <;> (first | (exfalso; simp at hb; done) | (exfalso; simp at hb; omega) | (rw [hb]; (try simp at hb)) | (try simp at hb)) | ((first | refine hB.out.1 _ _ ?_ | refine hB.out.1 _ ?_ | refine hB.out.2.1 _ _ _ (wsp) ?_ | refine hB.out.2.2 _ _ _ (wsp) ?_ | refine hB.out.2 ⟨rfl, ?_⟩); clear hB C B) | (refine hB.out.2 _ ?_; clear hB C B; (try rfl)))
         | refine rwf_o ?_ | refine rwc_o .n rfl ?_ | refine rwc_o .z rfl ?_ | refine rwc_o .w rfl ?_ | refine rwc_o .b rfl ?_ | refine rwc_o _ rfl ?_)
    · obtain rfl : k = F := by omega
      repeat' (first
       | (with_reducible first | refine Stp.pf ?_ | refine block_x (by decide) ?_ | refine ret_n ?_)
       | refine tri_reg [] ?_ | refine tri_regc [] [] mixed (by decide +kernel) ?_
       | (refine rwf_nilt rfl (by decide +kernel) fun B hB => ?_; (try simp [*]); refine hB.out _ fun b => ?_; clear hB B)
       | (refine Rul.pf ⟨rfl, rfl⟩ fun B C hB => ?_; (try simp [*, -List.all_eq_true, Tryz.results32]); (try (simp (disch := first | assumption | omega) only [wc, ite_yes]; (try simp [*, -List.all_eq_true, Tryz.results32]))); first | (first | refine hB.out.1 _ (fun hb => ?_) fun hb => ⟨rfl, ?_⟩ | refine hB.out.1 _ (fun hb => ?_) fun hb => ?_) <;> clear hB C B <;> (try simp only [Bool.not_true, Bool.not_false] at hb) <;> (first | (exfalso; simp at hb; done) | (exfalso; simp at hb; omega) | (rw [hb]; (try simp at hb)) | (try simp at hb)) | ((first | refine hB.out.1 _ _ ?_ | refine hB.out.1 _ ?_ | refine hB.out.2 ⟨rfl, ?_⟩); clear hB C B) | (refine hB.out.2 _ ?_; clear hB C B; (try rfl)))
       | refine rwf_o ?_ | refine rwc_o .n rfl ?_ | refine rwc_o .z rfl ?_ | refine rwc_o .w rfl ?_ | refine rwc_o .b rfl ?_ | refine rwc_o _ rfl ?_)
end Go.Proofs.YtejgopcicenbeaaGreat
