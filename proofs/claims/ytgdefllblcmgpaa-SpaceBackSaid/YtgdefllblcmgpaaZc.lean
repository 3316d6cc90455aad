/- Places: Clone, Equal, BinarySearchFunc. -/
import Derived.Test.YtgdefllblcmgpaaZSa
namespace Go.Proofs.Ytgdefllblcmgpaa
open Go.RowKit Go.Sort
set_option linter.unusedSimpArgs false
set_option maxRecDepth 10000
theorem item_ext2 {a b : Ext} (h1 : a.lo = b.lo) (h2 : a.sz = b.sz) : a = b := by cases a; cases b; simp_all
theorem cloneI_spec (l : List Ext) (hl : l.length ≤ 1000000) : PSpec Try.prog 32 [.fs (flatE l) l.length] (.fs (flatE l) l.length) := by
  cases l with
  | nil =>
    refine spec_pureFW (by simp) ?_
    refine spec_intro Try.func32 good32 rfl (by simp [Try.ntmps32]) ?_
    repeat' (first
     | (with_reducible first | refine Stp.pf ?_ | refine block_x (by decide) ?_ | refine ret_n ?_)
     | refine tri_reg [5,7] ?_ | refine tri_regc [5,7] [] mixed (by decide +kernel) ?_
     | (refine rwf_nilt rfl (by decide +kernel) fun B hB => ?_; (try simp [*]); refine hB.out _ fun b => ?_; clear hB B)
     | (refine Rul.pf ⟨rfl, rfl⟩ fun B C hB => ?_; (try simp [*, -List.all_eq_true, flatE, flatC, Try.results32]); (try (simp (disch := first | assumption | omega) only [wc, ite_yes]; (try simp [*, -List.all_eq_true, flatE, flatC, Try.results32]))); first | (first | refine hB.out.1 _ (fun hb => ?_) fun hb => ⟨rfl, ?_⟩ | refine hB.out.1 _ (fun hb => ?_) fun hb => ?_) <;> clear hB C B <;> (try simp only [Bool.not_true, Bool.not_false] at hb) <;> (first | (exfalso; simp at hb; done) | (exfalso; simp at hb; omega) | (rw [hb]; (try simp at hb)) | (try simp at hb)) | ((first | refine hB.out.1 _ _ ?_ | refine hB.out.1 _ ?_ | refine hB.out.2 ⟨rfl, ?_⟩); clear hB C B) | (refine hB.out.2 _ ?_; clear hB C B; (try rfl)))
     | refine rwf_o ?_ | refine rwc_o .n rfl ?_ | refine rwc_o .z rfl ?_ | refine rwc_o .w rfl ?_ | refine rwc_o .b rfl ?_ | refine rwc_o _ rfl ?_)
    · exact out_flat rfl .nil
    · exact out_ms rfl rfl (by simp) rfl (.refl _)
  | cons m l =>
    simp at hl
    refine spec_pureFW (by simp) ?_
    refine spec_intro Try.func32 good32 rfl (by simp [Try.ntmps32]) ?_
    repeat' (first
     | (with_reducible first | refine Stp.pf ?_ | refine block_x (by decide) ?_ | refine ret_n ?_)
     | refine tri_reg [5,7] ?_ | refine tri_regc [5,7] [] mixed (by decide +kernel) ?_
     | (refine rwf_nilt rfl (by decide +kernel) fun B hB => ?_; (try simp [*]); refine hB.out _ fun b => ?_; clear hB B)
     | (refine Rul.pf ⟨rfl, rfl⟩ fun B C hB => ?_; (try simp [*, -List.all_eq_true, Try.results32]); (try (simp (disch := first | assumption | omega) only [wc, ite_yes]; (try simp [*, -List.all_eq_true, Try.results32]))); first | (first | refine hB.out.1 _ (fun hb => ?_) fun hb => ⟨rfl, ?_⟩ | refine hB.out.1 _ (fun hb => ?_) fun hb => ?_) <;> clear hB C B <;> (try simp only [Bool.not_true, Bool.not_false] at hb) <;> (first | (exfalso; simp at hb; done) | (exfalso; simp at hb; omega) | (rw [hb]; (try simp at hb)) | (try simp at hb)) | ((first | refine hB.out.1 _ _ ?_ | refine hB.out.1 _ ?_ | refine hB.out.2 ⟨rfl, ?_⟩); clear hB C B) | (refine hB.out.2 _ ?_; clear hB C B; (try rfl)))
     | refine rwf_o ?_ | refine rwc_o .n rfl ?_ | refine rwc_o .z rfl ?_ | refine rwc_o .w rfl ?_ | refine rwc_o .b rfl ?_ | refine rwc_o _ rfl ?_)
    exact out_ms (cs := flatE (m :: l)) rfl (by simp [List.take_of_length_le]) (by simp) (by simp) (.refl _)
theorem equalI_spec (l l' : List Ext) (hl : l.length ≤ 900000) (hl' : l'.length ≤ 900000) : PSpec Try.prog 36 [.fs (flatE l) l.length, .fs (flatE l') l'.length] (.sc (.bool (decide (l = l')))) := by
  refine spec_pure (by simp) (by simp) ?_
  refine spec_intro Try.func36 good36 rfl (by simp [Try.ntmps36]) ?_
  by_cases hne : l.length = l'.length
  · skip
    refine go1 [] [] (cns Try.results36 trivial) ?_
    refine tri_for [0, 1, 12] l.length (fun k e σ => σ = [] ∧ e 13 = .sc (.int .i64 k) ∧ l.take k = l'.take k) ?_ (fun k env' σ' hlt hk hI => ?_) (fun env' σ' hk hI => ?_)
    · exact ⟨by simp, by simp, by simp⟩
    · skip
      (try simp at hk)
      obtain ⟨rfl, h13, heq⟩ := hI
      have hlt' : k < l'.length := by omega
      have a0 := flatE_0 l k hlt
      have a1 := flatE_1 l k hlt
      have b0 := flatE_0 l' k hlt'
      have b1 := flatE_1 l' k hlt'
      by_cases hx : l[k] = l'[k]
      · skip
        refine go1 [] [] (cns Try.results36 (cns cE.eq_1 trivial)) ?_
        exact ⟨by simp [*], rfl, by simp, by rw [List.take_add_one, List.take_add_one, List.getElem?_eq_getElem hlt, List.getElem?_eq_getElem hlt', heq, hx]⟩
      · have hll : ¬ l = l' := fun e => hx (by subst e; rfl)
        repeat' (first
         | (with_reducible first | refine Stp.pf ?_ | refine block_x (by decide) ?_ | refine ret_n ?_)
         | refine tri_reg [] ?_ | refine tri_regc [] [] mixed (by decide +kernel) ?_
         | (refine rwf_nilt rfl (by decide +kernel) fun B hB => ?_; (try simp [*]); refine hB.out _ fun b => ?_; clear hB B)
         | (refine Rul.pf ⟨rfl, rfl⟩ fun B C hB => ?_; (try simp [*, -List.all_eq_true, cE, Try.results36]); (try (simp (disch := first | assumption | omega) only [wc, ite_yes]; (try simp [*, -List.all_eq_true, cE, Try.results36]))); first | (first | refine hB.out.1 _ (fun hb => ?_) fun hb => ⟨rfl, ?_⟩ | refine hB.out.1 _ (fun hb => ?_) fun hb => ?_) <;> clear hB C B <;> (try simp only [Bool.not_true, Bool.not_false] at hb) <;> (first | (exfalso; simp at hb; done) | (exfalso; simp at hb; omega) | (rw [hb]; (try simp at hb)) | (try simp at hb)) | ((first | refine hB.out.1 _ _ ?_ | refine hB.out.1 _ ?_ | refine hB.out.2 ⟨rfl, ?_⟩); clear hB C B) | (refine hB.out.2 _ ?_; clear hB C B; (try rfl)))
         | refine rwf_o ?_ | refine rwc_o .n rfl ?_ | refine rwc_o .z rfl ?_ | refine rwc_o .w rfl ?_ | refine rwc_o .b rfl ?_ | refine rwc_o _ rfl ?_)
        · simp [hll]
        · exact absurd (item_ext2 hb.1 hb.2) hx
    · skip
      (try simp at hk)
      obtain ⟨rfl, h13, heq⟩ := hI
      rw [List.take_of_length_le (by omega), List.take_of_length_le (by omega)] at heq
      refine go1 [] [] (cns Try.results36 trivial) ?_
      simp [heq]
  · have hll : ¬ l = l' := fun e => hne (by rw [e])
    repeat' (first
     | (with_reducible first | refine Stp.pf ?_ | refine block_x (by decide) ?_ | refine ret_n ?_)
     | refine tri_reg [] ?_ | refine tri_regc [] [] mixed (by decide +kernel) ?_
     | (refine rwf_nilt rfl (by decide +kernel) fun B hB => ?_; (try simp [*]); refine hB.out _ fun b => ?_; clear hB B)
     | (refine Rul.pf ⟨rfl, rfl⟩ fun B C hB => ?_; (try simp [*, -List.all_eq_true, Try.results36]); (try (simp (disch := first | assumption | omega) only [wc, ite_yes]; (try simp [*, -List.all_eq_true, Try.results36]))); first | (first | refine hB.out.1 _ (fun hb => ?_) fun hb => ⟨rfl, ?_⟩ | refine hB.out.1 _ (fun hb => ?_) fun hb => ?_) <;> clear hB C B <;> (try simp only [Bool.not_true, Bool.not_false] at hb) <;> (first | (exfalso; simp at hb; done) | (exfalso; simp at hb; omega) | (rw [hb]; (try simp at hb)) | (try simp at hb)) | ((first | refine hB.out.1 _ _ ?_ | refine hB.out.1 _ ?_ | refine hB.out.2 ⟨rfl, ?_⟩); clear hB C B) | (refine hB.out.2 _ ?_; clear hB C B; (try rfl)))
     | refine rwf_o ?_ | refine rwc_o .n rfl ?_ | refine rwc_o .z rfl ?_ | refine rwc_o .w rfl ?_ | refine rwc_o .b rfl ?_ | refine rwc_o _ rfl ?_)
    simp [hll]
theorem lowX_lt {l : List Ext} (hr : l.Pairwise fun x y => x.lo < y.lo) (x : Ext) (i : Nat) (h : i < l.length) : decide (l[i].lo < x.lo) = decide (i < lowX l x) := by
  have hr2 := List.pairwise_iff_getElem.1 hr
  by_cases hi : i < lowX l x
  · have hm : l[i] ∈ l.takeWhile (fun m => decide (m.lo < x.lo)) := by
      obtain ⟨t, ht⟩ : (l.takeWhile (fun m => decide (m.lo < x.lo))) <+: l := List.takeWhile_prefix _
      have h2 : (l.takeWhile (fun m => decide (m.lo < x.lo)))[i]? = some l[i] := by
        rw [← List.getElem?_eq_getElem h]
        conv => rhs; rw [← ht, List.getElem?_append_left hi]
      exact List.mem_of_getElem? h2
    have := mem_takeW hm
    rw [decide_eq_true hi]
    exact this
  · have hll : lowX l x < l.length := by omega
    have h0 : ¬ l[lowX l x].lo < x.lo := by
      have hn : ∀ y, l[lowX l x]? = some y → ¬ y.lo < x.lo := by
        intro y hx
        unfold lowX at hx
        clear hi h hr hll hr2
        induction l with
        | nil => simp at hx
        | cons a l ih =>
          rw [List.takeWhile_cons] at hx
          split at hx
          · simp at hx; exact ih hx
          · simp at hx; subst hx; simp_all
      exact hn _ (List.getElem?_eq_getElem hll)
    simp only [hi, decide_false, decide_eq_false_iff_not]
    rcases Nat.lt_or_ge (lowX l x) i with h1 | h1
    · have := hr2 _ _ hll h h1
      omega
    · obtain rfl : i = lowX l x := by omega
      exact h0
def fGive : AV := .fn (.func 40) [] []
theorem giveCmp_spec (x y : Ext) : PSpec Try.prog 40 [.agg (cE x), .agg (cE y)] (.sc (.int .i64 (cmpE x y))) := by
  have h := cmpInt_spec x.lo y.lo
  unfold cmpE
  unfold icmp at h
  refine spec_pure (by simp) (by simp) ?_
  refine spec_intro Try.func40 good40 rfl (by simp [Try.ntmps40]) ?_
  repeat' (first
   | (with_reducible first | refine Stp.pf ?_ | refine block_x (by decide) ?_ | refine ret_n ?_)
   | refine tri_reg [] ?_ | refine tri_regc [] [] mixed (by decide +kernel) ?_
   | (refine rwf_nilt rfl (by decide +kernel) fun B hB => ?_; (try simp [*]); refine hB.out _ fun b => ?_; clear hB B)
   | (refine Rul.pf ⟨rfl, rfl⟩ fun B C hB => ?_; (try simp [*, -List.all_eq_true, cE, Try.results40]); (try (simp (disch := first | assumption | omega) only [wc, ite_yes]; (try simp [*, -List.all_eq_true, cE, Try.results40]))); first | (first | refine hB.out.1 _ (fun hb => ?_) fun hb => ⟨rfl, ?_⟩ | refine hB.out.1 _ (fun hb => ?_) fun hb => ?_) <;> clear hB C B <;> (try simp only [Bool.not_true, Bool.not_false] at hb) <;> (first | (exfalso; simp at hb; done) | (exfalso; simp at hb; omega) | (rw [hb]; (try simp at hb)) | (try simp at hb)) | ((first | refine hB.out.1 _ _ ?_ | refine hB.out.1 _ ?_ | refine hB.out.2.1 _ _ _ (h) ?_ | refine hB.out.2.2 _ _ _ (h) ?_ | refine hB.out.2 ⟨rfl, ?_⟩); clear hB C B) | (refine hB.out.2 _ ?_; clear hB C B; (try rfl)))
   | refine rwf_o ?_ | refine rwc_o .n rfl ?_ | refine rwc_o .z rfl ?_ | refine rwc_o .w rfl ?_ | refine rwc_o .b rfl ?_ | refine rwc_o _ rfl ?_)
def hitX (l : List Ext) (x : Ext) : Bool := match l[lowX l x]? with
  | some y => decide (y.lo = x.lo)
  | none => false
theorem searchI_spec (l : List Ext) (hl : l.length ≤ 1000000) (hr : l.Pairwise fun x y => x.lo < y.lo) (x : Ext) : PSpec Try.prog 39 [.fs (flatE l) l.length, .agg (cE x), fGive] (.tup [.sc (.int .i64 (lowX l x)), .sc (.bool (hitX l x))]) := by
  have hcs := giveCmp_spec
  have hlow := lowX_lt hr x
  have hle := lowX_le l x
  replace hr := Lib.hid hr
  replace hlow := Lib.hid hlow
  unfold fGive
  refine spec_pure (by simp) (by simp) ?_
  refine spec_intro Try.func39 good39 rfl (by simp [Try.ntmps39]) ?_
  refine go1 [] [] (cns Try.results39 trivial) ?_
  refine tri_whl [0, 2, 4, 6, 7, 8] l.length (fun m e σ => σ = [] ∧ ∃ i j : Nat, e 9 = .sc (.int .i64 i) ∧ e 10 = .sc (.int .i64 j) ∧ i ≤ lowX l x ∧ lowX l x ≤ j ∧ j ≤ l.length ∧ j - i = m) ?_ (fun m env' σ' hm hk hI => ?_)
  · exact ⟨l.length, Nat.le_refl _, by simp, 0, l.length, by simp, by simp, by simp, hle, by simp, by simp⟩
  · skip
    (try simp at hk)
    obtain ⟨rfl, i, j, h9, h10, h1, h2, h3, h4⟩ := hI
    by_cases hlt : i < j
    · have hmid : i ≤ mid i j ∧ mid i j < j := by unfold mid; omega
      have hml : mid i j < l.length := by omega
      have hcm := hlow.out (mid i j) hml
      have hkc := hcs l[mid i j] x
      have sg := flatE_seg l (mid i j) hml
      have hci : decide (cmpE l[mid i j] x < 0) = decide (l[mid i j].lo < x.lo) := cmpE_lt _ _
      rw [hcm] at hci
      clear hcm
      generalize cmpE l[mid i j] x = cv at *
      generalize l[mid i j] = y at *
      generalize hmd : mid i j = md at *
      have e1 := mid_eq (i := i) (j := j) (by omega)
      have e2 := mid_eq2 (i := i) (j := j) (by omega)
      rw [hmd] at e1 e2
      cases hb : decide (md < lowX l x) with
      | true =>
        rw [hb, decide_eq_true_eq] at hci
        rw [decide_eq_true_eq] at hb
        clear hmd
        refine go1 [] [] (cns hkc (cns Try.results39 trivial)) ?_
        exact ⟨by simp [*], j - (md + 1), by omega, rfl, md + 1, j, by simp [*], by simp [*], by omega, by omega, by omega, rfl⟩
      | false =>
        rw [hb, decide_eq_false_iff_not] at hci
        rw [decide_eq_false_iff_not] at hb
        clear hmd
        refine go1 [] [] (cns hkc (cns Try.results39 trivial)) ?_
        exact ⟨by simp [*], md - i, by omega, rfl, i, md, by simp [*], by simp [*], by omega, by omega, by omega, rfl⟩
    · have hi : lowX l x = i := by omega
      have hj : j = i := by omega
      subst hj
      by_cases hil : j < l.length
      · have hkc := hcs l[j] x
        have sg := flatE_seg l j hil
        have hh : hitX l x = decide (cmpE l[j] x = 0) := by
          unfold hitX
          rw [hi, List.getElem?_eq_getElem hil]
          exact (cmpE_zero _ _).symm
        rw [hh, hi]
        clear hh
        generalize cmpE l[j] x = cv at *
        generalize l[j] = y at *
        exact go0 [] [] (cns hkc (cns Try.results39 trivial))
      · have hh : hitX l x = false := by
          unfold hitX
          rw [hi, List.getElem?_eq_none (by omega)]
        rw [hh, hi]
        repeat' (first
         | (with_reducible first | refine Stp.pf ?_ | refine block_x (by decide) ?_ | refine ret_n ?_)
         | refine tri_reg [] ?_ | refine tri_regc [] [] mixed (by decide +kernel) ?_
         | (refine rwf_nilt rfl (by decide +kernel) fun B hB => ?_; (try simp [*]); refine hB.out _ fun b => ?_; clear hB B)
         | (refine Rul.pf ⟨rfl, rfl⟩ fun B C hB => ?_; (try simp [*, -List.all_eq_true, Try.results39]); (try (simp (disch := first | assumption | omega) only [wc, ite_yes]; (try simp [*, -List.all_eq_true, Try.results39]))); first | (first | refine hB.out.1 _ (fun hb => ?_) fun hb => ⟨rfl, ?_⟩ | refine hB.out.1 _ (fun hb => ?_) fun hb => ?_) <;> clear hB C B <;> (try simp only [Bool.not_true, Bool.not_false] at hb) <;> (first | (exfalso; simp at hb; done) | (exfalso; simp at hb; omega) | (rw [hb]; (try simp at hb)) | (try simp at hb)) | ((first | refine hB.out.1 _ _ ?_ | refine hB.out.1 _ ?_ | refine hB.out.2 ⟨rfl, ?_⟩); clear hB C B) | (refine hB.out.2 _ ?_; clear hB C B; (try rfl)))
         | refine rwf_o ?_ | refine rwc_o .n rfl ?_ | refine rwc_o .z rfl ?_ | refine rwc_o .w rfl ?_ | refine rwc_o .b rfl ?_ | refine rwc_o _ rfl ?_)
end Go.Proofs.Ytgdefllblcmgpaa
