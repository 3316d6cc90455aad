/- Inner nodes: made, Of, Len, Kids, Pivots, Buff, Same. -/
import Derived.Test.YticpnfgiidljlaaGreatNd
import Derived.Test.YticpnfgiidljlaaGreatWt
import Derived.Test.YticpnfgiidljlaaGreatWw
namespace Go.Proofs.YticpnfgiidljlaaGreat
open Go.RowKit
set_option linter.unusedSimpArgs false
set_option linter.unusedVariables false
set_option maxRecDepth 10000
theorem flatS_one (l : List Str) : (flatS l).all AV.one = true := flatC_one' (fun _ => rfl) l
theorem cloneN_spec (l : List Int) (hl : l.length ≤ 1000000) : PSpec Tryz.prog 96 [.fs (flatN l) l.length] (.fs (flatN l) l.length) := by
  cases l with
  | nil =>
    refine spec_pureFW (by simp) ?_
    refine spec_intro Tryz.func96 good96 rfl (by simp [Tryz.ntmps96]) ?_
    repeat' (first
     | (with_reducible first | refine Stp.pf ?_ | refine block_x (by decide) ?_ | refine ret_n ?_)
     | refine tri_reg [5,7] ?_ | refine tri_regc [5,7] [] mixed (by decide +kernel) ?_
     | (refine rwf_nilt rfl (by decide +kernel) fun B hB => ?_; (try simp [*]); refine hB.out _ fun b => ?_; clear hB B)
     | (refine Rul.pf ⟨rfl, rfl⟩ fun B C hB => ?_; (try simp [*, -List.all_eq_true, flatN, flatC, Tryz.results96]); (try (simp (disch := first | assumption | omega) only [wc, ite_yes]; (try simp [*, -List.all_eq_true, flatN, flatC, Tryz.results96]))); first | (first | refine hB.out.1 _ (fun hb => ?_) fun hb => ⟨rfl, ?_⟩ | refine hB.out.1 _ (fun hb => ?_) fun hb => ?_) <;> clear hB C B <;> (try simp only [Bool.not_true, Bool.not_false] at hb) <;> (first | (exfalso; simp at hb; done) | (exfalso; simp at hb; omega) | (rw [hb]; (try simp at hb)) | (try simp at hb)) | ((first | refine hB.out.1 _ _ ?_ | refine hB.out.1 _ ?_ | refine hB.out.2 ⟨rfl, ?_⟩); clear hB C B) | (refine hB.out.2 _ ?_; clear hB C B; (try rfl)))
     | refine rwf_o ?_ | refine rwc_o .n rfl ?_ | refine rwc_o .z rfl ?_ | refine rwc_o .w rfl ?_ | refine rwc_o .b rfl ?_ | refine rwc_o _ rfl ?_)
    · exact out_flat rfl .nil
    · exact out_ms rfl rfl (by simp) rfl (.refl _)
  | cons m l =>
    simp at hl
    refine spec_pureFW (by simp) ?_
    refine spec_intro Tryz.func96 good96 rfl (by simp [Tryz.ntmps96]) ?_
    repeat' (first
     | (with_reducible first | refine Stp.pf ?_ | refine block_x (by decide) ?_ | refine ret_n ?_)
     | refine tri_reg [5,7] ?_ | refine tri_regc [5,7] [] mixed (by decide +kernel) ?_
     | (refine rwf_nilt rfl (by decide +kernel) fun B hB => ?_; (try simp [*]); refine hB.out _ fun b => ?_; clear hB B)
     | (refine Rul.pf ⟨rfl, rfl⟩ fun B C hB => ?_; (try simp [*, -List.all_eq_true, Tryz.results96]); (try (simp (disch := first | assumption | omega) only [wc, ite_yes]; (try simp [*, -List.all_eq_true, Tryz.results96]))); first | (first | refine hB.out.1 _ (fun hb => ?_) fun hb => ⟨rfl, ?_⟩ | refine hB.out.1 _ (fun hb => ?_) fun hb => ?_) <;> clear hB C B <;> (try simp only [Bool.not_true, Bool.not_false] at hb) <;> (first | (exfalso; simp at hb; done) | (exfalso; simp at hb; omega) | (rw [hb]; (try simp at hb)) | (try simp at hb)) | ((first | refine hB.out.1 _ _ ?_ | refine hB.out.1 _ ?_ | refine hB.out.2 ⟨rfl, ?_⟩); clear hB C B) | (refine hB.out.2 _ ?_; clear hB C B; (try rfl)))
     | refine rwf_o ?_ | refine rwc_o .n rfl ?_ | refine rwc_o .z rfl ?_ | refine rwc_o .w rfl ?_ | refine rwc_o .b rfl ?_ | refine rwc_o _ rfl ?_)
    exact out_ms (cs := flatN (m :: l)) rfl (by simp [List.take_of_length_le]) (by simp) (by simp) (.refl _)
theorem cloneS_spec (l : List Str) (hl : l.length ≤ 1000000) : PSpec Tryz.prog 102 [.fs (flatS l) l.length] (.fs (flatS l) l.length) := by
  have ho := flatS_one
  cases l with
  | nil =>
    clear ho
    refine spec_pureFW (by simp) ?_
    refine spec_intro Tryz.func102 good102 rfl (by simp [Tryz.ntmps102]) ?_
    repeat' (first
     | (with_reducible first | refine Stp.pf ?_ | refine block_x (by decide) ?_ | refine ret_n ?_)
     | refine tri_reg [5,7] ?_ | refine tri_regc [5,7] [] mixed (by decide +kernel) ?_
     | (refine rwf_nilt rfl (by decide +kernel) fun B hB => ?_; (try simp [*]); refine hB.out _ fun b => ?_; clear hB B)
     | (refine Rul.pf ⟨rfl, rfl⟩ fun B C hB => ?_; (try simp [*, -List.all_eq_true, flatS, flatC, Tryz.results102]); (try (simp (disch := first | assumption | omega) only [wc, ite_yes]; (try simp [*, -List.all_eq_true, flatS, flatC, Tryz.results102]))); first | (first | refine hB.out.1 _ (fun hb => ?_) fun hb => ⟨rfl, ?_⟩ | refine hB.out.1 _ (fun hb => ?_) fun hb => ?_) <;> clear hB C B <;> (try simp only [Bool.not_true, Bool.not_false] at hb) <;> (first | (exfalso; simp at hb; done) | (exfalso; simp at hb; omega) | (rw [hb]; (try simp at hb)) | (try simp at hb)) | ((first | refine hB.out.1 _ _ ?_ | refine hB.out.1 _ ?_ | refine hB.out.2 ⟨rfl, ?_⟩); clear hB C B) | (refine hB.out.2 _ ?_; clear hB C B; (try rfl)))
     | refine rwf_o ?_ | refine rwc_o .n rfl ?_ | refine rwc_o .z rfl ?_ | refine rwc_o .w rfl ?_ | refine rwc_o .b rfl ?_ | refine rwc_o _ rfl ?_)
    · exact out_flat rfl .nil
    · exact out_ms rfl rfl (by simp) rfl (.refl _)
  | cons m l =>
    simp at hl
    have ho := ho (m :: l)
    refine spec_pureFW (by simp) ?_
    refine spec_intro Tryz.func102 good102 rfl (by simp [Tryz.ntmps102]) ?_
    repeat' (first
     | (with_reducible first | refine Stp.pf ?_ | refine block_x (by decide) ?_ | refine ret_n ?_)
     | refine tri_reg [5,7] ?_ | refine tri_regc [5,7] [] mixed (by decide +kernel) ?_
     | (refine rwf_nilt rfl (by decide +kernel) fun B hB => ?_; (try simp [*]); refine hB.out _ fun b => ?_; clear hB B)
     | (refine Rul.pf ⟨rfl, rfl⟩ fun B C hB => ?_; (try simp [*, -List.all_eq_true, Tryz.results102]); (try (simp (disch := first | assumption | omega) only [wc, ite_yes]; (try simp [*, -List.all_eq_true, Tryz.results102]))); first | (first | refine hB.out.1 _ (fun hb => ?_) fun hb => ⟨rfl, ?_⟩ | refine hB.out.1 _ (fun hb => ?_) fun hb => ?_) <;> clear hB C B <;> (try simp only [Bool.not_true, Bool.not_false] at hb) <;> (first | (exfalso; simp at hb; done) | (exfalso; simp at hb; omega) | (rw [hb]; (try simp at hb)) | (try simp at hb)) | ((first | refine hB.out.1 _ _ ?_ | refine hB.out.1 _ ?_ | refine hB.out.2 ⟨rfl, ?_⟩); clear hB C B) | (refine hB.out.2 _ ?_; clear hB C B; (try rfl)))
     | refine rwf_o ?_ | refine rwc_o .n rfl ?_ | refine rwc_o .z rfl ?_ | refine rwc_o .w rfl ?_ | refine rwc_o .b rfl ?_ | refine rwc_o _ rfl ?_)
    exact out_ms (cs := flatS (m :: l)) rfl (by simp [List.take_of_length_le]) (by simp) (by simp) (.refl _)
theorem equalN_spec (l l' : List Int) (hl : l.length ≤ 900000) (hl' : l'.length ≤ 900000) : PSpec Tryz.prog 82 [.fs (flatN l) l.length, .fs (flatN l') l'.length] (.sc (.bool (decide (l = l')))) := by
  refine spec_pure (by simp) (by simp) ?_
  refine spec_intro Tryz.func82 good82 rfl (by simp [Tryz.ntmps82]) ?_
  by_cases hne : l.length = l'.length
  · skip
    refine go1 [] [] (cns Tryz.results82 trivial) ?_
    refine tri_for [0, 1, 12] l.length (fun k e σ => σ = [] ∧ e 13 = .sc (.int .i64 k) ∧ l.take k = l'.take k) ?_ (fun k env' σ' hlt hk hI => ?_) (fun env' σ' hk hI => ?_)
    · exact ⟨by simp, by simp, by simp⟩
    · skip
      (try simp at hk)
      obtain ⟨rfl, h13, heq⟩ := hI
      have hlt' : k < l'.length := by omega
      by_cases hx : l[k] = l'[k]
      · skip
        refine go1 [] [] (cns Tryz.results82 trivial) ?_
        exact ⟨by simp [*], rfl, by simp, by rw [List.take_add_one, List.take_add_one, List.getElem?_eq_getElem hlt, List.getElem?_eq_getElem hlt', heq, hx]⟩
      · have hll : ¬ l = l' := fun e => hx (by subst e; rfl)
        repeat' (first
         | (with_reducible first | refine Stp.pf ?_ | refine block_x (by decide) ?_ | refine ret_n ?_)
         | refine tri_reg [] ?_ | refine tri_regc [] [] mixed (by decide +kernel) ?_
         | (refine rwf_nilt rfl (by decide +kernel) fun B hB => ?_; (try simp [*]); refine hB.out _ fun b => ?_; clear hB B)
         | (refine Rul.pf ⟨rfl, rfl⟩ fun B C hB => ?_; (try simp [*, -List.all_eq_true, Tryz.results82]); (try (simp (disch := first | assumption | omega) only [wc, ite_yes]; (try simp [*, -List.all_eq_true, Tryz.results82]))); first | (first | refine hB.out.1 _ (fun hb => ?_) fun hb => ⟨rfl, ?_⟩ | refine hB.out.1 _ (fun hb => ?_) fun hb => ?_) <;> clear hB C B <;> (try simp only [Bool.not_true, Bool.not_false] at hb) <;> (first | (exfalso; simp at hb; done) | (exfalso; simp at hb; omega) | (rw [hb]; (try simp at hb)) | (try simp at hb)) | ((first | refine hB.out.1 _ _ ?_ | refine hB.out.1 _ ?_ | refine hB.out.2 ⟨rfl, ?_⟩); clear hB C B) | (refine hB.out.2 _ ?_; clear hB C B; (try rfl)))
         | refine rwf_o ?_ | refine rwc_o .n rfl ?_ | refine rwc_o .z rfl ?_ | refine rwc_o .w rfl ?_ | refine rwc_o .b rfl ?_ | refine rwc_o _ rfl ?_)
        all_goals first | (simp [hll]; done) | exact absurd hb hx
    · skip
      (try simp at hk)
      obtain ⟨rfl, h13, heq⟩ := hI
      rw [List.take_of_length_le (by omega), List.take_of_length_le (by omega)] at heq
      refine go1 [] [] (cns Tryz.results82 trivial) ?_
      simp [heq]
  · have hll : ¬ l = l' := fun e => hne (by rw [e])
    repeat' (first
     | (with_reducible first | refine Stp.pf ?_ | refine block_x (by decide) ?_ | refine ret_n ?_)
     | refine tri_reg [] ?_ | refine tri_regc [] [] mixed (by decide +kernel) ?_
     | (refine rwf_nilt rfl (by decide +kernel) fun B hB => ?_; (try simp [*]); refine hB.out _ fun b => ?_; clear hB B)
     | (refine Rul.pf ⟨rfl, rfl⟩ fun B C hB => ?_; (try simp [*, -List.all_eq_true, Tryz.results82]); (try (simp (disch := first | assumption | omega) only [wc, ite_yes]; (try simp [*, -List.all_eq_true, Tryz.results82]))); first | (first | refine hB.out.1 _ (fun hb => ?_) fun hb => ⟨rfl, ?_⟩ | refine hB.out.1 _ (fun hb => ?_) fun hb => ?_) <;> clear hB C B <;> (try simp only [Bool.not_true, Bool.not_false] at hb) <;> (first | (exfalso; simp at hb; done) | (exfalso; simp at hb; omega) | (rw [hb]; (try simp at hb)) | (try simp at hb)) | ((first | refine hB.out.1 _ _ ?_ | refine hB.out.1 _ ?_ | refine hB.out.2 ⟨rfl, ?_⟩); clear hB C B) | (refine hB.out.2 _ ?_; clear hB C B; (try rfl)))
     | refine rwf_o ?_ | refine rwc_o .n rfl ?_ | refine rwc_o .z rfl ?_ | refine rwc_o .w rfl ?_ | refine rwc_o .b rfl ?_ | refine rwc_o _ rfl ?_)
    simp [hll]
theorem equalS_spec (l l' : List Str) (hl : l.length ≤ 900000) (hl' : l'.length ≤ 900000) : PSpec Tryz.prog 83 [.fs (flatS l) l.length, .fs (flatS l') l'.length] (.sc (.bool (decide (l = l')))) := by
  refine spec_pure (by simp) (by simp) ?_
  refine spec_intro Tryz.func83 good83 rfl (by simp [Tryz.ntmps83]) ?_
  by_cases hne : l.length = l'.length
  · skip
    refine go1 [] [] (cns Tryz.results83 trivial) ?_
    refine tri_for [0, 1, 12] l.length (fun k e σ => σ = [] ∧ e 13 = .sc (.int .i64 k) ∧ l.take k = l'.take k) ?_ (fun k env' σ' hlt hk hI => ?_) (fun env' σ' hk hI => ?_)
    · exact ⟨by simp, by simp, by simp⟩
    · skip
      (try simp at hk)
      obtain ⟨rfl, h13, heq⟩ := hI
      have hlt' : k < l'.length := by omega
      by_cases hx : l[k] = l'[k]
      · skip
        refine go1 [] [] (cns Tryz.results83 trivial) ?_
        exact ⟨by simp [*], rfl, by simp, by rw [List.take_add_one, List.take_add_one, List.getElem?_eq_getElem hlt, List.getElem?_eq_getElem hlt', heq, hx]⟩
      · have hll : ¬ l = l' := fun e => hx (by subst e; rfl)
        repeat' (first
         | (with_reducible first | refine Stp.pf ?_ | refine block_x (by decide) ?_ | refine ret_n ?_)
         | refine tri_reg [] ?_ | refine tri_regc [] [] mixed (by decide +kernel) ?_
         | (refine rwf_nilt rfl (by decide +kernel) fun B hB => ?_; (try simp [*]); refine hB.out _ fun b => ?_; clear hB B)
         | (refine Rul.pf ⟨rfl, rfl⟩ fun B C hB => ?_; (try simp [*, -List.all_eq_true, Tryz.results83]); (try (simp (disch := first | assumption | omega) only [wc, ite_yes]; (try simp [*, -List.all_eq_true, Tryz.results83]))); first | (first | refine hB.out.1 _ (fun hb => ?_) fun hb => ⟨rfl, ?_⟩ | refine hB.out.1 _ (fun hb => ?_) fun hb => ?_) <;> clear hB C B <;> (try simp only [Bool.not_true, Bool.not_false] at hb) <;> (first | (exfalso; simp at hb; done) | (exfalso; simp at hb; omega) | (rw [hb]; (try simp at hb)) | (try simp at hb)) | ((first | refine hB.out.1 _ _ ?_ | refine hB.out.1 _ ?_ | refine hB.out.2 ⟨rfl, ?_⟩); clear hB C B) | (refine hB.out.2 _ ?_; clear hB C B; (try rfl)))
         | refine rwf_o ?_ | refine rwc_o .n rfl ?_ | refine rwc_o .z rfl ?_ | refine rwc_o .w rfl ?_ | refine rwc_o .b rfl ?_ | refine rwc_o _ rfl ?_)
        all_goals first | (simp [hll]; done) | exact absurd hb hx
    · skip
      (try simp at hk)
      obtain ⟨rfl, h13, heq⟩ := hI
      rw [List.take_of_length_le (by omega), List.take_of_length_le (by omega)] at heq
      refine go1 [] [] (cns Tryz.results83 trivial) ?_
      simp [heq]
  · have hll : ¬ l = l' := fun e => hne (by rw [e])
    repeat' (first
     | (with_reducible first | refine Stp.pf ?_ | refine block_x (by decide) ?_ | refine ret_n ?_)
     | refine tri_reg [] ?_ | refine tri_regc [] [] mixed (by decide +kernel) ?_
     | (refine rwf_nilt rfl (by decide +kernel) fun B hB => ?_; (try simp [*]); refine hB.out _ fun b => ?_; clear hB B)
     | (refine Rul.pf ⟨rfl, rfl⟩ fun B C hB => ?_; (try simp [*, -List.all_eq_true, Tryz.results83]); (try (simp (disch := first | assumption | omega) only [wc, ite_yes]; (try simp [*, -List.all_eq_true, Tryz.results83]))); first | (first | refine hB.out.1 _ (fun hb => ?_) fun hb => ⟨rfl, ?_⟩ | refine hB.out.1 _ (fun hb => ?_) fun hb => ?_) <;> clear hB C B <;> (try simp only [Bool.not_true, Bool.not_false] at hb) <;> (first | (exfalso; simp at hb; done) | (exfalso; simp at hb; omega) | (rw [hb]; (try simp at hb)) | (try simp at hb)) | ((first | refine hB.out.1 _ _ ?_ | refine hB.out.1 _ ?_ | refine hB.out.2 ⟨rfl, ?_⟩); clear hB C B) | (refine hB.out.2 _ ?_; clear hB C B; (try rfl)))
     | refine rwf_o ?_ | refine rwc_o .n rfl ?_ | refine rwc_o .z rfl ?_ | refine rwc_o .w rfl ?_ | refine rwc_o .b rfl ?_ | refine rwc_o _ rfl ?_)
    simp [hll]
theorem isBelow_spec (x : Int) : PSpec Tryz.prog 118 [.sc (.int .i64 x)] (.sc (.bool (!decide (0 ≤ x)))) := by
  have : (!decide (0 ≤ x)) = decide (x < 0) := by rw [Bool.eq_iff_iff]; simp
  rw [this]
  refine spec_pure (by simp) (by simp) ?_
  refine spec_intro Tryz.func118 good118 rfl (by simp [Tryz.ntmps118]) ?_
  exact go0 [] [] (cns Tryz.results118 trivial)
/-- Pivots that are keys and rise, looked at one by one. -/
def riseAt (ps : List Str) (i : Nat) : Bool := match ps[i]? with
  | some p => isKey p && (decide (i = 0) || slt (ps.getD (i - 1) ⟨#[]⟩) p)
  | none => true
def riseB (ps : List Str) : Bool := (List.range ps.length).all (riseAt ps)
/-- Kids and pivots that can be. -/
def goodIn (kids : List Int) (ps : List Str) : Bool := decide (0 < kids.length ∧ ps.length + 1 = kids.length) && kids.all (fun x => decide (0 ≤ x)) && riseB ps
def cIn (kids : List Int) (ps : List Str) (ms : List Msg) : List AV := [.fs (flatN kids) kids.length, .fs (flatS ps) ps.length, .fp (cB ms) 0]
@[simp] theorem cIn_flat (kids : List Int) (ps : List Str) (ms : List Msg) : flatL (cIn kids ps ms) = true := by simp [cIn, cB, flatL, AV.flat]
def innerR (kids : List Int) (ps : List Str) (ms : List Msg) : AV := if goodIn kids ps = true then .tup [.fp (cIn kids ps ms) 0, .sc (.int .i64 0)] else .tup [.sc (.pointer none), .sc (.int .i64 1)]
theorem nRise_spec (ps : List Str) (hl : ps.length ≤ 900000) : PSpec Tryz.prog 119 [.fs (flatS ps) ps.length] (.sc (.bool (riseB ps))) := by
  refine spec_pure (by simp) (by simp) ?_
  refine spec_intro Tryz.func119 good119 rfl (by simp [Tryz.ntmps119]) ?_
  refine go1 [] [] (cns Tryz.results119 trivial) ?_
  refine tri_for [0, 5, 6] ps.length (fun k_ e σ => σ = [] ∧ e 7 = .sc (.int .i64 k_) ∧ ∀ i < k_, riseAt ps i = true) ?_ (fun j env' σ' hlt hk hI => ?_) (fun env' σ' hk hI => ?_)
  · exact ⟨by simp, by simp, fun i h => by omega⟩
  · skip
    (try simp at hk)
    obtain ⟨rfl, h7, ha⟩ := hI
    have hky := keyIs_spec ps[j]
    have hd : riseAt ps j = (isKey ps[j] && (decide (j = 0) || slt (ps.getD (j - 1) ⟨#[]⟩) ps[j])) := by unfold riseAt; rw [List.getElem?_eq_getElem hlt]
    have bad : riseAt ps j = false → riseB ps = false := fun h => by
      unfold riseB
      rw [List.all_eq_false]
      exact ⟨j, by simpa using hlt, by rw [h]; simp⟩
    have next : riseAt ps j = true → ∀ i < j + 1, riseAt ps i = true := fun h i hi => by
      rcases Nat.lt_or_ge i j with q | q
      · exact ha i q
      · obtain rfl : i = j := by omega
        exact h
    clear ha
    cases hkk : isKey ps[j] with
    | false =>
      rw [hkk] at hd hky
      rw [bad hd]
      clear bad next hd hkk
      exact go0 [] [] (cns hky (cns Tryz.results119 trivial))
    | true =>
      rw [hkk, Bool.true_and] at hd
      rw [hkk] at hky
      clear hkk
      rcases j with _ | i
      · have nx := Lib.hid (next (by rw [hd]; rfl))
        clear bad next hd
        refine go1 [] [] (cns hky (cns Tryz.results119 trivial)) ?_
        exact ⟨by simp [*], rfl, by simp, nx.out⟩
      · have hi : i < ps.length := by omega
        rw [show ps.getD (i + 1 - 1) ⟨#[]⟩ = ps[i] from by simp [hi]] at hd
        have hsub : IntKind.i64.wrap (((i + 1 : Nat) : Int) - 1) = i := by rw [IntKind.wrap_i64]; omega
        cases hs : slt ps[i] ps[i + 1] with
        | true =>
          have nx := Lib.hid (next (by rw [hd, hs]; simp))
          clear bad next hd
          refine go1 [] [] (cns hky (cns Tryz.results119 trivial)) ?_
          exact ⟨by simp [*], rfl, by simp, nx.out⟩
        | false =>
          rw [bad (by rw [hd, hs]; simp)]
          clear bad next hd
          exact go0 [] [] (cns hky (cns Tryz.results119 trivial))
  · skip
    (try simp at hk)
    obtain ⟨rfl, h7, ha⟩ := hI
    have : riseB ps = true := List.all_eq_true.2 fun i hi => ha i (by simpa using hi)
    rw [this]
    clear ha this
    exact go0 [] [] (cns Tryz.results119 trivial)
theorem nMade_spec (kids : List Int) (ps : List Str) (ms : List Msg) (hk : kids.length ≤ 900000) (hp : ps.length ≤ 900000) : PSpec Tryz.prog 79 [.fs (flatN kids) kids.length, .fs (flatS ps) ps.length, .fp (cB ms) 0] (innerR kids ps ms) := by
  have h1 := contN_of 118 [] (by simp [flatL]) (fun x => decide (0 ≤ x)) kids (by omega) fun x _ => isBelow_spec x
  have h2 := nRise_spec ps hp
  have h3 := cloneN_spec kids (by omega)
  have h4 := cloneS_spec ps (by omega)
  unfold innerR goodIn
  by_cases hl0 : kids.length = 0
  · rw [if_neg (by simp; omega)]
    clear h1 h2 h3 h4
    refine spec_pure (by simp) (by simp) ?_
    refine spec_intro Tryz.func79 good79 rfl (by simp [Tryz.ntmps79]) ?_
    exact go0 [] [] (cns Tryz.results79 trivial)
  by_cases hpl : ps.length + 1 = kids.length
  · have e1 : IntKind.i64.wrap ((kids.length : Int) - 1) = ps.length := by rw [IntKind.wrap_i64]; omega
    rw [show decide (0 < kids.length ∧ ps.length + 1 = kids.length) = true by simp; omega, Bool.true_and]
    cases hb : kids.all (fun x => decide (0 ≤ x)) with
    | false =>
      rw [hb] at h1
      rw [if_neg (by simp)]
      clear h2 h3 h4 hb hpl
      refine spec_pure (by simp) (by simp) ?_
      refine spec_intro Tryz.func79 good79 rfl (by simp [Tryz.ntmps79]) ?_
      exact go0 [] [] (cns h1 (cns Tryz.results79 trivial))
    | true =>
      rw [hb] at h1
      clear hb hpl
      cases hr : riseB ps with
      | false =>
        rw [hr] at h2
        rw [if_neg (by simp)]
        clear h3 h4 hr
        refine spec_pure (by simp) (by simp) ?_
        refine spec_intro Tryz.func79 good79 rfl (by simp [Tryz.ntmps79]) ?_
        exact go0 [] [] (cns h1 (cns h2 (cns Tryz.results79 trivial)))
      | true =>
        rw [hr] at h2
        rw [if_pos (by simp)]
        clear hr
        refine spec_pure (by simp) (by simp) ?_
        refine spec_intro Tryz.func79 good79 rfl (by simp [Tryz.ntmps79]) ?_
        exact go0 [] [] (cns h1 (cns h2 (cns h3 (cns h4 (cns Tryz.results79 (cns cIn.eq_1 trivial))))))
  · have e1 : IntKind.i64.wrap ((kids.length : Int) - 1) = (kids.length : Int) - 1 := by rw [IntKind.wrap_i64]; omega
    have e2 : ¬ (ps.length : Int) = (kids.length : Int) - 1 := by omega
    rw [if_neg (by simp [hpl])]
    clear h1 h2 h3 h4
    refine spec_pure (by simp) (by simp) ?_
    refine spec_intro Tryz.func79 good79 rfl (by simp [Tryz.ntmps79]) ?_
    exact go0 [] [] (cns Tryz.results79 trivial)
/-- What Of tells. -/
def nOfR (kids : List Int) (ps : List Str) (ms : List Msg) : AV := if ms.all isMsg = true then innerR kids ps (withM [] ms) else .tup [.sc (.pointer none), .sc (.int .i64 1)]
theorem nOf_spec (kids : List Int) (ps : List Str) (ms : List Msg) (hk : kids.length ≤ 900000) (hp : ps.length ≤ 900000) (hm : ms.length ≤ 900000) : PSpec Tryz.prog 46 [.fs (flatN kids) kids.length, .fs (flatS ps) ps.length, .fs (flatM ms) ms.length] (nOfR kids ps ms) := by
  have h1 := bOf_spec ms hm
  have h2 := nMade_spec kids ps (withM [] ms) hk hp
  unfold withR at h1
  unfold nOfR
  cases hb : ms.all isMsg with
  | false =>
    rw [hb, if_neg (by simp)] at h1
    rw [if_neg (by simp)]
    clear h2 hb
    refine spec_pure (by simp) (by simp) ?_
    refine spec_intro Tryz.func46 good46 rfl (by simp [Tryz.ntmps46]) ?_
    exact go0 [] [] (cns h1 (cns Tryz.results46 trivial))
  | true =>
    rw [hb, if_pos rfl] at h1
    rw [if_pos rfl]
    clear hb
    unfold innerR at h2 ⊢
    cases hg : goodIn kids ps with
    | true =>
      rw [hg, if_pos rfl] at h2
      rw [if_pos rfl]
      refine spec_pure (by simp) (by simp) ?_
      refine spec_intro Tryz.func46 good46 rfl (by simp [Tryz.ntmps46]) ?_
      exact go0 [] [] (cns h1 (cns h2 (cns Tryz.results46 trivial)))
    | false =>
      rw [hg, if_neg (by simp)] at h2
      rw [if_neg (by simp)]
      refine spec_pure (by simp) (by simp) ?_
      refine spec_intro Tryz.func46 good46 rfl (by simp [Tryz.ntmps46]) ?_
      exact go0 [] [] (cns h1 (cns h2 (cns Tryz.results46 trivial)))
theorem nLen_spec (kids : List Int) (ps : List Str) (ms : List Msg) : PSpec Tryz.prog 42 [.fp (cIn kids ps ms) 0] (.sc (.int .i64 kids.length)) := by
  refine spec_pure (by simp) (by simp) ?_
  refine spec_intro Tryz.func42 good42 rfl (by simp [Tryz.ntmps42]) ?_
  exact go0 [] [] (cns Tryz.results42 (cns cIn.eq_1 trivial))
theorem nKids_spec (kids : List Int) (ps : List Str) (ms : List Msg) (hk : kids.length ≤ 900000) : PSpec Tryz.prog 44 [.fp (cIn kids ps ms) 0] (.fs (flatN kids) kids.length) := by
  refine spec_pure (by simp) (by simp) ?_
  refine spec_intro Tryz.func44 good44 rfl (by simp [Tryz.ntmps44]) ?_
  exact go0 [] [] (cns (cloneN_spec kids (by omega)) (cns Tryz.results44 (cns cIn.eq_1 trivial)))
theorem nPivots_spec (kids : List Int) (ps : List Str) (ms : List Msg) (hk : ps.length ≤ 900000) : PSpec Tryz.prog 54 [.fp (cIn kids ps ms) 0] (.fs (flatS ps) ps.length) := by
  refine spec_pure (by simp) (by simp) ?_
  refine spec_intro Tryz.func54 good54 rfl (by simp [Tryz.ntmps54]) ?_
  exact go0 [] [] (cns (cloneS_spec ps (by omega)) (cns Tryz.results54 (cns cIn.eq_1 trivial)))
theorem nBuff_spec (kids : List Int) (ps : List Str) (ms : List Msg) : PSpec Tryz.prog 31 [.fp (cIn kids ps ms) 0] (.fp (cB ms) 0) := by
  refine spec_pure (by simp) (by simp) ?_
  refine spec_intro Tryz.func31 good31 rfl (by simp [Tryz.ntmps31]) ?_
  exact go0 [] [] (cns Tryz.results31 (cns cIn.eq_1 trivial))
theorem nSame_spec (k k' : List Int) (p p' : List Str) (m m' : List Msg) (h1 : k.length ≤ 900000) (h1' : k'.length ≤ 900000) (h2 : p.length ≤ 900000) (h2' : p'.length ≤ 900000) (h3 : m.length ≤ 900000) (h3' : m'.length ≤ 900000) :
    PSpec Tryz.prog 34 [.fp (cIn k p m) 0, .fp (cIn k' p' m') 0] (.sc (.bool (decide (k = k') && decide (p = p') && decide (m = m')))) := by
  have e1 := equalN_spec k k' h1 h1'
  have e2 := equalS_spec p p' h2 h2'
  have e3 := bSame_spec m m' h3 h3'
  generalize decide (k = k') = b1 at *
  generalize decide (p = p') = b2 at *
  generalize decide (m = m') = b3 at *
  cases b1 <;> cases b2 <;> cases b3
  all_goals
    refine spec_pure (by simp) (by simp) ?_
    refine spec_intro Tryz.func34 good34 rfl (by simp [Tryz.ntmps34]) ?_
    exact go0 [] [] (cns e1 (cns e2 (cns e3 (cns Tryz.results34 (cns cIn.eq_1 trivial)))))
theorem nSame_nil : PSpec Tryz.prog 34 [.sc (.pointer none), .sc (.pointer none)] (.sc (.bool true)) := by
  refine spec_pure (by simp) (by simp) ?_
  refine spec_intro Tryz.func34 good34 rfl (by simp [Tryz.ntmps34]) ?_
  exact go0 [] [] (cns Tryz.results34 trivial)
end Go.Proofs.YticpnfgiidljlaaGreat
