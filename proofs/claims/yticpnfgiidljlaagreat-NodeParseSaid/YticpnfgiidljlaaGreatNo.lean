/- The reference of inner nodes: Good, Of, Same. -/
import Derived.Test.YticpnfgiidljlaaGreatWr
import Derived.Test.YticpnfgiidljlaaGreatLc
import Derived.Test.YticpnfgiidljlaaGreatNj
import Derived.Test.YticpnfgiidljlaaGreatNk
import Derived.Test.YticpnfgiidljlaaGreatNl
import Derived.Test.YticpnfgiidljlaaGreatWap
namespace Go.Proofs.YticpnfgiidljlaaGreat
open Go.RowKit
set_option linter.unusedSimpArgs false
set_option maxRecDepth 10000
@[simp] theorem take_cM (m : Msg) : List.take 3 (cM m) = cM m := rfl
@[simp] theorem wrM (a b c : AV) (m : Msg) : wr [a, b, c] 0 (cM m) = cM m := rfl
end Go.Proofs.YticpnfgiidljlaaGreat
namespace Go.Proofs.YticpnfgiidljlaaGreat
open Go.RowKit
set_option linter.unusedSimpArgs false
set_option linter.unusedVariables false
set_option maxRecDepth 10000
theorem rGood_spec (kids : List Int) (ps : List Str) (hk : kids.length ≤ 900000) (hp : ps.length ≤ 900000) : PSpec Tryz.prog 50 [.fs (flatN kids) kids.length, .fs (flatS ps) ps.length] (.sc (.bool (goodIn kids ps))) := by
  by_cases hl0 : kids.length = 0
  · have : goodIn kids ps = false := by
      cases h : goodIn kids ps with
      | false => rfl
      | true => have := goodIn_iff.1 h; omega
    rw [this]
    clear this
    refine spec_pure (by simp) (by simp) ?_
    refine spec_intro Tryz.func50 good50 rfl (by simp [Tryz.ntmps50]) ?_
    exact go0 [] [] (cns Tryz.results50 trivial)
  by_cases hpl : ps.length + 1 = kids.length
  · have e1 : IntKind.i64.wrap ((kids.length : Int) - 1) = ps.length := by rw [IntKind.wrap_i64]; omega
    refine spec_pure (by simp) (by simp) ?_
    refine spec_intro Tryz.func50 good50 rfl (by simp [Tryz.ntmps50]) ?_
    refine go1 [] [] (cns Tryz.results50 trivial) ?_
    refine tri_for [0, 1] kids.length (fun k_ e σ => σ = [] ∧ e 5 = .sc (.int .i64 k_) ∧ ∀ x ∈ kids.take k_, 0 ≤ x) ?_ (fun j env' σ' hlt hk hI => ?_) (fun env' σ' hk hI => ?_)
    · exact ⟨by simp, by simp, by simp⟩
    · skip
      (try simp at hk)
      obtain ⟨rfl, h5, ha⟩ := hI
      by_cases hx : 0 ≤ kids[j]
      · have nx : ∀ x ∈ kids.take (j + 1), 0 ≤ x := fun x hm => by
          rw [List.take_succ_eq_append_getElem hlt] at hm
          rcases List.mem_append.1 hm with q | q
          · exact ha x q
          · rw [List.mem_singleton.1 q]; exact hx
        replace nx := Lib.hid nx
        clear ha
        refine go1 [] [] (cns Tryz.results50 trivial) ?_
        exact ⟨by simp [*], rfl, by simp, nx.out⟩
      · have : goodIn kids ps = false := by
          cases h : goodIn kids ps with
          | false => rfl
          | true => exact absurd ((goodIn_iff.1 h).2.2.1 _ (List.getElem_mem hlt)) hx
        rw [this]
        have hx' : kids[j] < 0 := by omega
        clear this ha hx
        exact go0 [] [] (cns Tryz.results50 trivial)
    · skip
      (try simp at hk)
      obtain ⟨rfl, h5, ha⟩ := hI
      rw [List.take_length] at ha
      replace ha := Lib.hid ha
      refine go1 [] [] (cns Tryz.results50 trivial) ?_
      refine tri_for [1] ps.length (fun k_ e σ => σ = [] ∧ e 6 = .sc (.int .i64 k_) ∧ ∀ i < k_, riseAt ps i = true) ?_ (fun j env' σ' hlt hk hI => ?_) (fun env' σ' hk hI => ?_)
      · exact ⟨by simp, by simp, fun i h => by omega⟩
      · skip
        (try simp at hk)
        obtain ⟨rfl, h6, hr⟩ := hI
        have hky := rKey_spec ps[j]
        have hd : riseAt ps j = (isKey ps[j] && (decide (j = 0) || slt (ps.getD (j - 1) ⟨#[]⟩) ps[j])) := by unfold riseAt; rw [List.getElem?_eq_getElem hlt]
        have bad : riseAt ps j = false → goodIn kids ps = false := fun h => by
          cases hg : goodIn kids ps with
          | false => rfl
          | true =>
            have := List.all_eq_true.1 (goodIn_iff.1 hg).2.2.2 j (by simpa using hlt)
            rw [h] at this; cases this
        have next : riseAt ps j = true → ∀ i < j + 1, riseAt ps i = true := fun h i hi => by
          rcases Nat.lt_or_ge i j with q | q
          · exact hr i q
          · obtain rfl : i = j := by omega
            exact h
        clear hr
        cases hkk : isKey ps[j] with
        | false =>
          rw [hkk] at hd hky
          rw [bad hd]
          clear bad next hd hkk
          exact go0 [] [] (cns hky (cns Tryz.results50 trivial))
        | true =>
          rw [hkk, Bool.true_and] at hd
          rw [hkk] at hky
          clear hkk
          rcases j with _ | i
          · have nx := Lib.hid (next (by rw [hd]; rfl))
            clear bad next hd
            refine go1 [] [] (cns hky (cns Tryz.results50 trivial)) ?_
            exact ⟨by simp [*], rfl, by simp, nx.out⟩
          · have hi : i < ps.length := by omega
            rw [show ps.getD (i + 1 - 1) ⟨#[]⟩ = ps[i] from by simp [hi]] at hd
            have hsub : IntKind.i64.wrap (((i + 1 : Nat) : Int) - 1) = i := by rw [IntKind.wrap_i64]; omega
            cases hs : slt ps[i] ps[i + 1] with
            | true =>
              have nx := Lib.hid (next (by rw [hd, hs]; simp))
              clear bad next hd
              refine go1 [] [] (cns hky (cns Tryz.results50 trivial)) ?_
              exact ⟨by simp [*], rfl, by simp, nx.out⟩
            | false =>
              rw [bad (by rw [hd, hs]; simp)]
              clear bad next hd
              exact go0 [] [] (cns hky (cns Tryz.results50 trivial))
      · skip
        (try simp at hk)
        obtain ⟨rfl, h6, hr⟩ := hI
        have hg : goodIn kids ps = true := goodIn_iff.2 ⟨by omega, hpl, ha.out, List.all_eq_true.2 fun i hi => hr i (by simpa using hi)⟩
        rw [hg]
        clear ha hr hg
        exact go0 [] [] (cns Tryz.results50 trivial)
  · have : goodIn kids ps = false := by
      cases h : goodIn kids ps with
      | false => rfl
      | true => have := goodIn_iff.1 h; omega
    rw [this]
    have e1 : IntKind.i64.wrap ((kids.length : Int) - 1) = (kids.length : Int) - 1 := by rw [IntKind.wrap_i64]; omega
    have e2 : ¬ (ps.length : Int) = (kids.length : Int) - 1 := by omega
    clear this
    refine spec_pure (by simp) (by simp) ?_
    refine spec_intro Tryz.func50 good50 rfl (by simp [Tryz.ntmps50]) ?_
    exact go0 [] [] (cns Tryz.results50 trivial)
/-- An inner node of the reference's, as cells. -/
def cN3 (k : List Int) (p : List Str) (m : List Msg) : List AV := [.fs (flatN k) k.length, .fs (flatS p) p.length, .fs (flatM m) m.length]
@[simp] theorem cN3_flat (k : List Int) (p : List Str) (m : List Msg) : flatL (cN3 k p m) = true := by simp [cN3, flatL, AV.flat]
theorem rSame11_spec (k k' : List Int) (p p' : List Str) (m m' : List Msg) (h1 : k.length ≤ 900000) (h1' : k'.length ≤ 900000) (h2 : p.length ≤ 900000) (h2' : p'.length ≤ 900000) (h3 : m.length ≤ 900000) (h3' : m'.length ≤ 900000) :
    PSpec Tryz.prog 52 [.agg (cN3 k p m), .agg (cN3 k' p' m')] (.sc (.bool (decide (k = k') && decide (p = p') && decide (m = m')))) := by
  have e3 := rSame_spec m m' h3 h3'
  by_cases c1 : k.length = k'.length
  case neg =>
    have : decide (k = k') = false := by simp; exact fun e => c1 (by rw [e])
    rw [this, Bool.false_and, Bool.false_and]
    have c1' : ¬ (k.length : Int) = k'.length := by omega
    clear e3 this
    refine spec_pure (by simp) (by simp) ?_
    refine spec_intro Tryz.func52 good52 rfl (by simp [Tryz.ntmps52]) ?_
    exact go0 [] [] (cns Tryz.results52 (cns cN3.eq_1 trivial))
  by_cases c2 : p.length = p'.length
  case neg =>
    have : decide (p = p') = false := by simp; exact fun e => c2 (by rw [e])
    rw [this, Bool.and_false, Bool.false_and]
    have c2' : ¬ (p.length : Int) = p'.length := by omega
    clear e3 this
    refine spec_pure (by simp) (by simp) ?_
    refine spec_intro Tryz.func52 good52 rfl (by simp [Tryz.ntmps52]) ?_
    exact go0 [] [] (cns Tryz.results52 (cns cN3.eq_1 trivial))
  cases c3 : decide (m = m') with
  | false =>
    rw [c3] at e3
    rw [Bool.and_false]
    clear c3
    refine spec_pure (by simp) (by simp) ?_
    refine spec_intro Tryz.func52 good52 rfl (by simp [Tryz.ntmps52]) ?_
    exact go0 [] [] (cns e3 (cns Tryz.results52 (cns cN3.eq_1 trivial)))
  | true =>
    rw [c3] at e3
    rw [Bool.and_true]
    clear c3
    refine spec_pure (by simp) (by simp) ?_
    refine spec_intro Tryz.func52 good52 rfl (by simp [Tryz.ntmps52]) ?_
    refine go1 [] [] (cns e3 (cns Tryz.results52 (cns cN3.eq_1 trivial))) ?_
    clear e3
    refine tri_for [2, 3] k.length (fun k_ e σ => σ = [] ∧ e 5 = .sc (.int .i64 k_) ∧ k.take k_ = k'.take k_) ?_ (fun j env' σ' hlt hk hI => ?_) (fun env' σ' hk hI => ?_)
    · exact ⟨by simp, by simp, by simp⟩
    · skip
      (try simp at hk)
      obtain ⟨rfl, h5, heq⟩ := hI
      have hlt' : j < k'.length := by omega
      by_cases hx : k[j] = k'[j]
      · have nx : k.take (j + 1) = k'.take (j + 1) := by rw [List.take_add_one, List.take_add_one, List.getElem?_eq_getElem hlt, List.getElem?_eq_getElem hlt', heq, hx]
        clear heq
        refine go1 [] [] (cns Tryz.results52 (cns cN3.eq_1 trivial)) ?_
        exact ⟨by simp [*], rfl, by simp, nx⟩
      · have hll : decide (k = k') = false := by simp; exact fun e => hx (by subst e; rfl)
        rw [hll, Bool.false_and]
        clear hll heq
        exact go0 [] [] (cns Tryz.results52 (cns cN3.eq_1 trivial))
    · skip
      (try simp at hk)
      obtain ⟨rfl, h5, heq⟩ := hI
      rw [List.take_length, List.take_of_length_le (by omega)] at heq
      rw [decide_eq_true heq, Bool.true_and]
      clear heq
      refine go1 [] [] (cns Tryz.results52 (cns cN3.eq_1 trivial)) ?_
      refine tri_for [2, 3] p.length (fun k_ e σ => σ = [] ∧ e 6 = .sc (.int .i64 k_) ∧ p.take k_ = p'.take k_) ?_ (fun j env' σ' hlt hk hI => ?_) (fun env' σ' hk hI => ?_)
      · exact ⟨by simp, by simp, by simp⟩
      · skip
        (try simp at hk)
        obtain ⟨rfl, h6, heq⟩ := hI
        have hlt' : j < p'.length := by omega
        by_cases hx : p[j] = p'[j]
        · have nx : p.take (j + 1) = p'.take (j + 1) := by rw [List.take_add_one, List.take_add_one, List.getElem?_eq_getElem hlt, List.getElem?_eq_getElem hlt', heq, hx]
          clear heq
          refine go1 [] [] (cns Tryz.results52 (cns cN3.eq_1 trivial)) ?_
          exact ⟨by simp [*], rfl, by simp, nx⟩
        · have hll : decide (p = p') = false := by simp; exact fun e => hx (by subst e; rfl)
          rw [hll]
          clear hll heq
          exact go0 [] [] (cns Tryz.results52 (cns cN3.eq_1 trivial))
      · skip
        (try simp at hk)
        obtain ⟨rfl, h6, heq⟩ := hI
        rw [List.take_length, List.take_of_length_le (by omega)] at heq
        rw [decide_eq_true heq]
        clear heq
        exact go0 [] [] (cns Tryz.results52 (cns cN3.eq_1 trivial))
end Go.Proofs.YticpnfgiidljlaaGreat
