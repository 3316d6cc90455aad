/- slices.ContainsFunc over numbers, texts and messages, at any closure. -/
import Derived.Test.YticpnfgiidljlaaGreatLw
import Derived.Test.YticpnfgiidljlaaGreatFacts
namespace Go.Proofs.YticpnfgiidljlaaGreat
open Go.RowKit
set_option linter.unusedSimpArgs false
set_option linter.unusedVariables false
set_option maxRecDepth 10000
theorem idxN_no (f : Nat) (cap : List AV) (hcap : flatL cap = true) (ok : Int → Bool) (l : List Int) (hl : l.length ≤ 1000000) (hp : ∀ x ∈ l, PSpec Tryz.prog f (.sc (.int .i64 x) :: cap) (.sc (.bool (!ok x)))) (h : l.all ok = true) : PSpec Tryz.prog 95 [.fs (flatN l) l.length, .fn (.func f) [] cap] (.sc (.int .i64 (-1))) := by
  replace hp := Lib.hid hp
  replace h := Lib.hid h
  refine spec_pure (by simp [hcap]) (by simp) ?_
  refine spec_intro Tryz.func95 good95 rfl (by simp [Tryz.ntmps95]) ?_
  refine go1 [] [] (cns Tryz.results95 trivial) ?_
  refine tri_for [0, 1, 7] l.length (fun k_ e σ => σ = [] ∧ e 8 = .sc (.int .i64 k_)) ?_ (fun j env' σ' hlt hk hI => ?_) (fun env' σ' hk hI => ?_)
  · exact ⟨by simp, by simp⟩
  · skip
    (try simp at hk)
    obtain ⟨rfl, h8⟩ := hI
    have hok := List.all_eq_true.1 h.out _ (List.getElem_mem hlt)
    have bad := hp.out _ (List.getElem_mem hlt)
    rw [hok, Bool.not_true] at bad
    clear hok h hp
    refine go1 [] [] (cns bad (cns Tryz.results95 trivial)) ?_
    exact ⟨by simp [*], rfl, by simp⟩
  · skip
    (try simp at hk)
    obtain ⟨rfl, h8⟩ := hI
    exact go0 [] [] (cns Tryz.results95 trivial)
theorem idxN_yes (f : Nat) (cap : List AV) (hcap : flatL cap = true) (ok : Int → Bool) (l : List Int) (hl : l.length ≤ 1000000) (hp : ∀ x ∈ l, PSpec Tryz.prog f (.sc (.int .i64 x) :: cap) (.sc (.bool (!ok x)))) (h : l.all ok = false) : ∃ k : Nat, PSpec Tryz.prog 95 [.fs (flatN l) l.length, .fn (.func f) [] cap] (.sc (.int .i64 k)) := by
  obtain ⟨q, hq, hb1, hb2⟩ : ∃ q, ∃ hq : q < l.length, ok l[q] = false ∧ ∀ i (hi : i < q), ok (l[i]'(by omega)) = true := by
    have hlt : l.findIdx (fun x => !ok x) < l.length := by
      rw [List.findIdx_lt_length]
      obtain ⟨x, hx, hb⟩ := List.all_eq_false.1 h
      exact ⟨x, hx, by simpa using hb⟩
    refine ⟨_, hlt, ?_, fun i hi => ?_⟩
    · have := List.findIdx_getElem (w := hlt); simpa using this
    · have := List.not_of_lt_findIdx hi; simpa using this
  refine ⟨q, ?_⟩
  replace hb2 := Lib.hid hb2
  replace hb1 := Lib.hid hb1
  replace hp := Lib.hid hp
  replace hq := Lib.hid hq
  replace hl := Lib.hid hl
  clear h
  have hl1 := hl.out
  have hq1 := hq.out
  refine spec_pure (by simp [hcap]) (by simp) ?_
  refine spec_intro Tryz.func95 good95 rfl (by simp [Tryz.ntmps95]) ?_
  refine go1 [] [] (cns Tryz.results95 trivial) ?_
  refine tri_whl [0, 1, 7] q (fun m e σ => σ = [] ∧ ∃ k : Nat, k ≤ q ∧ m = q - k ∧ e 8 = .sc (.int .i64 k)) ?_ (fun m env' σ' hm hk hI => ?_)
  · exact ⟨q, by omega, rfl, 0, by omega, by omega, by simp⟩
  · skip
    (try simp at hk)
    obtain ⟨rfl, k, hkj, hmk, h8⟩ := hI
    have hkl : k < l.length := by omega
    have bad := hp.out _ (List.getElem_mem hkl)
    rcases Nat.lt_or_ge k q with hlt | hge
    · have hok := hb2.out k hlt
      rw [hok, Bool.not_true] at bad
      clear hok hb1
      refine go1 [] [] (cns bad (cns Tryz.results95 trivial)) ?_
      exact ⟨by simp [*], q - (k + 1), by omega, rfl, k + 1, by omega, rfl, by simp⟩
    · obtain rfl : k = q := by omega
      rw [hb1.out, Bool.not_false] at bad
      clear hb1
      exact go0 [] [] (cns bad (cns Tryz.results95 trivial))
theorem contN_of (f : Nat) (cap : List AV) (hcap : flatL cap = true) (ok : Int → Bool) (l : List Int) (hl : l.length ≤ 1000000) (hp : ∀ x ∈ l, PSpec Tryz.prog f (.sc (.int .i64 x) :: cap) (.sc (.bool (!ok x)))) : PSpec Tryz.prog 43 [.fs (flatN l) l.length, .fn (.func f) [] cap] (.sc (.bool (!l.all ok))) := by
  cases h : l.all ok with
  | true =>
    have := idxN_no f cap hcap ok l hl hp h
    clear hp
    refine spec_pure (by simp [hcap]) (by simp) ?_
    refine spec_intro Tryz.func43 good43 rfl (by simp [Tryz.ntmps43]) ?_
    exact go0 [] [] (cns this (cns Tryz.results43 trivial))
  | false =>
    obtain ⟨k, this⟩ := idxN_yes f cap hcap ok l hl hp h
    clear hp
    refine spec_pure (by simp [hcap]) (by simp) ?_
    refine spec_intro Tryz.func43 good43 rfl (by simp [Tryz.ntmps43]) ?_
    exact go0 [] [] (cns this (cns Tryz.results43 trivial))
    all_goals simp; omega
theorem idxS_no (f : Nat) (cap : List AV) (hcap : flatL cap = true) (ok : Str → Bool) (l : List Str) (hl : l.length ≤ 1000000) (hp : ∀ x ∈ l, PSpec Tryz.prog f (.sc (.string x) :: cap) (.sc (.bool (!ok x)))) (h : l.all ok = true) : PSpec Tryz.prog 144 [.fs (flatS l) l.length, .fn (.func f) [] cap] (.sc (.int .i64 (-1))) := by
  replace hp := Lib.hid hp
  replace h := Lib.hid h
  refine spec_pure (by simp [hcap]) (by simp) ?_
  refine spec_intro Tryz.func144 good144 rfl (by simp [Tryz.ntmps144]) ?_
  refine go1 [] [] (cns Tryz.results144 trivial) ?_
  refine tri_for [0, 1, 7] l.length (fun k_ e σ => σ = [] ∧ e 8 = .sc (.int .i64 k_)) ?_ (fun j env' σ' hlt hk hI => ?_) (fun env' σ' hk hI => ?_)
  · exact ⟨by simp, by simp⟩
  · skip
    (try simp at hk)
    obtain ⟨rfl, h8⟩ := hI
    have hok := List.all_eq_true.1 h.out _ (List.getElem_mem hlt)
    have bad := hp.out _ (List.getElem_mem hlt)
    rw [hok, Bool.not_true] at bad
    clear hok h hp
    refine go1 [] [] (cns bad (cns Tryz.results144 trivial)) ?_
    exact ⟨by simp [*], rfl, by simp⟩
  · skip
    (try simp at hk)
    obtain ⟨rfl, h8⟩ := hI
    exact go0 [] [] (cns Tryz.results144 trivial)
theorem idxS_yes (f : Nat) (cap : List AV) (hcap : flatL cap = true) (ok : Str → Bool) (l : List Str) (hl : l.length ≤ 1000000) (hp : ∀ x ∈ l, PSpec Tryz.prog f (.sc (.string x) :: cap) (.sc (.bool (!ok x)))) (h : l.all ok = false) : ∃ k : Nat, PSpec Tryz.prog 144 [.fs (flatS l) l.length, .fn (.func f) [] cap] (.sc (.int .i64 k)) := by
  obtain ⟨q, hq, hb1, hb2⟩ : ∃ q, ∃ hq : q < l.length, ok l[q] = false ∧ ∀ i (hi : i < q), ok (l[i]'(by omega)) = true := by
    have hlt : l.findIdx (fun x => !ok x) < l.length := by
      rw [List.findIdx_lt_length]
      obtain ⟨x, hx, hb⟩ := List.all_eq_false.1 h
      exact ⟨x, hx, by simpa using hb⟩
    refine ⟨_, hlt, ?_, fun i hi => ?_⟩
    · have := List.findIdx_getElem (w := hlt); simpa using this
    · have := List.not_of_lt_findIdx hi; simpa using this
  refine ⟨q, ?_⟩
  replace hb2 := Lib.hid hb2
  replace hb1 := Lib.hid hb1
  replace hp := Lib.hid hp
  replace hq := Lib.hid hq
  replace hl := Lib.hid hl
  clear h
  have hl1 := hl.out
  have hq1 := hq.out
  refine spec_pure (by simp [hcap]) (by simp) ?_
  refine spec_intro Tryz.func144 good144 rfl (by simp [Tryz.ntmps144]) ?_
  refine go1 [] [] (cns Tryz.results144 trivial) ?_
  refine tri_whl [0, 1, 7] q (fun m e σ => σ = [] ∧ ∃ k : Nat, k ≤ q ∧ m = q - k ∧ e 8 = .sc (.int .i64 k)) ?_ (fun m env' σ' hm hk hI => ?_)
  · exact ⟨q, by omega, rfl, 0, by omega, by omega, by simp⟩
  · skip
    (try simp at hk)
    obtain ⟨rfl, k, hkj, hmk, h8⟩ := hI
    have hkl : k < l.length := by omega
    have bad := hp.out _ (List.getElem_mem hkl)
    rcases Nat.lt_or_ge k q with hlt | hge
    · have hok := hb2.out k hlt
      rw [hok, Bool.not_true] at bad
      clear hok hb1
      refine go1 [] [] (cns bad (cns Tryz.results144 trivial)) ?_
      exact ⟨by simp [*], q - (k + 1), by omega, rfl, k + 1, by omega, rfl, by simp⟩
    · obtain rfl : k = q := by omega
      rw [hb1.out, Bool.not_false] at bad
      clear hb1
      exact go0 [] [] (cns bad (cns Tryz.results144 trivial))
theorem contS_of (f : Nat) (cap : List AV) (hcap : flatL cap = true) (ok : Str → Bool) (l : List Str) (hl : l.length ≤ 1000000) (hp : ∀ x ∈ l, PSpec Tryz.prog f (.sc (.string x) :: cap) (.sc (.bool (!ok x)))) : PSpec Tryz.prog 128 [.fs (flatS l) l.length, .fn (.func f) [] cap] (.sc (.bool (!l.all ok))) := by
  cases h : l.all ok with
  | true =>
    have := idxS_no f cap hcap ok l hl hp h
    clear hp
    refine spec_pure (by simp [hcap]) (by simp) ?_
    refine spec_intro Tryz.func128 good128 rfl (by simp [Tryz.ntmps128]) ?_
    exact go0 [] [] (cns this (cns Tryz.results128 trivial))
  | false =>
    obtain ⟨k, this⟩ := idxS_yes f cap hcap ok l hl hp h
    clear hp
    refine spec_pure (by simp [hcap]) (by simp) ?_
    refine spec_intro Tryz.func128 good128 rfl (by simp [Tryz.ntmps128]) ?_
    exact go0 [] [] (cns this (cns Tryz.results128 trivial))
    all_goals simp; omega
theorem idxM_no (f : Nat) (cap : List AV) (hcap : flatL cap = true) (ok : Msg → Bool) (l : List Msg) (hl : l.length ≤ 1000000) (hp : ∀ x ∈ l, PSpec Tryz.prog f (.agg (cM x) :: cap) (.sc (.bool (!ok x)))) (h : l.all ok = true) : PSpec Tryz.prog 145 [.fs (flatM l) l.length, .fn (.func f) [] cap] (.sc (.int .i64 (-1))) := by
  replace hp := Lib.hid hp
  replace h := Lib.hid h
  refine spec_pure (by simp [hcap]) (by simp) ?_
  refine spec_intro Tryz.func145 good145 rfl (by simp [Tryz.ntmps145]) ?_
  refine go1 [] [] (cns Tryz.results145 trivial) ?_
  refine tri_for [0, 1, 7] l.length (fun k_ e σ => σ = [] ∧ e 8 = .sc (.int .i64 k_)) ?_ (fun j env' σ' hlt hk hI => ?_) (fun env' σ' hk hI => ?_)
  · exact ⟨by simp, by simp⟩
  · skip
    (try simp at hk)
    obtain ⟨rfl, h8⟩ := hI
    have hok := List.all_eq_true.1 h.out _ (List.getElem_mem hlt)
    have bad := hp.out _ (List.getElem_mem hlt)
    rw [hok, Bool.not_true] at bad
    have sg := flatM_seg l j hlt
    clear hok h hp
    generalize l[j] = x at *
    refine go1 [] [] (cns bad (cns Tryz.results145 trivial)) ?_
    exact ⟨by simp [*], rfl, by simp⟩
  · skip
    (try simp at hk)
    obtain ⟨rfl, h8⟩ := hI
    exact go0 [] [] (cns Tryz.results145 trivial)
theorem idxM_yes (f : Nat) (cap : List AV) (hcap : flatL cap = true) (ok : Msg → Bool) (l : List Msg) (hl : l.length ≤ 1000000) (hp : ∀ x ∈ l, PSpec Tryz.prog f (.agg (cM x) :: cap) (.sc (.bool (!ok x)))) (h : l.all ok = false) : ∃ k : Nat, PSpec Tryz.prog 145 [.fs (flatM l) l.length, .fn (.func f) [] cap] (.sc (.int .i64 k)) := by
  obtain ⟨q, hq, hb1, hb2⟩ : ∃ q, ∃ hq : q < l.length, ok l[q] = false ∧ ∀ i (hi : i < q), ok (l[i]'(by omega)) = true := by
    have hlt : l.findIdx (fun x => !ok x) < l.length := by
      rw [List.findIdx_lt_length]
      obtain ⟨x, hx, hb⟩ := List.all_eq_false.1 h
      exact ⟨x, hx, by simpa using hb⟩
    refine ⟨_, hlt, ?_, fun i hi => ?_⟩
    · have := List.findIdx_getElem (w := hlt); simpa using this
    · have := List.not_of_lt_findIdx hi; simpa using this
  refine ⟨q, ?_⟩
  replace hb2 := Lib.hid hb2
  replace hb1 := Lib.hid hb1
  replace hp := Lib.hid hp
  replace hq := Lib.hid hq
  replace hl := Lib.hid hl
  clear h
  have hl1 := hl.out
  have hq1 := hq.out
  refine spec_pure (by simp [hcap]) (by simp) ?_
  refine spec_intro Tryz.func145 good145 rfl (by simp [Tryz.ntmps145]) ?_
  refine go1 [] [] (cns Tryz.results145 trivial) ?_
  refine tri_whl [0, 1, 7] q (fun m e σ => σ = [] ∧ ∃ k : Nat, k ≤ q ∧ m = q - k ∧ e 8 = .sc (.int .i64 k)) ?_ (fun m env' σ' hm hk hI => ?_)
  · exact ⟨q, by omega, rfl, 0, by omega, by omega, by simp⟩
  · skip
    (try simp at hk)
    obtain ⟨rfl, k, hkj, hmk, h8⟩ := hI
    have hkl : k < l.length := by omega
    have sg := flatM_seg l k hkl
    have bad := hp.out _ (List.getElem_mem hkl)
    rcases Nat.lt_or_ge k q with hlt | hge
    · have hok := hb2.out k hlt
      rw [hok, Bool.not_true] at bad
      clear hok hb1
      generalize l[k] = x at *
      refine go1 [] [] (cns bad (cns Tryz.results145 trivial)) ?_
      exact ⟨by simp [*], q - (k + 1), by omega, rfl, k + 1, by omega, rfl, by simp⟩
    · obtain rfl : k = q := by omega
      rw [hb1.out, Bool.not_false] at bad
      clear hb1
      generalize l[k] = x at *
      exact go0 [] [] (cns bad (cns Tryz.results145 trivial))
theorem contM_of (f : Nat) (cap : List AV) (hcap : flatL cap = true) (ok : Msg → Bool) (l : List Msg) (hl : l.length ≤ 1000000) (hp : ∀ x ∈ l, PSpec Tryz.prog f (.agg (cM x) :: cap) (.sc (.bool (!ok x)))) : PSpec Tryz.prog 131 [.fs (flatM l) l.length, .fn (.func f) [] cap] (.sc (.bool (!l.all ok))) := by
  cases h : l.all ok with
  | true =>
    have := idxM_no f cap hcap ok l hl hp h
    clear hp
    refine spec_pure (by simp [hcap]) (by simp) ?_
    refine spec_intro Tryz.func131 good131 rfl (by simp [Tryz.ntmps131]) ?_
    exact go0 [] [] (cns this (cns Tryz.results131 trivial))
  | false =>
    obtain ⟨k, this⟩ := idxM_yes f cap hcap ok l hl hp h
    clear hp
    refine spec_pure (by simp [hcap]) (by simp) ?_
    refine spec_intro Tryz.func131 good131 rfl (by simp [Tryz.ntmps131]) ?_
    exact go0 [] [] (cns this (cns Tryz.results131 trivial))
    all_goals simp; omega
end Go.Proofs.YticpnfgiidljlaaGreat
