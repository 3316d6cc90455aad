/- The law's great. -/
import Derived.Test.YticpnfgiidljlaaGreatNr
import Derived.Test.YticpnfgiidljlaaGreatWgd
import Derived.Test.YticpnfgiidljlaaGreatSa
namespace Go.Proofs.YticpnfgiidljlaaGreat
open Go.RowKit
set_option linter.unusedSimpArgs false
set_option linter.unusedVariables false
set_option maxRecDepth 10000
def aw : Item := ⟨⟨#[97]⟩, ⟨#[98]⟩⟩
theorem aw_good : (NodeV.l [aw]).good := ⟨List.pairwise_singleton _ _, by decide⟩
theorem aw_fits : (NodeV.l [aw]).fits = true := by decide
theorem aw_bytes : ofL' (leafB [aw]) = ⟨#[1, 1, 1, 97, 1, 98]⟩ := by rfl
theorem aw_parse : parseV ⟨#[1, 1, 1, 97, 1, 98]⟩ = some (.l [aw]) := by
  have := parse_of aw_good aw_fits
  rwa [show (NodeV.l [aw]).bytes = leafB [aw] from rfl, aw_bytes] at this
theorem aw_more : parseV ⟨#[1, 1, 1, 97, 1, 98, 33]⟩ = none := by
  cases h : parseV ⟨#[1, 1, 1, 97, 1, 98, 33]⟩ with
  | none => rfl
  | some n =>
    have hd : (parseV ⟨#[1, 1, 1, 97, 1, 98, 33]⟩).isNone = true := by decide +kernel
    rw [h] at hd
    cases hd
theorem aw_of : leafR [aw] = .tup [.fp (cL [aw]) 0, .sc (.int .i64 0)] := by
  have h1 : [aw].all okI = true := by decide
  have h2 : ofL [aw] = some [aw] := ofL_rise (List.pairwise_singleton _ _)
  unfold leafR
  rw [h1, h2, if_neg (by simp)]
theorem wAwake_spec : PSpec Tryz.prog 7 [] (.sc (.bool true)) := by
  have h1 := lOf_spec [aw] (by simp)
  rw [aw_of] at h1
  have h2 := dOfLeaf_spec [aw]
  have h3 := dBytes_l [aw]
  rw [if_pos (by decide), aw_bytes] at h3
  have h4 := dParse_spec ⟨#[1, 1, 1, 97, 1, 98]⟩
  rw [aw_parse] at h4
  have h5 := dParse_spec ⟨#[1, 1, 1, 97, 1, 98, 33]⟩
  rw [aw_more] at h5
  have h6 := dSame_ll [aw] [aw] (by simp) (by simp)
  rw [decide_eq_true rfl] at h6
  have h7 := dIsLeaf_l [aw]
  have h8 := dOfLeaf_nil
  have h9 := dInner_l [aw]
  unfold nP at *
  unfold nodeR NodeV.av nP at *
  have hs : flatI [aw] = [.sc (.string ⟨#[97]⟩), .sc (.string ⟨#[98]⟩)] := rfl
  rw [hs] at h1
  simp only [List.length_singleton] at h1
  have hf : flatL (cNl [aw]) = true := by simp
  refine spec_pure (by simp) (by simp) ?_
  refine spec_intro Tryz.func7 good7 rfl (by simp [Tryz.ntmps7]) ?_
  exact go0 [] [] (cns h1 (cns h2 (cns h3 (cns h4 (cns h5 (cns h6 (cns h7 (cns h8 (cns h9 (cns Tryz.results7 trivial))))))))))
end Go.Proofs.YticpnfgiidljlaaGreat
namespace Go.Proofs.YticpnfgiidljlaaGreat
open Go.RowKit
set_option linter.unusedSimpArgs false
set_option linter.unusedVariables false
set_option maxRecDepth 10000
def bigT (s : Str) : Bool := decide (512 < s.size)
def great12 (o : List Item) (k : List Int) (p : List Str) (m : List Msg) : Bool := (o.take 61).any bigI || (p.take 31).any bigT || (m.take 41).any bigM || decide (60 < o.length) || decide (30 < k.length) || decide (30 < p.length) || decide (40 < m.length)
theorem any_at {α : Type} {f : α → Bool} {l : List α} {n j : Nat} (hj : j < l.length) (hn : j < n) (h : f l[j] = true) : (l.take n).any f = true := by
  rw [List.any_eq_true]
  refine ⟨l[j], ?_, h⟩
  rw [List.mem_iff_getElem?]
  exact ⟨j, by rw [List.getElem?_take, if_pos hn, List.getElem?_eq_getElem hj]⟩
theorem any_next {α : Type} {f : α → Bool} {l : List α} {j : Nat} (hj : j < l.length) (h : f l[j] = false) (ha : (l.take j).any f = false) : (l.take (j + 1)).any f = false := by
  rw [List.take_add_one, List.getElem?_eq_getElem hj, List.any_append, ha]
  simp [h]
set_option maxHeartbeats 8000000 in
theorem wGreat_spec (o : List Item) (k : List Int) (p : List Str) (ms : List Msg) (h0 : o.length ≤ 9223372036854775807) (h1 : k.length ≤ 9223372036854775807) (h2 : p.length ≤ 9223372036854775807) (h3 : ms.length ≤ 9223372036854775807) (b : Bool) :
    PSpec Tryz.prog 8 [.agg (cN5 b o k p ms)] (.sc (.bool (great12 o k p ms))) := by
  have fA : (o.take 61).any bigI = true → great12 o k p ms = true := fun h => by unfold great12; rw [h]; simp
  have fB : (p.take 31).any bigT = true → great12 o k p ms = true := fun h => by unfold great12; rw [h]; simp
  have fC : (ms.take 41).any bigM = true → great12 o k p ms = true := fun h => by unfold great12; rw [h]; simp
  have fD : (o.take 61).any bigI = false → (p.take 31).any bigT = false → (ms.take 41).any bigM = false → great12 o k p ms = (decide (60 < o.length) || decide (30 < k.length) || decide (30 < p.length) || decide (40 < ms.length)) := fun a b c => by unfold great12; rw [a, b, c]; simp
  cases hA : (o.take 61).any bigI with
  | true =>
    rw [fA hA]
    clear fA fB fC fD
    refine spec_pure (by simp) (by simp) ?_
    refine spec_intro Tryz.func8 good8 rfl (by simp [Tryz.ntmps8]) ?_
    refine go1 [] [] (cns Tryz.results8 (cns cN5.eq_1 trivial)) ?_
    refine tri_for [1] (min o.length 61) (fun k_ e σ => σ = [] ∧ e 3 = .sc (.int .i64 k_) ∧ (o.take k_).any bigI = false) ?_ (fun j env' σ' hlt hk hI => ?_) (fun env' σ' hk hI => ?_)
    · exact ⟨by simp, by simp, by simp⟩
    · skip
      (try simp at hk)
      obtain ⟨rfl, h3', ha⟩ := hI
      have j1 : j < o.length := by omega
      have j2 : j < 61 := by omega
      have hm := flatI_seg o j j1
      have i1 := flatI_0 o j j1
      have i2 := flatI_1 o j j1
      clear hlt hA
      cases hb : bigI o[j] with
      | true =>
        clear ha
        simp [bigI] at hb
        by_cases hk1 : 512 < o[j].key.size
        · skip
          exact go0 [] [] (cns Tryz.results8 (cns cN5.eq_1 trivial))
        · have hk2 : 512 < o[j].val.size := by omega
          exact go0 [] [] (cns Tryz.results8 (cns cN5.eq_1 trivial))
      | false =>
        have nx := Lib.hid (any_next j1 hb ha)
        clear ha
        simp [bigI] at hb
        obtain ⟨hk1, hk2⟩ := hb
        refine go1 [] [] (cns Tryz.results8 (cns cN5.eq_1 trivial)) ?_
        exact ⟨by simp [*], rfl, by simp, nx.out⟩
    · skip
      (try simp at hk)
      obtain ⟨rfl, h3', ha⟩ := hI
      rcases Nat.le_total o.length 61 with q | q
      · rw [Nat.min_eq_left q, List.take_length] at ha
        rw [List.take_of_length_le q, ha] at hA; cases hA
      · rw [Nat.min_eq_right q, hA] at ha; cases ha
  | false =>
    have oA : ∀ j (h : j < o.length), j < 61 → bigI o[j] = false := fun j h h2 => by
      cases hb : bigI o[j] with
      | false => rfl
      | true => rw [any_at h h2 hb] at hA; cases hA
    replace fD := fD hA
    clear fA hA
    replace oA := Lib.hid oA
    replace fB := Lib.hid fB
    replace fC := Lib.hid fC
    replace fD := Lib.hid fD
    refine spec_pure (by simp) (by simp) ?_
    refine spec_intro Tryz.func8 good8 rfl (by simp [Tryz.ntmps8]) ?_
    refine go1 [] [] (cns Tryz.results8 (cns cN5.eq_1 trivial)) ?_
    refine tri_whx [1] 61 (fun m e σ => σ = [] ∧ ∃ j : Nat, j ≤ 61 ∧ j ≤ o.length ∧ m = 61 - j ∧ e 3 = .sc (.int .i64 j)) (fun e σ => σ = []) ?_ (fun m env' σ' hm hk hI => ?_) (fun env' σ' hk hI => ?_)
    · exact ⟨61, by omega, rfl, 0, by omega, by omega, by omega, by simp⟩
    · skip
      (try simp at hk)
      obtain ⟨rfl, j, q1, q2, q3, h3'⟩ := hI
      by_cases j1 : j < o.length
      · by_cases j2 : j < 61
        · have hm := flatI_seg o j j1
          have i1 := flatI_0 o j j1
          have i2 := flatI_1 o j j1
          have hb := oA.out j j1 j2
          simp [bigI] at hb
          obtain ⟨hk1, hk2⟩ := hb
          refine go1 [] [] (cns Tryz.results8 (cns cN5.eq_1 trivial)) ?_
          exact ⟨by simp [*], 61 - (j + 1), by omega, rfl, j + 1, by omega, by omega, rfl, by simp⟩
        · skip
          refine go1 [] [] (cns Tryz.results8 (cns cN5.eq_1 trivial)) ?_
          exact ⟨rfl, by simp [*], rfl⟩
      · skip
        refine go1 [] [] (cns Tryz.results8 (cns cN5.eq_1 trivial)) ?_
        exact ⟨rfl, by simp [*], rfl⟩
    · subst hI
      clear oA
      simp at hk
      cases hB : (p.take 31).any bigT with
      | true =>
        rw [fB.out hB]
        clear fB fC fD
        refine go1 [] [] (cns Tryz.results8 (cns cN5.eq_1 trivial)) ?_
        refine tri_for [1] (min p.length 31) (fun k_ e σ => σ = [] ∧ e 4 = .sc (.int .i64 k_) ∧ (p.take k_).any bigT = false) ?_ (fun j env' σ' hlt hk hI => ?_) (fun env' σ' hk hI => ?_)
        · exact ⟨by simp, by simp, by simp⟩
        · skip
          (try simp at hk)
          obtain ⟨rfl, h4', ha⟩ := hI
          have j1 : j < p.length := by omega
          have j2 : j < 31 := by omega
          clear hlt hB
          cases hb : bigT p[j] with
          | true =>
            clear ha
            simp [bigT] at hb
            exact go0 [] [] (cns Tryz.results8 (cns cN5.eq_1 trivial))
          | false =>
            have nx := Lib.hid (any_next j1 hb ha)
            clear ha
            simp [bigT] at hb
            refine go1 [] [] (cns Tryz.results8 (cns cN5.eq_1 trivial)) ?_
            exact ⟨by simp [*], rfl, by simp, nx.out⟩
        · skip
          (try simp at hk)
          obtain ⟨rfl, h4', ha⟩ := hI
          rcases Nat.le_total p.length 31 with q | q
          · rw [Nat.min_eq_left q, List.take_length] at ha
            rw [List.take_of_length_le q, ha] at hB; cases hB
          · rw [Nat.min_eq_right q, hB] at ha; cases ha
      | false =>
        have oB : ∀ j (h : j < p.length), j < 31 → bigT p[j] = false := fun j h h2 => by
          cases hb : bigT p[j] with
          | false => rfl
          | true => rw [any_at h h2 hb] at hB; cases hB
        replace fD := Lib.hid (fD.out hB)
        clear fB hB
        replace oB := Lib.hid oB
        refine go1 [] [] (cns Tryz.results8 (cns cN5.eq_1 trivial)) ?_
        refine tri_whx [1] 31 (fun m e σ => σ = [] ∧ ∃ j : Nat, j ≤ 31 ∧ j ≤ p.length ∧ m = 31 - j ∧ e 4 = .sc (.int .i64 j)) (fun e σ => σ = []) ?_ (fun m env' σ' hm hk hI => ?_) (fun env' σ' hk hI => ?_)
        · exact ⟨31, by omega, rfl, 0, by omega, by omega, by omega, by simp⟩
        · skip
          (try simp at hk)
          obtain ⟨rfl, j, q1, q2, q3, h4'⟩ := hI
          by_cases j1 : j < p.length
          · by_cases j2 : j < 31
            · have hb := oB.out j j1 j2
              simp [bigT] at hb
              refine go1 [] [] (cns Tryz.results8 (cns cN5.eq_1 trivial)) ?_
              exact ⟨by simp [*], 31 - (j + 1), by omega, rfl, j + 1, by omega, by omega, rfl, by simp⟩
            · skip
              refine go1 [] [] (cns Tryz.results8 (cns cN5.eq_1 trivial)) ?_
              exact ⟨rfl, by simp [*], rfl⟩
          · skip
            refine go1 [] [] (cns Tryz.results8 (cns cN5.eq_1 trivial)) ?_
            exact ⟨rfl, by simp [*], rfl⟩
        · subst hI
          clear oB
          cases hC : (ms.take 41).any bigM with
          | true =>
            rw [fC.out hC]
            clear fC fD
            refine go1 [] [] (cns Tryz.results8 (cns cN5.eq_1 trivial)) ?_
            refine tri_for [1] (min ms.length 41) (fun k_ e σ => σ = [] ∧ e 5 = .sc (.int .i64 k_) ∧ (ms.take k_).any bigM = false) ?_ (fun j env' σ' hlt hk hI => ?_) (fun env' σ' hk hI => ?_)
            · exact ⟨by simp, by simp, by simp⟩
            · skip
              (try simp at hk)
              obtain ⟨rfl, h5', ha⟩ := hI
              have j1 : j < ms.length := by omega
              have j2 : j < 41 := by omega
              have hm := flatM_seg ms j j1
              have i1 := flatM_1 ms j j1
              have i2 := flatM_2 ms j j1
              clear hlt hC
              cases hb : bigM ms[j] with
              | true =>
                clear ha
                simp [bigM] at hb
                by_cases hk1 : 512 < ms[j].key.size
                · skip
                  exact go0 [] [] (cns Tryz.results8 (cns cN5.eq_1 trivial))
                · have hk2 : 512 < ms[j].val.size := by omega
                  exact go0 [] [] (cns Tryz.results8 (cns cN5.eq_1 trivial))
              | false =>
                have nx := Lib.hid (any_next j1 hb ha)
                clear ha
                simp [bigM] at hb
                obtain ⟨hk1, hk2⟩ := hb
                refine go1 [] [] (cns Tryz.results8 (cns cN5.eq_1 trivial)) ?_
                exact ⟨by simp [*], rfl, by simp, nx.out⟩
            · skip
              (try simp at hk)
              obtain ⟨rfl, h5', ha⟩ := hI
              rcases Nat.le_total ms.length 41 with q | q
              · rw [Nat.min_eq_left q, List.take_length] at ha
                rw [List.take_of_length_le q, ha] at hC; cases hC
              · rw [Nat.min_eq_right q, hC] at ha; cases ha
          | false =>
            have oC : ∀ j (h : j < ms.length), j < 41 → bigM ms[j] = false := fun j h h2 => by
              cases hb : bigM ms[j] with
              | false => rfl
              | true => rw [any_at h h2 hb] at hC; cases hC
            rw [fD.out hC]
            clear fC fD hC
            replace oC := Lib.hid oC
            refine go1 [] [] (cns Tryz.results8 (cns cN5.eq_1 trivial)) ?_
            refine tri_whx [1] 41 (fun m e σ => σ = [] ∧ ∃ j : Nat, j ≤ 41 ∧ j ≤ ms.length ∧ m = 41 - j ∧ e 5 = .sc (.int .i64 j)) (fun e σ => σ = []) ?_ (fun m env' σ' hm hk hI => ?_) (fun env' σ' hk hI => ?_)
            · exact ⟨41, by omega, rfl, 0, by omega, by omega, by omega, by simp⟩
            · skip
              (try simp at hk)
              obtain ⟨rfl, j, q1, q2, q3, h5'⟩ := hI
              by_cases j1 : j < ms.length
              · by_cases j2 : j < 41
                · have hm' := flatM_seg ms j j1
                  have i1 := flatM_1 ms j j1
                  have i2 := flatM_2 ms j j1
                  have hb := oC.out j j1 j2
                  simp [bigM] at hb
                  obtain ⟨hk1, hk2⟩ := hb
                  refine go1 [] [] (cns Tryz.results8 (cns cN5.eq_1 trivial)) ?_
                  exact ⟨by simp [*], 41 - (j + 1), by omega, rfl, j + 1, by omega, by omega, rfl, by simp⟩
                · skip
                  refine go1 [] [] (cns Tryz.results8 (cns cN5.eq_1 trivial)) ?_
                  exact ⟨rfl, by simp [*], rfl⟩
              · skip
                refine go1 [] [] (cns Tryz.results8 (cns cN5.eq_1 trivial)) ?_
                exact ⟨rfl, by simp [*], rfl⟩
            · subst hI
              clear oC
              repeat' (first
               | (with_reducible first | refine Stp.pf ?_ | refine block_x (by decide) ?_ | refine ret_n ?_)
               | refine tri_reg [] ?_ | refine tri_regc [] [] mixed (by decide +kernel) ?_
               | (refine rwf_nilt rfl (by decide +kernel) fun B hB => ?_; (try simp [*]); refine hB.out _ fun b => ?_; clear hB B)
               | (refine Rul.pf ⟨rfl, rfl⟩ fun B C hB => ?_; (try simp [*, -List.all_eq_true, cN5.eq_1, Tryz.results8]); (try (simp (disch := first | assumption | omega) only [wc, ite_yes]; (try simp [*, -List.all_eq_true, cN5.eq_1, Tryz.results8]))); first | (first | refine hB.out.1 _ (fun hb => ?_) fun hb => ⟨rfl, ?_⟩ | refine hB.out.1 _ (fun hb => ?_) fun hb => ?_) <;> clear hB C B <;> (try simp only [Bool.not_true, Bool.not_false] at hb) <;> (first | (exfalso; simp at hb; done) | (exfalso; simp at hb; omega) | (rw [hb]; (try simp at hb)) | (try simp at hb)) | ((first | refine hB.out.1 _ _ ?_ | refine hB.out.1 _ ?_ | refine hB.out.2 ⟨rfl, ?_⟩); clear hB C B) | (refine hB.out.2 _ ?_; clear hB C B; (try rfl)))
               | refine rwf_o ?_ | refine rwc_o .n rfl ?_ | refine rwc_o .z rfl ?_ | refine rwc_o .w rfl ?_ | refine rwc_o .b rfl ?_ | refine rwc_o _ rfl ?_)
              all_goals
                rw [AV.sc.injEq, Value.bool.injEq, Bool.eq_iff_iff]
                simp only [Bool.or_eq_true, decide_eq_true_eq]
                (try simp only [true_iff])
                omega
end Go.Proofs.YticpnfgiidljlaaGreat
