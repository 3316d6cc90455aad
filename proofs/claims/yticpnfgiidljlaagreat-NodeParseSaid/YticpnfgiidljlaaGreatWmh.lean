/- The references of layers 9 and 13: Same, With, Over. -/
import Derived.Test.YticpnfgiidljlaaGreatWmg
import Derived.Test.YticpnfgiidljlaaGreatLw
namespace Go.Proofs.YticpnfgiidljlaaGreat
open Go.RowKit
set_option linter.unusedSimpArgs false
set_option maxRecDepth 10000
theorem item_ext {a b : Item} (h1 : a.key = b.key) (h2 : a.val = b.val) : a = b := by cases a; cases b; simp_all
set_option maxHeartbeats 1000000 in
theorem rSame09_spec (l l' : List Item) (hl : l.length ≤ 900000) (hl' : l'.length ≤ 900000) : PSpec Tryz.prog 51 [.fs (flatI l) l.length, .fs (flatI l') l'.length] (.sc (.bool (decide (l = l')))) := by
  refine spec_pure (by simp) (by simp) ?_
  refine spec_intro Tryz.func51 good51 rfl (by simp [Tryz.ntmps51]) ?_
  by_cases hne : l.length = l'.length
  · skip
    refine go1 [] [] (cns Tryz.results51 trivial) ?_
    refine tri_for [0, 1] l.length (fun k e σ => σ = [] ∧ e 5 = .sc (.int .i64 k) ∧ l.take k = l'.take k) ?_ (fun k env' σ' hlt hk hI => ?_) (fun env' σ' hk hI => ?_)
    · exact ⟨by simp, by simp, by simp⟩
    · skip
      (try simp at hk)
      obtain ⟨rfl, h5, heq⟩ := hI
      have hlt' : k < l'.length := by omega
      by_cases hx : l[k] = l'[k]
      · skip
        refine go1 [] [] (cns Tryz.results51 (cns cI.eq_1 trivial)) ?_
        exact ⟨by simp [*], rfl, by simp, by rw [List.take_add_one, List.take_add_one, List.getElem?_eq_getElem hlt, List.getElem?_eq_getElem hlt', heq, hx]⟩
      · have hll : ¬ l = l' := fun e => hx (by subst e; rfl)
        repeat' (first
         | (with_reducible first | refine Stp.pf ?_ | refine block_x (by decide) ?_ | refine ret_n ?_)
         | refine tri_reg [] ?_ | refine tri_regc [] [] mixed (by decide +kernel) ?_
         | (refine rwf_nilt rfl (by decide +kernel) fun B hB => ?_; (try simp [*]); refine hB.out _ fun b => ?_; clear hB B)
         | (refine Rul.pf ⟨rfl, rfl⟩ fun B C hB => ?_; (try simp [*, -List.all_eq_true, cI, Tryz.results51]); (try (simp (disch := first | assumption | omega) only [wc, ite_yes]; (try simp [*, -List.all_eq_true, cI, Tryz.results51]))); first | (first | refine hB.out.1 _ (fun hb => ?_) fun hb => ⟨rfl, ?_⟩ | refine hB.out.1 _ (fun hb => ?_) fun hb => ?_) <;> clear hB C B <;> (try simp only [Bool.not_true, Bool.not_false] at hb) <;> (first | (exfalso; simp at hb; done) | (exfalso; simp at hb; omega) | (rw [hb]; (try simp at hb)) | (try simp at hb)) | ((first | refine hB.out.1 _ _ ?_ | refine hB.out.1 _ ?_ | refine hB.out.2 ⟨rfl, ?_⟩); clear hB C B) | (refine hB.out.2 _ ?_; clear hB C B; (try rfl)))
         | refine rwf_o ?_ | refine rwc_o .n rfl ?_ | refine rwc_o .z rfl ?_ | refine rwc_o .w rfl ?_ | refine rwc_o .b rfl ?_ | refine rwc_o _ rfl ?_)
        · simp [hll]
        · exact absurd (item_ext hb.1 hb.2) hx
    · skip
      (try simp at hk)
      obtain ⟨rfl, h5, heq⟩ := hI
      rw [List.take_of_length_le (by omega), List.take_of_length_le (by omega)] at heq
      refine go1 [] [] (cns Tryz.results51 trivial) ?_
      simp [heq]
  · have hll : ¬ l = l' := fun e => hne (by rw [e])
    refine go1 [] [] (cns Tryz.results51 trivial) ?_
    simp [hll]
end Go.Proofs.YticpnfgiidljlaaGreat
