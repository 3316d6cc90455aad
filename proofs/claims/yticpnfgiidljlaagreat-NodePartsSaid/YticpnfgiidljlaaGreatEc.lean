/- Leaves: Len, Weight, Items, place, Find, Low, Within, half, Same. -/
import Derived.Test.YticpnfgiidljlaaGreatEb
import Derived.Test.YticpnfgiidljlaaGreatLw
namespace Go.Proofs.YticpnfgiidljlaaGreat
open Go.RowKit Go.Sort
set_option linter.unusedSimpArgs false
set_option maxRecDepth 10000
theorem item_ext2 {a b : Item} (h1 : a.key = b.key) (h2 : a.val = b.val) : a = b := by cases a; cases b; simp_all
def nilP : AV := .sc (.pointer none)
theorem cloneI_spec (l : List Item) (hl : l.length ≤ 1000000) : PSpec Tryz.prog 72 [.fs (flatI l) l.length] (.fs (flatI l) l.length) := by
  cases l with
  | nil =>
    refine spec_pureFW (by simp) ?_
    refine spec_intro Tryz.func72 good72 rfl (by simp [Tryz.ntmps72]) ?_
    repeat' (first
     | (with_reducible first | refine Stp.pf ?_ | refine block_x (by decide) ?_ | refine ret_n ?_)
     | refine tri_reg [5,7] ?_ | refine tri_regc [5,7] [] mixed (by decide +kernel) ?_
     | (refine rwf_nilt rfl (by decide +kernel) fun B hB => ?_; (try simp [*]); refine hB.out _ fun b => ?_; clear hB B)
     | (refine Rul.pf ⟨rfl, rfl⟩ fun B C hB => ?_; (try simp [*, -List.all_eq_true, flatI, flatC, Tryz.results72]); (try (simp (disch := first | assumption | omega) only [wc, ite_yes]; (try simp [*, -List.all_eq_true, flatI, flatC, Tryz.results72]))); first | (first | refine hB.out.1 _ (fun hb => ?_) fun hb => ⟨rfl, ?_⟩ | refine hB.out.1 _ (fun hb => ?_) fun hb => ?_) <;> clear hB C B <;> (try simp only [Bool.not_true, Bool.not_false] at hb) <;> (first | (exfalso; simp at hb; done) | (exfalso; simp at hb; omega) | (rw [hb]; (try simp at hb)) | (try simp at hb)) | ((first | refine hB.out.1 _ _ ?_ | refine hB.out.1 _ ?_ | refine hB.out.2 ⟨rfl, ?_⟩); clear hB C B) | (refine hB.out.2 _ ?_; clear hB C B; (try rfl)))
     | refine rwf_o ?_ | refine rwc_o .n rfl ?_ | refine rwc_o .z rfl ?_ | refine rwc_o .w rfl ?_ | refine rwc_o .b rfl ?_ | refine rwc_o _ rfl ?_)
    · exact out_flat rfl .nil
    · exact out_ms rfl rfl (by simp) rfl (.refl _)
  | cons m l =>
    simp at hl
    refine spec_pureFW (by simp) ?_
    refine spec_intro Tryz.func72 good72 rfl (by simp [Tryz.ntmps72]) ?_
    repeat' (first
     | (with_reducible first | refine Stp.pf ?_ | refine block_x (by decide) ?_ | refine ret_n ?_)
     | refine tri_reg [5,7] ?_ | refine tri_regc [5,7] [] mixed (by decide +kernel) ?_
     | (refine rwf_nilt rfl (by decide +kernel) fun B hB => ?_; (try simp [*]); refine hB.out _ fun b => ?_; clear hB B)
     | (refine Rul.pf ⟨rfl, rfl⟩ fun B C hB => ?_; (try simp [*, -List.all_eq_true, Tryz.results72]); (try (simp (disch := first | assumption | omega) only [wc, ite_yes]; (try simp [*, -List.all_eq_true, Tryz.results72]))); first | (first | refine hB.out.1 _ (fun hb => ?_) fun hb => ⟨rfl, ?_⟩ | refine hB.out.1 _ (fun hb => ?_) fun hb => ?_) <;> clear hB C B <;> (try simp only [Bool.not_true, Bool.not_false] at hb) <;> (first | (exfalso; simp at hb; done) | (exfalso; simp at hb; omega) | (rw [hb]; (try simp at hb)) | (try simp at hb)) | ((first | refine hB.out.1 _ _ ?_ | refine hB.out.1 _ ?_ | refine hB.out.2 ⟨rfl, ?_⟩); clear hB C B) | (refine hB.out.2 _ ?_; clear hB C B; (try rfl)))
     | refine rwf_o ?_ | refine rwc_o .n rfl ?_ | refine rwc_o .z rfl ?_ | refine rwc_o .w rfl ?_ | refine rwc_o .b rfl ?_ | refine rwc_o _ rfl ?_)
    exact out_ms (cs := flatI (m :: l)) rfl (by simp [List.take_of_length_le]) (by simp) (by simp) (.refl _)
theorem lLen_spec (l : List Item) : PSpec Tryz.prog 73 [.fp (cL l) 0] (.sc (.int .i64 l.length)) := by
  refine spec_pure (by simp) (by simp) ?_
  refine spec_intro Tryz.func73 good73 rfl (by simp [Tryz.ntmps73]) ?_
  exact go0 [] [] (cns Tryz.results73 (cns cL.eq_1 trivial))
theorem lLen_nil : PSpec Tryz.prog 73 [nilP] (.sc (.int .i64 0)) := by
  unfold nilP
  refine spec_pure (by simp) (by simp) ?_
  refine spec_intro Tryz.func73 good73 rfl (by simp [Tryz.ntmps73]) ?_
  exact go0 [] [] (cns Tryz.results73 trivial)
theorem lWeight_spec (l : List Item) : PSpec Tryz.prog 41 [.fp (cL l) 0] (.sc (.int .i64 (iwts l))) := by
  refine spec_pure (by simp) (by simp) ?_
  refine spec_intro Tryz.func41 good41 rfl (by simp [Tryz.ntmps41]) ?_
  exact go0 [] [] (cns Tryz.results41 (cns cL.eq_1 trivial))
theorem lItems_spec (l : List Item) (hl : l.length ≤ 1000000) : PSpec Tryz.prog 53 [.fp (cL l) 0] (.fs (flatI l) l.length) := by
  refine spec_pure (by simp) (by simp) ?_
  refine spec_intro Tryz.func53 good53 rfl (by simp [Tryz.ntmps53]) ?_
  exact go0 [] [] (cns (cloneI_spec l hl) (cns Tryz.results53 (cns cL.eq_1 trivial)))
/-- The least key. -/
def lowK (l : List Item) : Str := match l with
  | [] => ⟨#[]⟩
  | x :: _ => x.key
theorem lLow_spec (l : List Item) : PSpec Tryz.prog 74 [.fp (cL l) 0] (.sc (.string (lowK l))) := by
  have h := lLen_spec l
  cases l with
  | nil =>
    refine spec_pure (by simp) (by simp) ?_
    refine spec_intro Tryz.func74 good74 rfl (by simp [Tryz.ntmps74]) ?_
    exact go0 [] [] (cns h (cns Tryz.results74 (cns cL.eq_1 trivial)))
  | cons x l =>
    have hz : ¬ (l.length : Int) + 1 = 0 := by omega
    have hsg := flatI_0 (x :: l) 0 (by simp)
    simp only [List.getElem_cons_zero] at hsg
    show PSpec _ _ _ (.sc (.string x.key))
    refine spec_pure (by simp) (by simp) ?_
    refine spec_intro Tryz.func74 good74 rfl (by simp [Tryz.ntmps74]) ?_
    repeat' (first
     | (with_reducible first | refine Stp.pf ?_ | refine block_x (by decide) ?_ | refine ret_n ?_)
     | refine tri_reg [] ?_ | refine tri_regc [] [] mixed (by decide +kernel) ?_
     | (refine rwf_nilt rfl (by decide +kernel) fun B hB => ?_; (try simp [*]); refine hB.out _ fun b => ?_; clear hB B)
     | (refine Rul.pf ⟨rfl, rfl⟩ fun B C hB => ?_; (try simp [*, -List.all_eq_true, cL, Tryz.results74]); (try (simp (disch := first | assumption | omega) only [wc, ite_yes]; (try simp [*, -List.all_eq_true, cL, Tryz.results74]))); first | (first | refine hB.out.1 _ (fun hb => ?_) fun hb => ⟨rfl, ?_⟩ | refine hB.out.1 _ (fun hb => ?_) fun hb => ?_) <;> clear hB C B <;> (try simp only [Bool.not_true, Bool.not_false] at hb) <;> (first | (exfalso; simp at hb; done) | (exfalso; simp at hb; omega) | (rw [hb]; (try simp at hb)) | (try simp at hb)) | ((first | refine hB.out.1 _ _ ?_ | refine hB.out.1 _ ?_ | refine hB.out.2.1 _ _ _ (h) ?_ | refine hB.out.2.2 _ _ _ (h) ?_ | refine hB.out.2 ⟨rfl, ?_⟩); clear hB C B) | (refine hB.out.2 _ ?_; clear hB C B; (try rfl)))
     | refine rwf_o ?_ | refine rwc_o .n rfl ?_ | refine rwc_o .z rfl ?_ | refine rwc_o .w rfl ?_ | refine rwc_o .b rfl ?_ | refine rwc_o _ rfl ?_)
theorem equalI_spec (l l' : List Item) (hl : l.length ≤ 900000) (hl' : l'.length ≤ 900000) : PSpec Tryz.prog 76 [.fs (flatI l) l.length, .fs (flatI l') l'.length] (.sc (.bool (decide (l = l')))) := by
  refine spec_pure (by simp) (by simp) ?_
  refine spec_intro Tryz.func76 good76 rfl (by simp [Tryz.ntmps76]) ?_
  by_cases hne : l.length = l'.length
  · skip
    refine go1 [] [] (cns Tryz.results76 trivial) ?_
    refine tri_for [0, 1, 12] l.length (fun k e σ => σ = [] ∧ e 13 = .sc (.int .i64 k) ∧ l.take k = l'.take k) ?_ (fun k env' σ' hlt hk hI => ?_) (fun env' σ' hk hI => ?_)
    · exact ⟨by simp, by simp, by simp⟩
    · skip
      (try simp at hk)
      obtain ⟨rfl, h13, heq⟩ := hI
      have hlt' : k < l'.length := by omega
      by_cases hx : l[k] = l'[k]
      · skip
        refine go1 [] [] (cns Tryz.results76 (cns cI.eq_1 trivial)) ?_
        exact ⟨by simp [*], rfl, by simp, by rw [List.take_add_one, List.take_add_one, List.getElem?_eq_getElem hlt, List.getElem?_eq_getElem hlt', heq, hx]⟩
      · have hll : ¬ l = l' := fun e => hx (by subst e; rfl)
        repeat' (first
         | (with_reducible first | refine Stp.pf ?_ | refine block_x (by decide) ?_ | refine ret_n ?_)
         | refine tri_reg [] ?_ | refine tri_regc [] [] mixed (by decide +kernel) ?_
         | (refine rwf_nilt rfl (by decide +kernel) fun B hB => ?_; (try simp [*]); refine hB.out _ fun b => ?_; clear hB B)
         | (refine Rul.pf ⟨rfl, rfl⟩ fun B C hB => ?_; (try simp [*, -List.all_eq_true, cI, Tryz.results76]); (try (simp (disch := first | assumption | omega) only [wc, ite_yes]; (try simp [*, -List.all_eq_true, cI, Tryz.results76]))); first | (first | refine hB.out.1 _ (fun hb => ?_) fun hb => ⟨rfl, ?_⟩ | refine hB.out.1 _ (fun hb => ?_) fun hb => ?_) <;> clear hB C B <;> (try simp only [Bool.not_true, Bool.not_false] at hb) <;> (first | (exfalso; simp at hb; done) | (exfalso; simp at hb; omega) | (rw [hb]; (try simp at hb)) | (try simp at hb)) | ((first | refine hB.out.1 _ _ ?_ | refine hB.out.1 _ ?_ | refine hB.out.2 ⟨rfl, ?_⟩); clear hB C B) | (refine hB.out.2 _ ?_; clear hB C B; (try rfl)))
         | refine rwf_o ?_ | refine rwc_o .n rfl ?_ | refine rwc_o .z rfl ?_ | refine rwc_o .w rfl ?_ | refine rwc_o .b rfl ?_ | refine rwc_o _ rfl ?_)
        · simp [hll]
        · exact absurd (item_ext2 hb.1 hb.2) hx
    · skip
      (try simp at hk)
      obtain ⟨rfl, h13, heq⟩ := hI
      rw [List.take_of_length_le (by omega), List.take_of_length_le (by omega)] at heq
      refine go1 [] [] (cns Tryz.results76 trivial) ?_
      simp [heq]
  · have hll : ¬ l = l' := fun e => hne (by rw [e])
    repeat' (first
     | (with_reducible first | refine Stp.pf ?_ | refine block_x (by decide) ?_ | refine ret_n ?_)
     | refine tri_reg [] ?_ | refine tri_regc [] [] mixed (by decide +kernel) ?_
     | (refine rwf_nilt rfl (by decide +kernel) fun B hB => ?_; (try simp [*]); refine hB.out _ fun b => ?_; clear hB B)
     | (refine Rul.pf ⟨rfl, rfl⟩ fun B C hB => ?_; (try simp [*, -List.all_eq_true, Tryz.results76]); (try (simp (disch := first | assumption | omega) only [wc, ite_yes]; (try simp [*, -List.all_eq_true, Tryz.results76]))); first | (first | refine hB.out.1 _ (fun hb => ?_) fun hb => ⟨rfl, ?_⟩ | refine hB.out.1 _ (fun hb => ?_) fun hb => ?_) <;> clear hB C B <;> (try simp only [Bool.not_true, Bool.not_false] at hb) <;> (first | (exfalso; simp at hb; done) | (exfalso; simp at hb; omega) | (rw [hb]; (try simp at hb)) | (try simp at hb)) | ((first | refine hB.out.1 _ _ ?_ | refine hB.out.1 _ ?_ | refine hB.out.2 ⟨rfl, ?_⟩); clear hB C B) | (refine hB.out.2 _ ?_; clear hB C B; (try rfl)))
     | refine rwf_o ?_ | refine rwc_o .n rfl ?_ | refine rwc_o .z rfl ?_ | refine rwc_o .w rfl ?_ | refine rwc_o .b rfl ?_ | refine rwc_o _ rfl ?_)
    simp [hll]
theorem lSame_spec (l l' : List Item) (hl : l.length ≤ 900000) (hl' : l'.length ≤ 900000) : PSpec Tryz.prog 29 [.fp (cL l) 0, .fp (cL l') 0] (.sc (.bool (decide (l = l')))) := by
  refine spec_pure (by simp) (by simp) ?_
  refine spec_intro Tryz.func29 good29 rfl (by simp [Tryz.ntmps29]) ?_
  exact go0 [] [] (cns (equalI_spec l l' hl hl') (cns Tryz.results29 (cns cL.eq_1 trivial)))
theorem lSame_nil : PSpec Tryz.prog 29 [nilP, nilP] (.sc (.bool true)) := by
  unfold nilP
  refine spec_pure (by simp) (by simp) ?_
  refine spec_intro Tryz.func29 good29 rfl (by simp [Tryz.ntmps29]) ?_
  exact go0 [] [] (cns Tryz.results29 trivial)
theorem lSame_nil2 (l : List Item) : PSpec Tryz.prog 29 [.fp (cL l) 0, nilP] (.sc (.bool false)) := by
  unfold nilP
  refine spec_pure (by simp) (by simp) ?_
  refine spec_intro Tryz.func29 good29 rfl (by simp [Tryz.ntmps29]) ?_
  exact go0 [] [] (cns Tryz.results29 trivial)
end Go.Proofs.YticpnfgiidljlaaGreat
