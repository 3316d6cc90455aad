/- The law LeafCut. -/
import Derived.Test.YtemijcjgdgdhjaaLla
import Derived.Test.YtemijcjgdgdhjaaWg
namespace Go.Proofs.Ytemijcjgdgdhjaa
open Go.RowKit
set_option linter.unusedSimpArgs false
set_option maxRecDepth 10000
def rangeOk (lo hi : Str) : Bool := decide (lo.size ≤ 8) && decide (hi.size ≤ 8) && !turnM lo hi
theorem rangeIs_spec (lo hi : Str) : PSpec Try.prog 60 [.agg [.sc (.string lo), .sc (.string hi)]] (.sc (.bool (rangeOk lo hi))) := by
  have h := kTurned_spec lo hi
  unfold rangeOk
  generalize turnM lo hi = T at *
  refine spec_pure (by simp) (by simp) ?_
  refine spec_intro Try.func60 good60 rfl (by simp [Try.ntmps60]) ?_
  by_cases h1 : lo.size ≤ 8
  · by_cases h2 : hi.size ≤ 8
    · skip
      repeat' (first
       | (with_reducible first | refine Stp.pf ?_ | refine block_x (by decide) ?_ | refine ret_n ?_)
       | refine tri_reg [] ?_ | refine tri_regc [] [] mixed (by decide +kernel) ?_
       | (refine rwf_nilt rfl (by decide +kernel) fun B hB => ?_; (try simp [*]); refine hB.out _ fun b => ?_; clear hB B)
       | (refine Rul.pf ⟨rfl, rfl⟩ fun B C hB => ?_; (try simp [*, -List.all_eq_true, Try.results60]); (try (simp (disch := first | assumption | omega) only [wc, ite_yes]; (try simp [*, -List.all_eq_true, Try.results60]))); first | (first | refine hB.out.1 _ (fun hb => ?_) fun hb => ⟨rfl, ?_⟩ | refine hB.out.1 _ (fun hb => ?_) fun hb => ?_) <;> clear hB C B <;> (try simp only [Bool.not_true, Bool.not_false] at hb) <;> (first | (exfalso; simp at hb; done) | (exfalso; simp at hb; omega) | (rw [hb]; (try simp at hb)) | (try simp at hb)) | ((first | refine hB.out.1 _ _ ?_ | refine hB.out.1 _ ?_ | refine hB.out.2.1 _ _ _ (h) ?_ | refine hB.out.2.2 _ _ _ (h) ?_ | refine hB.out.2 ⟨rfl, ?_⟩); clear hB C B) | (refine hB.out.2 _ ?_; clear hB C B; (try rfl)))
       | refine rwf_o ?_ | refine rwc_o .n rfl ?_ | refine rwc_o .z rfl ?_ | refine rwc_o .w rfl ?_ | refine rwc_o .b rfl ?_ | refine rwc_o _ rfl ?_)
      simp [*]
    · skip
      repeat' (first
       | (with_reducible first | refine Stp.pf ?_ | refine block_x (by decide) ?_ | refine ret_n ?_)
       | refine tri_reg [] ?_ | refine tri_regc [] [] mixed (by decide +kernel) ?_
       | (refine rwf_nilt rfl (by decide +kernel) fun B hB => ?_; (try simp [*]); refine hB.out _ fun b => ?_; clear hB B)
       | (refine Rul.pf ⟨rfl, rfl⟩ fun B C hB => ?_; (try simp [*, -List.all_eq_true, Try.results60]); (try (simp (disch := first | assumption | omega) only [wc, ite_yes]; (try simp [*, -List.all_eq_true, Try.results60]))); first | (first | refine hB.out.1 _ (fun hb => ?_) fun hb => ⟨rfl, ?_⟩ | refine hB.out.1 _ (fun hb => ?_) fun hb => ?_) <;> clear hB C B <;> (try simp only [Bool.not_true, Bool.not_false] at hb) <;> (first | (exfalso; simp at hb; done) | (exfalso; simp at hb; omega) | (rw [hb]; (try simp at hb)) | (try simp at hb)) | ((first | refine hB.out.1 _ _ ?_ | refine hB.out.1 _ ?_ | refine hB.out.2.1 _ _ _ (h) ?_ | refine hB.out.2.2 _ _ _ (h) ?_ | refine hB.out.2 ⟨rfl, ?_⟩); clear hB C B) | (refine hB.out.2 _ ?_; clear hB C B; (try rfl)))
       | refine rwf_o ?_ | refine rwc_o .n rfl ?_ | refine rwc_o .z rfl ?_ | refine rwc_o .w rfl ?_ | refine rwc_o .b rfl ?_ | refine rwc_o _ rfl ?_)
      simp [*]
  · skip
    repeat' (first
     | (with_reducible first | refine Stp.pf ?_ | refine block_x (by decide) ?_ | refine ret_n ?_)
     | refine tri_reg [] ?_ | refine tri_regc [] [] mixed (by decide +kernel) ?_
     | (refine rwf_nilt rfl (by decide +kernel) fun B hB => ?_; (try simp [*]); refine hB.out _ fun b => ?_; clear hB B)
     | (refine Rul.pf ⟨rfl, rfl⟩ fun B C hB => ?_; (try simp [*, -List.all_eq_true, Try.results60]); (try (simp (disch := first | assumption | omega) only [wc, ite_yes]; (try simp [*, -List.all_eq_true, Try.results60]))); first | (first | refine hB.out.1 _ (fun hb => ?_) fun hb => ⟨rfl, ?_⟩ | refine hB.out.1 _ (fun hb => ?_) fun hb => ?_) <;> clear hB C B <;> (try simp only [Bool.not_true, Bool.not_false] at hb) <;> (first | (exfalso; simp at hb; done) | (exfalso; simp at hb; omega) | (rw [hb]; (try simp at hb)) | (try simp at hb)) | ((first | refine hB.out.1 _ _ ?_ | refine hB.out.1 _ ?_ | refine hB.out.2.1 _ _ _ (h) ?_ | refine hB.out.2.2 _ _ _ (h) ?_ | refine hB.out.2 ⟨rfl, ?_⟩); clear hB C B) | (refine hB.out.2 _ ?_; clear hB C B; (try rfl)))
     | refine rwf_o ?_ | refine rwc_o .n rfl ?_ | refine rwc_o .z rfl ?_ | refine rwc_o .w rfl ?_ | refine rwc_o .b rfl ?_ | refine rwc_o _ rfl ?_)
    simp [*]
theorem slt_nil (s : Str) : slt s ⟨#[]⟩ = false := by simp [slt]
theorem has_parts {lo hi k : Str} (h : hasM lo hi k = true) : isKey k = true ∧ slt k lo = false ∧ (hi = ⟨#[]⟩ ∨ slt k hi = true) ∧ k ≠ ⟨#[]⟩ := by
  simp only [hasM, Bool.and_eq_true, Bool.or_eq_true, Bool.not_eq_true', decide_eq_true_eq] at h
  refine ⟨h.1.1, h.1.2, h.2, ?_⟩
  rintro rfl
  have := h.1.1
  simp [isKey] at this
  exact absurd this.1 (by decide)
theorem meet_lo {lo hi k : Str} (h : hasM lo hi k = true) : meetM (lo, hi) (⟨#[]⟩, k) = (lo, k) := by
  obtain ⟨h1, h2, h3, h4⟩ := has_parts h
  have e1 : maxM lo ⟨#[]⟩ = lo := by rw [maxM_is, slt_nil]; rfl
  have e2 : endM hi k = k := by unfold endM; rw [if_pos (h3.elim .inl fun h => .inr ⟨h4, h⟩)]
  have e3 : turnM lo k = false := by unfold turnM; rw [h2]; simp
  unfold meetM
  simp only
  rw [e1, e2, e3]
  rfl
theorem meet_hi {lo hi k : Str} (h : hasM lo hi k = true) : meetM (lo, hi) (k, ⟨#[]⟩) = (k, hi) := by
  obtain ⟨h1, h2, h3, h4⟩ := has_parts h
  have e1 : maxM lo k = k := by
    rw [maxM_is]
    cases h5 : slt lo k with
    | true => rfl
    | false => rw [if_neg (by simp)]; exact slt_tri h5 h2
  have e2 : endM hi ⟨#[]⟩ = hi := by
    unfold endM
    by_cases h6 : hi = ⟨#[]⟩
    · rw [if_pos (.inl h6), h6]
    · rw [if_neg (by rintro (h | ⟨h, _⟩); exact h6 h; exact h rfl)]
  have e3 : turnM k hi = false := by
    unfold turnM
    rcases h3 with h | h
    · simp [h]
    · cases h7 : slt hi k with
      | false => simp
      | true =>
        have := slt_trans h h7
        rw [slt_irrefl] at this; cases this
  unfold meetM
  simp only
  rw [e1, e2, e3]
  rfl
theorem cut_two {lo hi k : Str} (h : hasM lo hi k = true) : cutM (lo, hi) [k] = [(lo, k), (k, hi)] := by
  unfold cutM
  rw [if_neg (by simp), show cutL (lo, hi) [k] = ([meetM (lo, hi) (⟨#[]⟩, k)], k) from rfl]
  rw [meet_lo h, meet_hi h]
  rfl
theorem within_cut {lo hi k : Str} (h : hasM lo hi k = true) : ∀ {l : List Item}, RiseI l → withinI l lo k ++ withinI l k hi = withinI l lo hi
  | [], _ => rfl
  | x :: l, hr => by
    obtain ⟨h1, h2, h3, h4⟩ := has_parts h
    have hx : ∀ y ∈ l, slt x.key y.key = true := (List.pairwise_cons.1 hr).1
    cases hs : slt x.key k with
    | true =>
      have ih := within_cut h (List.pairwise_cons.1 hr).2
      have q1 : hasM k hi x.key = false := by simp [hasM, hs]
      have q2 : hasM lo hi x.key = hasM lo k x.key := by
        have : (decide (hi = ⟨#[]⟩) || slt x.key hi) = true := by
          rcases h3 with h | h
          · simp [h]
          · simp [slt_trans hs h]
        unfold hasM
        rw [this, hs]
        simp
      have e1 : withinI (x :: l) k hi = withinI l k hi := by simp [withinI, q1]
      rw [e1]
      cases q3 : hasM lo k x.key with
      | true =>
        have e2 : withinI (x :: l) lo k = x :: withinI l lo k := by simp [withinI, q3]
        have e3 : withinI (x :: l) lo hi = x :: withinI l lo hi := by simp [withinI, q2, q3]
        rw [e2, e3, List.cons_append, ih]
      | false =>
        have e2 : withinI (x :: l) lo k = withinI l lo k := by simp [withinI, q3]
        have e3 : withinI (x :: l) lo hi = withinI l lo hi := by simp [withinI, q2, q3]
        rw [e2, e3, ih]
    | false =>
      have ha : ∀ y ∈ x :: l, slt y.key k = false := fun y hy => by
        rcases List.mem_cons.1 hy with rfl | hy
        · exact hs
        · cases hz : slt y.key k with
          | false => rfl
          | true => rw [slt_trans (hx y hy) hz] at hs; cases hs
      have e1 : withinI (x :: l) lo k = [] := by
        unfold withinI
        rw [List.filter_eq_nil_iff]
        intro y hy
        simp [hasM, ha y hy, h4]
      rw [e1, List.nil_append]
      unfold withinI
      refine List.filter_congr fun y hy => ?_
      have q := ha y hy
      have q2 : slt y.key lo = false := slt_neg q h2
      unfold hasM
      rw [q, q2]
theorem within_all {l : List Item} (ho : ∀ x ∈ l, okI x = true) : withinI l ⟨#[]⟩ ⟨#[]⟩ = l := by
  unfold withinI
  rw [List.filter_eq_self]
  intro x hx
  have := ho x hx
  rw [okI_is] at this
  simp only [Bool.and_eq_true] at this
  simp [hasM, this.1, slt_nil]
theorem within_rise {l : List Item} (hr : RiseI l) (lo hi : Str) : RiseI (withinI l lo hi) := hr.sublist List.filter_sublist
set_option maxHeartbeats 4000000 in
theorem leafCut_spec (items : List Item) (r : Str × Str) (k : Str) (hi : items.length ≤ 9223372036854775807) : PSpec Try.prog 11 [.fs (flatI items) items.length, .agg (cR r), .sc (.string k)] (.sc (.bool true)) := by
  obtain ⟨lo, hi'⟩ := r
  have a1 := awake09_spec
  have g1 := great09_spec items hi
  have r1 := rangeIs_spec lo hi'
  have r2 := rangeHas_spec lo hi' k
  cases hg : greatI items with
  | true =>
    rw [hg] at g1
    refine spec_pure (by simp) (by simp) ?_
    refine spec_intro Try.func11 good11 rfl (by simp [Try.ntmps11]) ?_
    repeat' (first
     | (with_reducible first | refine Stp.pf ?_ | refine block_x (by decide) ?_ | refine ret_n ?_)
     | refine tri_reg [] ?_ | refine tri_regc [] [] mixed (by decide +kernel) ?_
     | (refine rwf_nilt rfl (by decide +kernel) fun B hB => ?_; (try simp [*]); refine hB.out _ fun b => ?_; clear hB B)
     | (refine Rul.pf ⟨rfl, rfl⟩ fun B C hB => ?_; (try simp [*, -List.all_eq_true, cR, Try.results11]); (try (simp (disch := first | assumption | omega) only [wc, ite_yes]; (try simp [*, -List.all_eq_true, cR, Try.results11]))); first | (first | refine hB.out.1 _ (fun hb => ?_) fun hb => ⟨rfl, ?_⟩ | refine hB.out.1 _ (fun hb => ?_) fun hb => ?_) <;> clear hB C B <;> (try simp only [Bool.not_true, Bool.not_false] at hb) <;> (first | (exfalso; simp at hb; done) | (exfalso; simp at hb; omega) | (rw [hb]; (try simp at hb)) | (try simp at hb)) | ((first | refine hB.out.1 _ _ ?_ | refine hB.out.1 _ ?_ | refine hB.out.2.1 _ _ _ (a1) ?_ | refine hB.out.2.2 _ _ _ (a1) ?_ | refine hB.out.2.1 _ _ _ (g1) ?_ | refine hB.out.2.2 _ _ _ (g1) ?_ | refine hB.out.2 ⟨rfl, ?_⟩); clear hB C B) | (refine hB.out.2 _ ?_; clear hB C B; (try rfl)))
     | refine rwf_o ?_ | refine rwc_o .n rfl ?_ | refine rwc_o .z rfl ?_ | refine rwc_o .w rfl ?_ | refine rwc_o .b rfl ?_ | refine rwc_o _ rfl ?_)
  | false =>
    rw [hg] at g1
    cases hro : rangeOk lo hi' with
    | false =>
      rw [hro] at r1
      refine spec_pure (by simp) (by simp) ?_
      refine spec_intro Try.func11 good11 rfl (by simp [Try.ntmps11]) ?_
      repeat' (first
       | (with_reducible first | refine Stp.pf ?_ | refine block_x (by decide) ?_ | refine ret_n ?_)
       | refine tri_reg [] ?_ | refine tri_regc [] [] mixed (by decide +kernel) ?_
       | (refine rwf_nilt rfl (by decide +kernel) fun B hB => ?_; (try simp [*]); refine hB.out _ fun b => ?_; clear hB B)
       | (refine Rul.pf ⟨rfl, rfl⟩ fun B C hB => ?_; (try simp [*, -List.all_eq_true, cR, Try.results11]); (try (simp (disch := first | assumption | omega) only [wc, ite_yes]; (try simp [*, -List.all_eq_true, cR, Try.results11]))); first | (first | refine hB.out.1 _ (fun hb => ?_) fun hb => ⟨rfl, ?_⟩ | refine hB.out.1 _ (fun hb => ?_) fun hb => ?_) <;> clear hB C B <;> (try simp only [Bool.not_true, Bool.not_false] at hb) <;> (first | (exfalso; simp at hb; done) | (exfalso; simp at hb; omega) | (rw [hb]; (try simp at hb)) | (try simp at hb)) | ((first | refine hB.out.1 _ _ ?_ | refine hB.out.1 _ ?_ | refine hB.out.2.1 _ _ _ (a1) ?_ | refine hB.out.2.2 _ _ _ (a1) ?_ | refine hB.out.2.1 _ _ _ (g1) ?_ | refine hB.out.2.2 _ _ _ (g1) ?_ | refine hB.out.2.1 _ _ _ (r1) ?_ | refine hB.out.2.2 _ _ _ (r1) ?_ | refine hB.out.2 ⟨rfl, ?_⟩); clear hB C B) | (refine hB.out.2 _ ?_; clear hB C B; (try rfl)))
       | refine rwf_o ?_ | refine rwc_o .n rfl ?_ | refine rwc_o .z rfl ?_ | refine rwc_o .w rfl ?_ | refine rwc_o .b rfl ?_ | refine rwc_o _ rfl ?_)
    | true =>
      rw [hro] at r1
      cases hha : hasM lo hi' k with
      | false =>
        rw [hha] at r2
        refine spec_pure (by simp) (by simp) ?_
        refine spec_intro Try.func11 good11 rfl (by simp [Try.ntmps11]) ?_
        repeat' (first
         | (with_reducible first | refine Stp.pf ?_ | refine block_x (by decide) ?_ | refine ret_n ?_)
         | refine tri_reg [] ?_ | refine tri_regc [] [] mixed (by decide +kernel) ?_
         | (refine rwf_nilt rfl (by decide +kernel) fun B hB => ?_; (try simp [*]); refine hB.out _ fun b => ?_; clear hB B)
         | (refine Rul.pf ⟨rfl, rfl⟩ fun B C hB => ?_; (try simp [*, -List.all_eq_true, cR, Try.results11]); (try (simp (disch := first | assumption | omega) only [wc, ite_yes]; (try simp [*, -List.all_eq_true, cR, Try.results11]))); first | (first | refine hB.out.1 _ (fun hb => ?_) fun hb => ⟨rfl, ?_⟩ | refine hB.out.1 _ (fun hb => ?_) fun hb => ?_) <;> clear hB C B <;> (try simp only [Bool.not_true, Bool.not_false] at hb) <;> (first | (exfalso; simp at hb; done) | (exfalso; simp at hb; omega) | (rw [hb]; (try simp at hb)) | (try simp at hb)) | ((first | refine hB.out.1 _ _ ?_ | refine hB.out.1 _ ?_ | refine hB.out.2.1 _ _ _ (a1) ?_ | refine hB.out.2.2 _ _ _ (a1) ?_ | refine hB.out.2.1 _ _ _ (g1) ?_ | refine hB.out.2.2 _ _ _ (g1) ?_ | refine hB.out.2.1 _ _ _ (r1) ?_ | refine hB.out.2.2 _ _ _ (r1) ?_ | refine hB.out.2.1 _ _ _ (r2) ?_ | refine hB.out.2.2 _ _ _ (r2) ?_ | refine hB.out.2 ⟨rfl, ?_⟩); clear hB C B) | (refine hB.out.2 _ ?_; clear hB C B; (try rfl)))
         | refine rwf_o ?_ | refine rwc_o .n rfl ?_ | refine rwc_o .z rfl ?_ | refine rwc_o .w rfl ?_ | refine rwc_o .b rfl ?_ | refine rwc_o _ rfl ?_)
      | true =>
        rw [hha] at r2
        obtain ⟨y1, -⟩ := greatI_no hg
        have o1 := lOf_spec items (by omega)
        clear hg
        unfold leafR at o1
        cases hok : items.all okI with
        | false =>
          rw [hok, if_pos rfl] at o1
          refine spec_pure (by simp) (by simp) ?_
          refine spec_intro Try.func11 good11 rfl (by simp [Try.ntmps11]) ?_
          repeat' (first
           | (with_reducible first | refine Stp.pf ?_ | refine block_x (by decide) ?_ | refine ret_n ?_)
           | refine tri_reg [] ?_ | refine tri_regc [] [] mixed (by decide +kernel) ?_
           | (refine rwf_nilt rfl (by decide +kernel) fun B hB => ?_; (try simp [*]); refine hB.out _ fun b => ?_; clear hB B)
           | (refine Rul.pf ⟨rfl, rfl⟩ fun B C hB => ?_; (try simp [*, -List.all_eq_true, cR, Try.results11]); (try (simp (disch := first | assumption | omega) only [wc, ite_yes]; (try simp [*, -List.all_eq_true, cR, Try.results11]))); first | (first | refine hB.out.1 _ (fun hb => ?_) fun hb => ⟨rfl, ?_⟩ | refine hB.out.1 _ (fun hb => ?_) fun hb => ?_) <;> clear hB C B <;> (try simp only [Bool.not_true, Bool.not_false] at hb) <;> (first | (exfalso; simp at hb; done) | (exfalso; simp at hb; omega) | (rw [hb]; (try simp at hb)) | (try simp at hb)) | ((first | refine hB.out.1 _ _ ?_ | refine hB.out.1 _ ?_ | refine hB.out.2.1 _ _ _ (a1) ?_ | refine hB.out.2.2 _ _ _ (a1) ?_ | refine hB.out.2.1 _ _ _ (g1) ?_ | refine hB.out.2.2 _ _ _ (g1) ?_ | refine hB.out.2.1 _ _ _ (r1) ?_ | refine hB.out.2.2 _ _ _ (r1) ?_ | refine hB.out.2.1 _ _ _ (r2) ?_ | refine hB.out.2.2 _ _ _ (r2) ?_ | refine hB.out.2.1 _ _ _ (o1) ?_ | refine hB.out.2.2 _ _ _ (o1) ?_ | refine hB.out.2 ⟨rfl, ?_⟩); clear hB C B) | (refine hB.out.2 _ ?_; clear hB C B; (try rfl)))
           | refine rwf_o ?_ | refine rwc_o .n rfl ?_ | refine rwc_o .z rfl ?_ | refine rwc_o .w rfl ?_ | refine rwc_o .b rfl ?_ | refine rwc_o _ rfl ?_)
        | true =>
          rw [hok, if_neg (by simp)] at o1
          cases hof : ofL items with
          | none =>
            rw [hof] at o1
            refine spec_pure (by simp) (by simp) ?_
            refine spec_intro Try.func11 good11 rfl (by simp [Try.ntmps11]) ?_
            repeat' (first
             | (with_reducible first | refine Stp.pf ?_ | refine block_x (by decide) ?_ | refine ret_n ?_)
             | refine tri_reg [] ?_ | refine tri_regc [] [] mixed (by decide +kernel) ?_
             | (refine rwf_nilt rfl (by decide +kernel) fun B hB => ?_; (try simp [*]); refine hB.out _ fun b => ?_; clear hB B)
             | (refine Rul.pf ⟨rfl, rfl⟩ fun B C hB => ?_; (try simp [*, -List.all_eq_true, cR, Try.results11]); (try (simp (disch := first | assumption | omega) only [wc, ite_yes]; (try simp [*, -List.all_eq_true, cR, Try.results11]))); first | (first | refine hB.out.1 _ (fun hb => ?_) fun hb => ⟨rfl, ?_⟩ | refine hB.out.1 _ (fun hb => ?_) fun hb => ?_) <;> clear hB C B <;> (try simp only [Bool.not_true, Bool.not_false] at hb) <;> (first | (exfalso; simp at hb; done) | (exfalso; simp at hb; omega) | (rw [hb]; (try simp at hb)) | (try simp at hb)) | ((first | refine hB.out.1 _ _ ?_ | refine hB.out.1 _ ?_ | refine hB.out.2.1 _ _ _ (a1) ?_ | refine hB.out.2.2 _ _ _ (a1) ?_ | refine hB.out.2.1 _ _ _ (g1) ?_ | refine hB.out.2.2 _ _ _ (g1) ?_ | refine hB.out.2.1 _ _ _ (r1) ?_ | refine hB.out.2.2 _ _ _ (r1) ?_ | refine hB.out.2.1 _ _ _ (r2) ?_ | refine hB.out.2.2 _ _ _ (r2) ?_ | refine hB.out.2.1 _ _ _ (o1) ?_ | refine hB.out.2.2 _ _ _ (o1) ?_ | refine hB.out.2 ⟨rfl, ?_⟩); clear hB C B) | (refine hB.out.2 _ ?_; clear hB C B; (try rfl)))
             | refine rwf_o ?_ | refine rwc_o .n rfl ?_ | refine rwc_o .z rfl ?_ | refine rwc_o .w rfl ?_ | refine rwc_o .b rfl ?_ | refine rwc_o _ rfl ?_)
          | some l =>
            rw [hof] at o1
            obtain ⟨hr, hp⟩ := ofL_some hof
            have hlo := ofL_all hof hok
            have hll : l.length ≤ 60 := by have := hp.length_eq; omega
            have hs := ok_small hlo
            have c1 := kCut_spec (lo, hi') [k] (by simp)
            rw [cut_two hha] at c1
            have w1 := lWithin_spec l (by omega) hs lo k
            have w2 := lWithin_spec l (by omega) hs k hi'
            have w3 := lWithin_spec l (by omega) hs lo hi'
            have w4 := lWithin_spec l (by omega) hs ⟨#[]⟩ ⟨#[]⟩
            have hwr := within_rise hr lo hi'
            have hwc := within_cut hha hr
            have n1 := withinI_len l lo hi'
            have hj := lJoin_spec (withinI l lo k) (withinI l k hi') (by rw [← List.length_append, hwc]; omega) (by rw [hwc]; exact fun x hx => hs x (List.mem_filter.1 hx).1)
            unfold joinR at hj
            rw [clash_no (by rw [hwc]; exact hwr), if_neg (by simp), hwc] at hj
            rw [within_all hlo] at w4
            have s1 := lSame_spec (withinI l lo hi') (withinI l lo hi') (by omega) (by omega)
            have s2 := lSame_spec l l (by omega) (by omega)
            rw [decide_eq_true rfl] at s1 s2
            clear hwr hwc hr hs hlo hp hof hok n1 hro hha
            generalize withinI l lo k = A at *
            generalize withinI l k hi' = B at *
            generalize withinI l lo hi' = C at *
            refine spec_pure (by simp) (by simp) ?_
            refine spec_intro Try.func11 good11 rfl (by simp [Try.ntmps11]) ?_
            repeat' (first
             | (with_reducible first | refine Stp.pf ?_ | refine block_x (by decide) ?_ | refine ret_n ?_)
             | refine tri_reg [] ?_ | refine tri_regc [] [] mixed (by decide +kernel) ?_
             | (refine rwf_nilt rfl (by decide +kernel) fun B hB => ?_; (try simp [*]); refine hB.out _ fun b => ?_; clear hB B)
             | (refine Rul.pf ⟨rfl, rfl⟩ fun B C hB => ?_; (try simp [*, -List.all_eq_true, cR, Try.results11]); (try (simp (disch := first | assumption | omega) only [wc, ite_yes]; (try simp [*, -List.all_eq_true, cR, Try.results11]))); first | (first | refine hB.out.1 _ (fun hb => ?_) fun hb => ⟨rfl, ?_⟩ | refine hB.out.1 _ (fun hb => ?_) fun hb => ?_) <;> clear hB C B <;> (try simp only [Bool.not_true, Bool.not_false] at hb) <;> (first | (exfalso; simp at hb; done) | (exfalso; simp at hb; omega) | (rw [hb]; (try simp at hb)) | (try simp at hb)) | ((first | refine hB.out.1 _ _ ?_ | refine hB.out.1 _ ?_ | refine hB.out.2.1 _ _ _ (a1) ?_ | refine hB.out.2.2 _ _ _ (a1) ?_ | refine hB.out.2.1 _ _ _ (g1) ?_ | refine hB.out.2.2 _ _ _ (g1) ?_ | refine hB.out.2.1 _ _ _ (r1) ?_ | refine hB.out.2.2 _ _ _ (r1) ?_ | refine hB.out.2.1 _ _ _ (r2) ?_ | refine hB.out.2.2 _ _ _ (r2) ?_ | refine hB.out.2.1 _ _ _ (o1) ?_ | refine hB.out.2.2 _ _ _ (o1) ?_ | refine hB.out.2.1 _ _ _ (c1) ?_ | refine hB.out.2.2 _ _ _ (c1) ?_ | refine hB.out.2.1 _ _ _ (w1) ?_ | refine hB.out.2.2 _ _ _ (w1) ?_ | refine hB.out.2.1 _ _ _ (w2) ?_ | refine hB.out.2.2 _ _ _ (w2) ?_ | refine hB.out.2.1 _ _ _ (w3) ?_ | refine hB.out.2.2 _ _ _ (w3) ?_ | refine hB.out.2.1 _ _ _ (w4) ?_ | refine hB.out.2.2 _ _ _ (w4) ?_ | refine hB.out.2.1 _ _ _ (hj) ?_ | refine hB.out.2.2 _ _ _ (hj) ?_ | refine hB.out.2.1 _ _ _ (s1) ?_ | refine hB.out.2.2 _ _ _ (s1) ?_ | refine hB.out.2.1 _ _ _ (s2) ?_ | refine hB.out.2.2 _ _ _ (s2) ?_ | refine hB.out.2 ⟨rfl, ?_⟩); clear hB C B) | (refine hB.out.2 _ ?_; clear hB C B; (try rfl)))
             | refine rwf_o ?_ | refine rwc_o .n rfl ?_ | refine rwc_o .z rfl ?_ | refine rwc_o .w rfl ?_ | refine rwc_o .b rfl ?_ | refine rwc_o _ rfl ?_)
end Go.Proofs.Ytemijcjgdgdhjaa
