/- The law LeafParts. -/
import Derived.Test.YtemijcjgdgdhjaaLpa
import Derived.Test.YtemijcjgdgdhjaaLla
import Derived.Test.YtemijcjgdgdhjaaWmh
import Derived.Test.YtemijcjgdgdhjaaLka
namespace Go.Proofs.Ytemijcjgdgdhjaa
open Go.RowKit
set_option linter.unusedSimpArgs false
set_option maxRecDepth 10000
theorem lWith_nil (x : AV) (hx : x.flat = true) : PSpec Try.prog 47 [nilP, x] (.tup [nilP, .sc (.int .i64 2)]) := by
  unfold nilP
  refine spec_pure (by simp [hx]) (by simp) ?_
  refine spec_intro Try.func47 good47 rfl (by simp [Try.ntmps47]) ?_
  repeat' (first
   | (with_reducible first | refine Stp.pf ?_ | refine block_x (by decide) ?_ | refine ret_n ?_)
   | refine tri_reg [] ?_ | refine tri_regc [] [] mixed (by decide +kernel) ?_
   | (refine rwf_nilt rfl (by decide +kernel) fun B hB => ?_; (try simp [*]); refine hB.out _ fun b => ?_; clear hB B)
   | (refine Rul.pf ⟨rfl, rfl⟩ fun B C hB => ?_; (try simp [*, -List.all_eq_true, Try.results47]); (try (simp (disch := first | assumption | omega) only [wc, ite_yes]; (try simp [*, -List.all_eq_true, Try.results47]))); first | (first | refine hB.out.1 _ (fun hb => ?_) fun hb => ⟨rfl, ?_⟩ | refine hB.out.1 _ (fun hb => ?_) fun hb => ?_) <;> clear hB C B <;> (try simp only [Bool.not_true, Bool.not_false] at hb) <;> (first | (exfalso; simp at hb; done) | (exfalso; simp at hb; omega) | (rw [hb]; (try simp at hb)) | (try simp at hb)) | ((first | refine hB.out.1 _ _ ?_ | refine hB.out.1 _ ?_ | refine hB.out.2 ⟨rfl, ?_⟩); clear hB C B) | (refine hB.out.2 _ ?_; clear hB C B; (try rfl)))
   | refine rwf_o ?_ | refine rwc_o .n rfl ?_ | refine rwc_o .z rfl ?_ | refine rwc_o .w rfl ?_ | refine rwc_o .b rfl ?_ | refine rwc_o _ rfl ?_)
theorem lParts_nil : PSpec Try.prog 51 [nilP] (.sc (.slice none 0 0)) := by
  unfold nilP
  refine spec_pure (by simp) (by simp) ?_
  refine spec_intro Try.func51 good51 rfl (by simp [Try.ntmps51]) ?_
  repeat' (first
   | (with_reducible first | refine Stp.pf ?_ | refine block_x (by decide) ?_ | refine ret_n ?_)
   | refine tri_reg [] ?_ | refine tri_regc [] [] mixed (by decide +kernel) ?_
   | (refine rwf_nilt rfl (by decide +kernel) fun B hB => ?_; (try simp [*]); refine hB.out _ fun b => ?_; clear hB B)
   | (refine Rul.pf ⟨rfl, rfl⟩ fun B C hB => ?_; (try simp [*, -List.all_eq_true, Try.results51]); (try (simp (disch := first | assumption | omega) only [wc, ite_yes]; (try simp [*, -List.all_eq_true, Try.results51]))); first | (first | refine hB.out.1 _ (fun hb => ?_) fun hb => ⟨rfl, ?_⟩ | refine hB.out.1 _ (fun hb => ?_) fun hb => ?_) <;> clear hB C B <;> (try simp only [Bool.not_true, Bool.not_false] at hb) <;> (first | (exfalso; simp at hb; done) | (exfalso; simp at hb; omega) | (rw [hb]; (try simp at hb)) | (try simp at hb)) | ((first | refine hB.out.1 _ _ ?_ | refine hB.out.1 _ ?_ | refine hB.out.2 ⟨rfl, ?_⟩); clear hB C B) | (refine hB.out.2 _ ?_; clear hB C B; (try rfl)))
   | refine rwf_o ?_ | refine rwc_o .n rfl ?_ | refine rwc_o .z rfl ?_ | refine rwc_o .w rfl ?_ | refine rwc_o .b rfl ?_ | refine rwc_o _ rfl ?_)
theorem rParts09_pure (l : List Item) (hl : l.length ≤ 900000) (h : Light l) : PSpec Try.prog 56 [.fs (flatI l) l.length] (.fs (flatY (partsI l)) (partsI l).length) :=
  spec_pureFW (by simp) (Spec.mono (rParts09_spec l.length l (Nat.le_refl _) hl h []) fun r s hq => out_own hq.1 (by simp))
theorem lSame_nils : PSpec Try.prog 50 [.sc (.pointer none), .sc (.pointer none)] (.sc (.bool true)) := lSame_nil
theorem cat_part {p : List (List Item)} {l : List Item} (hc : catI p = l) (j : Nat) (h : j < p.length) : p[j].length ≤ l.length := by
  have e := cat_split p (j + 1)
  rw [hc, catI_succ h] at e
  rw [e]; simp only [List.length_append]; omega
set_option maxHeartbeats 4000000 in
theorem leafParts_spec (items other : List Item) (hi : items.length ≤ 9223372036854775807) (hj : other.length ≤ 9223372036854775807) : PSpec Try.prog 10 [.fs (flatI items) items.length, .fs (flatI other) other.length] (.sc (.bool true)) := by
  have a1 := awake09_spec
  have g1 := great09_spec items hi
  have g2 := great09_spec other hj
  cases hg : greatI items with
  | true =>
    rw [hg] at g1
    refine spec_pure (by simp) (by simp) ?_
    refine spec_intro Try.func10 good10 rfl (by simp [Try.ntmps10]) ?_
    repeat' (first
     | (with_reducible first | refine Stp.pf ?_ | refine block_x (by decide) ?_ | refine ret_n ?_)
     | refine tri_reg [] ?_ | refine tri_regc [] [] mixed (by decide +kernel) ?_
     | (refine rwf_nilt rfl (by decide +kernel) fun B hB => ?_; (try simp [*]); refine hB.out _ fun b => ?_; clear hB B)
     | (refine Rul.pf ⟨rfl, rfl⟩ fun B C hB => ?_; (try simp [*, -List.all_eq_true, Try.results10]); (try (simp (disch := first | assumption | omega) only [wc, ite_yes]; (try simp [*, -List.all_eq_true, Try.results10]))); first | (first | refine hB.out.1 _ (fun hb => ?_) fun hb => ⟨rfl, ?_⟩ | refine hB.out.1 _ (fun hb => ?_) fun hb => ?_) <;> clear hB C B <;> (try simp only [Bool.not_true, Bool.not_false] at hb) <;> (first | (exfalso; simp at hb; done) | (exfalso; simp at hb; omega) | (rw [hb]; (try simp at hb)) | (try simp at hb)) | ((first | refine hB.out.1 _ _ ?_ | refine hB.out.1 _ ?_ | refine hB.out.2.1 _ _ _ (a1) ?_ | refine hB.out.2.2 _ _ _ (a1) ?_ | refine hB.out.2.1 _ _ _ (g1) ?_ | refine hB.out.2.2 _ _ _ (g1) ?_ | refine hB.out.2 ⟨rfl, ?_⟩); clear hB C B) | (refine hB.out.2 _ ?_; clear hB C B; (try rfl)))
     | refine rwf_o ?_ | refine rwc_o .n rfl ?_ | refine rwc_o .z rfl ?_ | refine rwc_o .w rfl ?_ | refine rwc_o .b rfl ?_ | refine rwc_o _ rfl ?_)
  | false =>
    rw [hg] at g1
    cases hg2 : greatI other with
    | true =>
      rw [hg2] at g2
      refine spec_pure (by simp) (by simp) ?_
      refine spec_intro Try.func10 good10 rfl (by simp [Try.ntmps10]) ?_
      repeat' (first
       | (with_reducible first | refine Stp.pf ?_ | refine block_x (by decide) ?_ | refine ret_n ?_)
       | refine tri_reg [] ?_ | refine tri_regc [] [] mixed (by decide +kernel) ?_
       | (refine rwf_nilt rfl (by decide +kernel) fun B hB => ?_; (try simp [*]); refine hB.out _ fun b => ?_; clear hB B)
       | (refine Rul.pf ⟨rfl, rfl⟩ fun B C hB => ?_; (try simp [*, -List.all_eq_true, Try.results10]); (try (simp (disch := first | assumption | omega) only [wc, ite_yes]; (try simp [*, -List.all_eq_true, Try.results10]))); first | (first | refine hB.out.1 _ (fun hb => ?_) fun hb => ⟨rfl, ?_⟩ | refine hB.out.1 _ (fun hb => ?_) fun hb => ?_) <;> clear hB C B <;> (try simp only [Bool.not_true, Bool.not_false] at hb) <;> (first | (exfalso; simp at hb; done) | (exfalso; simp at hb; omega) | (rw [hb]; (try simp at hb)) | (try simp at hb)) | ((first | refine hB.out.1 _ _ ?_ | refine hB.out.1 _ ?_ | refine hB.out.2.1 _ _ _ (a1) ?_ | refine hB.out.2.2 _ _ _ (a1) ?_ | refine hB.out.2.1 _ _ _ (g1) ?_ | refine hB.out.2.2 _ _ _ (g1) ?_ | refine hB.out.2.1 _ _ _ (g2) ?_ | refine hB.out.2.2 _ _ _ (g2) ?_ | refine hB.out.2 ⟨rfl, ?_⟩); clear hB C B) | (refine hB.out.2 _ ?_; clear hB C B; (try rfl)))
       | refine rwf_o ?_ | refine rwc_o .n rfl ?_ | refine rwc_o .z rfl ?_ | refine rwc_o .w rfl ?_ | refine rwc_o .b rfl ?_ | refine rwc_o _ rfl ?_)
    | false =>
      rw [hg2] at g2
      obtain ⟨y1, -⟩ := greatI_no hg
      obtain ⟨y2, -⟩ := greatI_no hg2
      have o1 := lOf_spec items (by omega)
      have o2 := lOf_spec other (by omega)
      have r1 := rOf09_spec items (by omega)
      have r2 := rOf09_spec other (by omega)
      clear hg hg2
      have key : ∀ l : List Item, leafR l = .tup [.sc (.pointer none), .sc (.int .i64 1)] ∨ leafR l = .tup [.sc (.pointer none), .sc (.int .i64 11)] ∨ ∃ u, leafR l = .tup [.fp (cL u) 0, .sc (.int .i64 0)] ∧ ofR l = .tup [.fs (flatI u) u.length, .sc (.int .i64 0)] ∧ RiseI u ∧ (∀ x ∈ u, okI x = true) ∧ u.length = l.length := fun l => by
        unfold leafR ofR
        cases hok : l.all okI with
        | false => exact .inl (by simp)
        | true =>
          cases hof : ofL l with
          | none => exact .inr (.inl (by simp))
          | some u =>
            obtain ⟨hr, hp⟩ := ofL_some hof
            exact .inr (.inr ⟨u, by simp, by simp, hr, ofL_all hof hok, hp.length_eq⟩)
      rcases key items with h1 | h1 | ⟨u, h1, h2, hu1, hu2, hu3⟩
      · rw [h1] at o1
        clear r1 r2
        rcases key other with h3 | h3 | ⟨w, h3, -, -⟩ <;> rw [h3] at o2
        · skip
          refine spec_pure (by simp) (by simp) ?_
          refine spec_intro Try.func10 good10 rfl (by simp [Try.ntmps10]) ?_
          repeat' (first
           | (with_reducible first | refine Stp.pf ?_ | refine block_x (by decide) ?_ | refine ret_n ?_)
           | refine tri_reg [] ?_ | refine tri_regc [] [] mixed (by decide +kernel) ?_
           | (refine rwf_nilt rfl (by decide +kernel) fun B hB => ?_; (try simp [*]); refine hB.out _ fun b => ?_; clear hB B)
           | (refine Rul.pf ⟨rfl, rfl⟩ fun B C hB => ?_; (try simp [*, -List.all_eq_true, Try.results10]); (try (simp (disch := first | assumption | omega) only [wc, ite_yes]; (try simp [*, -List.all_eq_true, Try.results10]))); first | (first | refine hB.out.1 _ (fun hb => ?_) fun hb => ⟨rfl, ?_⟩ | refine hB.out.1 _ (fun hb => ?_) fun hb => ?_) <;> clear hB C B <;> (try simp only [Bool.not_true, Bool.not_false] at hb) <;> (first | (exfalso; simp at hb; done) | (exfalso; simp at hb; omega) | (rw [hb]; (try simp at hb)) | (try simp at hb)) | ((first | refine hB.out.1 _ _ ?_ | refine hB.out.1 _ ?_ | refine hB.out.2.1 _ _ _ (a1) ?_ | refine hB.out.2.2 _ _ _ (a1) ?_ | refine hB.out.2.1 _ _ _ (g1) ?_ | refine hB.out.2.2 _ _ _ (g1) ?_ | refine hB.out.2.1 _ _ _ (g2) ?_ | refine hB.out.2.2 _ _ _ (g2) ?_ | refine hB.out.2.1 _ _ _ (o1) ?_ | refine hB.out.2.2 _ _ _ (o1) ?_ | refine hB.out.2.1 _ _ _ (o2) ?_ | refine hB.out.2.2 _ _ _ (o2) ?_ | refine hB.out.2 ⟨rfl, ?_⟩); clear hB C B) | (refine hB.out.2 _ ?_; clear hB C B; (try rfl)))
           | refine rwf_o ?_ | refine rwc_o .n rfl ?_ | refine rwc_o .z rfl ?_ | refine rwc_o .w rfl ?_ | refine rwc_o .b rfl ?_ | refine rwc_o _ rfl ?_)
        · skip
          refine spec_pure (by simp) (by simp) ?_
          refine spec_intro Try.func10 good10 rfl (by simp [Try.ntmps10]) ?_
          repeat' (first
           | (with_reducible first | refine Stp.pf ?_ | refine block_x (by decide) ?_ | refine ret_n ?_)
           | refine tri_reg [] ?_ | refine tri_regc [] [] mixed (by decide +kernel) ?_
           | (refine rwf_nilt rfl (by decide +kernel) fun B hB => ?_; (try simp [*]); refine hB.out _ fun b => ?_; clear hB B)
           | (refine Rul.pf ⟨rfl, rfl⟩ fun B C hB => ?_; (try simp [*, -List.all_eq_true, Try.results10]); (try (simp (disch := first | assumption | omega) only [wc, ite_yes]; (try simp [*, -List.all_eq_true, Try.results10]))); first | (first | refine hB.out.1 _ (fun hb => ?_) fun hb => ⟨rfl, ?_⟩ | refine hB.out.1 _ (fun hb => ?_) fun hb => ?_) <;> clear hB C B <;> (try simp only [Bool.not_true, Bool.not_false] at hb) <;> (first | (exfalso; simp at hb; done) | (exfalso; simp at hb; omega) | (rw [hb]; (try simp at hb)) | (try simp at hb)) | ((first | refine hB.out.1 _ _ ?_ | refine hB.out.1 _ ?_ | refine hB.out.2.1 _ _ _ (a1) ?_ | refine hB.out.2.2 _ _ _ (a1) ?_ | refine hB.out.2.1 _ _ _ (g1) ?_ | refine hB.out.2.2 _ _ _ (g1) ?_ | refine hB.out.2.1 _ _ _ (g2) ?_ | refine hB.out.2.2 _ _ _ (g2) ?_ | refine hB.out.2.1 _ _ _ (o1) ?_ | refine hB.out.2.2 _ _ _ (o1) ?_ | refine hB.out.2.1 _ _ _ (o2) ?_ | refine hB.out.2.2 _ _ _ (o2) ?_ | refine hB.out.2 ⟨rfl, ?_⟩); clear hB C B) | (refine hB.out.2 _ ?_; clear hB C B; (try rfl)))
           | refine rwf_o ?_ | refine rwc_o .n rfl ?_ | refine rwc_o .z rfl ?_ | refine rwc_o .w rfl ?_ | refine rwc_o .b rfl ?_ | refine rwc_o _ rfl ?_)
        · skip
          refine spec_pure (by simp) (by simp) ?_
          refine spec_intro Try.func10 good10 rfl (by simp [Try.ntmps10]) ?_
          repeat' (first
           | (with_reducible first | refine Stp.pf ?_ | refine block_x (by decide) ?_ | refine ret_n ?_)
           | refine tri_reg [] ?_ | refine tri_regc [] [] mixed (by decide +kernel) ?_
           | (refine rwf_nilt rfl (by decide +kernel) fun B hB => ?_; (try simp [*]); refine hB.out _ fun b => ?_; clear hB B)
           | (refine Rul.pf ⟨rfl, rfl⟩ fun B C hB => ?_; (try simp [*, -List.all_eq_true, Try.results10]); (try (simp (disch := first | assumption | omega) only [wc, ite_yes]; (try simp [*, -List.all_eq_true, Try.results10]))); first | (first | refine hB.out.1 _ (fun hb => ?_) fun hb => ⟨rfl, ?_⟩ | refine hB.out.1 _ (fun hb => ?_) fun hb => ?_) <;> clear hB C B <;> (try simp only [Bool.not_true, Bool.not_false] at hb) <;> (first | (exfalso; simp at hb; done) | (exfalso; simp at hb; omega) | (rw [hb]; (try simp at hb)) | (try simp at hb)) | ((first | refine hB.out.1 _ _ ?_ | refine hB.out.1 _ ?_ | refine hB.out.2.1 _ _ _ (a1) ?_ | refine hB.out.2.2 _ _ _ (a1) ?_ | refine hB.out.2.1 _ _ _ (g1) ?_ | refine hB.out.2.2 _ _ _ (g1) ?_ | refine hB.out.2.1 _ _ _ (g2) ?_ | refine hB.out.2.2 _ _ _ (g2) ?_ | refine hB.out.2.1 _ _ _ (o1) ?_ | refine hB.out.2.2 _ _ _ (o1) ?_ | refine hB.out.2.1 _ _ _ (o2) ?_ | refine hB.out.2.2 _ _ _ (o2) ?_ | refine hB.out.2 ⟨rfl, ?_⟩); clear hB C B) | (refine hB.out.2 _ ?_; clear hB C B; (try rfl)))
           | refine rwf_o ?_ | refine rwc_o .n rfl ?_ | refine rwc_o .z rfl ?_ | refine rwc_o .w rfl ?_ | refine rwc_o .b rfl ?_ | refine rwc_o _ rfl ?_)
      · rw [h1] at o1
        clear r1 r2
        rcases key other with h3 | h3 | ⟨w, h3, -, -⟩ <;> rw [h3] at o2
        · skip
          refine spec_pure (by simp) (by simp) ?_
          refine spec_intro Try.func10 good10 rfl (by simp [Try.ntmps10]) ?_
          repeat' (first
           | (with_reducible first | refine Stp.pf ?_ | refine block_x (by decide) ?_ | refine ret_n ?_)
           | refine tri_reg [] ?_ | refine tri_regc [] [] mixed (by decide +kernel) ?_
           | (refine rwf_nilt rfl (by decide +kernel) fun B hB => ?_; (try simp [*]); refine hB.out _ fun b => ?_; clear hB B)
           | (refine Rul.pf ⟨rfl, rfl⟩ fun B C hB => ?_; (try simp [*, -List.all_eq_true, Try.results10]); (try (simp (disch := first | assumption | omega) only [wc, ite_yes]; (try simp [*, -List.all_eq_true, Try.results10]))); first | (first | refine hB.out.1 _ (fun hb => ?_) fun hb => ⟨rfl, ?_⟩ | refine hB.out.1 _ (fun hb => ?_) fun hb => ?_) <;> clear hB C B <;> (try simp only [Bool.not_true, Bool.not_false] at hb) <;> (first | (exfalso; simp at hb; done) | (exfalso; simp at hb; omega) | (rw [hb]; (try simp at hb)) | (try simp at hb)) | ((first | refine hB.out.1 _ _ ?_ | refine hB.out.1 _ ?_ | refine hB.out.2.1 _ _ _ (a1) ?_ | refine hB.out.2.2 _ _ _ (a1) ?_ | refine hB.out.2.1 _ _ _ (g1) ?_ | refine hB.out.2.2 _ _ _ (g1) ?_ | refine hB.out.2.1 _ _ _ (g2) ?_ | refine hB.out.2.2 _ _ _ (g2) ?_ | refine hB.out.2.1 _ _ _ (o1) ?_ | refine hB.out.2.2 _ _ _ (o1) ?_ | refine hB.out.2.1 _ _ _ (o2) ?_ | refine hB.out.2.2 _ _ _ (o2) ?_ | refine hB.out.2 ⟨rfl, ?_⟩); clear hB C B) | (refine hB.out.2 _ ?_; clear hB C B; (try rfl)))
           | refine rwf_o ?_ | refine rwc_o .n rfl ?_ | refine rwc_o .z rfl ?_ | refine rwc_o .w rfl ?_ | refine rwc_o .b rfl ?_ | refine rwc_o _ rfl ?_)
        · skip
          refine spec_pure (by simp) (by simp) ?_
          refine spec_intro Try.func10 good10 rfl (by simp [Try.ntmps10]) ?_
          repeat' (first
           | (with_reducible first | refine Stp.pf ?_ | refine block_x (by decide) ?_ | refine ret_n ?_)
           | refine tri_reg [] ?_ | refine tri_regc [] [] mixed (by decide +kernel) ?_
           | (refine rwf_nilt rfl (by decide +kernel) fun B hB => ?_; (try simp [*]); refine hB.out _ fun b => ?_; clear hB B)
           | (refine Rul.pf ⟨rfl, rfl⟩ fun B C hB => ?_; (try simp [*, -List.all_eq_true, Try.results10]); (try (simp (disch := first | assumption | omega) only [wc, ite_yes]; (try simp [*, -List.all_eq_true, Try.results10]))); first | (first | refine hB.out.1 _ (fun hb => ?_) fun hb => ⟨rfl, ?_⟩ | refine hB.out.1 _ (fun hb => ?_) fun hb => ?_) <;> clear hB C B <;> (try simp only [Bool.not_true, Bool.not_false] at hb) <;> (first | (exfalso; simp at hb; done) | (exfalso; simp at hb; omega) | (rw [hb]; (try simp at hb)) | (try simp at hb)) | ((first | refine hB.out.1 _ _ ?_ | refine hB.out.1 _ ?_ | refine hB.out.2.1 _ _ _ (a1) ?_ | refine hB.out.2.2 _ _ _ (a1) ?_ | refine hB.out.2.1 _ _ _ (g1) ?_ | refine hB.out.2.2 _ _ _ (g1) ?_ | refine hB.out.2.1 _ _ _ (g2) ?_ | refine hB.out.2.2 _ _ _ (g2) ?_ | refine hB.out.2.1 _ _ _ (o1) ?_ | refine hB.out.2.2 _ _ _ (o1) ?_ | refine hB.out.2.1 _ _ _ (o2) ?_ | refine hB.out.2.2 _ _ _ (o2) ?_ | refine hB.out.2 ⟨rfl, ?_⟩); clear hB C B) | (refine hB.out.2 _ ?_; clear hB C B; (try rfl)))
           | refine rwf_o ?_ | refine rwc_o .n rfl ?_ | refine rwc_o .z rfl ?_ | refine rwc_o .w rfl ?_ | refine rwc_o .b rfl ?_ | refine rwc_o _ rfl ?_)
        · skip
          refine spec_pure (by simp) (by simp) ?_
          refine spec_intro Try.func10 good10 rfl (by simp [Try.ntmps10]) ?_
          repeat' (first
           | (with_reducible first | refine Stp.pf ?_ | refine block_x (by decide) ?_ | refine ret_n ?_)
           | refine tri_reg [] ?_ | refine tri_regc [] [] mixed (by decide +kernel) ?_
           | (refine rwf_nilt rfl (by decide +kernel) fun B hB => ?_; (try simp [*]); refine hB.out _ fun b => ?_; clear hB B)
           | (refine Rul.pf ⟨rfl, rfl⟩ fun B C hB => ?_; (try simp [*, -List.all_eq_true, Try.results10]); (try (simp (disch := first | assumption | omega) only [wc, ite_yes]; (try simp [*, -List.all_eq_true, Try.results10]))); first | (first | refine hB.out.1 _ (fun hb => ?_) fun hb => ⟨rfl, ?_⟩ | refine hB.out.1 _ (fun hb => ?_) fun hb => ?_) <;> clear hB C B <;> (try simp only [Bool.not_true, Bool.not_false] at hb) <;> (first | (exfalso; simp at hb; done) | (exfalso; simp at hb; omega) | (rw [hb]; (try simp at hb)) | (try simp at hb)) | ((first | refine hB.out.1 _ _ ?_ | refine hB.out.1 _ ?_ | refine hB.out.2.1 _ _ _ (a1) ?_ | refine hB.out.2.2 _ _ _ (a1) ?_ | refine hB.out.2.1 _ _ _ (g1) ?_ | refine hB.out.2.2 _ _ _ (g1) ?_ | refine hB.out.2.1 _ _ _ (g2) ?_ | refine hB.out.2.2 _ _ _ (g2) ?_ | refine hB.out.2.1 _ _ _ (o1) ?_ | refine hB.out.2.2 _ _ _ (o1) ?_ | refine hB.out.2.1 _ _ _ (o2) ?_ | refine hB.out.2.2 _ _ _ (o2) ?_ | refine hB.out.2 ⟨rfl, ?_⟩); clear hB C B) | (refine hB.out.2 _ ?_; clear hB C B; (try rfl)))
           | refine rwf_o ?_ | refine rwc_o .n rfl ?_ | refine rwc_o .z rfl ?_ | refine rwc_o .w rfl ?_ | refine rwc_o .b rfl ?_ | refine rwc_o _ rfl ?_)
      · rw [h1] at o1
        rw [h2] at r1
        rcases key other with h3 | h3 | ⟨w, h3, h4, hw1, hw2, hw3⟩
        · rw [h3] at o2
          clear r1 r2
          refine spec_pure (by simp) (by simp) ?_
          refine spec_intro Try.func10 good10 rfl (by simp [Try.ntmps10]) ?_
          repeat' (first
           | (with_reducible first | refine Stp.pf ?_ | refine block_x (by decide) ?_ | refine ret_n ?_)
           | refine tri_reg [] ?_ | refine tri_regc [] [] mixed (by decide +kernel) ?_
           | (refine rwf_nilt rfl (by decide +kernel) fun B hB => ?_; (try simp [*]); refine hB.out _ fun b => ?_; clear hB B)
           | (refine Rul.pf ⟨rfl, rfl⟩ fun B C hB => ?_; (try simp [*, -List.all_eq_true, Try.results10]); (try (simp (disch := first | assumption | omega) only [wc, ite_yes]; (try simp [*, -List.all_eq_true, Try.results10]))); first | (first | refine hB.out.1 _ (fun hb => ?_) fun hb => ⟨rfl, ?_⟩ | refine hB.out.1 _ (fun hb => ?_) fun hb => ?_) <;> clear hB C B <;> (try simp only [Bool.not_true, Bool.not_false] at hb) <;> (first | (exfalso; simp at hb; done) | (exfalso; simp at hb; omega) | (rw [hb]; (try simp at hb)) | (try simp at hb)) | ((first | refine hB.out.1 _ _ ?_ | refine hB.out.1 _ ?_ | refine hB.out.2.1 _ _ _ (a1) ?_ | refine hB.out.2.2 _ _ _ (a1) ?_ | refine hB.out.2.1 _ _ _ (g1) ?_ | refine hB.out.2.2 _ _ _ (g1) ?_ | refine hB.out.2.1 _ _ _ (g2) ?_ | refine hB.out.2.2 _ _ _ (g2) ?_ | refine hB.out.2.1 _ _ _ (o1) ?_ | refine hB.out.2.2 _ _ _ (o1) ?_ | refine hB.out.2.1 _ _ _ (o2) ?_ | refine hB.out.2.2 _ _ _ (o2) ?_ | refine hB.out.2 ⟨rfl, ?_⟩); clear hB C B) | (refine hB.out.2 _ ?_; clear hB C B; (try rfl)))
           | refine rwf_o ?_ | refine rwc_o .n rfl ?_ | refine rwc_o .z rfl ?_ | refine rwc_o .w rfl ?_ | refine rwc_o .b rfl ?_ | refine rwc_o _ rfl ?_)
        · rw [h3] at o2
          clear r1 r2
          refine spec_pure (by simp) (by simp) ?_
          refine spec_intro Try.func10 good10 rfl (by simp [Try.ntmps10]) ?_
          repeat' (first
           | (with_reducible first | refine Stp.pf ?_ | refine block_x (by decide) ?_ | refine ret_n ?_)
           | refine tri_reg [] ?_ | refine tri_regc [] [] mixed (by decide +kernel) ?_
           | (refine rwf_nilt rfl (by decide +kernel) fun B hB => ?_; (try simp [*]); refine hB.out _ fun b => ?_; clear hB B)
           | (refine Rul.pf ⟨rfl, rfl⟩ fun B C hB => ?_; (try simp [*, -List.all_eq_true, Try.results10]); (try (simp (disch := first | assumption | omega) only [wc, ite_yes]; (try simp [*, -List.all_eq_true, Try.results10]))); first | (first | refine hB.out.1 _ (fun hb => ?_) fun hb => ⟨rfl, ?_⟩ | refine hB.out.1 _ (fun hb => ?_) fun hb => ?_) <;> clear hB C B <;> (try simp only [Bool.not_true, Bool.not_false] at hb) <;> (first | (exfalso; simp at hb; done) | (exfalso; simp at hb; omega) | (rw [hb]; (try simp at hb)) | (try simp at hb)) | ((first | refine hB.out.1 _ _ ?_ | refine hB.out.1 _ ?_ | refine hB.out.2.1 _ _ _ (a1) ?_ | refine hB.out.2.2 _ _ _ (a1) ?_ | refine hB.out.2.1 _ _ _ (g1) ?_ | refine hB.out.2.2 _ _ _ (g1) ?_ | refine hB.out.2.1 _ _ _ (g2) ?_ | refine hB.out.2.2 _ _ _ (g2) ?_ | refine hB.out.2.1 _ _ _ (o1) ?_ | refine hB.out.2.2 _ _ _ (o1) ?_ | refine hB.out.2.1 _ _ _ (o2) ?_ | refine hB.out.2.2 _ _ _ (o2) ?_ | refine hB.out.2 ⟨rfl, ?_⟩); clear hB C B) | (refine hB.out.2 _ ?_; clear hB C B; (try rfl)))
           | refine rwf_o ?_ | refine rwc_o .n rfl ?_ | refine rwc_o .z rfl ?_ | refine rwc_o .w rfl ?_ | refine rwc_o .b rfl ?_ | refine rwc_o _ rfl ?_)
        · rw [h3] at o2
          rw [h4] at r2
          clear key h1 h2 h3 h4
          have y3 : u.length ≤ 60 := by omega
          have y4 : w.length ≤ 60 := by omega
          clear hu3 hw3
          have hli := ok_light hu2
          have p1 := lParts_pure u (by omega) hli
          have p2 := rParts09_pure u (by omega) hli
          obtain ⟨c1, -⟩ := parts_all hli
          have n1 := (partsI_len hli).1
          have hpl := fun j h => cat_part c1 j h
          have hjn := lJoin_spec u w (by omega) fun x hx => (List.mem_append.1 hx).elim (ok_small hu2 x) (ok_small hw2 x)
          have n2 := lJoin_nil1 u
          have n3 := lJoin_nil2 u
          have n4 := lWith_nil (.sc (.slice none 0 0)) (by simp)
          have n5 := lFind_nil ⟨#[97]⟩
          have n6 := lLen_nil
          have n7 := lWeight_nil
          have n8 := lItems_nil
          have n9 := lParts_nil
          have n10 := lLow_nil
          have n11 := lWithin_nil (.agg [.sc (.string ⟨#[]⟩), .sc (.string ⟨#[]⟩)]) rfl ⟨#[]⟩ ⟨#[]⟩
          have n12 := lSame_nils
          have n13 := lSame_nil2 u
          unfold nilP at n2 n3 n4 n5 n6 n7 n8 n9 n10 n11 n13
          have hcl := clashI_at (a := u) (b := w)
          have hno1 : u = [] → clashI u w = false := fun h => by subst h; rfl
          have hno2 : w = [] → clashI u w = false := fun h => by subst h; unfold clashI; cases u.getLast? <;> rfl
          have hlow : ∀ h : 0 < w.length, lowK w = w[0].key := fun h => by cases w with
            | nil => simp at h
            | cons y b => rfl
          have hit : ∀ l : List Item, l.length ≤ 900000 → PSpec Try.prog 57 [.fp (cL l) 0] (.fs (flatI l) l.length) ∧ PSpec Try.prog 42 [.fs (flatI l) l.length, .fs (flatI l) l.length] (.sc (.bool true)) := fun l hl => by
            have q := rSame09_spec l l hl hl
            rw [decide_eq_true rfl] at q
            exact ⟨lItems_spec l (by omega), q⟩
          clear hu1 hw1 hu2 hw2 hli c1
          generalize hP : partsI u = P at *
          replace hit := Lib.hid hit
          replace hpl := Lib.hid hpl
          replace hcl := Lib.hid hcl
          replace hno1 := Lib.hid hno1
          replace hno2 := Lib.hid hno2
          replace hlow := Lib.hid hlow
          unfold joinR at hjn
          have fin : ∀ (env' : Env) (σ' : Sto), True := fun _ _ => trivial
          clear fin
          refine spec_pure (by simp) (by simp) ?_
          refine spec_intro Try.func10 good10 rfl (by simp [Try.ntmps10]) ?_
          repeat' (first
           | (with_reducible first | refine Stp.pf ?_ | refine block_x (by decide) ?_ | refine ret_n ?_)
           | refine tri_reg [143,145,147] ?_ | refine tri_regc [143,145,147] [] mixed (by decide +kernel) ?_
           | (refine rwf_nilt rfl (by decide +kernel) fun B hB => ?_; (try simp [*]); refine hB.out _ fun b => ?_; clear hB B)
           | (refine Rul.pf ⟨rfl, rfl⟩ fun B C hB => ?_; (try simp [*, -List.all_eq_true, Try.results10]); (try (simp (disch := first | assumption | omega) only [wc, ite_yes]; (try simp [*, -List.all_eq_true, Try.results10]))); first | (first | refine hB.out.1 _ (fun hb => ?_) fun hb => ⟨rfl, ?_⟩ | refine hB.out.1 _ (fun hb => ?_) fun hb => ?_) <;> clear hB C B <;> (try simp only [Bool.not_true, Bool.not_false] at hb) <;> (first | (exfalso; simp at hb; done) | (exfalso; simp at hb; omega) | (rw [hb]; (try simp at hb)) | (try simp at hb)) | ((first | refine hB.out.1 _ _ ?_ | refine hB.out.1 _ ?_ | refine hB.out.2.1 _ _ _ (a1) ?_ | refine hB.out.2.2 _ _ _ (a1) ?_ | refine hB.out.2.1 _ _ _ (g1) ?_ | refine hB.out.2.2 _ _ _ (g1) ?_ | refine hB.out.2.1 _ _ _ (g2) ?_ | refine hB.out.2.2 _ _ _ (g2) ?_ | refine hB.out.2.1 _ _ _ (o1) ?_ | refine hB.out.2.2 _ _ _ (o1) ?_ | refine hB.out.2.1 _ _ _ (o2) ?_ | refine hB.out.2.2 _ _ _ (o2) ?_ | refine hB.out.2.1 _ _ _ (r1) ?_ | refine hB.out.2.2 _ _ _ (r1) ?_ | refine hB.out.2.1 _ _ _ (r2) ?_ | refine hB.out.2.2 _ _ _ (r2) ?_ | refine hB.out.2.1 _ _ _ (p1) ?_ | refine hB.out.2.2 _ _ _ (p1) ?_ | refine hB.out.2.1 _ _ _ (p2) ?_ | refine hB.out.2.2 _ _ _ (p2) ?_ | refine hB.out.2 ⟨rfl, ?_⟩); clear hB C B) | (refine hB.out.2 _ ?_; clear hB C B; (try rfl)))
           | refine rwf_o ?_ | refine rwc_o .n rfl ?_ | refine rwc_o .z rfl ?_ | refine rwc_o .w rfl ?_ | refine rwc_o .b rfl ?_ | refine rwc_o _ rfl ?_)
          refine tri_for [5, 7, 9, 11, 13, 14] P.length (fun k e σ => σ = [] ∧ e 15 = .sc (.int .i64 k)) ?_ (fun k env' σ' hlt hk hI => ?_) (fun env' σ' hk hI => ?_)
          · exact ⟨by simp, by simp⟩
          · skip
            (try simp at hk)
            obtain ⟨rfl, h15⟩ := hI
            obtain ⟨i1, i2⟩ := hit.out P[k] (by have := hpl.out k hlt; omega)
            repeat' (first
             | (with_reducible first | refine Stp.pf ?_ | refine block_x (by decide) ?_ | refine ret_n ?_)
             | refine tri_reg [143,145,147] ?_ | refine tri_regc [143,145,147] [] mixed (by decide +kernel) ?_
             | (refine rwf_nilt rfl (by decide +kernel) fun B hB => ?_; (try simp [*]); refine hB.out _ fun b => ?_; clear hB B)
             | (refine Rul.pf ⟨rfl, rfl⟩ fun B C hB => ?_; (try simp [*, -List.all_eq_true, Try.results10]); (try (simp (disch := first | assumption | omega) only [wc, ite_yes]; (try simp [*, -List.all_eq_true, Try.results10]))); first | (first | refine hB.out.1 _ (fun hb => ?_) fun hb => ⟨rfl, ?_⟩ | refine hB.out.1 _ (fun hb => ?_) fun hb => ?_) <;> clear hB C B <;> (try simp only [Bool.not_true, Bool.not_false] at hb) <;> (first | (exfalso; simp at hb; done) | (exfalso; simp at hb; omega) | (rw [hb]; (try simp at hb)) | (try simp at hb)) | ((first | refine hB.out.1 _ _ ?_ | refine hB.out.1 _ ?_ | refine hB.out.2.1 _ _ _ (i1) ?_ | refine hB.out.2.2 _ _ _ (i1) ?_ | refine hB.out.2.1 _ _ _ (i2) ?_ | refine hB.out.2.2 _ _ _ (i2) ?_ | refine hB.out.2 ⟨rfl, ?_⟩); clear hB C B) | (refine hB.out.2 _ ?_; clear hB C B; (try rfl)))
             | refine rwf_o ?_ | refine rwc_o .n rfl ?_ | refine rwc_o .z rfl ?_ | refine rwc_o .w rfl ?_ | refine rwc_o .b rfl ?_ | refine rwc_o _ rfl ?_)
            exact ⟨by simp [*], rfl, by simp⟩
          · skip
            (try simp at hk)
            obtain ⟨rfl, h15⟩ := hI
            obtain ⟨i1, i2⟩ := hit.out (u ++ w) (by simp; omega)
            cases hcq : clashI u w with
            | false =>
              rw [hcq, if_neg (by simp)] at hjn
              rw [show (u ++ w) = u ++ w from rfl] at hjn
              have hs2 : ∀ S v, Own 2 S v (u ++ w).length (flatI (u ++ w)) → Spec Try.prog 42 [.fs (flatI (u ++ w)) (u ++ w).length, v] S (fun r s => r = .sc (.bool true) ∧ s = freezeL S (List.range S.length)) := fun S v o => spec_own2 (by simp) o (by simp) (i2 _)
              replace hs2 := Lib.hid hs2
              have hcase : u = [] ∨ (¬ u = [] ∧ w = []) ∨ (¬ u = [] ∧ ¬ w = [] ∧ ∃ (j : Nat) (h : j < u.length) (h2 : 0 < w.length), ((u.length : Int) - 1 = (j : Nat)) ∧ slt u[j].key w[0].key = true) := by
                by_cases hu0 : u = []
                · exact .inl hu0
                · have hup : 0 < u.length := List.length_pos_iff.2 hu0
                  by_cases hw0 : w = []
                  · exact .inr (.inl ⟨hu0, hw0⟩)
                  · have hwp : 0 < w.length := List.length_pos_iff.2 hw0
                    obtain ⟨j, hj⟩ : ∃ j, u.length = j + 1 := ⟨u.length - 1, by omega⟩
                    have e := hcl.out hwp j hj
                    rw [hcq, hlow.out hwp] at e
                    exact .inr (.inr ⟨hu0, hw0, j, by omega, hwp, by omega, by simpa using e.symm⟩)
              clear hcl hno1 hno2 hlow i2 hcq
              have hw0 : ∀ h : 0 < (flatI w).length, (flatI w)[0] = .sc (.string (w[0]'(by simpa using h)).key) := fun h => by have := gI_at0 w 0 (by simpa using h); simpa using this
              generalize hX : u ++ w = X at *
              rcases hcase with hu0 | ⟨hun, hwn⟩ | ⟨hun, hwn, j, hjl, hwp, e1, hS⟩
              · subst hu0
                rw [List.nil_append] at hX
                subst hX
                repeat' (first
                 | (with_reducible first | refine Stp.pf ?_ | refine block_x (by decide) ?_ | refine ret_n ?_)
                 | refine tri_reg [143,145,147] ?_ | refine tri_regc [143,145,147] [] mixed (by decide +kernel) ?_
                 | (refine rwf_nilt rfl (by decide +kernel) fun B hB => ?_; (try simp [*]); refine hB.out _ fun b => ?_; clear hB B)
                 | (refine Rul.pf ⟨rfl, rfl⟩ fun B C hB => ?_; (try simp [*, -List.all_eq_true, Try.results10]); (try (simp (disch := first | assumption | omega) only [wc, ite_yes]; (try simp [*, -List.all_eq_true, Try.results10]))); first | (first | refine hB.out.1 _ (fun hb => ?_) fun hb => ⟨rfl, ?_⟩ | refine hB.out.1 _ (fun hb => ?_) fun hb => ?_) <;> clear hB C B <;> (try simp only [Bool.not_true, Bool.not_false] at hb) <;> (first | (exfalso; simp at hb; done) | (exfalso; simp at hb; omega) | (rw [hb]; (try simp at hb)) | (try simp at hb)) | ((first | refine hB.out.1 _ _ ?_ | refine hB.out.1 _ ?_ | refine hB.out.2.1 _ _ _ (hjn) ?_ | refine hB.out.2.2 _ _ _ (hjn) ?_ | refine hB.out.2.1 _ _ _ (i1) ?_ | refine hB.out.2.2 _ _ _ (i1) ?_ | refine hB.out.2 ⟨rfl, ?_⟩); clear hB C B) | (refine hB.out.2 _ ?_; clear hB C B; (try rfl)))
                 | refine rwf_o ?_ | refine rwc_o .n rfl ?_ | refine rwc_o .z rfl ?_ | refine rwc_o .w rfl ?_ | refine rwc_o .b rfl ?_ | refine rwc_o _ rfl ?_)
                refine rwf_app rfl rfl elem66 zero68 rfl bytes68 (by decide) slc66 fun G hG => ?_
                (try simp [*, -List.all_eq_true])
                refine hG.out _ _ _ _ _ (Own.new 2 []) (by simp) (by simp) (by omega) fun v3 σ3 q1 q2 => ?_
                clear hG G
                clear q2
                have q5 : Own 2 σ3 v3 w.length (flatI w) := by simpa using q1
                clear q1
                have c1 := hs2.out _ _ q5
                clear q5 hs2
                repeat' (first
                 | (with_reducible first | refine Stp.pf ?_ | refine block_x (by decide) ?_ | refine ret_n ?_)
                 | refine tri_reg [143,145,147] ?_ | refine tri_regc [143,145,147] [] mixed (by decide +kernel) ?_
                 | (refine rwf_nilt rfl (by decide +kernel) fun B hB => ?_; (try simp [*]); refine hB.out _ fun b => ?_; clear hB B)
                 | (refine Rul.pf ⟨rfl, rfl⟩ fun B C hB => ?_; (try simp [*, -List.all_eq_true, Try.results10]); (try (simp (disch := first | assumption | omega) only [wc, ite_yes]; (try simp [*, -List.all_eq_true, Try.results10]))); first | (first | refine hB.out.1 _ (fun hb => ?_) fun hb => ⟨rfl, ?_⟩ | refine hB.out.1 _ (fun hb => ?_) fun hb => ?_) <;> clear hB C B <;> (try simp only [Bool.not_true, Bool.not_false] at hb) <;> (first | (exfalso; simp at hb; done) | (exfalso; simp at hb; omega) | (rw [hb]; (try simp at hb)) | (try simp at hb)) | ((first | refine hB.out.1 _ _ ?_ | refine hB.out.1 _ ?_ | refine hB.out.2 ⟨rfl, ?_⟩); clear hB C B) | (refine hB.out.2 _ ?_; clear hB C B; (try rfl)))
                 | refine rwf_o ?_ | refine rwc_o .n rfl ?_ | refine rwc_o .z rfl ?_ | refine rwc_o .w rfl ?_ | refine rwc_o .b rfl ?_ | refine rwc_o _ rfl ?_)
                refine rwf_ca rfl fun C' hC hP => ?_
                clear hP
                (try simp [*, -List.all_eq_true]); (try (simp (disch := first | assumption | omega) only [wrap_id, wrapu_id, wrapb_id, tmod_nn, tdiv_nn, ite_yes, flatM_seg, flatM_0, flatM_1, flatM_2, flatI_seg, flatI_0, flatI_1, flatS_get]; (try simp [*, -List.all_eq_true])))
                refine hC.out _ _ _ (c1) fun r s5 hq => ?_
                clear hC C'
                obtain ⟨rfl, rfl⟩ := hq
                clear c1
                repeat' (first
                 | (with_reducible first | refine Stp.pf ?_ | refine block_x (by decide) ?_ | refine ret_n ?_)
                 | refine tri_reg [143,145,147] ?_ | refine tri_regc [143,145,147] [] mixed (by decide +kernel) ?_
                 | (refine rwf_nilt rfl (by decide +kernel) fun B hB => ?_; (try simp [*]); refine hB.out _ fun b => ?_; clear hB B)
                 | (refine Rul.pf ⟨rfl, rfl⟩ fun B C hB => ?_; (try simp [*, -List.all_eq_true, Try.results10]); (try (simp (disch := first | assumption | omega) only [wc, ite_yes]; (try simp [*, -List.all_eq_true, Try.results10]))); first | (first | refine hB.out.1 _ (fun hb => ?_) fun hb => ⟨rfl, ?_⟩ | refine hB.out.1 _ (fun hb => ?_) fun hb => ?_) <;> clear hB C B <;> (try simp only [Bool.not_true, Bool.not_false] at hb) <;> (first | (exfalso; simp at hb; done) | (exfalso; simp at hb; omega) | (rw [hb]; (try simp at hb)) | (try simp at hb)) | ((first | refine hB.out.1 _ _ ?_ | refine hB.out.1 _ ?_ | refine hB.out.2.1 _ _ _ (n2) ?_ | refine hB.out.2.2 _ _ _ (n2) ?_ | refine hB.out.2.1 _ _ _ (n3) ?_ | refine hB.out.2.2 _ _ _ (n3) ?_ | refine hB.out.2.1 _ _ _ (n4) ?_ | refine hB.out.2.2 _ _ _ (n4) ?_ | refine hB.out.2.1 _ _ _ (n5) ?_ | refine hB.out.2.2 _ _ _ (n5) ?_ | refine hB.out.2.1 _ _ _ (n6) ?_ | refine hB.out.2.2 _ _ _ (n6) ?_ | refine hB.out.2.1 _ _ _ (n7) ?_ | refine hB.out.2.2 _ _ _ (n7) ?_ | refine hB.out.2.1 _ _ _ (n8) ?_ | refine hB.out.2.2 _ _ _ (n8) ?_ | refine hB.out.2.1 _ _ _ (n9) ?_ | refine hB.out.2.2 _ _ _ (n9) ?_ | refine hB.out.2.1 _ _ _ (n10) ?_ | refine hB.out.2.2 _ _ _ (n10) ?_ | refine hB.out.2.1 _ _ _ (n11) ?_ | refine hB.out.2.2 _ _ _ (n11) ?_ | refine hB.out.2.1 _ _ _ (n12) ?_ | refine hB.out.2.2 _ _ _ (n12) ?_ | refine hB.out.2.1 _ _ _ (n13) ?_ | refine hB.out.2.2 _ _ _ (n13) ?_ | refine hB.out.2 ⟨rfl, ?_⟩); clear hB C B) | (refine hB.out.2 _ ?_; clear hB C B; (try rfl)))
                 | refine rwf_o ?_ | refine rwc_o .n rfl ?_ | refine rwc_o .z rfl ?_ | refine rwc_o .w rfl ?_ | refine rwc_o .b rfl ?_ | refine rwc_o _ rfl ?_)
              · subst hwn
                rw [List.append_nil] at hX
                subst hX
                repeat' (first
                 | (with_reducible first | refine Stp.pf ?_ | refine block_x (by decide) ?_ | refine ret_n ?_)
                 | refine tri_reg [143,145,147] ?_ | refine tri_regc [143,145,147] [] mixed (by decide +kernel) ?_
                 | (refine rwf_nilt rfl (by decide +kernel) fun B hB => ?_; (try simp [*]); refine hB.out _ fun b => ?_; clear hB B)
                 | (refine Rul.pf ⟨rfl, rfl⟩ fun B C hB => ?_; (try simp [*, -List.all_eq_true, Try.results10]); (try (simp (disch := first | assumption | omega) only [wc, ite_yes]; (try simp [*, -List.all_eq_true, Try.results10]))); first | (first | refine hB.out.1 _ (fun hb => ?_) fun hb => ⟨rfl, ?_⟩ | refine hB.out.1 _ (fun hb => ?_) fun hb => ?_) <;> clear hB C B <;> (try simp only [Bool.not_true, Bool.not_false] at hb) <;> (first | (exfalso; simp at hb; done) | (exfalso; simp at hb; omega) | (rw [hb]; (try simp at hb)) | (try simp at hb)) | ((first | refine hB.out.1 _ _ ?_ | refine hB.out.1 _ ?_ | refine hB.out.2.1 _ _ _ (hjn) ?_ | refine hB.out.2.2 _ _ _ (hjn) ?_ | refine hB.out.2.1 _ _ _ (i1) ?_ | refine hB.out.2.2 _ _ _ (i1) ?_ | refine hB.out.2 ⟨rfl, ?_⟩); clear hB C B) | (refine hB.out.2 _ ?_; clear hB C B; (try rfl)))
                 | refine rwf_o ?_ | refine rwc_o .n rfl ?_ | refine rwc_o .z rfl ?_ | refine rwc_o .w rfl ?_ | refine rwc_o .b rfl ?_ | refine rwc_o _ rfl ?_)
                all_goals (try (exfalso; contradiction))
                refine rwf_app rfl rfl elem66 zero68 rfl bytes68 (by decide) slc66 fun G hG => ?_
                (try simp [*, -List.all_eq_true])
                refine hG.out _ _ _ _ _ (Own.new 2 []) (by simp) (by simp) (by omega) fun v3 σ3 q1 q2 => ?_
                clear hG G
                clear q2
                repeat' (first
                 | (with_reducible first | refine Stp.pf ?_ | refine block_x (by decide) ?_ | refine ret_n ?_)
                 | refine tri_reg [143,145,147] ?_ | refine tri_regc [143,145,147] [] mixed (by decide +kernel) ?_
                 | (refine rwf_nilt rfl (by decide +kernel) fun B hB => ?_; (try simp [*]); refine hB.out _ fun b => ?_; clear hB B)
                 | (refine Rul.pf ⟨rfl, rfl⟩ fun B C hB => ?_; (try simp [*, -List.all_eq_true, Try.results10]); (try (simp (disch := first | assumption | omega) only [wc, ite_yes]; (try simp [*, -List.all_eq_true, Try.results10]))); first | (first | refine hB.out.1 _ (fun hb => ?_) fun hb => ⟨rfl, ?_⟩ | refine hB.out.1 _ (fun hb => ?_) fun hb => ?_) <;> clear hB C B <;> (try simp only [Bool.not_true, Bool.not_false] at hb) <;> (first | (exfalso; simp at hb; done) | (exfalso; simp at hb; omega) | (rw [hb]; (try simp at hb)) | (try simp at hb)) | ((first | refine hB.out.1 _ _ ?_ | refine hB.out.1 _ ?_ | refine hB.out.2 ⟨rfl, ?_⟩); clear hB C B) | (refine hB.out.2 _ ?_; clear hB C B; (try rfl)))
                 | refine rwf_o ?_ | refine rwc_o .n rfl ?_ | refine rwc_o .z rfl ?_ | refine rwc_o .w rfl ?_ | refine rwc_o .b rfl ?_ | refine rwc_o _ rfl ?_)
                refine rwf_app rfl rfl elem66 zero68 rfl bytes68 (by decide) slc66 fun G hG => ?_
                (try simp [*, -List.all_eq_true])
                refine hG.out _ _ _ _ _ (q1) (by simp) (by simp) (by omega) fun v4 σ4 q3 q4 => ?_
                clear hG G
                clear q1 q4
                have q5 : Own 2 σ4 v4 u.length (flatI u) := by simpa [show flatI [] = [] from rfl] using q3
                clear q3
                have c1 := hs2.out _ _ q5
                clear q5 hs2
                repeat' (first
                 | (with_reducible first | refine Stp.pf ?_ | refine block_x (by decide) ?_ | refine ret_n ?_)
                 | refine tri_reg [143,145,147] ?_ | refine tri_regc [143,145,147] [] mixed (by decide +kernel) ?_
                 | (refine rwf_nilt rfl (by decide +kernel) fun B hB => ?_; (try simp [*]); refine hB.out _ fun b => ?_; clear hB B)
                 | (refine Rul.pf ⟨rfl, rfl⟩ fun B C hB => ?_; (try simp [*, -List.all_eq_true, Try.results10]); (try (simp (disch := first | assumption | omega) only [wc, ite_yes]; (try simp [*, -List.all_eq_true, Try.results10]))); first | (first | refine hB.out.1 _ (fun hb => ?_) fun hb => ⟨rfl, ?_⟩ | refine hB.out.1 _ (fun hb => ?_) fun hb => ?_) <;> clear hB C B <;> (try simp only [Bool.not_true, Bool.not_false] at hb) <;> (first | (exfalso; simp at hb; done) | (exfalso; simp at hb; omega) | (rw [hb]; (try simp at hb)) | (try simp at hb)) | ((first | refine hB.out.1 _ _ ?_ | refine hB.out.1 _ ?_ | refine hB.out.2 ⟨rfl, ?_⟩); clear hB C B) | (refine hB.out.2 _ ?_; clear hB C B; (try rfl)))
                 | refine rwf_o ?_ | refine rwc_o .n rfl ?_ | refine rwc_o .z rfl ?_ | refine rwc_o .w rfl ?_ | refine rwc_o .b rfl ?_ | refine rwc_o _ rfl ?_)
                refine rwf_ca rfl fun C' hC hP => ?_
                clear hP
                (try simp [*, -List.all_eq_true]); (try (simp (disch := first | assumption | omega) only [wrap_id, wrapu_id, wrapb_id, tmod_nn, tdiv_nn, ite_yes, flatM_seg, flatM_0, flatM_1, flatM_2, flatI_seg, flatI_0, flatI_1, flatS_get]; (try simp [*, -List.all_eq_true])))
                refine hC.out _ _ _ (c1) fun r s5 hq => ?_
                clear hC C'
                obtain ⟨rfl, rfl⟩ := hq
                clear c1
                repeat' (first
                 | (with_reducible first | refine Stp.pf ?_ | refine block_x (by decide) ?_ | refine ret_n ?_)
                 | refine tri_reg [143,145,147] ?_ | refine tri_regc [143,145,147] [] mixed (by decide +kernel) ?_
                 | (refine rwf_nilt rfl (by decide +kernel) fun B hB => ?_; (try simp [*]); refine hB.out _ fun b => ?_; clear hB B)
                 | (refine Rul.pf ⟨rfl, rfl⟩ fun B C hB => ?_; (try simp [*, -List.all_eq_true, Try.results10]); (try (simp (disch := first | assumption | omega) only [wc, ite_yes]; (try simp [*, -List.all_eq_true, Try.results10]))); first | (first | refine hB.out.1 _ (fun hb => ?_) fun hb => ⟨rfl, ?_⟩ | refine hB.out.1 _ (fun hb => ?_) fun hb => ?_) <;> clear hB C B <;> (try simp only [Bool.not_true, Bool.not_false] at hb) <;> (first | (exfalso; simp at hb; done) | (exfalso; simp at hb; omega) | (rw [hb]; (try simp at hb)) | (try simp at hb)) | ((first | refine hB.out.1 _ _ ?_ | refine hB.out.1 _ ?_ | refine hB.out.2.1 _ _ _ (n2) ?_ | refine hB.out.2.2 _ _ _ (n2) ?_ | refine hB.out.2.1 _ _ _ (n3) ?_ | refine hB.out.2.2 _ _ _ (n3) ?_ | refine hB.out.2.1 _ _ _ (n4) ?_ | refine hB.out.2.2 _ _ _ (n4) ?_ | refine hB.out.2.1 _ _ _ (n5) ?_ | refine hB.out.2.2 _ _ _ (n5) ?_ | refine hB.out.2.1 _ _ _ (n6) ?_ | refine hB.out.2.2 _ _ _ (n6) ?_ | refine hB.out.2.1 _ _ _ (n7) ?_ | refine hB.out.2.2 _ _ _ (n7) ?_ | refine hB.out.2.1 _ _ _ (n8) ?_ | refine hB.out.2.2 _ _ _ (n8) ?_ | refine hB.out.2.1 _ _ _ (n9) ?_ | refine hB.out.2.2 _ _ _ (n9) ?_ | refine hB.out.2.1 _ _ _ (n10) ?_ | refine hB.out.2.2 _ _ _ (n10) ?_ | refine hB.out.2.1 _ _ _ (n11) ?_ | refine hB.out.2.2 _ _ _ (n11) ?_ | refine hB.out.2.1 _ _ _ (n12) ?_ | refine hB.out.2.2 _ _ _ (n12) ?_ | refine hB.out.2.1 _ _ _ (n13) ?_ | refine hB.out.2.2 _ _ _ (n13) ?_ | refine hB.out.2 ⟨rfl, ?_⟩); clear hB C B) | (refine hB.out.2 _ ?_; clear hB C B; (try rfl)))
                 | refine rwf_o ?_ | refine rwc_o .n rfl ?_ | refine rwc_o .z rfl ?_ | refine rwc_o .w rfl ?_ | refine rwc_o .b rfl ?_ | refine rwc_o _ rfl ?_)
              · skip
                repeat' (first
                 | (with_reducible first | refine Stp.pf ?_ | refine block_x (by decide) ?_ | refine ret_n ?_)
                 | refine tri_reg [143,145,147] ?_ | refine tri_regc [143,145,147] [] mixed (by decide +kernel) ?_
                 | (refine rwf_nilt rfl (by decide +kernel) fun B hB => ?_; (try simp [*]); refine hB.out _ fun b => ?_; clear hB B)
                 | (refine Rul.pf ⟨rfl, rfl⟩ fun B C hB => ?_; (try simp [*, -List.all_eq_true, Try.results10]); (try (simp (disch := first | assumption | omega) only [wc, ite_yes]; (try simp [*, -List.all_eq_true, Try.results10]))); first | (first | refine hB.out.1 _ (fun hb => ?_) fun hb => ⟨rfl, ?_⟩ | refine hB.out.1 _ (fun hb => ?_) fun hb => ?_) <;> clear hB C B <;> (try simp only [Bool.not_true, Bool.not_false] at hb) <;> (first | (exfalso; simp at hb; done) | (exfalso; simp at hb; omega) | (rw [hb]; (try simp at hb)) | (try simp at hb)) | ((first | refine hB.out.1 _ _ ?_ | refine hB.out.1 _ ?_ | refine hB.out.2.1 _ _ _ (hjn) ?_ | refine hB.out.2.2 _ _ _ (hjn) ?_ | refine hB.out.2.1 _ _ _ (i1) ?_ | refine hB.out.2.2 _ _ _ (i1) ?_ | refine hB.out.2 ⟨rfl, ?_⟩); clear hB C B) | (refine hB.out.2 _ ?_; clear hB C B; (try rfl)))
                 | refine rwf_o ?_ | refine rwc_o .n rfl ?_ | refine rwc_o .z rfl ?_ | refine rwc_o .w rfl ?_ | refine rwc_o .b rfl ?_ | refine rwc_o _ rfl ?_)
                all_goals (try (exfalso; contradiction))
                refine rwf_app rfl rfl elem66 zero68 rfl bytes68 (by decide) slc66 fun G hG => ?_
                (try simp [*, -List.all_eq_true])
                refine hG.out _ _ _ _ _ (Own.new 2 []) (by simp) (by simp) (by omega) fun v3 σ3 q1 q2 => ?_
                clear hG G
                clear q2
                repeat' (first
                 | (with_reducible first | refine Stp.pf ?_ | refine block_x (by decide) ?_ | refine ret_n ?_)
                 | refine tri_reg [143,145,147] ?_ | refine tri_regc [143,145,147] [] mixed (by decide +kernel) ?_
                 | (refine rwf_nilt rfl (by decide +kernel) fun B hB => ?_; (try simp [*]); refine hB.out _ fun b => ?_; clear hB B)
                 | (refine Rul.pf ⟨rfl, rfl⟩ fun B C hB => ?_; (try simp [*, -List.all_eq_true, Try.results10]); (try (simp (disch := first | assumption | omega) only [wc, ite_yes]; (try simp [*, -List.all_eq_true, Try.results10]))); first | (first | refine hB.out.1 _ (fun hb => ?_) fun hb => ⟨rfl, ?_⟩ | refine hB.out.1 _ (fun hb => ?_) fun hb => ?_) <;> clear hB C B <;> (try simp only [Bool.not_true, Bool.not_false] at hb) <;> (first | (exfalso; simp at hb; done) | (exfalso; simp at hb; omega) | (rw [hb]; (try simp at hb)) | (try simp at hb)) | ((first | refine hB.out.1 _ _ ?_ | refine hB.out.1 _ ?_ | refine hB.out.2 ⟨rfl, ?_⟩); clear hB C B) | (refine hB.out.2 _ ?_; clear hB C B; (try rfl)))
                 | refine rwf_o ?_ | refine rwc_o .n rfl ?_ | refine rwc_o .z rfl ?_ | refine rwc_o .w rfl ?_ | refine rwc_o .b rfl ?_ | refine rwc_o _ rfl ?_)
                refine rwf_app rfl rfl elem66 zero68 rfl bytes68 (by decide) slc66 fun G hG => ?_
                (try simp [*, -List.all_eq_true])
                refine hG.out _ _ _ _ _ (q1) (by simp) (by simp) (by omega) fun v4 σ4 q3 q4 => ?_
                clear hG G
                clear q1 q4
                have q5 : Own 2 σ4 v4 X.length (flatI X) := by rw [← hX]; simpa [flatI_append] using q3
                clear q3
                have c1 := hs2.out _ _ q5
                clear q5 hs2
                repeat' (first
                 | (with_reducible first | refine Stp.pf ?_ | refine block_x (by decide) ?_ | refine ret_n ?_)
                 | refine tri_reg [143,145,147] ?_ | refine tri_regc [143,145,147] [] mixed (by decide +kernel) ?_
                 | (refine rwf_nilt rfl (by decide +kernel) fun B hB => ?_; (try simp [*]); refine hB.out _ fun b => ?_; clear hB B)
                 | (refine Rul.pf ⟨rfl, rfl⟩ fun B C hB => ?_; (try simp [*, -List.all_eq_true, Try.results10]); (try (simp (disch := first | assumption | omega) only [wc, ite_yes]; (try simp [*, -List.all_eq_true, Try.results10]))); first | (first | refine hB.out.1 _ (fun hb => ?_) fun hb => ⟨rfl, ?_⟩ | refine hB.out.1 _ (fun hb => ?_) fun hb => ?_) <;> clear hB C B <;> (try simp only [Bool.not_true, Bool.not_false] at hb) <;> (first | (exfalso; simp at hb; done) | (exfalso; simp at hb; omega) | (rw [hb]; (try simp at hb)) | (try simp at hb)) | ((first | refine hB.out.1 _ _ ?_ | refine hB.out.1 _ ?_ | refine hB.out.2 ⟨rfl, ?_⟩); clear hB C B) | (refine hB.out.2 _ ?_; clear hB C B; (try rfl)))
                 | refine rwf_o ?_ | refine rwc_o .n rfl ?_ | refine rwc_o .z rfl ?_ | refine rwc_o .w rfl ?_ | refine rwc_o .b rfl ?_ | refine rwc_o _ rfl ?_)
                refine rwf_ca rfl fun C' hC hP => ?_
                clear hP
                (try simp [*, -List.all_eq_true]); (try (simp (disch := first | assumption | omega) only [wrap_id, wrapu_id, wrapb_id, tmod_nn, tdiv_nn, ite_yes, flatM_seg, flatM_0, flatM_1, flatM_2, flatI_seg, flatI_0, flatI_1, flatS_get]; (try simp [*, -List.all_eq_true])))
                refine hC.out _ _ _ (c1) fun r s5 hq => ?_
                clear hC C'
                obtain ⟨rfl, rfl⟩ := hq
                clear c1
                repeat' (first
                 | (with_reducible first | refine Stp.pf ?_ | refine block_x (by decide) ?_ | refine ret_n ?_)
                 | refine tri_reg [143,145,147] ?_ | refine tri_regc [143,145,147] [] mixed (by decide +kernel) ?_
                 | (refine rwf_nilt rfl (by decide +kernel) fun B hB => ?_; (try simp [*]); refine hB.out _ fun b => ?_; clear hB B)
                 | (refine Rul.pf ⟨rfl, rfl⟩ fun B C hB => ?_; (try simp [*, -List.all_eq_true, Try.results10]); (try (simp (disch := first | assumption | omega) only [wc, ite_yes]; (try simp [*, -List.all_eq_true, Try.results10]))); first | (first | refine hB.out.1 _ (fun hb => ?_) fun hb => ⟨rfl, ?_⟩ | refine hB.out.1 _ (fun hb => ?_) fun hb => ?_) <;> clear hB C B <;> (try simp only [Bool.not_true, Bool.not_false] at hb) <;> (first | (exfalso; simp at hb; done) | (exfalso; simp at hb; omega) | (rw [hb]; (try simp at hb)) | (try simp at hb)) | ((first | refine hB.out.1 _ _ ?_ | refine hB.out.1 _ ?_ | refine hB.out.2.1 _ _ _ (n2) ?_ | refine hB.out.2.2 _ _ _ (n2) ?_ | refine hB.out.2.1 _ _ _ (n3) ?_ | refine hB.out.2.2 _ _ _ (n3) ?_ | refine hB.out.2.1 _ _ _ (n4) ?_ | refine hB.out.2.2 _ _ _ (n4) ?_ | refine hB.out.2.1 _ _ _ (n5) ?_ | refine hB.out.2.2 _ _ _ (n5) ?_ | refine hB.out.2.1 _ _ _ (n6) ?_ | refine hB.out.2.2 _ _ _ (n6) ?_ | refine hB.out.2.1 _ _ _ (n7) ?_ | refine hB.out.2.2 _ _ _ (n7) ?_ | refine hB.out.2.1 _ _ _ (n8) ?_ | refine hB.out.2.2 _ _ _ (n8) ?_ | refine hB.out.2.1 _ _ _ (n9) ?_ | refine hB.out.2.2 _ _ _ (n9) ?_ | refine hB.out.2.1 _ _ _ (n10) ?_ | refine hB.out.2.2 _ _ _ (n10) ?_ | refine hB.out.2.1 _ _ _ (n11) ?_ | refine hB.out.2.2 _ _ _ (n11) ?_ | refine hB.out.2.1 _ _ _ (n12) ?_ | refine hB.out.2.2 _ _ _ (n12) ?_ | refine hB.out.2.1 _ _ _ (n13) ?_ | refine hB.out.2.2 _ _ _ (n13) ?_ | refine hB.out.2 ⟨rfl, ?_⟩); clear hB C B) | (refine hB.out.2 _ ?_; clear hB C B; (try rfl)))
                 | refine rwf_o ?_ | refine rwc_o .n rfl ?_ | refine rwc_o .z rfl ?_ | refine rwc_o .w rfl ?_ | refine rwc_o .b rfl ?_ | refine rwc_o _ rfl ?_)
            | true =>
              rw [hcq, if_pos rfl] at hjn
              have hup : 0 < u.length := Nat.pos_of_ne_zero fun h => by rw [hno1.out (List.length_eq_zero_iff.1 h)] at hcq; cases hcq
              have hwp : 0 < w.length := Nat.pos_of_ne_zero fun h => by rw [hno2.out (List.length_eq_zero_iff.1 h)] at hcq; cases hcq
              obtain ⟨j, hj⟩ : ∃ j, u.length = j + 1 := ⟨u.length - 1, by omega⟩
              have hjl : j < u.length := by omega
              have e := hcl.out hwp j hj
              rw [hcq, hlow.out hwp] at e
              have e1 : (u.length : Int) - 1 = (j : Nat) := by omega
              have hS : slt u[j].key w[0].key = false := by simpa using e.symm
              clear hcq e hj
              have hw0 : ∀ h : 0 < (flatI w).length, (flatI w)[0] = .sc (.string w[0].key) := fun h => by have := gI_at0 w 0 (by simpa using h); simpa using this
              repeat' (first
               | (with_reducible first | refine Stp.pf ?_ | refine block_x (by decide) ?_ | refine ret_n ?_)
               | refine tri_reg [143,145,147] ?_ | refine tri_regc [143,145,147] [] mixed (by decide +kernel) ?_
               | (refine rwf_nilt rfl (by decide +kernel) fun B hB => ?_; (try simp [*]); refine hB.out _ fun b => ?_; clear hB B)
               | (refine Rul.pf ⟨rfl, rfl⟩ fun B C hB => ?_; (try simp [*, -List.all_eq_true, Try.results10]); (try (simp (disch := first | assumption | omega) only [wc, ite_yes]; (try simp [*, -List.all_eq_true, Try.results10]))); first | (first | refine hB.out.1 _ (fun hb => ?_) fun hb => ⟨rfl, ?_⟩ | refine hB.out.1 _ (fun hb => ?_) fun hb => ?_) <;> clear hB C B <;> (try simp only [Bool.not_true, Bool.not_false] at hb) <;> (first | (exfalso; simp at hb; done) | (exfalso; simp at hb; omega) | (rw [hb]; (try simp at hb)) | (try simp at hb)) | ((first | refine hB.out.1 _ _ ?_ | refine hB.out.1 _ ?_ | refine hB.out.2.1 _ _ _ (hjn) ?_ | refine hB.out.2.2 _ _ _ (hjn) ?_ | refine hB.out.2.1 _ _ _ (n2) ?_ | refine hB.out.2.2 _ _ _ (n2) ?_ | refine hB.out.2.1 _ _ _ (n3) ?_ | refine hB.out.2.2 _ _ _ (n3) ?_ | refine hB.out.2.1 _ _ _ (n4) ?_ | refine hB.out.2.2 _ _ _ (n4) ?_ | refine hB.out.2.1 _ _ _ (n5) ?_ | refine hB.out.2.2 _ _ _ (n5) ?_ | refine hB.out.2.1 _ _ _ (n6) ?_ | refine hB.out.2.2 _ _ _ (n6) ?_ | refine hB.out.2.1 _ _ _ (n7) ?_ | refine hB.out.2.2 _ _ _ (n7) ?_ | refine hB.out.2.1 _ _ _ (n8) ?_ | refine hB.out.2.2 _ _ _ (n8) ?_ | refine hB.out.2.1 _ _ _ (n9) ?_ | refine hB.out.2.2 _ _ _ (n9) ?_ | refine hB.out.2.1 _ _ _ (n10) ?_ | refine hB.out.2.2 _ _ _ (n10) ?_ | refine hB.out.2.1 _ _ _ (n11) ?_ | refine hB.out.2.2 _ _ _ (n11) ?_ | refine hB.out.2.1 _ _ _ (n12) ?_ | refine hB.out.2.2 _ _ _ (n12) ?_ | refine hB.out.2.1 _ _ _ (n13) ?_ | refine hB.out.2.2 _ _ _ (n13) ?_ | refine hB.out.2 ⟨rfl, ?_⟩); clear hB C B) | (refine hB.out.2 _ ?_; clear hB C B; (try rfl)))
               | refine rwf_o ?_ | refine rwc_o .n rfl ?_ | refine rwc_o .z rfl ?_ | refine rwc_o .w rfl ?_ | refine rwc_o .b rfl ?_ | refine rwc_o _ rfl ?_)
end Go.Proofs.Ytemijcjgdgdhjaa
