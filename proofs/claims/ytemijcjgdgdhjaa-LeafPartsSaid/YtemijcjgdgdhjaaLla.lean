/- The law LeafLight. -/
import Derived.Test.YtemijcjgdgdhjaaEj
namespace Go.Proofs.Ytemijcjgdgdhjaa
open Go.RowKit
set_option linter.unusedSimpArgs false
set_option maxRecDepth 10000
theorem parts_all {l : List Item} (hl : Light l) : catI (partsI l) = l ∧ (∀ q ∈ partsI l, iwts q ≤ 240) ∧ (l ≠ [] → ∀ q ∈ partsI l, q ≠ []) ∧ 0 < (partsI l).length ∧ ((partsI l).length = 1 ↔ iwts l ≤ 240) := by
  suffices h : ∀ (n : Nat) (l : List Item), l.length ≤ n → Light l → catI (partsI l) = l ∧ (∀ q ∈ partsI l, iwts q ≤ 240) ∧ (l ≠ [] → ∀ q ∈ partsI l, q ≠ []) ∧ 0 < (partsI l).length ∧ ((partsI l).length = 1 ↔ iwts l ≤ 240) from h _ l (Nat.le_refl _) hl
  intro n
  induction n with
  | zero =>
    intro l hn hl
    have : l = [] := List.length_eq_zero_iff.1 (by omega)
    subst this
    simp [partsI, partsF, catI, iwts]
  | succ n ih =>
    intro l hn hl
    rw [partsI_eq hl]
    by_cases hw : iwts l ≤ 240
    · rw [if_pos hw]
      exact ⟨by simp [catI], fun q hq => by rw [List.mem_singleton.1 hq]; exact hw, fun h q hq => by rw [List.mem_singleton.1 hq]; exact h, by simp, by simp [hw]⟩
    · obtain ⟨h1, h2⟩ := half_in hl hw
      rw [if_neg hw]
      obtain ⟨a1, a2, a3, a4, a5⟩ := ih (l.take (halfI l)) (by rw [List.length_take]; omega) (hl.take _)
      obtain ⟨b1, b2, b3, b4, b5⟩ := ih (l.drop (halfI l)) (by rw [List.length_drop]; omega) (hl.drop _)
      have n1 : l.take (halfI l) ≠ [] := fun e => by have := congrArg List.length e; rw [List.length_take, List.length_nil] at this; omega
      have n2 : l.drop (halfI l) ≠ [] := fun e => by have := congrArg List.length e; rw [List.length_drop, List.length_nil] at this; omega
      refine ⟨?_, fun q hq => (List.mem_append.1 hq).elim (a2 q) (b2 q), fun _ q hq => (List.mem_append.1 hq).elim (a3 n1 q) (b3 n2 q), by rw [List.length_append]; omega, ?_⟩
      · unfold catI at *
        rw [List.flatten_append, a1, b1, List.take_append_drop]
      · rw [List.length_append]
        constructor
        · intro h; omega
        · intro h; exact absurd h hw
theorem cat_split (p : List (List Item)) (j : Nat) : catI p = catI (p.take j) ++ catI (p.drop j) := by unfold catI; rw [← List.flatten_append, List.take_append_drop]
theorem clash_no {a b : List Item} (h : RiseI (a ++ b)) : clashI a b = false := by
  unfold clashI
  cases e : a.getLast? with
  | none => rfl
  | some x =>
    cases b with
    | nil => rfl
    | cons y b =>
      have hx : x ∈ a := List.mem_of_getLast? e
      have := (List.pairwise_append.1 h).2.2 x hx y (by simp)
      simp [this]
theorem rise_take {l : List Item} {p : List (List Item)} (hc : catI p = l) (hr : RiseI l) (j : Nat) : RiseI (catI (p.take j)) := by
  have : l = catI (p.take j) ++ catI (p.drop j) := by rw [← hc]; unfold catI; rw [← List.flatten_append, List.take_append_drop]
  rw [this] at hr
  exact (List.pairwise_append.1 hr).1
theorem leafR_nil : leafR [] = .tup [.fp (cL []) 0, .sc (.int .i64 0)] := rfl
set_option maxHeartbeats 4000000 in
theorem leafLight_spec (items : List Item) (hi : items.length ≤ 9223372036854775807) : PSpec Try.prog 9 [.fs (flatI items) items.length] (.sc (.bool true)) := by
  have a1 := awake09_spec
  have g1 := great09_spec items hi
  cases hg : greatI items with
  | true =>
    rw [hg] at g1
    refine spec_pure (by simp) (by simp) ?_
    refine spec_intro Try.func9 good9 rfl (by simp [Try.ntmps9]) ?_
    repeat' (first
     | (with_reducible first | refine Stp.pf ?_ | refine block_x (by decide) ?_ | refine ret_n ?_)
     | refine tri_reg [] ?_ | refine tri_regc [] [] mixed (by decide +kernel) ?_
     | (refine rwf_nilt rfl (by decide +kernel) fun B hB => ?_; (try simp [*]); refine hB.out _ fun b => ?_; clear hB B)
     | (refine Rul.pf ⟨rfl, rfl⟩ fun B C hB => ?_; (try simp [*, -List.all_eq_true, Try.results9]); (try (simp (disch := first | assumption | omega) only [wc, ite_yes]; (try simp [*, -List.all_eq_true, Try.results9]))); first | (first | refine hB.out.1 _ (fun hb => ?_) fun hb => ⟨rfl, ?_⟩ | refine hB.out.1 _ (fun hb => ?_) fun hb => ?_) <;> clear hB C B <;> (try simp only [Bool.not_true, Bool.not_false] at hb) <;> (first | (exfalso; simp at hb; done) | (exfalso; simp at hb; omega) | (rw [hb]; (try simp at hb)) | (try simp at hb)) | ((first | refine hB.out.1 _ _ ?_ | refine hB.out.1 _ ?_ | refine hB.out.2.1 _ _ _ (a1) ?_ | refine hB.out.2.2 _ _ _ (a1) ?_ | refine hB.out.2.1 _ _ _ (g1) ?_ | refine hB.out.2.2 _ _ _ (g1) ?_ | refine hB.out.2 ⟨rfl, ?_⟩); clear hB C B) | (refine hB.out.2 _ ?_; clear hB C B; (try rfl)))
     | refine rwf_o ?_ | refine rwc_o .n rfl ?_ | refine rwc_o .z rfl ?_ | refine rwc_o .w rfl ?_ | refine rwc_o .b rfl ?_ | refine rwc_o _ rfl ?_)
  | false =>
    rw [hg] at g1
    obtain ⟨y1, -⟩ := greatI_no hg
    have o1 := lOf_spec items (by omega)
    clear hg
    unfold leafR at o1
    cases hok : items.all okI with
    | false =>
      rw [hok, if_pos rfl] at o1
      refine spec_pure (by simp) (by simp) ?_
      refine spec_intro Try.func9 good9 rfl (by simp [Try.ntmps9]) ?_
      repeat' (first
       | (with_reducible first | refine Stp.pf ?_ | refine block_x (by decide) ?_ | refine ret_n ?_)
       | refine tri_reg [] ?_ | refine tri_regc [] [] mixed (by decide +kernel) ?_
       | (refine rwf_nilt rfl (by decide +kernel) fun B hB => ?_; (try simp [*]); refine hB.out _ fun b => ?_; clear hB B)
       | (refine Rul.pf ⟨rfl, rfl⟩ fun B C hB => ?_; (try simp [*, -List.all_eq_true, Try.results9]); (try (simp (disch := first | assumption | omega) only [wc, ite_yes]; (try simp [*, -List.all_eq_true, Try.results9]))); first | (first | refine hB.out.1 _ (fun hb => ?_) fun hb => ⟨rfl, ?_⟩ | refine hB.out.1 _ (fun hb => ?_) fun hb => ?_) <;> clear hB C B <;> (try simp only [Bool.not_true, Bool.not_false] at hb) <;> (first | (exfalso; simp at hb; done) | (exfalso; simp at hb; omega) | (rw [hb]; (try simp at hb)) | (try simp at hb)) | ((first | refine hB.out.1 _ _ ?_ | refine hB.out.1 _ ?_ | refine hB.out.2.1 _ _ _ (a1) ?_ | refine hB.out.2.2 _ _ _ (a1) ?_ | refine hB.out.2.1 _ _ _ (g1) ?_ | refine hB.out.2.2 _ _ _ (g1) ?_ | refine hB.out.2.1 _ _ _ (o1) ?_ | refine hB.out.2.2 _ _ _ (o1) ?_ | refine hB.out.2 ⟨rfl, ?_⟩); clear hB C B) | (refine hB.out.2 _ ?_; clear hB C B; (try rfl)))
       | refine rwf_o ?_ | refine rwc_o .n rfl ?_ | refine rwc_o .z rfl ?_ | refine rwc_o .w rfl ?_ | refine rwc_o .b rfl ?_ | refine rwc_o _ rfl ?_)
    | true =>
      rw [hok, if_neg (by simp)] at o1
      cases hof : ofL items with
      | none =>
        rw [hof] at o1
        refine spec_pure (by simp) (by simp) ?_
        refine spec_intro Try.func9 good9 rfl (by simp [Try.ntmps9]) ?_
        repeat' (first
         | (with_reducible first | refine Stp.pf ?_ | refine block_x (by decide) ?_ | refine ret_n ?_)
         | refine tri_reg [] ?_ | refine tri_regc [] [] mixed (by decide +kernel) ?_
         | (refine rwf_nilt rfl (by decide +kernel) fun B hB => ?_; (try simp [*]); refine hB.out _ fun b => ?_; clear hB B)
         | (refine Rul.pf ⟨rfl, rfl⟩ fun B C hB => ?_; (try simp [*, -List.all_eq_true, Try.results9]); (try (simp (disch := first | assumption | omega) only [wc, ite_yes]; (try simp [*, -List.all_eq_true, Try.results9]))); first | (first | refine hB.out.1 _ (fun hb => ?_) fun hb => ⟨rfl, ?_⟩ | refine hB.out.1 _ (fun hb => ?_) fun hb => ?_) <;> clear hB C B <;> (try simp only [Bool.not_true, Bool.not_false] at hb) <;> (first | (exfalso; simp at hb; done) | (exfalso; simp at hb; omega) | (rw [hb]; (try simp at hb)) | (try simp at hb)) | ((first | refine hB.out.1 _ _ ?_ | refine hB.out.1 _ ?_ | refine hB.out.2.1 _ _ _ (a1) ?_ | refine hB.out.2.2 _ _ _ (a1) ?_ | refine hB.out.2.1 _ _ _ (g1) ?_ | refine hB.out.2.2 _ _ _ (g1) ?_ | refine hB.out.2.1 _ _ _ (o1) ?_ | refine hB.out.2.2 _ _ _ (o1) ?_ | refine hB.out.2 ⟨rfl, ?_⟩); clear hB C B) | (refine hB.out.2 _ ?_; clear hB C B; (try rfl)))
         | refine rwf_o ?_ | refine rwc_o .n rfl ?_ | refine rwc_o .z rfl ?_ | refine rwc_o .w rfl ?_ | refine rwc_o .b rfl ?_ | refine rwc_o _ rfl ?_)
      | some l =>
        rw [hof] at o1
        obtain ⟨hr, hp⟩ := ofL_some hof
        have hlo := ofL_all hof hok
        have hll := hp.length_eq
        have hli := ok_light hlo
        have p1 := lParts_pure l (by omega) hli
        obtain ⟨c1, c2, c3, c4, c5⟩ := parts_all hli
        have n1 := (partsI_len hli).1
        have o2 := pspec_args (lOf_spec [] (by simp)) (xs' := [.sc (.slice none 0 0)]) (.cons .nil .nil)
        rw [leafR_nil] at o2
        have hrt := rise_take c1 hr
        have hs := lSame_spec l l (by omega) (by omega)
        rw [decide_eq_true rfl] at hs
        have hw := lWeight_spec l
        have hsm := hli.small
        have hcl : catI ((partsI l).take (partsI l).length) = l := by rw [List.take_length, c1]
        have hne : ∀ (j : Nat) (h : j < (partsI l).length), ¬ (1 < (partsI l).length ∧ (partsI l)[j].length = 0) := fun j h ⟨h1, h2⟩ => by
          have hl0 : l ≠ [] := by rintro rfl; simp [partsI, partsF] at h1
          exact c3 hl0 _ (List.getElem_mem h) (List.length_eq_zero_iff.1 h2)
        have hwt : ∀ (j : Nat) (h : j < (partsI l).length), iwts (partsI l)[j] ≤ 240 := fun j h => c2 _ (List.getElem_mem h)
        have hjn : ∀ (j : Nat) (h : j < (partsI l).length), PSpec Try.prog 54 [.fp (cL (catI ((partsI l).take j))) 0, .fp (cL (partsI l)[j]) 0] (.tup [.fp (cL (catI ((partsI l).take (j + 1)))) 0, .sc (.int .i64 0)]) := fun j h => by
          have e := catI_succ h
          have hle := cat_le (l := partsI l) (j + 1)
          rw [c1] at hle
          have hsub : ∀ x ∈ catI ((partsI l).take (j + 1)), x ∈ l := fun x hx => by
            have h2 := cat_split (partsI l) (j + 1)
            rw [c1] at h2
            rw [h2]; exact List.mem_append_left _ hx
          have hrj := hrt (j + 1)
          rw [e] at hle hsub hrj ⊢
          have hj := lJoin_spec (catI ((partsI l).take j)) (partsI l)[j] (by rw [List.length_append] at hle; omega) fun x hx => hsm x (hsub x hx)
          unfold joinR at hj
          rw [clash_no hrj, if_neg (by simp)] at hj
          exact hj
        have hone : decide (((partsI l).length : Int) = 1) = decide (iwts l ≤ 240) := by rw [Bool.eq_iff_iff, decide_eq_true_eq, decide_eq_true_eq, ← c5]; omega
        have hnl : (partsI l).length ≠ 0 := by omega
        clear hrt hsm c1 c2 c3 c5 hli hlo hr hp hof hok
        generalize hP : partsI l = P at *
        refine spec_pure (by simp) (by simp) ?_
        refine spec_intro Try.func9 good9 rfl (by simp [Try.ntmps9]) ?_
        repeat' (first
         | (with_reducible first | refine Stp.pf ?_ | refine block_x (by decide) ?_ | refine ret_n ?_)
         | refine tri_reg [] ?_ | refine tri_regc [] [] mixed (by decide +kernel) ?_
         | (refine rwf_nilt rfl (by decide +kernel) fun B hB => ?_; (try simp [*]); refine hB.out _ fun b => ?_; clear hB B)
         | (refine Rul.pf ⟨rfl, rfl⟩ fun B C hB => ?_; (try simp [*, -List.all_eq_true, Try.results9]); (try (simp (disch := first | assumption | omega) only [wc, ite_yes]; (try simp [*, -List.all_eq_true, Try.results9]))); first | (first | refine hB.out.1 _ (fun hb => ?_) fun hb => ⟨rfl, ?_⟩ | refine hB.out.1 _ (fun hb => ?_) fun hb => ?_) <;> clear hB C B <;> (try simp only [Bool.not_true, Bool.not_false] at hb) <;> (first | (exfalso; simp at hb; done) | (exfalso; simp at hb; omega) | (rw [hb]; (try simp at hb)) | (try simp at hb)) | ((first | refine hB.out.1 _ _ ?_ | refine hB.out.1 _ ?_ | refine hB.out.2.1 _ _ _ (a1) ?_ | refine hB.out.2.2 _ _ _ (a1) ?_ | refine hB.out.2.1 _ _ _ (g1) ?_ | refine hB.out.2.2 _ _ _ (g1) ?_ | refine hB.out.2.1 _ _ _ (o1) ?_ | refine hB.out.2.2 _ _ _ (o1) ?_ | refine hB.out.2.1 _ _ _ (p1) ?_ | refine hB.out.2.2 _ _ _ (p1) ?_ | refine hB.out.2.1 _ _ _ (o2) ?_ | refine hB.out.2.2 _ _ _ (o2) ?_ | refine hB.out.2 ⟨rfl, ?_⟩); clear hB C B) | (refine hB.out.2 _ ?_; clear hB C B; (try rfl)))
         | refine rwf_o ?_ | refine rwc_o .n rfl ?_ | refine rwc_o .z rfl ?_ | refine rwc_o .w rfl ?_ | refine rwc_o .b rfl ?_ | refine rwc_o _ rfl ?_)
        refine tri_for [3, 5] P.length (fun k e σ => σ = [] ∧ e 8 = .sc (.int .i64 k) ∧ e 6 = .fp (cL (catI (P.take k))) 0 ∧ e 7 = .sc (.int .i64 0)) ?_ (fun k env' σ' hlt hk hI => ?_) (fun env' σ' hk hI => ?_)
        · exact ⟨by simp, by simp, by simp [catI], by simp⟩
        · skip
          (try simp at hk)
          obtain ⟨rfl, h8, h6, h7⟩ := hI
          have hj := hjn k hlt
          have hwk := lWeight_spec P[k]
          have hlk := lLen_spec P[k]
          have hwl := hwt k hlt
          have hnk := hne k hlt
          generalize catI (P.take (k + 1)) = A1 at *
          generalize catI (P.take k) = A0 at *
          clear hjn hwt hne
          by_cases h1 : 1 < P.length
          · have hnk2 : ¬ P[k].length = 0 := fun h => hnk ⟨h1, h⟩
            clear hnk
            repeat' (first
             | (with_reducible first | refine Stp.pf ?_ | refine block_x (by decide) ?_ | refine ret_n ?_)
             | refine tri_reg [] ?_ | refine tri_regc [] [] mixed (by decide +kernel) ?_
             | (refine rwf_nilt rfl (by decide +kernel) fun B hB => ?_; (try simp [*]); refine hB.out _ fun b => ?_; clear hB B)
             | (refine Rul.pf ⟨rfl, rfl⟩ fun B C hB => ?_; (try simp [*, -List.all_eq_true, Try.results9]); (try (simp (disch := first | assumption | omega) only [wc, ite_yes]; (try simp [*, -List.all_eq_true, Try.results9]))); first | (first | refine hB.out.1 _ (fun hb => ?_) fun hb => ⟨rfl, ?_⟩ | refine hB.out.1 _ (fun hb => ?_) fun hb => ?_) <;> clear hB C B <;> (try simp only [Bool.not_true, Bool.not_false] at hb) <;> (first | (exfalso; simp at hb; done) | (exfalso; simp at hb; omega) | (rw [hb]; (try simp at hb)) | (try simp at hb)) | ((first | refine hB.out.1 _ _ ?_ | refine hB.out.1 _ ?_ | refine hB.out.2.1 _ _ _ (hj) ?_ | refine hB.out.2.2 _ _ _ (hj) ?_ | refine hB.out.2.1 _ _ _ (hwk) ?_ | refine hB.out.2.2 _ _ _ (hwk) ?_ | refine hB.out.2.1 _ _ _ (hlk) ?_ | refine hB.out.2.2 _ _ _ (hlk) ?_ | refine hB.out.2 ⟨rfl, ?_⟩); clear hB C B) | (refine hB.out.2 _ ?_; clear hB C B; (try rfl)))
             | refine rwf_o ?_ | refine rwc_o .n rfl ?_ | refine rwc_o .z rfl ?_ | refine rwc_o .w rfl ?_ | refine rwc_o .b rfl ?_ | refine rwc_o _ rfl ?_)
            exact ⟨by simp [*], rfl, by simp, by simp, by simp⟩
          · clear hnk
            repeat' (first
             | (with_reducible first | refine Stp.pf ?_ | refine block_x (by decide) ?_ | refine ret_n ?_)
             | refine tri_reg [] ?_ | refine tri_regc [] [] mixed (by decide +kernel) ?_
             | (refine rwf_nilt rfl (by decide +kernel) fun B hB => ?_; (try simp [*]); refine hB.out _ fun b => ?_; clear hB B)
             | (refine Rul.pf ⟨rfl, rfl⟩ fun B C hB => ?_; (try simp [*, -List.all_eq_true, Try.results9]); (try (simp (disch := first | assumption | omega) only [wc, ite_yes]; (try simp [*, -List.all_eq_true, Try.results9]))); first | (first | refine hB.out.1 _ (fun hb => ?_) fun hb => ⟨rfl, ?_⟩ | refine hB.out.1 _ (fun hb => ?_) fun hb => ?_) <;> clear hB C B <;> (try simp only [Bool.not_true, Bool.not_false] at hb) <;> (first | (exfalso; simp at hb; done) | (exfalso; simp at hb; omega) | (rw [hb]; (try simp at hb)) | (try simp at hb)) | ((first | refine hB.out.1 _ _ ?_ | refine hB.out.1 _ ?_ | refine hB.out.2.1 _ _ _ (hj) ?_ | refine hB.out.2.2 _ _ _ (hj) ?_ | refine hB.out.2.1 _ _ _ (hwk) ?_ | refine hB.out.2.2 _ _ _ (hwk) ?_ | refine hB.out.2.1 _ _ _ (hlk) ?_ | refine hB.out.2.2 _ _ _ (hlk) ?_ | refine hB.out.2 ⟨rfl, ?_⟩); clear hB C B) | (refine hB.out.2 _ ?_; clear hB C B; (try rfl)))
             | refine rwf_o ?_ | refine rwc_o .n rfl ?_ | refine rwc_o .z rfl ?_ | refine rwc_o .w rfl ?_ | refine rwc_o .b rfl ?_ | refine rwc_o _ rfl ?_)
            exact ⟨by simp [*], rfl, by simp, by simp, by simp⟩
        · skip
          (try simp at hk)
          obtain ⟨rfl, h8, h6, h7⟩ := hI
          rw [hcl] at h6
          clear hjn hwt hne
          replace hone := Lib.hid hone
          repeat' (first
           | (with_reducible first | refine Stp.pf ?_ | refine block_x (by decide) ?_ | refine ret_n ?_)
           | refine tri_reg [] ?_ | refine tri_regc [] [] mixed (by decide +kernel) ?_
           | (refine rwf_nilt rfl (by decide +kernel) fun B hB => ?_; (try simp [*]); refine hB.out _ fun b => ?_; clear hB B)
           | (refine Rul.pf ⟨rfl, rfl⟩ fun B C hB => ?_; (try simp [*, -List.all_eq_true, Try.results9]); (try (simp (disch := first | assumption | omega) only [wc, ite_yes]; (try simp [*, -List.all_eq_true, Try.results9]))); first | (first | refine hB.out.1 _ (fun hb => ?_) fun hb => ⟨rfl, ?_⟩ | refine hB.out.1 _ (fun hb => ?_) fun hb => ?_) <;> clear hB C B <;> (try simp only [Bool.not_true, Bool.not_false] at hb) <;> (first | (exfalso; simp at hb; done) | (exfalso; simp at hb; omega) | (rw [hb]; (try simp at hb)) | (try simp at hb)) | ((first | refine hB.out.1 _ _ ?_ | refine hB.out.1 _ ?_ | refine hB.out.2.1 _ _ _ (hs) ?_ | refine hB.out.2.2 _ _ _ (hs) ?_ | refine hB.out.2.1 _ _ _ (hw) ?_ | refine hB.out.2.2 _ _ _ (hw) ?_ | refine hB.out.2 ⟨rfl, ?_⟩); clear hB C B) | (refine hB.out.2 _ ?_; clear hB C B; (try rfl)))
           | refine rwf_o ?_ | refine rwc_o .n rfl ?_ | refine rwc_o .z rfl ?_ | refine rwc_o .w rfl ?_ | refine rwc_o .b rfl ?_ | refine rwc_o _ rfl ?_)
          rw [hone.out]
          simp
end Go.Proofs.Ytemijcjgdgdhjaa
