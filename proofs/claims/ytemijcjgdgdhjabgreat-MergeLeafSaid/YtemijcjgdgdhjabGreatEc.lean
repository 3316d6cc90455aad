/- Leaves: Len, Weight, Items, place, Find, Low, Within, half, Same. -/
import Derived.Test.YtemijcjgdgdhjabGreatEb
namespace Go.Proofs.YtemijcjgdgdhjabGreat
open Go.RowKit Go.Sort
set_option linter.unusedSimpArgs false
set_option maxRecDepth 10000
theorem item_ext2 {a b : Item} (h1 : a.key = b.key) (h2 : a.val = b.val) : a = b := by cases a; cases b; simp_all
theorem cloneI_spec (l : List Item) (hl : l.length ≤ 1000000) : PSpec Tryz.prog 30 [.fs (flatI l) l.length] (.fs (flatI l) l.length) := by
  cases l with
  | nil =>
    refine spec_pureFW (by simp) ?_
    refine spec_intro Tryz.func30 good30 rfl (by simp [Tryz.ntmps30]) ?_
    repeat' (first
     | (with_reducible first | refine Stp.pf ?_ | refine block_x (by decide) ?_ | refine ret_n ?_)
     | refine tri_reg [5,7] ?_ | refine tri_regc [5,7] [] mixed (by decide +kernel) ?_
     | (refine rwf_nilt rfl (by decide +kernel) fun B hB => ?_; (try simp [*]); refine hB.out _ fun b => ?_; clear hB B)
     | (refine Rul.pf ⟨rfl, rfl⟩ fun B C hB => ?_; (try simp [*, -List.all_eq_true, flatI, flatC, Tryz.results30]); (try (simp (disch := first | assumption | omega) only [wc, ite_yes]; (try simp [*, -List.all_eq_true, flatI, flatC, Tryz.results30]))); first | (first | refine hB.out.1 _ (fun hb => ?_) fun hb => ⟨rfl, ?_⟩ | refine hB.out.1 _ (fun hb => ?_) fun hb => ?_) <;> clear hB C B <;> (try simp only [Bool.not_true, Bool.not_false] at hb) <;> (first | (exfalso; simp at hb; done) | (exfalso; simp at hb; omega) | (rw [hb]; (try simp at hb)) | (try simp at hb)) | ((first | refine hB.out.1 _ _ ?_ | refine hB.out.1 _ ?_ | refine hB.out.2 ⟨rfl, ?_⟩); clear hB C B) | (refine hB.out.2 _ ?_; clear hB C B; (try rfl)))
     | refine rwf_o ?_ | refine rwc_o .n rfl ?_ | refine rwc_o .z rfl ?_ | refine rwc_o .w rfl ?_ | refine rwc_o .b rfl ?_ | refine rwc_o _ rfl ?_)
    · exact out_flat rfl .nil
    · exact out_ms rfl rfl (by simp) rfl (.refl _)
  | cons m l =>
    simp at hl
    refine spec_pureFW (by simp) ?_
    refine spec_intro Tryz.func30 good30 rfl (by simp [Tryz.ntmps30]) ?_
    repeat' (first
     | (with_reducible first | refine Stp.pf ?_ | refine block_x (by decide) ?_ | refine ret_n ?_)
     | refine tri_reg [5,7] ?_ | refine tri_regc [5,7] [] mixed (by decide +kernel) ?_
     | (refine rwf_nilt rfl (by decide +kernel) fun B hB => ?_; (try simp [*]); refine hB.out _ fun b => ?_; clear hB B)
     | (refine Rul.pf ⟨rfl, rfl⟩ fun B C hB => ?_; (try simp [*, -List.all_eq_true, Tryz.results30]); (try (simp (disch := first | assumption | omega) only [wc, ite_yes]; (try simp [*, -List.all_eq_true, Tryz.results30]))); first | (first | refine hB.out.1 _ (fun hb => ?_) fun hb => ⟨rfl, ?_⟩ | refine hB.out.1 _ (fun hb => ?_) fun hb => ?_) <;> clear hB C B <;> (try simp only [Bool.not_true, Bool.not_false] at hb) <;> (first | (exfalso; simp at hb; done) | (exfalso; simp at hb; omega) | (rw [hb]; (try simp at hb)) | (try simp at hb)) | ((first | refine hB.out.1 _ _ ?_ | refine hB.out.1 _ ?_ | refine hB.out.2 ⟨rfl, ?_⟩); clear hB C B) | (refine hB.out.2 _ ?_; clear hB C B; (try rfl)))
     | refine rwf_o ?_ | refine rwc_o .n rfl ?_ | refine rwc_o .z rfl ?_ | refine rwc_o .w rfl ?_ | refine rwc_o .b rfl ?_ | refine rwc_o _ rfl ?_)
    exact out_ms (cs := flatI (m :: l)) rfl (by simp [List.take_of_length_le]) (by simp) (by simp) (.refl _)
theorem lItems_spec (l : List Item) (hl : l.length ≤ 1000000) : PSpec Tryz.prog 8 [.fp (cL l) 0] (.fs (flatI l) l.length) := by
  refine spec_pure (by simp) (by simp) ?_
  refine spec_intro Tryz.func8 good8 rfl (by simp [Tryz.ntmps8]) ?_
  repeat' (first
   | (with_reducible first | refine Stp.pf ?_ | refine block_x (by decide) ?_ | refine ret_n ?_)
   | refine tri_reg [] ?_ | refine tri_regc [] [] mixed (by decide +kernel) ?_
   | (refine rwf_nilt rfl (by decide +kernel) fun B hB => ?_; (try simp [*]); refine hB.out _ fun b => ?_; clear hB B)
   | (refine Rul.pf ⟨rfl, rfl⟩ fun B C hB => ?_; (try simp [*, -List.all_eq_true, cL, Tryz.results8]); (try (simp (disch := first | assumption | omega) only [wc, ite_yes]; (try simp [*, -List.all_eq_true, cL, Tryz.results8]))); first | (first | refine hB.out.1 _ (fun hb => ?_) fun hb => ⟨rfl, ?_⟩ | refine hB.out.1 _ (fun hb => ?_) fun hb => ?_) <;> clear hB C B <;> (try simp only [Bool.not_true, Bool.not_false] at hb) <;> (first | (exfalso; simp at hb; done) | (exfalso; simp at hb; omega) | (rw [hb]; (try simp at hb)) | (try simp at hb)) | ((first | refine hB.out.1 _ _ ?_ | refine hB.out.1 _ ?_ | refine hB.out.2.1 _ _ _ (cloneI_spec l hl) ?_ | refine hB.out.2.2 _ _ _ (cloneI_spec l hl) ?_ | refine hB.out.2 ⟨rfl, ?_⟩); clear hB C B) | (refine hB.out.2 _ ?_; clear hB C B; (try rfl)))
   | refine rwf_o ?_ | refine rwc_o .n rfl ?_ | refine rwc_o .z rfl ?_ | refine rwc_o .w rfl ?_ | refine rwc_o .b rfl ?_ | refine rwc_o _ rfl ?_)
def lowI (l : List Item) (k : Str) : Nat := (l.takeWhile fun x => slt x.key k).length
theorem lowI_le (l : List Item) (k : Str) : lowI l k ≤ l.length := by
  unfold lowI
  exact (List.takeWhile_prefix _).length_le
def hitI (l : List Item) (k : Str) : Bool := match l[lowI l k]? with
  | some x => decide (x.key = k)
  | none => false
theorem lowI_lt {l : List Item} (hr : RiseI l) (k : Str) (i : Nat) (h : i < l.length) : slt l[i].key k = decide (i < lowI l k) := by
  have hr2 := List.pairwise_iff_getElem.1 hr
  by_cases hi : i < lowI l k
  · have hm : l[i] ∈ l.takeWhile (fun m => slt m.key k) := by
      obtain ⟨t, ht⟩ : (l.takeWhile (fun m => slt m.key k)) <+: l := List.takeWhile_prefix _
      have h2 : (l.takeWhile (fun m => slt m.key k))[i]? = some l[i] := by
        rw [← List.getElem?_eq_getElem h]
        conv => rhs; rw [← ht, List.getElem?_append_left hi]
      exact List.mem_of_getElem? h2
    have := mem_takeW hm
    rw [decide_eq_true hi]
    exact this
  · have hll : lowI l k < l.length := by omega
    have h0 : slt l[lowI l k].key k = false := by
      have hn : ∀ x, l[lowI l k]? = some x → slt x.key k = false := by
        intro x hx
        unfold lowI at hx
        clear hi h hr hll hr2
        induction l with
        | nil => simp at hx
        | cons a l ih =>
          rw [List.takeWhile_cons] at hx
          split at hx
          · simp at hx; exact ih hx
          · simp at hx; subst hx; simp_all
      exact hn _ (List.getElem?_eq_getElem hll)
    simp only [hi, decide_false]
    rcases Nat.lt_or_ge (lowI l k) i with h1 | h1
    · cases h2 : slt l[i].key k with
      | false => rfl
      | true =>
        rw [slt_trans (hr2 _ _ hll h h1) h2] at h0; cases h0
    · obtain rfl : i = lowI l k := by omega
      exact h0
theorem searchI_spec (l : List Item) (hl : l.length ≤ 1000000) (hr : RiseI l) (x : Item) : PSpec Tryz.prog 64 [.fs (flatI l) l.length, .agg (cI x), fCmp] (.tup [.sc (.int .i64 (lowI l x.key)), .sc (.bool (hitI l x.key))]) := by
  have hcs := keyCmp_spec
  have hlow := lowI_lt hr x.key
  have hle := lowI_le l x.key
  replace hr := Lib.hid hr
  replace hlow := Lib.hid hlow
  unfold fCmp
  refine spec_pure (by simp) (by simp) ?_
  refine spec_intro Tryz.func64 good64 rfl (by simp [Tryz.ntmps64]) ?_
  repeat' (first
   | (with_reducible first | refine Stp.pf ?_ | refine block_x (by decide) ?_ | refine ret_n ?_)
   | refine tri_reg [] ?_ | refine tri_regc [] [] mixed (by decide +kernel) ?_
   | (refine rwf_nilt rfl (by decide +kernel) fun B hB => ?_; (try simp [*]); refine hB.out _ fun b => ?_; clear hB B)
   | (refine Rul.pf ⟨rfl, rfl⟩ fun B C hB => ?_; (try simp [*, -List.all_eq_true, Tryz.results64]); (try (simp (disch := first | assumption | omega) only [wc, ite_yes]; (try simp [*, -List.all_eq_true, Tryz.results64]))); first | (first | refine hB.out.1 _ (fun hb => ?_) fun hb => ⟨rfl, ?_⟩ | refine hB.out.1 _ (fun hb => ?_) fun hb => ?_) <;> clear hB C B <;> (try simp only [Bool.not_true, Bool.not_false] at hb) <;> (first | (exfalso; simp at hb; done) | (exfalso; simp at hb; omega) | (rw [hb]; (try simp at hb)) | (try simp at hb)) | ((first | refine hB.out.1 _ _ ?_ | refine hB.out.1 _ ?_ | refine hB.out.2 ⟨rfl, ?_⟩); clear hB C B) | (refine hB.out.2 _ ?_; clear hB C B; (try rfl)))
   | refine rwf_o ?_ | refine rwc_o .n rfl ?_ | refine rwc_o .z rfl ?_ | refine rwc_o .w rfl ?_ | refine rwc_o .b rfl ?_ | refine rwc_o _ rfl ?_)
  refine tri_whl [0, 2, 4, 6, 7, 8] l.length (fun m e σ => σ = [] ∧ ∃ i j : Nat, e 9 = .sc (.int .i64 i) ∧ e 10 = .sc (.int .i64 j) ∧ i ≤ lowI l x.key ∧ lowI l x.key ≤ j ∧ j ≤ l.length ∧ j - i = m) ?_ (fun m env' σ' hm hk hI => ?_)
  · exact ⟨l.length, Nat.le_refl _, by simp, 0, l.length, by simp, by simp, by simp, hle, by simp, by simp⟩
  · skip
    (try simp at hk)
    obtain ⟨rfl, i, j, h9, h10, h1, h2, h3, h4⟩ := hI
    by_cases hlt : i < j
    · have hmid : i ≤ mid i j ∧ mid i j < j := by unfold mid; omega
      have hml : mid i j < l.length := by omega
      have hcm := hlow.out (mid i j) hml
      have hkc := hcs l[mid i j] x
      have sg := flatI_seg l (mid i j) hml
      have hci : decide (cmpI l[mid i j] x < 0) = slt l[mid i j].key x.key := cmpI_lt _ _
      rw [hcm] at hci
      clear hcm
      generalize cmpI l[mid i j] x = cv at *
      generalize l[mid i j] = y at *
      generalize hmd : mid i j = md at *
      have e1 := mid_eq (i := i) (j := j) (by omega)
      have e2 := mid_eq2 (i := i) (j := j) (by omega)
      rw [hmd] at e1 e2
      cases hb : decide (md < lowI l x.key) with
      | true =>
        rw [hb, decide_eq_true_eq] at hci
        rw [decide_eq_true_eq] at hb
        clear hmd
        repeat' (first
         | (with_reducible first | refine Stp.pf ?_ | refine block_x (by decide) ?_ | refine ret_n ?_)
         | refine tri_reg [] ?_ | refine tri_regc [] [] mixed (by decide +kernel) ?_
         | (refine rwf_nilt rfl (by decide +kernel) fun B hB => ?_; (try simp [*]); refine hB.out _ fun b => ?_; clear hB B)
         | (refine Rul.pf ⟨rfl, rfl⟩ fun B C hB => ?_; (try simp [*, -List.all_eq_true, Tryz.results64]); (try (simp (disch := first | assumption | omega) only [wc, ite_yes]; (try simp [*, -List.all_eq_true, Tryz.results64]))); first | (first | refine hB.out.1 _ (fun hb => ?_) fun hb => ⟨rfl, ?_⟩ | refine hB.out.1 _ (fun hb => ?_) fun hb => ?_) <;> clear hB C B <;> (try simp only [Bool.not_true, Bool.not_false] at hb) <;> (first | (exfalso; simp at hb; done) | (exfalso; simp at hb; omega) | (rw [hb]; (try simp at hb)) | (try simp at hb)) | ((first | refine hB.out.1 _ _ ?_ | refine hB.out.1 _ ?_ | refine hB.out.2.1 _ _ _ (hkc) ?_ | refine hB.out.2.2 _ _ _ (hkc) ?_ | refine hB.out.2 ⟨rfl, ?_⟩); clear hB C B) | (refine hB.out.2 _ ?_; clear hB C B; (try rfl)))
         | refine rwf_o ?_ | refine rwc_o .n rfl ?_ | refine rwc_o .z rfl ?_ | refine rwc_o .w rfl ?_ | refine rwc_o .b rfl ?_ | refine rwc_o _ rfl ?_)
        exact ⟨by simp [*], j - (md + 1), by omega, rfl, md + 1, j, by simp [*], by simp [*], by omega, by omega, by omega, rfl⟩
      | false =>
        rw [hb, decide_eq_false_iff_not] at hci
        rw [decide_eq_false_iff_not] at hb
        clear hmd
        repeat' (first
         | (with_reducible first | refine Stp.pf ?_ | refine block_x (by decide) ?_ | refine ret_n ?_)
         | refine tri_reg [] ?_ | refine tri_regc [] [] mixed (by decide +kernel) ?_
         | (refine rwf_nilt rfl (by decide +kernel) fun B hB => ?_; (try simp [*]); refine hB.out _ fun b => ?_; clear hB B)
         | (refine Rul.pf ⟨rfl, rfl⟩ fun B C hB => ?_; (try simp [*, -List.all_eq_true, Tryz.results64]); (try (simp (disch := first | assumption | omega) only [wc, ite_yes]; (try simp [*, -List.all_eq_true, Tryz.results64]))); first | (first | refine hB.out.1 _ (fun hb => ?_) fun hb => ⟨rfl, ?_⟩ | refine hB.out.1 _ (fun hb => ?_) fun hb => ?_) <;> clear hB C B <;> (try simp only [Bool.not_true, Bool.not_false] at hb) <;> (first | (exfalso; simp at hb; done) | (exfalso; simp at hb; omega) | (rw [hb]; (try simp at hb)) | (try simp at hb)) | ((first | refine hB.out.1 _ _ ?_ | refine hB.out.1 _ ?_ | refine hB.out.2.1 _ _ _ (hkc) ?_ | refine hB.out.2.2 _ _ _ (hkc) ?_ | refine hB.out.2 ⟨rfl, ?_⟩); clear hB C B) | (refine hB.out.2 _ ?_; clear hB C B; (try rfl)))
         | refine rwf_o ?_ | refine rwc_o .n rfl ?_ | refine rwc_o .z rfl ?_ | refine rwc_o .w rfl ?_ | refine rwc_o .b rfl ?_ | refine rwc_o _ rfl ?_)
        exact ⟨by simp [*], md - i, by omega, rfl, i, md, by simp [*], by simp [*], by omega, by omega, by omega, rfl⟩
    · have hi : lowI l x.key = i := by omega
      have hj : j = i := by omega
      subst hj
      by_cases hil : j < l.length
      · have hkc := hcs l[j] x
        have sg := flatI_seg l j hil
        have hh : hitI l x.key = decide (cmpI l[j] x = 0) := by
          unfold hitI
          rw [hi, List.getElem?_eq_getElem hil]
          have := scmp_zero (a := l[j].key) (b := x.key)
          exact this.symm.trans rfl
        rw [hh, hi]
        clear hh
        generalize cmpI l[j] x = cv at *
        generalize l[j] = y at *
        repeat' (first
         | (with_reducible first | refine Stp.pf ?_ | refine block_x (by decide) ?_ | refine ret_n ?_)
         | refine tri_reg [] ?_ | refine tri_regc [] [] mixed (by decide +kernel) ?_
         | (refine rwf_nilt rfl (by decide +kernel) fun B hB => ?_; (try simp [*]); refine hB.out _ fun b => ?_; clear hB B)
         | (refine Rul.pf ⟨rfl, rfl⟩ fun B C hB => ?_; (try simp [*, -List.all_eq_true, Tryz.results64]); (try (simp (disch := first | assumption | omega) only [wc, ite_yes]; (try simp [*, -List.all_eq_true, Tryz.results64]))); first | (first | refine hB.out.1 _ (fun hb => ?_) fun hb => ⟨rfl, ?_⟩ | refine hB.out.1 _ (fun hb => ?_) fun hb => ?_) <;> clear hB C B <;> (try simp only [Bool.not_true, Bool.not_false] at hb) <;> (first | (exfalso; simp at hb; done) | (exfalso; simp at hb; omega) | (rw [hb]; (try simp at hb)) | (try simp at hb)) | ((first | refine hB.out.1 _ _ ?_ | refine hB.out.1 _ ?_ | refine hB.out.2.1 _ _ _ (hkc) ?_ | refine hB.out.2.2 _ _ _ (hkc) ?_ | refine hB.out.2 ⟨rfl, ?_⟩); clear hB C B) | (refine hB.out.2 _ ?_; clear hB C B; (try rfl)))
         | refine rwf_o ?_ | refine rwc_o .n rfl ?_ | refine rwc_o .z rfl ?_ | refine rwc_o .w rfl ?_ | refine rwc_o .b rfl ?_ | refine rwc_o _ rfl ?_)
      · have hh : hitI l x.key = false := by
          unfold hitI
          rw [hi, List.getElem?_eq_none (by omega)]
        rw [hh, hi]
        repeat' (first
         | (with_reducible first | refine Stp.pf ?_ | refine block_x (by decide) ?_ | refine ret_n ?_)
         | refine tri_reg [] ?_ | refine tri_regc [] [] mixed (by decide +kernel) ?_
         | (refine rwf_nilt rfl (by decide +kernel) fun B hB => ?_; (try simp [*]); refine hB.out _ fun b => ?_; clear hB B)
         | (refine Rul.pf ⟨rfl, rfl⟩ fun B C hB => ?_; (try simp [*, -List.all_eq_true, Tryz.results64]); (try (simp (disch := first | assumption | omega) only [wc, ite_yes]; (try simp [*, -List.all_eq_true, Tryz.results64]))); first | (first | refine hB.out.1 _ (fun hb => ?_) fun hb => ⟨rfl, ?_⟩ | refine hB.out.1 _ (fun hb => ?_) fun hb => ?_) <;> clear hB C B <;> (try simp only [Bool.not_true, Bool.not_false] at hb) <;> (first | (exfalso; simp at hb; done) | (exfalso; simp at hb; omega) | (rw [hb]; (try simp at hb)) | (try simp at hb)) | ((first | refine hB.out.1 _ _ ?_ | refine hB.out.1 _ ?_ | refine hB.out.2 ⟨rfl, ?_⟩); clear hB C B) | (refine hB.out.2 _ ?_; clear hB C B; (try rfl)))
         | refine rwf_o ?_ | refine rwc_o .n rfl ?_ | refine rwc_o .z rfl ?_ | refine rwc_o .w rfl ?_ | refine rwc_o .b rfl ?_ | refine rwc_o _ rfl ?_)
theorem lPlace_spec (l : List Item) (hl : l.length ≤ 1000000) (hr : RiseI l) (k : Str) (y : Value) : PSpec Tryz.prog 51 [.fp [.fs (flatI l) l.length, .sc y] 0, .sc (.string k)] (.tup [.sc (.int .i64 (lowI l k)), .sc (.bool (hitI l k))]) := by
  have h := searchI_spec l hl hr ⟨k, ⟨#[]⟩⟩
  unfold fCmp at h
  refine spec_pure (by simp) (by simp) ?_
  refine spec_intro Tryz.func51 good51 rfl (by simp [Tryz.ntmps51]) ?_
  repeat' (first
   | (with_reducible first | refine Stp.pf ?_ | refine block_x (by decide) ?_ | refine ret_n ?_)
   | refine tri_reg [] ?_ | refine tri_regc [] [] mixed (by decide +kernel) ?_
   | (refine rwf_nilt rfl (by decide +kernel) fun B hB => ?_; (try simp [*]); refine hB.out _ fun b => ?_; clear hB B)
   | (refine Rul.pf ⟨rfl, rfl⟩ fun B C hB => ?_; (try simp [*, -List.all_eq_true, cI, Tryz.results51]); (try (simp (disch := first | assumption | omega) only [wc, ite_yes]; (try simp [*, -List.all_eq_true, cI, Tryz.results51]))); first | (first | refine hB.out.1 _ (fun hb => ?_) fun hb => ⟨rfl, ?_⟩ | refine hB.out.1 _ (fun hb => ?_) fun hb => ?_) <;> clear hB C B <;> (try simp only [Bool.not_true, Bool.not_false] at hb) <;> (first | (exfalso; simp at hb; done) | (exfalso; simp at hb; omega) | (rw [hb]; (try simp at hb)) | (try simp at hb)) | ((first | refine hB.out.1 _ _ ?_ | refine hB.out.1 _ ?_ | refine hB.out.2.1 _ _ _ (h) ?_ | refine hB.out.2.2 _ _ _ (h) ?_ | refine hB.out.2 ⟨rfl, ?_⟩); clear hB C B) | (refine hB.out.2 _ ?_; clear hB C B; (try rfl)))
   | refine rwf_o ?_ | refine rwc_o .n rfl ?_ | refine rwc_o .z rfl ?_ | refine rwc_o .w rfl ?_ | refine rwc_o .b rfl ?_ | refine rwc_o _ rfl ?_)
theorem hit_lowI {l : List Item} {k : Str} (h : hitI l k = true) : ∃ hh : lowI l k < l.length, l[lowI l k].key = k := by
  unfold hitI at h
  split at h
  · rename_i x hx
    obtain ⟨hh, rfl⟩ := List.getElem?_eq_some_iff.1 hx
    exact ⟨hh, by simpa using h⟩
  · cases h
theorem lookI_at : ∀ {l : List Item} {k : Str}, RiseI l → ∀ i (h : i < l.length), l[i].key = k → lookI k l = some l[i].val := by
  intro l k hr i h hk
  have hsp : l = l.take i ++ l[i] :: l.drop (i + 1) := by rw [← List.drop_eq_getElem_cons h, List.take_append_drop]
  have hn : ∀ x ∈ l.drop (i + 1), x.key ≠ k := fun x hx => by
    obtain ⟨j, hj, rfl⟩ := List.mem_iff_getElem.1 hx
    rw [List.getElem_drop, ← hk]
    exact (slt_ne (List.pairwise_iff_getElem.1 hr i (i + 1 + j) h (by simp at hj; omega) (by omega))).symm
  have e : lookI k l = lookI k (l.take i ++ l[i] :: l.drop (i + 1)) := by rw [← hsp]
  rw [e, lookI_app, lookI_cons, lookI_none hn, if_pos hk]
  rfl
theorem hitI_no {l : List Item} {k : Str} (hr : RiseI l) (h : hitI l k = false) : ∀ x ∈ l, x.key ≠ k := by
  intro x hx hk
  obtain ⟨i, hi, rfl⟩ := List.mem_iff_getElem.1 hx
  have h1 := lowI_lt hr k i hi
  rw [hk, slt_irrefl] at h1
  have h1 : lowI l k ≤ i := by simpa using h1.symm
  have hle : lowI l k < l.length := by omega
  rcases Nat.lt_or_ge (lowI l k) i with h2 | h2
  · have h3 := List.pairwise_iff_getElem.1 hr _ i hle hi h2
    have h4 := lowI_lt hr k (lowI l k) hle
    rw [hk] at h3
    rw [h3] at h4
    simp at h4
  · obtain rfl : i = lowI l k := by omega
    unfold hitI at h
    rw [List.getElem?_eq_getElem hi] at h
    simp [hk] at h
theorem lookI_hit {l : List Item} {k : Str} (hr : RiseI l) : hitI l k = (lookI k l).isSome ∧ ∀ (_ : hitI l k = true) (hh : lowI l k < l.length), l[lowI l k].val = (lookI k l).getD ⟨#[]⟩ := by
  cases h : hitI l k with
  | false => rw [lookI_none (hitI_no hr h)]; exact ⟨rfl, fun h => by cases h⟩
  | true =>
    obtain ⟨hh, hk⟩ := hit_lowI h
    have := lookI_at hr _ hh hk
    rw [this]
    exact ⟨rfl, fun _ _ => rfl⟩
theorem equalI_spec (l l' : List Item) (hl : l.length ≤ 900000) (hl' : l'.length ≤ 900000) : PSpec Tryz.prog 33 [.fs (flatI l) l.length, .fs (flatI l') l'.length] (.sc (.bool (decide (l = l')))) := by
  refine spec_pure (by simp) (by simp) ?_
  refine spec_intro Tryz.func33 good33 rfl (by simp [Tryz.ntmps33]) ?_
  by_cases hne : l.length = l'.length
  · skip
    repeat' (first
     | (with_reducible first | refine Stp.pf ?_ | refine block_x (by decide) ?_ | refine ret_n ?_)
     | refine tri_reg [] ?_ | refine tri_regc [] [] mixed (by decide +kernel) ?_
     | (refine rwf_nilt rfl (by decide +kernel) fun B hB => ?_; (try simp [*]); refine hB.out _ fun b => ?_; clear hB B)
     | (refine Rul.pf ⟨rfl, rfl⟩ fun B C hB => ?_; (try simp [*, -List.all_eq_true, Tryz.results33]); (try (simp (disch := first | assumption | omega) only [wc, ite_yes]; (try simp [*, -List.all_eq_true, Tryz.results33]))); first | (first | refine hB.out.1 _ (fun hb => ?_) fun hb => ⟨rfl, ?_⟩ | refine hB.out.1 _ (fun hb => ?_) fun hb => ?_) <;> clear hB C B <;> (try simp only [Bool.not_true, Bool.not_false] at hb) <;> (first | (exfalso; simp at hb; done) | (exfalso; simp at hb; omega) | (rw [hb]; (try simp at hb)) | (try simp at hb)) | ((first | refine hB.out.1 _ _ ?_ | refine hB.out.1 _ ?_ | refine hB.out.2 ⟨rfl, ?_⟩); clear hB C B) | (refine hB.out.2 _ ?_; clear hB C B; (try rfl)))
     | refine rwf_o ?_ | refine rwc_o .n rfl ?_ | refine rwc_o .z rfl ?_ | refine rwc_o .w rfl ?_ | refine rwc_o .b rfl ?_ | refine rwc_o _ rfl ?_)
    refine tri_for [0, 1, 12] l.length (fun k e σ => σ = [] ∧ e 13 = .sc (.int .i64 k) ∧ l.take k = l'.take k) ?_ (fun k env' σ' hlt hk hI => ?_) (fun env' σ' hk hI => ?_)
    · exact ⟨by simp, by simp, by simp⟩
    · skip
      (try simp at hk)
      obtain ⟨rfl, h13, heq⟩ := hI
      have hlt' : k < l'.length := by omega
      by_cases hx : l[k] = l'[k]
      · skip
        repeat' (first
         | (with_reducible first | refine Stp.pf ?_ | refine block_x (by decide) ?_ | refine ret_n ?_)
         | refine tri_reg [] ?_ | refine tri_regc [] [] mixed (by decide +kernel) ?_
         | (refine rwf_nilt rfl (by decide +kernel) fun B hB => ?_; (try simp [*]); refine hB.out _ fun b => ?_; clear hB B)
         | (refine Rul.pf ⟨rfl, rfl⟩ fun B C hB => ?_; (try simp [*, -List.all_eq_true, cI, Tryz.results33]); (try (simp (disch := first | assumption | omega) only [wc, ite_yes]; (try simp [*, -List.all_eq_true, cI, Tryz.results33]))); first | (first | refine hB.out.1 _ (fun hb => ?_) fun hb => ⟨rfl, ?_⟩ | refine hB.out.1 _ (fun hb => ?_) fun hb => ?_) <;> clear hB C B <;> (try simp only [Bool.not_true, Bool.not_false] at hb) <;> (first | (exfalso; simp at hb; done) | (exfalso; simp at hb; omega) | (rw [hb]; (try simp at hb)) | (try simp at hb)) | ((first | refine hB.out.1 _ _ ?_ | refine hB.out.1 _ ?_ | refine hB.out.2 ⟨rfl, ?_⟩); clear hB C B) | (refine hB.out.2 _ ?_; clear hB C B; (try rfl)))
         | refine rwf_o ?_ | refine rwc_o .n rfl ?_ | refine rwc_o .z rfl ?_ | refine rwc_o .w rfl ?_ | refine rwc_o .b rfl ?_ | refine rwc_o _ rfl ?_)
        exact ⟨by simp [*], rfl, by simp, by rw [List.take_add_one, List.take_add_one, List.getElem?_eq_getElem hlt, List.getElem?_eq_getElem hlt', heq, hx]⟩
      · have hll : ¬ l = l' := fun e => hx (by subst e; rfl)
        repeat' (first
         | (with_reducible first | refine Stp.pf ?_ | refine block_x (by decide) ?_ | refine ret_n ?_)
         | refine tri_reg [] ?_ | refine tri_regc [] [] mixed (by decide +kernel) ?_
         | (refine rwf_nilt rfl (by decide +kernel) fun B hB => ?_; (try simp [*]); refine hB.out _ fun b => ?_; clear hB B)
         | (refine Rul.pf ⟨rfl, rfl⟩ fun B C hB => ?_; (try simp [*, -List.all_eq_true, cI, Tryz.results33]); (try (simp (disch := first | assumption | omega) only [wc, ite_yes]; (try simp [*, -List.all_eq_true, cI, Tryz.results33]))); first | (first | refine hB.out.1 _ (fun hb => ?_) fun hb => ⟨rfl, ?_⟩ | refine hB.out.1 _ (fun hb => ?_) fun hb => ?_) <;> clear hB C B <;> (try simp only [Bool.not_true, Bool.not_false] at hb) <;> (first | (exfalso; simp at hb; done) | (exfalso; simp at hb; omega) | (rw [hb]; (try simp at hb)) | (try simp at hb)) | ((first | refine hB.out.1 _ _ ?_ | refine hB.out.1 _ ?_ | refine hB.out.2 ⟨rfl, ?_⟩); clear hB C B) | (refine hB.out.2 _ ?_; clear hB C B; (try rfl)))
         | refine rwf_o ?_ | refine rwc_o .n rfl ?_ | refine rwc_o .z rfl ?_ | refine rwc_o .w rfl ?_ | refine rwc_o .b rfl ?_ | refine rwc_o _ rfl ?_)
        · simp [hll]
        · exact absurd (item_ext2 hb.1 hb.2) hx
    · skip
      (try simp at hk)
      obtain ⟨rfl, h13, heq⟩ := hI
      rw [List.take_of_length_le (by omega), List.take_of_length_le (by omega)] at heq
      repeat' (first
       | (with_reducible first | refine Stp.pf ?_ | refine block_x (by decide) ?_ | refine ret_n ?_)
       | refine tri_reg [] ?_ | refine tri_regc [] [] mixed (by decide +kernel) ?_
       | (refine rwf_nilt rfl (by decide +kernel) fun B hB => ?_; (try simp [*]); refine hB.out _ fun b => ?_; clear hB B)
       | (refine Rul.pf ⟨rfl, rfl⟩ fun B C hB => ?_; (try simp [*, -List.all_eq_true, Tryz.results33]); (try (simp (disch := first | assumption | omega) only [wc, ite_yes]; (try simp [*, -List.all_eq_true, Tryz.results33]))); first | (first | refine hB.out.1 _ (fun hb => ?_) fun hb => ⟨rfl, ?_⟩ | refine hB.out.1 _ (fun hb => ?_) fun hb => ?_) <;> clear hB C B <;> (try simp only [Bool.not_true, Bool.not_false] at hb) <;> (first | (exfalso; simp at hb; done) | (exfalso; simp at hb; omega) | (rw [hb]; (try simp at hb)) | (try simp at hb)) | ((first | refine hB.out.1 _ _ ?_ | refine hB.out.1 _ ?_ | refine hB.out.2 ⟨rfl, ?_⟩); clear hB C B) | (refine hB.out.2 _ ?_; clear hB C B; (try rfl)))
       | refine rwf_o ?_ | refine rwc_o .n rfl ?_ | refine rwc_o .z rfl ?_ | refine rwc_o .w rfl ?_ | refine rwc_o .b rfl ?_ | refine rwc_o _ rfl ?_)
      simp [heq]
  · have hll : ¬ l = l' := fun e => hne (by rw [e])
    repeat' (first
     | (with_reducible first | refine Stp.pf ?_ | refine block_x (by decide) ?_ | refine ret_n ?_)
     | refine tri_reg [] ?_ | refine tri_regc [] [] mixed (by decide +kernel) ?_
     | (refine rwf_nilt rfl (by decide +kernel) fun B hB => ?_; (try simp [*]); refine hB.out _ fun b => ?_; clear hB B)
     | (refine Rul.pf ⟨rfl, rfl⟩ fun B C hB => ?_; (try simp [*, -List.all_eq_true, Tryz.results33]); (try (simp (disch := first | assumption | omega) only [wc, ite_yes]; (try simp [*, -List.all_eq_true, Tryz.results33]))); first | (first | refine hB.out.1 _ (fun hb => ?_) fun hb => ⟨rfl, ?_⟩ | refine hB.out.1 _ (fun hb => ?_) fun hb => ?_) <;> clear hB C B <;> (try simp only [Bool.not_true, Bool.not_false] at hb) <;> (first | (exfalso; simp at hb; done) | (exfalso; simp at hb; omega) | (rw [hb]; (try simp at hb)) | (try simp at hb)) | ((first | refine hB.out.1 _ _ ?_ | refine hB.out.1 _ ?_ | refine hB.out.2 ⟨rfl, ?_⟩); clear hB C B) | (refine hB.out.2 _ ?_; clear hB C B; (try rfl)))
     | refine rwf_o ?_ | refine rwc_o .n rfl ?_ | refine rwc_o .z rfl ?_ | refine rwc_o .w rfl ?_ | refine rwc_o .b rfl ?_ | refine rwc_o _ rfl ?_)
    simp [hll]
theorem lSame_spec (l l' : List Item) (hl : l.length ≤ 900000) (hl' : l'.length ≤ 900000) : PSpec Tryz.prog 10 [.fp (cL l) 0, .fp (cL l') 0] (.sc (.bool (decide (l = l')))) := by
  refine spec_pure (by simp) (by simp) ?_
  refine spec_intro Tryz.func10 good10 rfl (by simp [Tryz.ntmps10]) ?_
  repeat' (first
   | (with_reducible first | refine Stp.pf ?_ | refine block_x (by decide) ?_ | refine ret_n ?_)
   | refine tri_reg [] ?_ | refine tri_regc [] [] mixed (by decide +kernel) ?_
   | (refine rwf_nilt rfl (by decide +kernel) fun B hB => ?_; (try simp [*]); refine hB.out _ fun b => ?_; clear hB B)
   | (refine Rul.pf ⟨rfl, rfl⟩ fun B C hB => ?_; (try simp [*, -List.all_eq_true, cL, Tryz.results10]); (try (simp (disch := first | assumption | omega) only [wc, ite_yes]; (try simp [*, -List.all_eq_true, cL, Tryz.results10]))); first | (first | refine hB.out.1 _ (fun hb => ?_) fun hb => ⟨rfl, ?_⟩ | refine hB.out.1 _ (fun hb => ?_) fun hb => ?_) <;> clear hB C B <;> (try simp only [Bool.not_true, Bool.not_false] at hb) <;> (first | (exfalso; simp at hb; done) | (exfalso; simp at hb; omega) | (rw [hb]; (try simp at hb)) | (try simp at hb)) | ((first | refine hB.out.1 _ _ ?_ | refine hB.out.1 _ ?_ | refine hB.out.2.1 _ _ _ (equalI_spec l l' hl hl') ?_ | refine hB.out.2.2 _ _ _ (equalI_spec l l' hl hl') ?_ | refine hB.out.2 ⟨rfl, ?_⟩); clear hB C B) | (refine hB.out.2 _ ?_; clear hB C B; (try rfl)))
   | refine rwf_o ?_ | refine rwc_o .n rfl ?_ | refine rwc_o .z rfl ?_ | refine rwc_o .w rfl ?_ | refine rwc_o .b rfl ?_ | refine rwc_o _ rfl ?_)
end Go.Proofs.YtemijcjgdgdhjabGreat
