/- The law BuffDoes. -/
import Derived.Test.YtemijcjgdgdhjaaGreatPbd
import Derived.Test.YtemijcjgdgdhjaaGreatWv
import Derived.Test.YtemijcjgdgdhjaaGreatEi
namespace Go.Proofs.YtemijcjgdgdhjaaGreat
open Go.RowKit
set_option linter.unusedSimpArgs false
set_option maxRecDepth 10000
theorem look_hit {l : List Msg} (hr : Rise l) (k : Str) : lookM k l = if hit l k = true then some (foundM l k) else none := by
  cases hh : hit l k with
  | true =>
    obtain ⟨h1, h2, h3⟩ := hit_low hh
    rw [if_pos rfl]
    have hu : ∀ x ∈ l, x.key = k → x = foundM l k := fun x hx hk => by
      obtain ⟨i, hi, rfl⟩ := List.mem_iff_getElem.1 hx
      rw [h3]
      rcases Nat.lt_trichotomy i (low l k) with h | h | h
      · have := slt_ne (hr i (low l k) _ _ h (List.getElem?_eq_getElem hi) (List.getElem?_eq_getElem h1))
        rw [hk, h2] at this; exact absurd rfl this
      · subst h; rfl
      · have := slt_ne (hr (low l k) i _ _ h (List.getElem?_eq_getElem h1) (List.getElem?_eq_getElem hi))
        rw [hk, h2] at this; exact absurd rfl this
    cases hl : lookM k l with
    | none =>
      unfold lookM at hl
      rw [List.find?_eq_none] at hl
      have := hl _ (List.getElem_mem h1)
      simp [h2] at this
    | some x =>
      unfold lookM at hl
      have hm := List.mem_of_find?_eq_some hl
      have hp := List.find?_some hl
      rw [hu x hm (by simpa using hp)]
  | false =>
    rw [if_neg (by simp)]
    refine lookM_none fun x hx hk => ?_
    obtain ⟨i, hi, rfl⟩ := List.mem_iff_getElem.1 hx
    have hlt := low_lt hr k i hi
    rw [hk, slt_irrefl] at hlt
    have hge : low l k ≤ i := by simpa using hlt.symm
    rcases Nat.lt_or_ge (low l k) i with h | h
    · have h4 := low_lt hr k (low l k) (by omega)
      have h5 := hr (low l k) i _ _ h (List.getElem?_eq_getElem (by omega)) (List.getElem?_eq_getElem hi)
      rw [hk] at h5
      rw [h5] at h4
      simp at h4
    · have e : low l k = i := by omega
      have hk2 : (l[low l k]'(by omega)).key = k := by simpa [e] using hk
      unfold hit at hh
      rw [List.getElem?_eq_getElem (by omega)] at hh
      simp [hk2] at hh
theorem putsK_one {l : List Msg} {j : Nat} (k : Str) (s : Option Str) (h : j < l.length) : putsK k (l.take (j + 1)) s = if l[j].key = k then actM (putsK k (l.take j) s) l[j] else putsK k (l.take j) s := by
  unfold putsK
  rw [List.take_add_one, List.getElem?_eq_getElem h, List.foldl_append]
  rfl
set_option maxHeartbeats 4000000 in
theorem buffDoes_spec (list : List Msg) (items : List Item) (k val : Str) (has : Bool) (hm : list.length ≤ 9223372036854775807) (hi : items.length ≤ 9223372036854775807) : PSpec Tryz.prog 4 [.fs (flatM list) list.length, .fs (flatI items) items.length, .sc (.string k), .sc (.string val), .sc (.bool has)] (.sc (.bool true)) := by
  have a1 := awake_spec
  have g1 := heavy_spec list hm
  cases hh : heavyM list with
  | true =>
    rw [hh] at g1
    refine spec_pure (by simp) (by simp) ?_
    refine spec_intro Tryz.func4 good4 rfl (by simp [Tryz.ntmps4]) ?_
    repeat' (first
     | (with_reducible first | refine Stp.pf ?_ | refine block_x (by decide) ?_ | refine ret_n ?_)
     | refine tri_reg [] ?_ | refine tri_regc [] [] mixed (by decide +kernel) ?_
     | (refine rwf_nilt rfl (by decide +kernel) fun B hB => ?_; (try simp [*]); refine hB.out _ fun b => ?_; clear hB B)
     | (refine Rul.pf ⟨rfl, rfl⟩ fun B C hB => ?_; (try simp [*, -List.all_eq_true, Tryz.results4]); (try (simp (disch := first | assumption | omega) only [wc, ite_yes]; (try simp [*, -List.all_eq_true, Tryz.results4]))); first | (first | refine hB.out.1 _ (fun hb => ?_) fun hb => ⟨rfl, ?_⟩ | refine hB.out.1 _ (fun hb => ?_) fun hb => ?_) <;> clear hB C B <;> (try simp only [Bool.not_true, Bool.not_false] at hb) <;> (first | (exfalso; simp at hb; done) | (exfalso; simp at hb; omega) | (rw [hb]; (try simp at hb)) | (try simp at hb)) | ((first | refine hB.out.1 _ _ ?_ | refine hB.out.1 _ ?_ | refine hB.out.2.1 _ _ _ (a1) ?_ | refine hB.out.2.2 _ _ _ (a1) ?_ | refine hB.out.2.1 _ _ _ (g1) ?_ | refine hB.out.2.2 _ _ _ (g1) ?_ | refine hB.out.2 ⟨rfl, ?_⟩); clear hB C B) | (refine hB.out.2 _ ?_; clear hB C B; (try rfl)))
     | refine rwf_o ?_ | refine rwc_o .n rfl ?_ | refine rwc_o .z rfl ?_ | refine rwc_o .w rfl ?_ | refine rwc_o .b rfl ?_ | refine rwc_o _ rfl ?_)
  | false =>
    rw [hh] at g1
    by_cases hi30 : items.length ≤ 30
    · obtain ⟨y2, y3⟩ := heavyM_no hh
      have o1 := bOf_spec list (by omega)
      unfold withR at o1
      cases hv : list.all isMsg with
      | false =>
        rw [hv, if_neg (by simp)] at o1
        refine spec_pure (by simp) (by simp) ?_
        refine spec_intro Tryz.func4 good4 rfl (by simp [Tryz.ntmps4]) ?_
        repeat' (first
         | (with_reducible first | refine Stp.pf ?_ | refine block_x (by decide) ?_ | refine ret_n ?_)
         | refine tri_reg [] ?_ | refine tri_regc [] [] mixed (by decide +kernel) ?_
         | (refine rwf_nilt rfl (by decide +kernel) fun B hB => ?_; (try simp [*]); refine hB.out _ fun b => ?_; clear hB B)
         | (refine Rul.pf ⟨rfl, rfl⟩ fun B C hB => ?_; (try simp [*, -List.all_eq_true, Tryz.results4]); (try (simp (disch := first | assumption | omega) only [wc, ite_yes]; (try simp [*, -List.all_eq_true, Tryz.results4]))); first | (first | refine hB.out.1 _ (fun hb => ?_) fun hb => ⟨rfl, ?_⟩ | refine hB.out.1 _ (fun hb => ?_) fun hb => ?_) <;> clear hB C B <;> (try simp only [Bool.not_true, Bool.not_false] at hb) <;> (first | (exfalso; simp at hb; done) | (exfalso; simp at hb; omega) | (rw [hb]; (try simp at hb)) | (try simp at hb)) | ((first | refine hB.out.1 _ _ ?_ | refine hB.out.1 _ ?_ | refine hB.out.2.1 _ _ _ (a1) ?_ | refine hB.out.2.2 _ _ _ (a1) ?_ | refine hB.out.2.1 _ _ _ (g1) ?_ | refine hB.out.2.2 _ _ _ (g1) ?_ | refine hB.out.2.1 _ _ _ (o1) ?_ | refine hB.out.2.2 _ _ _ (o1) ?_ | refine hB.out.2 ⟨rfl, ?_⟩); clear hB C B) | (refine hB.out.2 _ ?_; clear hB C B; (try rfl)))
         | refine rwf_o ?_ | refine rwc_o .n rfl ?_ | refine rwc_o .z rfl ?_ | refine rwc_o .w rfl ?_ | refine rwc_o .b rfl ?_ | refine rwc_o _ rfl ?_)
      | true =>
        rw [hv, if_pos rfl] at o1
        have hv2 := List.all_eq_true.1 hv
        obtain ⟨w1, w2, w3⟩ := withM_ok list [] rise_nil (by simp) hv2
        have f1 := bFind_spec (withM [] list) (by simp at w3; omega) w1 k
        have f2 := bList_spec (withM [] list) (by simp at w3; omega)
        obtain ⟨s0, hs0⟩ : ∃ s0 : Option Str, s0 = if has = true then some val else none := ⟨_, rfl⟩
        have hfd := puts_found (k := k) hv2 s0
        rw [look_hit w1] at hfd
        have hlf : (leafR items = .tup [.sc (.pointer none), .sc (.int .i64 1)] ∨ leafR items = .tup [.sc (.pointer none), .sc (.int .i64 11)]) ∨ ∃ l X : List Item, leafR items = .tup [.fp (cL l) 0, .sc (.int .i64 0)] ∧ PSpec Tryz.prog 21 [.fp (cL l) 0, .fs (flatM list) list.length] (.tup [.fp (cL X) 0, .sc (.int .i64 0)]) ∧ PSpec Tryz.prog 21 [.fp (cL l) 0, .fs (flatM (withM [] list)) (withM [] list).length] (.tup [.fp (cL X) 0, .sc (.int .i64 0)]) ∧ PSpec Tryz.prog 25 [.fp (cL X) 0, .fp (cL X) 0] (.sc (.bool true)) := by
          cases hok : items.all okI with
          | false => exact .inl (.inl (by simp [leafR, hok]))
          | true =>
            cases hof : ofL items with
            | none => exact .inl (.inr (by simp [leafR, hok, hof]))
            | some l =>
              obtain ⟨hr, hp⟩ := ofL_some hof
              have hlo := ofL_all hof hok
              have hll := hp.length_eq
              have p1 := lWith_spec l list (by omega) hr hlo
              have p2 := lWith_spec l (withM [] list) (by simp at w3; omega) hr hlo
              unfold lwithR at p1 p2
              rw [hv, if_pos rfl] at p1
              rw [if_pos (List.all_eq_true.2 w2), with_found hr hlo hv2] at p2
              have w4 := (withI_ok list l hr hlo hv2).2.2.1
              have s1 := lSame_spec (withI l list) (withI l list) (by omega) (by omega)
              rw [decide_eq_true rfl] at s1
              exact .inr ⟨l, withI l list, by simp [leafR, hok, hof], p1, p2, s1⟩
        have o2 := lOf_spec items (by omega)
        have hap : hit (withM [] list) k = true → PSpec Tryz.prog 29 [.agg (cM (foundM (withM [] list) k)), .sc (.string (s0.getD ⟨#[]⟩)), .sc (.bool s0.isSome)] (.tup [.sc (.string ((putsK k list s0).getD ⟨#[]⟩)), .sc (.bool (putsK k list s0).isSome)]) := fun h => by
          have q := mApply_spec (foundM (withM [] list) k) (s0.getD ⟨#[]⟩) s0.isSome
          rw [(act_pair s0 _).1, (act_pair s0 _).2] at q
          rw [h, if_pos rfl] at hfd
          rw [hfd]
          exact q
        have hno : hit (withM [] list) k = false → putsK k list s0 = s0 := fun h => by
          rw [h, if_neg (by simp)] at hfd
          exact hfd
        clear hfd w1 w2 w3
        generalize hF : foundM (withM [] list) k = m at *
        generalize hH : hit (withM [] list) k = H at *
        clear hF hH hv hv2
        generalize withM [] list = F at *
        have hv0 : (if has = true then val else (⟨#[]⟩ : Str)) = s0.getD ⟨#[]⟩ ∧ s0.isSome = has := by subst hs0; cases has <;> simp
        replace hap := Lib.hid hap
        replace hno := Lib.hid hno
        replace hs0 := Lib.hid hs0
        replace hlf := Lib.hid hlf
        obtain ⟨hv1, hv3⟩ := hv0
        cases has with
        | true =>
          simp only [if_true] at hv1
          subst hv1
          refine spec_pure (by simp) (by simp) ?_
          refine spec_intro Tryz.func4 good4 rfl (by simp [Tryz.ntmps4]) ?_
          repeat' (first
           | (with_reducible first | refine Stp.pf ?_ | refine block_x (by decide) ?_ | refine ret_n ?_)
           | refine tri_reg [] ?_ | refine tri_regc [] [] mixed (by decide +kernel) ?_
           | (refine rwf_nilt rfl (by decide +kernel) fun B hB => ?_; (try simp [*]); refine hB.out _ fun b => ?_; clear hB B)
           | (refine Rul.pf ⟨rfl, rfl⟩ fun B C hB => ?_; (try simp [*, -List.all_eq_true, Tryz.results4]); (try (simp (disch := first | assumption | omega) only [wc, ite_yes]; (try simp [*, -List.all_eq_true, Tryz.results4]))); first | (first | refine hB.out.1 _ (fun hb => ?_) fun hb => ⟨rfl, ?_⟩ | refine hB.out.1 _ (fun hb => ?_) fun hb => ?_) <;> clear hB C B <;> (try simp only [Bool.not_true, Bool.not_false] at hb) <;> (first | (exfalso; simp at hb; done) | (exfalso; simp at hb; omega) | (rw [hb]; (try simp at hb)) | (try simp at hb)) | ((first | refine hB.out.1 _ _ ?_ | refine hB.out.1 _ ?_ | refine hB.out.2.1 _ _ _ (a1) ?_ | refine hB.out.2.2 _ _ _ (a1) ?_ | refine hB.out.2.1 _ _ _ (g1) ?_ | refine hB.out.2.2 _ _ _ (g1) ?_ | refine hB.out.2.1 _ _ _ (o1) ?_ | refine hB.out.2.2 _ _ _ (o1) ?_ | refine hB.out.2 ⟨rfl, ?_⟩); clear hB C B) | (refine hB.out.2 _ ?_; clear hB C B; (try rfl)))
           | refine rwf_o ?_ | refine rwc_o .n rfl ?_ | refine rwc_o .z rfl ?_ | refine rwc_o .w rfl ?_ | refine rwc_o .b rfl ?_ | refine rwc_o _ rfl ?_)
          refine tri_for [0, 1, 2, 3, 4, 10, 11] list.length (fun k_ e σ => σ = [] ∧ e 15 = .sc (.int .i64 k_) ∧ e 13 = .sc (.string ((putsK k (list.take k_) s0).getD ⟨#[]⟩)) ∧ e 14 = .sc (.bool (putsK k (list.take k_) s0).isSome)) ?_ (fun j env' σ' hlt hk hI => ?_) (fun env' σ' hk hI => ?_)
          · exact ⟨by simp, by simp, by simp [putsK, *], by simp [putsK, *]⟩
          · skip
            (try simp at hk)
            obtain ⟨rfl, h15, h13, h14⟩ := hI
            have hp1 := putsK_one k s0 hlt
            have ap := act_pair (putsK k (list.take j) s0) list[j]
            have has := mApply_spec list[j] ((putsK k (list.take j) s0).getD ⟨#[]⟩) (putsK k (list.take j) s0).isSome
            rw [ap.1, ap.2] at has
            have sg := flatM_seg list j hlt
            have sg1 := flatM_1 list j hlt
            clear ap
            rw [hp1]
            clear hp1
            generalize putsK k (list.take j) s0 = s1 at *
            generalize hs2 : actM s1 list[j] = s2 at *
            by_cases hkey : list[j].key = k
            · rw [if_pos hkey]
              repeat' (first
               | (with_reducible first | refine Stp.pf ?_ | refine block_x (by decide) ?_ | refine ret_n ?_)
               | refine tri_reg [] ?_ | refine tri_regc [] [] mixed (by decide +kernel) ?_
               | (refine rwf_nilt rfl (by decide +kernel) fun B hB => ?_; (try simp [*]); refine hB.out _ fun b => ?_; clear hB B)
               | (refine Rul.pf ⟨rfl, rfl⟩ fun B C hB => ?_; (try simp [*, -List.all_eq_true, Tryz.results4]); (try (simp (disch := first | assumption | omega) only [wc, ite_yes]; (try simp [*, -List.all_eq_true, Tryz.results4]))); first | (first | refine hB.out.1 _ (fun hb => ?_) fun hb => ⟨rfl, ?_⟩ | refine hB.out.1 _ (fun hb => ?_) fun hb => ?_) <;> clear hB C B <;> (try simp only [Bool.not_true, Bool.not_false] at hb) <;> (first | (exfalso; simp at hb; done) | (exfalso; simp at hb; omega) | (rw [hb]; (try simp at hb)) | (try simp at hb)) | ((first | refine hB.out.1 _ _ ?_ | refine hB.out.1 _ ?_ | refine hB.out.2.1 _ _ _ (has) ?_ | refine hB.out.2.2 _ _ _ (has) ?_ | refine hB.out.2 ⟨rfl, ?_⟩); clear hB C B) | (refine hB.out.2 _ ?_; clear hB C B; (try rfl)))
               | refine rwf_o ?_ | refine rwc_o .n rfl ?_ | refine rwc_o .z rfl ?_ | refine rwc_o .w rfl ?_ | refine rwc_o .b rfl ?_ | refine rwc_o _ rfl ?_)
              exact ⟨by simp [*], rfl, by simp, by simp, by simp⟩
            · rw [if_neg hkey]
              repeat' (first
               | (with_reducible first | refine Stp.pf ?_ | refine block_x (by decide) ?_ | refine ret_n ?_)
               | refine tri_reg [] ?_ | refine tri_regc [] [] mixed (by decide +kernel) ?_
               | (refine rwf_nilt rfl (by decide +kernel) fun B hB => ?_; (try simp [*]); refine hB.out _ fun b => ?_; clear hB B)
               | (refine Rul.pf ⟨rfl, rfl⟩ fun B C hB => ?_; (try simp [*, -List.all_eq_true, Tryz.results4]); (try (simp (disch := first | assumption | omega) only [wc, ite_yes]; (try simp [*, -List.all_eq_true, Tryz.results4]))); first | (first | refine hB.out.1 _ (fun hb => ?_) fun hb => ⟨rfl, ?_⟩ | refine hB.out.1 _ (fun hb => ?_) fun hb => ?_) <;> clear hB C B <;> (try simp only [Bool.not_true, Bool.not_false] at hb) <;> (first | (exfalso; simp at hb; done) | (exfalso; simp at hb; omega) | (rw [hb]; (try simp at hb)) | (try simp at hb)) | ((first | refine hB.out.1 _ _ ?_ | refine hB.out.1 _ ?_ | refine hB.out.2.1 _ _ _ (has) ?_ | refine hB.out.2.2 _ _ _ (has) ?_ | refine hB.out.2 ⟨rfl, ?_⟩); clear hB C B) | (refine hB.out.2 _ ?_; clear hB C B; (try rfl)))
               | refine rwf_o ?_ | refine rwc_o .n rfl ?_ | refine rwc_o .z rfl ?_ | refine rwc_o .w rfl ?_ | refine rwc_o .b rfl ?_ | refine rwc_o _ rfl ?_)
              exact ⟨by simp [*], rfl, by simp, by simp [*], by simp [*]⟩
          · skip
            (try simp at hk)
            obtain ⟨rfl, h15, h13, h14⟩ := hI
            rw [List.take_length] at h13 h14
            generalize putsK k list s0 = s1 at *
            cases H with
            | true =>
              have hap := hap.out rfl
              rw [hv3] at hap
              have htk : List.take 3 (cM m) = cM m := rfl
              rcases hlf.out with (e1 | e1) | ⟨l, X, e1, p1, p2, q1⟩
              · rw [e1] at o2
                repeat' (first
                 | (with_reducible first | refine Stp.pf ?_ | refine block_x (by decide) ?_ | refine ret_n ?_)
                 | refine tri_reg [] ?_ | refine tri_regc [] [] mixed (by decide +kernel) ?_
                 | (refine rwf_nilt rfl (by decide +kernel) fun B hB => ?_; (try simp [*]); refine hB.out _ fun b => ?_; clear hB B)
                 | (refine Rul.pf ⟨rfl, rfl⟩ fun B C hB => ?_; (try simp [*, -List.all_eq_true, Tryz.results4]); (try (simp (disch := first | assumption | omega) only [wc, ite_yes]; (try simp [*, -List.all_eq_true, Tryz.results4]))); first | (first | refine hB.out.1 _ (fun hb => ?_) fun hb => ⟨rfl, ?_⟩ | refine hB.out.1 _ (fun hb => ?_) fun hb => ?_) <;> clear hB C B <;> (try simp only [Bool.not_true, Bool.not_false] at hb) <;> (first | (exfalso; simp at hb; done) | (exfalso; simp at hb; omega) | (rw [hb]; (try simp at hb)) | (try simp at hb)) | ((first | refine hB.out.1 _ _ ?_ | refine hB.out.1 _ ?_ | refine hB.out.2.1 _ _ _ (f1) ?_ | refine hB.out.2.2 _ _ _ (f1) ?_ | refine hB.out.2.1 _ _ _ (hap) ?_ | refine hB.out.2.2 _ _ _ (hap) ?_ | refine hB.out.2.1 _ _ _ (o2) ?_ | refine hB.out.2.2 _ _ _ (o2) ?_ | refine hB.out.2 ⟨rfl, ?_⟩); clear hB C B) | (refine hB.out.2 _ ?_; clear hB C B; (try rfl)))
                 | refine rwf_o ?_ | refine rwc_o .n rfl ?_ | refine rwc_o .z rfl ?_ | refine rwc_o .w rfl ?_ | refine rwc_o .b rfl ?_ | refine rwc_o _ rfl ?_)
              · rw [e1] at o2
                repeat' (first
                 | (with_reducible first | refine Stp.pf ?_ | refine block_x (by decide) ?_ | refine ret_n ?_)
                 | refine tri_reg [] ?_ | refine tri_regc [] [] mixed (by decide +kernel) ?_
                 | (refine rwf_nilt rfl (by decide +kernel) fun B hB => ?_; (try simp [*]); refine hB.out _ fun b => ?_; clear hB B)
                 | (refine Rul.pf ⟨rfl, rfl⟩ fun B C hB => ?_; (try simp [*, -List.all_eq_true, Tryz.results4]); (try (simp (disch := first | assumption | omega) only [wc, ite_yes]; (try simp [*, -List.all_eq_true, Tryz.results4]))); first | (first | refine hB.out.1 _ (fun hb => ?_) fun hb => ⟨rfl, ?_⟩ | refine hB.out.1 _ (fun hb => ?_) fun hb => ?_) <;> clear hB C B <;> (try simp only [Bool.not_true, Bool.not_false] at hb) <;> (first | (exfalso; simp at hb; done) | (exfalso; simp at hb; omega) | (rw [hb]; (try simp at hb)) | (try simp at hb)) | ((first | refine hB.out.1 _ _ ?_ | refine hB.out.1 _ ?_ | refine hB.out.2.1 _ _ _ (f1) ?_ | refine hB.out.2.2 _ _ _ (f1) ?_ | refine hB.out.2.1 _ _ _ (hap) ?_ | refine hB.out.2.2 _ _ _ (hap) ?_ | refine hB.out.2.1 _ _ _ (o2) ?_ | refine hB.out.2.2 _ _ _ (o2) ?_ | refine hB.out.2 ⟨rfl, ?_⟩); clear hB C B) | (refine hB.out.2 _ ?_; clear hB C B; (try rfl)))
                 | refine rwf_o ?_ | refine rwc_o .n rfl ?_ | refine rwc_o .z rfl ?_ | refine rwc_o .w rfl ?_ | refine rwc_o .b rfl ?_ | refine rwc_o _ rfl ?_)
              · rw [e1] at o2
                repeat' (first
                 | (with_reducible first | refine Stp.pf ?_ | refine block_x (by decide) ?_ | refine ret_n ?_)
                 | refine tri_reg [] ?_ | refine tri_regc [] [] mixed (by decide +kernel) ?_
                 | (refine rwf_nilt rfl (by decide +kernel) fun B hB => ?_; (try simp [*]); refine hB.out _ fun b => ?_; clear hB B)
                 | (refine Rul.pf ⟨rfl, rfl⟩ fun B C hB => ?_; (try simp [*, -List.all_eq_true, Tryz.results4]); (try (simp (disch := first | assumption | omega) only [wc, ite_yes]; (try simp [*, -List.all_eq_true, Tryz.results4]))); first | (first | refine hB.out.1 _ (fun hb => ?_) fun hb => ⟨rfl, ?_⟩ | refine hB.out.1 _ (fun hb => ?_) fun hb => ?_) <;> clear hB C B <;> (try simp only [Bool.not_true, Bool.not_false] at hb) <;> (first | (exfalso; simp at hb; done) | (exfalso; simp at hb; omega) | (rw [hb]; (try simp at hb)) | (try simp at hb)) | ((first | refine hB.out.1 _ _ ?_ | refine hB.out.1 _ ?_ | refine hB.out.2.1 _ _ _ (f1) ?_ | refine hB.out.2.2 _ _ _ (f1) ?_ | refine hB.out.2.1 _ _ _ (hap) ?_ | refine hB.out.2.2 _ _ _ (hap) ?_ | refine hB.out.2.1 _ _ _ (o2) ?_ | refine hB.out.2.2 _ _ _ (o2) ?_ | refine hB.out.2.1 _ _ _ (p1) ?_ | refine hB.out.2.2 _ _ _ (p1) ?_ | refine hB.out.2.1 _ _ _ (p2) ?_ | refine hB.out.2.2 _ _ _ (p2) ?_ | refine hB.out.2.1 _ _ _ (q1) ?_ | refine hB.out.2.2 _ _ _ (q1) ?_ | refine hB.out.2.1 _ _ _ (f2) ?_ | refine hB.out.2.2 _ _ _ (f2) ?_ | refine hB.out.2 ⟨rfl, ?_⟩); clear hB C B) | (refine hB.out.2 _ ?_; clear hB C B; (try rfl)))
                 | refine rwf_o ?_ | refine rwc_o .n rfl ?_ | refine rwc_o .z rfl ?_ | refine rwc_o .w rfl ?_ | refine rwc_o .b rfl ?_ | refine rwc_o _ rfl ?_)
            | false =>
              have hno := hno.out rfl
              subst hno
              rcases hlf.out with (e1 | e1) | ⟨l, X, e1, p1, p2, q1⟩
              · rw [e1] at o2
                repeat' (first
                 | (with_reducible first | refine Stp.pf ?_ | refine block_x (by decide) ?_ | refine ret_n ?_)
                 | refine tri_reg [] ?_ | refine tri_regc [] [] mixed (by decide +kernel) ?_
                 | (refine rwf_nilt rfl (by decide +kernel) fun B hB => ?_; (try simp [*]); refine hB.out _ fun b => ?_; clear hB B)
                 | (refine Rul.pf ⟨rfl, rfl⟩ fun B C hB => ?_; (try simp [*, -List.all_eq_true, Tryz.results4]); (try (simp (disch := first | assumption | omega) only [wc, ite_yes]; (try simp [*, -List.all_eq_true, Tryz.results4]))); first | (first | refine hB.out.1 _ (fun hb => ?_) fun hb => ⟨rfl, ?_⟩ | refine hB.out.1 _ (fun hb => ?_) fun hb => ?_) <;> clear hB C B <;> (try simp only [Bool.not_true, Bool.not_false] at hb) <;> (first | (exfalso; simp at hb; done) | (exfalso; simp at hb; omega) | (rw [hb]; (try simp at hb)) | (try simp at hb)) | ((first | refine hB.out.1 _ _ ?_ | refine hB.out.1 _ ?_ | refine hB.out.2.1 _ _ _ (f1) ?_ | refine hB.out.2.2 _ _ _ (f1) ?_ | refine hB.out.2.1 _ _ _ (o2) ?_ | refine hB.out.2.2 _ _ _ (o2) ?_ | refine hB.out.2 ⟨rfl, ?_⟩); clear hB C B) | (refine hB.out.2 _ ?_; clear hB C B; (try rfl)))
                 | refine rwf_o ?_ | refine rwc_o .n rfl ?_ | refine rwc_o .z rfl ?_ | refine rwc_o .w rfl ?_ | refine rwc_o .b rfl ?_ | refine rwc_o _ rfl ?_)
              · rw [e1] at o2
                repeat' (first
                 | (with_reducible first | refine Stp.pf ?_ | refine block_x (by decide) ?_ | refine ret_n ?_)
                 | refine tri_reg [] ?_ | refine tri_regc [] [] mixed (by decide +kernel) ?_
                 | (refine rwf_nilt rfl (by decide +kernel) fun B hB => ?_; (try simp [*]); refine hB.out _ fun b => ?_; clear hB B)
                 | (refine Rul.pf ⟨rfl, rfl⟩ fun B C hB => ?_; (try simp [*, -List.all_eq_true, Tryz.results4]); (try (simp (disch := first | assumption | omega) only [wc, ite_yes]; (try simp [*, -List.all_eq_true, Tryz.results4]))); first | (first | refine hB.out.1 _ (fun hb => ?_) fun hb => ⟨rfl, ?_⟩ | refine hB.out.1 _ (fun hb => ?_) fun hb => ?_) <;> clear hB C B <;> (try simp only [Bool.not_true, Bool.not_false] at hb) <;> (first | (exfalso; simp at hb; done) | (exfalso; simp at hb; omega) | (rw [hb]; (try simp at hb)) | (try simp at hb)) | ((first | refine hB.out.1 _ _ ?_ | refine hB.out.1 _ ?_ | refine hB.out.2.1 _ _ _ (f1) ?_ | refine hB.out.2.2 _ _ _ (f1) ?_ | refine hB.out.2.1 _ _ _ (o2) ?_ | refine hB.out.2.2 _ _ _ (o2) ?_ | refine hB.out.2 ⟨rfl, ?_⟩); clear hB C B) | (refine hB.out.2 _ ?_; clear hB C B; (try rfl)))
                 | refine rwf_o ?_ | refine rwc_o .n rfl ?_ | refine rwc_o .z rfl ?_ | refine rwc_o .w rfl ?_ | refine rwc_o .b rfl ?_ | refine rwc_o _ rfl ?_)
              · rw [e1] at o2
                repeat' (first
                 | (with_reducible first | refine Stp.pf ?_ | refine block_x (by decide) ?_ | refine ret_n ?_)
                 | refine tri_reg [] ?_ | refine tri_regc [] [] mixed (by decide +kernel) ?_
                 | (refine rwf_nilt rfl (by decide +kernel) fun B hB => ?_; (try simp [*]); refine hB.out _ fun b => ?_; clear hB B)
                 | (refine Rul.pf ⟨rfl, rfl⟩ fun B C hB => ?_; (try simp [*, -List.all_eq_true, Tryz.results4]); (try (simp (disch := first | assumption | omega) only [wc, ite_yes]; (try simp [*, -List.all_eq_true, Tryz.results4]))); first | (first | refine hB.out.1 _ (fun hb => ?_) fun hb => ⟨rfl, ?_⟩ | refine hB.out.1 _ (fun hb => ?_) fun hb => ?_) <;> clear hB C B <;> (try simp only [Bool.not_true, Bool.not_false] at hb) <;> (first | (exfalso; simp at hb; done) | (exfalso; simp at hb; omega) | (rw [hb]; (try simp at hb)) | (try simp at hb)) | ((first | refine hB.out.1 _ _ ?_ | refine hB.out.1 _ ?_ | refine hB.out.2.1 _ _ _ (f1) ?_ | refine hB.out.2.2 _ _ _ (f1) ?_ | refine hB.out.2.1 _ _ _ (o2) ?_ | refine hB.out.2.2 _ _ _ (o2) ?_ | refine hB.out.2.1 _ _ _ (p1) ?_ | refine hB.out.2.2 _ _ _ (p1) ?_ | refine hB.out.2.1 _ _ _ (p2) ?_ | refine hB.out.2.2 _ _ _ (p2) ?_ | refine hB.out.2.1 _ _ _ (q1) ?_ | refine hB.out.2.2 _ _ _ (q1) ?_ | refine hB.out.2.1 _ _ _ (f2) ?_ | refine hB.out.2.2 _ _ _ (f2) ?_ | refine hB.out.2 ⟨rfl, ?_⟩); clear hB C B) | (refine hB.out.2 _ ?_; clear hB C B; (try rfl)))
                 | refine rwf_o ?_ | refine rwc_o .n rfl ?_ | refine rwc_o .z rfl ?_ | refine rwc_o .w rfl ?_ | refine rwc_o .b rfl ?_ | refine rwc_o _ rfl ?_)
        | false =>
          simp only [Bool.false_eq_true, if_false] at hv1
          replace hv1 := hv1.symm
          refine spec_pure (by simp) (by simp) ?_
          refine spec_intro Tryz.func4 good4 rfl (by simp [Tryz.ntmps4]) ?_
          repeat' (first
           | (with_reducible first | refine Stp.pf ?_ | refine block_x (by decide) ?_ | refine ret_n ?_)
           | refine tri_reg [] ?_ | refine tri_regc [] [] mixed (by decide +kernel) ?_
           | (refine rwf_nilt rfl (by decide +kernel) fun B hB => ?_; (try simp [*]); refine hB.out _ fun b => ?_; clear hB B)
           | (refine Rul.pf ⟨rfl, rfl⟩ fun B C hB => ?_; (try simp [*, -List.all_eq_true, Tryz.results4]); (try (simp (disch := first | assumption | omega) only [wc, ite_yes]; (try simp [*, -List.all_eq_true, Tryz.results4]))); first | (first | refine hB.out.1 _ (fun hb => ?_) fun hb => ⟨rfl, ?_⟩ | refine hB.out.1 _ (fun hb => ?_) fun hb => ?_) <;> clear hB C B <;> (try simp only [Bool.not_true, Bool.not_false] at hb) <;> (first | (exfalso; simp at hb; done) | (exfalso; simp at hb; omega) | (rw [hb]; (try simp at hb)) | (try simp at hb)) | ((first | refine hB.out.1 _ _ ?_ | refine hB.out.1 _ ?_ | refine hB.out.2.1 _ _ _ (a1) ?_ | refine hB.out.2.2 _ _ _ (a1) ?_ | refine hB.out.2.1 _ _ _ (g1) ?_ | refine hB.out.2.2 _ _ _ (g1) ?_ | refine hB.out.2.1 _ _ _ (o1) ?_ | refine hB.out.2.2 _ _ _ (o1) ?_ | refine hB.out.2 ⟨rfl, ?_⟩); clear hB C B) | (refine hB.out.2 _ ?_; clear hB C B; (try rfl)))
           | refine rwf_o ?_ | refine rwc_o .n rfl ?_ | refine rwc_o .z rfl ?_ | refine rwc_o .w rfl ?_ | refine rwc_o .b rfl ?_ | refine rwc_o _ rfl ?_)
          refine tri_for [0, 1, 2, 3, 4, 10, 11] list.length (fun k_ e σ => σ = [] ∧ e 15 = .sc (.int .i64 k_) ∧ e 13 = .sc (.string ((putsK k (list.take k_) s0).getD ⟨#[]⟩)) ∧ e 14 = .sc (.bool (putsK k (list.take k_) s0).isSome)) ?_ (fun j env' σ' hlt hk hI => ?_) (fun env' σ' hk hI => ?_)
          · exact ⟨by simp, by simp, by simp [putsK, *], by simp [putsK, *]⟩
          · skip
            (try simp at hk)
            obtain ⟨rfl, h15, h13, h14⟩ := hI
            have hp1 := putsK_one k s0 hlt
            have ap := act_pair (putsK k (list.take j) s0) list[j]
            have has := mApply_spec list[j] ((putsK k (list.take j) s0).getD ⟨#[]⟩) (putsK k (list.take j) s0).isSome
            rw [ap.1, ap.2] at has
            have sg := flatM_seg list j hlt
            have sg1 := flatM_1 list j hlt
            clear ap
            rw [hp1]
            clear hp1
            generalize putsK k (list.take j) s0 = s1 at *
            generalize hs2 : actM s1 list[j] = s2 at *
            by_cases hkey : list[j].key = k
            · rw [if_pos hkey]
              repeat' (first
               | (with_reducible first | refine Stp.pf ?_ | refine block_x (by decide) ?_ | refine ret_n ?_)
               | refine tri_reg [] ?_ | refine tri_regc [] [] mixed (by decide +kernel) ?_
               | (refine rwf_nilt rfl (by decide +kernel) fun B hB => ?_; (try simp [*]); refine hB.out _ fun b => ?_; clear hB B)
               | (refine Rul.pf ⟨rfl, rfl⟩ fun B C hB => ?_; (try simp [*, -List.all_eq_true, Tryz.results4]); (try (simp (disch := first | assumption | omega) only [wc, ite_yes]; (try simp [*, -List.all_eq_true, Tryz.results4]))); first | (first | refine hB.out.1 _ (fun hb => ?_) fun hb => ⟨rfl, ?_⟩ | refine hB.out.1 _ (fun hb => ?_) fun hb => ?_) <;> clear hB C B <;> (try simp only [Bool.not_true, Bool.not_false] at hb) <;> (first | (exfalso; simp at hb; done) | (exfalso; simp at hb; omega) | (rw [hb]; (try simp at hb)) | (try simp at hb)) | ((first | refine hB.out.1 _ _ ?_ | refine hB.out.1 _ ?_ | refine hB.out.2.1 _ _ _ (has) ?_ | refine hB.out.2.2 _ _ _ (has) ?_ | refine hB.out.2 ⟨rfl, ?_⟩); clear hB C B) | (refine hB.out.2 _ ?_; clear hB C B; (try rfl)))
               | refine rwf_o ?_ | refine rwc_o .n rfl ?_ | refine rwc_o .z rfl ?_ | refine rwc_o .w rfl ?_ | refine rwc_o .b rfl ?_ | refine rwc_o _ rfl ?_)
              exact ⟨by simp [*], rfl, by simp, by simp, by simp⟩
            · rw [if_neg hkey]
              repeat' (first
               | (with_reducible first | refine Stp.pf ?_ | refine block_x (by decide) ?_ | refine ret_n ?_)
               | refine tri_reg [] ?_ | refine tri_regc [] [] mixed (by decide +kernel) ?_
               | (refine rwf_nilt rfl (by decide +kernel) fun B hB => ?_; (try simp [*]); refine hB.out _ fun b => ?_; clear hB B)
               | (refine Rul.pf ⟨rfl, rfl⟩ fun B C hB => ?_; (try simp [*, -List.all_eq_true, Tryz.results4]); (try (simp (disch := first | assumption | omega) only [wc, ite_yes]; (try simp [*, -List.all_eq_true, Tryz.results4]))); first | (first | refine hB.out.1 _ (fun hb => ?_) fun hb => ⟨rfl, ?_⟩ | refine hB.out.1 _ (fun hb => ?_) fun hb => ?_) <;> clear hB C B <;> (try simp only [Bool.not_true, Bool.not_false] at hb) <;> (first | (exfalso; simp at hb; done) | (exfalso; simp at hb; omega) | (rw [hb]; (try simp at hb)) | (try simp at hb)) | ((first | refine hB.out.1 _ _ ?_ | refine hB.out.1 _ ?_ | refine hB.out.2.1 _ _ _ (has) ?_ | refine hB.out.2.2 _ _ _ (has) ?_ | refine hB.out.2 ⟨rfl, ?_⟩); clear hB C B) | (refine hB.out.2 _ ?_; clear hB C B; (try rfl)))
               | refine rwf_o ?_ | refine rwc_o .n rfl ?_ | refine rwc_o .z rfl ?_ | refine rwc_o .w rfl ?_ | refine rwc_o .b rfl ?_ | refine rwc_o _ rfl ?_)
              exact ⟨by simp [*], rfl, by simp, by simp [*], by simp [*]⟩
          · skip
            (try simp at hk)
            obtain ⟨rfl, h15, h13, h14⟩ := hI
            rw [List.take_length] at h13 h14
            generalize putsK k list s0 = s1 at *
            cases H with
            | true =>
              have hap := hap.out rfl
              rw [hv3, hv1] at hap
              have htk : List.take 3 (cM m) = cM m := rfl
              rcases hlf.out with (e1 | e1) | ⟨l, X, e1, p1, p2, q1⟩
              · rw [e1] at o2
                repeat' (first
                 | (with_reducible first | refine Stp.pf ?_ | refine block_x (by decide) ?_ | refine ret_n ?_)
                 | refine tri_reg [] ?_ | refine tri_regc [] [] mixed (by decide +kernel) ?_
                 | (refine rwf_nilt rfl (by decide +kernel) fun B hB => ?_; (try simp [*]); refine hB.out _ fun b => ?_; clear hB B)
                 | (refine Rul.pf ⟨rfl, rfl⟩ fun B C hB => ?_; (try simp [*, -List.all_eq_true, Tryz.results4]); (try (simp (disch := first | assumption | omega) only [wc, ite_yes]; (try simp [*, -List.all_eq_true, Tryz.results4]))); first | (first | refine hB.out.1 _ (fun hb => ?_) fun hb => ⟨rfl, ?_⟩ | refine hB.out.1 _ (fun hb => ?_) fun hb => ?_) <;> clear hB C B <;> (try simp only [Bool.not_true, Bool.not_false] at hb) <;> (first | (exfalso; simp at hb; done) | (exfalso; simp at hb; omega) | (rw [hb]; (try simp at hb)) | (try simp at hb)) | ((first | refine hB.out.1 _ _ ?_ | refine hB.out.1 _ ?_ | refine hB.out.2.1 _ _ _ (f1) ?_ | refine hB.out.2.2 _ _ _ (f1) ?_ | refine hB.out.2.1 _ _ _ (hap) ?_ | refine hB.out.2.2 _ _ _ (hap) ?_ | refine hB.out.2.1 _ _ _ (o2) ?_ | refine hB.out.2.2 _ _ _ (o2) ?_ | refine hB.out.2 ⟨rfl, ?_⟩); clear hB C B) | (refine hB.out.2 _ ?_; clear hB C B; (try rfl)))
                 | refine rwf_o ?_ | refine rwc_o .n rfl ?_ | refine rwc_o .z rfl ?_ | refine rwc_o .w rfl ?_ | refine rwc_o .b rfl ?_ | refine rwc_o _ rfl ?_)
              · rw [e1] at o2
                repeat' (first
                 | (with_reducible first | refine Stp.pf ?_ | refine block_x (by decide) ?_ | refine ret_n ?_)
                 | refine tri_reg [] ?_ | refine tri_regc [] [] mixed (by decide +kernel) ?_
                 | (refine rwf_nilt rfl (by decide +kernel) fun B hB => ?_; (try simp [*]); refine hB.out _ fun b => ?_; clear hB B)
                 | (refine Rul.pf ⟨rfl, rfl⟩ fun B C hB => ?_; (try simp [*, -List.all_eq_true, Tryz.results4]); (try (simp (disch := first | assumption | omega) only [wc, ite_yes]; (try simp [*, -List.all_eq_true, Tryz.results4]))); first | (first | refine hB.out.1 _ (fun hb => ?_) fun hb => ⟨rfl, ?_⟩ | refine hB.out.1 _ (fun hb => ?_) fun hb => ?_) <;> clear hB C B <;> (try simp only [Bool.not_true, Bool.not_false] at hb) <;> (first | (exfalso; simp at hb; done) | (exfalso; simp at hb; omega) | (rw [hb]; (try simp at hb)) | (try simp at hb)) | ((first | refine hB.out.1 _ _ ?_ | refine hB.out.1 _ ?_ | refine hB.out.2.1 _ _ _ (f1) ?_ | refine hB.out.2.2 _ _ _ (f1) ?_ | refine hB.out.2.1 _ _ _ (hap) ?_ | refine hB.out.2.2 _ _ _ (hap) ?_ | refine hB.out.2.1 _ _ _ (o2) ?_ | refine hB.out.2.2 _ _ _ (o2) ?_ | refine hB.out.2 ⟨rfl, ?_⟩); clear hB C B) | (refine hB.out.2 _ ?_; clear hB C B; (try rfl)))
                 | refine rwf_o ?_ | refine rwc_o .n rfl ?_ | refine rwc_o .z rfl ?_ | refine rwc_o .w rfl ?_ | refine rwc_o .b rfl ?_ | refine rwc_o _ rfl ?_)
              · rw [e1] at o2
                repeat' (first
                 | (with_reducible first | refine Stp.pf ?_ | refine block_x (by decide) ?_ | refine ret_n ?_)
                 | refine tri_reg [] ?_ | refine tri_regc [] [] mixed (by decide +kernel) ?_
                 | (refine rwf_nilt rfl (by decide +kernel) fun B hB => ?_; (try simp [*]); refine hB.out _ fun b => ?_; clear hB B)
                 | (refine Rul.pf ⟨rfl, rfl⟩ fun B C hB => ?_; (try simp [*, -List.all_eq_true, Tryz.results4]); (try (simp (disch := first | assumption | omega) only [wc, ite_yes]; (try simp [*, -List.all_eq_true, Tryz.results4]))); first | (first | refine hB.out.1 _ (fun hb => ?_) fun hb => ⟨rfl, ?_⟩ | refine hB.out.1 _ (fun hb => ?_) fun hb => ?_) <;> clear hB C B <;> (try simp only [Bool.not_true, Bool.not_false] at hb) <;> (first | (exfalso; simp at hb; done) | (exfalso; simp at hb; omega) | (rw [hb]; (try simp at hb)) | (try simp at hb)) | ((first | refine hB.out.1 _ _ ?_ | refine hB.out.1 _ ?_ | refine hB.out.2.1 _ _ _ (f1) ?_ | refine hB.out.2.2 _ _ _ (f1) ?_ | refine hB.out.2.1 _ _ _ (hap) ?_ | refine hB.out.2.2 _ _ _ (hap) ?_ | refine hB.out.2.1 _ _ _ (o2) ?_ | refine hB.out.2.2 _ _ _ (o2) ?_ | refine hB.out.2.1 _ _ _ (p1) ?_ | refine hB.out.2.2 _ _ _ (p1) ?_ | refine hB.out.2.1 _ _ _ (p2) ?_ | refine hB.out.2.2 _ _ _ (p2) ?_ | refine hB.out.2.1 _ _ _ (q1) ?_ | refine hB.out.2.2 _ _ _ (q1) ?_ | refine hB.out.2.1 _ _ _ (f2) ?_ | refine hB.out.2.2 _ _ _ (f2) ?_ | refine hB.out.2 ⟨rfl, ?_⟩); clear hB C B) | (refine hB.out.2 _ ?_; clear hB C B; (try rfl)))
                 | refine rwf_o ?_ | refine rwc_o .n rfl ?_ | refine rwc_o .z rfl ?_ | refine rwc_o .w rfl ?_ | refine rwc_o .b rfl ?_ | refine rwc_o _ rfl ?_)
            | false =>
              have hno := hno.out rfl
              subst hno
              rcases hlf.out with (e1 | e1) | ⟨l, X, e1, p1, p2, q1⟩
              · rw [e1] at o2
                repeat' (first
                 | (with_reducible first | refine Stp.pf ?_ | refine block_x (by decide) ?_ | refine ret_n ?_)
                 | refine tri_reg [] ?_ | refine tri_regc [] [] mixed (by decide +kernel) ?_
                 | (refine rwf_nilt rfl (by decide +kernel) fun B hB => ?_; (try simp [*]); refine hB.out _ fun b => ?_; clear hB B)
                 | (refine Rul.pf ⟨rfl, rfl⟩ fun B C hB => ?_; (try simp [*, -List.all_eq_true, Tryz.results4]); (try (simp (disch := first | assumption | omega) only [wc, ite_yes]; (try simp [*, -List.all_eq_true, Tryz.results4]))); first | (first | refine hB.out.1 _ (fun hb => ?_) fun hb => ⟨rfl, ?_⟩ | refine hB.out.1 _ (fun hb => ?_) fun hb => ?_) <;> clear hB C B <;> (try simp only [Bool.not_true, Bool.not_false] at hb) <;> (first | (exfalso; simp at hb; done) | (exfalso; simp at hb; omega) | (rw [hb]; (try simp at hb)) | (try simp at hb)) | ((first | refine hB.out.1 _ _ ?_ | refine hB.out.1 _ ?_ | refine hB.out.2.1 _ _ _ (f1) ?_ | refine hB.out.2.2 _ _ _ (f1) ?_ | refine hB.out.2.1 _ _ _ (o2) ?_ | refine hB.out.2.2 _ _ _ (o2) ?_ | refine hB.out.2 ⟨rfl, ?_⟩); clear hB C B) | (refine hB.out.2 _ ?_; clear hB C B; (try rfl)))
                 | refine rwf_o ?_ | refine rwc_o .n rfl ?_ | refine rwc_o .z rfl ?_ | refine rwc_o .w rfl ?_ | refine rwc_o .b rfl ?_ | refine rwc_o _ rfl ?_)
              · rw [e1] at o2
                repeat' (first
                 | (with_reducible first | refine Stp.pf ?_ | refine block_x (by decide) ?_ | refine ret_n ?_)
                 | refine tri_reg [] ?_ | refine tri_regc [] [] mixed (by decide +kernel) ?_
                 | (refine rwf_nilt rfl (by decide +kernel) fun B hB => ?_; (try simp [*]); refine hB.out _ fun b => ?_; clear hB B)
                 | (refine Rul.pf ⟨rfl, rfl⟩ fun B C hB => ?_; (try simp [*, -List.all_eq_true, Tryz.results4]); (try (simp (disch := first | assumption | omega) only [wc, ite_yes]; (try simp [*, -List.all_eq_true, Tryz.results4]))); first | (first | refine hB.out.1 _ (fun hb => ?_) fun hb => ⟨rfl, ?_⟩ | refine hB.out.1 _ (fun hb => ?_) fun hb => ?_) <;> clear hB C B <;> (try simp only [Bool.not_true, Bool.not_false] at hb) <;> (first | (exfalso; simp at hb; done) | (exfalso; simp at hb; omega) | (rw [hb]; (try simp at hb)) | (try simp at hb)) | ((first | refine hB.out.1 _ _ ?_ | refine hB.out.1 _ ?_ | refine hB.out.2.1 _ _ _ (f1) ?_ | refine hB.out.2.2 _ _ _ (f1) ?_ | refine hB.out.2.1 _ _ _ (o2) ?_ | refine hB.out.2.2 _ _ _ (o2) ?_ | refine hB.out.2 ⟨rfl, ?_⟩); clear hB C B) | (refine hB.out.2 _ ?_; clear hB C B; (try rfl)))
                 | refine rwf_o ?_ | refine rwc_o .n rfl ?_ | refine rwc_o .z rfl ?_ | refine rwc_o .w rfl ?_ | refine rwc_o .b rfl ?_ | refine rwc_o _ rfl ?_)
              · rw [e1] at o2
                repeat' (first
                 | (with_reducible first | refine Stp.pf ?_ | refine block_x (by decide) ?_ | refine ret_n ?_)
                 | refine tri_reg [] ?_ | refine tri_regc [] [] mixed (by decide +kernel) ?_
                 | (refine rwf_nilt rfl (by decide +kernel) fun B hB => ?_; (try simp [*]); refine hB.out _ fun b => ?_; clear hB B)
                 | (refine Rul.pf ⟨rfl, rfl⟩ fun B C hB => ?_; (try simp [*, -List.all_eq_true, Tryz.results4]); (try (simp (disch := first | assumption | omega) only [wc, ite_yes]; (try simp [*, -List.all_eq_true, Tryz.results4]))); first | (first | refine hB.out.1 _ (fun hb => ?_) fun hb => ⟨rfl, ?_⟩ | refine hB.out.1 _ (fun hb => ?_) fun hb => ?_) <;> clear hB C B <;> (try simp only [Bool.not_true, Bool.not_false] at hb) <;> (first | (exfalso; simp at hb; done) | (exfalso; simp at hb; omega) | (rw [hb]; (try simp at hb)) | (try simp at hb)) | ((first | refine hB.out.1 _ _ ?_ | refine hB.out.1 _ ?_ | refine hB.out.2.1 _ _ _ (f1) ?_ | refine hB.out.2.2 _ _ _ (f1) ?_ | refine hB.out.2.1 _ _ _ (o2) ?_ | refine hB.out.2.2 _ _ _ (o2) ?_ | refine hB.out.2.1 _ _ _ (p1) ?_ | refine hB.out.2.2 _ _ _ (p1) ?_ | refine hB.out.2.1 _ _ _ (p2) ?_ | refine hB.out.2.2 _ _ _ (p2) ?_ | refine hB.out.2.1 _ _ _ (q1) ?_ | refine hB.out.2.2 _ _ _ (q1) ?_ | refine hB.out.2.1 _ _ _ (f2) ?_ | refine hB.out.2.2 _ _ _ (f2) ?_ | refine hB.out.2 ⟨rfl, ?_⟩); clear hB C B) | (refine hB.out.2 _ ?_; clear hB C B; (try rfl)))
                 | refine rwf_o ?_ | refine rwc_o .n rfl ?_ | refine rwc_o .z rfl ?_ | refine rwc_o .w rfl ?_ | refine rwc_o .b rfl ?_ | refine rwc_o _ rfl ?_)
    · skip
      refine spec_pure (by simp) (by simp) ?_
      refine spec_intro Tryz.func4 good4 rfl (by simp [Tryz.ntmps4]) ?_
      repeat' (first
       | (with_reducible first | refine Stp.pf ?_ | refine block_x (by decide) ?_ | refine ret_n ?_)
       | refine tri_reg [] ?_ | refine tri_regc [] [] mixed (by decide +kernel) ?_
       | (refine rwf_nilt rfl (by decide +kernel) fun B hB => ?_; (try simp [*]); refine hB.out _ fun b => ?_; clear hB B)
       | (refine Rul.pf ⟨rfl, rfl⟩ fun B C hB => ?_; (try simp [*, -List.all_eq_true, Tryz.results4]); (try (simp (disch := first | assumption | omega) only [wc, ite_yes]; (try simp [*, -List.all_eq_true, Tryz.results4]))); first | (first | refine hB.out.1 _ (fun hb => ?_) fun hb => ⟨rfl, ?_⟩ | refine hB.out.1 _ (fun hb => ?_) fun hb => ?_) <;> clear hB C B <;> (try simp only [Bool.not_true, Bool.not_false] at hb) <;> (first | (exfalso; simp at hb; done) | (exfalso; simp at hb; omega) | (rw [hb]; (try simp at hb)) | (try simp at hb)) | ((first | refine hB.out.1 _ _ ?_ | refine hB.out.1 _ ?_ | refine hB.out.2.1 _ _ _ (a1) ?_ | refine hB.out.2.2 _ _ _ (a1) ?_ | refine hB.out.2.1 _ _ _ (g1) ?_ | refine hB.out.2.2 _ _ _ (g1) ?_ | refine hB.out.2 ⟨rfl, ?_⟩); clear hB C B) | (refine hB.out.2 _ ?_; clear hB C B; (try rfl)))
       | refine rwf_o ?_ | refine rwc_o .n rfl ?_ | refine rwc_o .z rfl ?_ | refine rwc_o .w rfl ?_ | refine rwc_o .b rfl ?_ | refine rwc_o _ rfl ?_)
end Go.Proofs.YtemijcjgdgdhjaaGreat
