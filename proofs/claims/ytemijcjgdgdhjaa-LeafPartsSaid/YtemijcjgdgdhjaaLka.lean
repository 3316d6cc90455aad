/- The law LeafKeys. -/
import Derived.Test.YtemijcjgdgdhjaaEj
import Derived.Test.YtemijcjgdgdhjaaPlk
namespace Go.Proofs.Ytemijcjgdgdhjaa
open Go.RowKit
set_option linter.unusedSimpArgs false
set_option maxRecDepth 10000
theorem tri_frz2 {P : Program} {nt : Nat} {env : Env} {σ : Sto} {Q : Exit → Env → Sto → Prop} {c : Code} (t1 t2 n1 n2 : Nat) {u1 u2 : AV} (h1 : frz σ (List.range σ.length) n1 (env t1) = some u1) (h2 : frz σ (List.range σ.length) n2 (env t2) = some u2) (h : Tri P nt c ((env.put (some t1) u1).put (some t2) u2) (freezeL σ (List.range σ.length)) Q) : Tri P nt c env σ Q := by
  intro w0 Im0 σ0 T0 a w hs
  obtain ⟨Im, T, hW, hE, k1, k2, hF⟩ := hs
  obtain ⟨Im', hW', hF2, hb⟩ := hW.freezeL (List.range σ.length)
  refine h w0 Im0 σ0 T0 a w ⟨Im', T, hW', fun t' => ?_, k1, k2, hF.trans hF2⟩
  simp only [put_some]
  split
  · rename_i e; subst e; exact (frz_rel hW hb hF2.im1 n2).1 _ _ _ (hE _) h2
  · split
    · rename_i e; subst e; exact (frz_rel hW hb hF2.im1 n1).1 _ _ _ (hE _) h1
    · exact hF2.rel hW (hE t')
/-- A call with a value that is told and a row of one's own, laid to rest. -/
theorem spec_own2 {P : Program} {σ : Sto} {f : FuncId} {k m : Nat} {v x : AV} {cs : List AV} {R : AV → Sto → Prop} (hx : x.flat = true) (ho : Own k σ v m cs) (hc : flatL cs = true) (h : Spec P f [x, .fs cs m] (freezeL σ (List.range σ.length)) R) : Spec P f [x, v] σ R := by
  obtain ⟨u, hu, wu⟩ := frz_own ho hc 1
  have h2 : Spec P f [x, u] (freezeL σ (List.range σ.length)) R := spec_args h ⟨rfl, fun i y z hy hz => by
    match i with
    | 0 => simp at hy hz; subst hy hz; exact .refl _
    | 1 => simp at hy hz; subst hy hz; exact wu
    | i + 2 => simp at hy⟩
  refine spec_frz 5 ?_ h2
  rcases frzL_2 3 (frz_flat1 (σ := σ) (ls := List.range σ.length) hx 4) hu with e | ⟨e, _, rfl⟩
  · exact e
  · exact e
def mineM (k : Str) (l : List Msg) : List Msg := l.filter fun m => decide (m.key = k)
def restM (k : Str) (l : List Msg) : List Msg := l.filter fun m => !decide (m.key = k)
theorem mine_succ {l : List Msg} {j : Nat} (k : Str) (h : j < l.length) : mineM k (l.take (j + 1)) = if l[j].key = k then mineM k (l.take j) ++ [l[j]] else mineM k (l.take j) := by
  unfold mineM
  rw [List.take_add_one, List.getElem?_eq_getElem h, List.filter_append]
  by_cases e : l[j].key = k <;> simp [e]
theorem rest_succ {l : List Msg} {j : Nat} (k : Str) (h : j < l.length) : restM k (l.take (j + 1)) = if l[j].key = k then restM k (l.take j) else restM k (l.take j) ++ [l[j]] := by
  unfold restM
  rw [List.take_add_one, List.getElem?_eq_getElem h, List.filter_append]
  by_cases e : l[j].key = k <;> simp [e]
theorem putsK_succ {l : List Msg} {j : Nat} (k : Str) (s : Option Str) (h : j < l.length) : putsK k (l.take (j + 1)) s = if l[j].key = k then actM (putsK k (l.take j) s) l[j] else putsK k (l.take j) s := by
  unfold putsK
  rw [List.take_add_one, List.getElem?_eq_getElem h, List.foldl_append]
  rfl
set_option maxHeartbeats 4000000 in
theorem leafKeys_spec (items : List Item) (list : List Msg) (k : Str) (hi : items.length ≤ 9223372036854775807) (hm : list.length ≤ 9223372036854775807) : PSpec Try.prog 8 [.fs (flatI items) items.length, .fs (flatM list) list.length, .sc (.string k)] (.sc (.bool true)) := by
  have a1 := awake09_spec
  have g1 := great09_spec items hi
  have g2 := heavy09_spec list hm
  cases hg : greatI items with
  | true =>
    rw [hg] at g1
    refine spec_pure (by simp) (by simp) ?_
    refine spec_intro Try.func8 good8 rfl (by simp [Try.ntmps8]) ?_
    repeat' (first
     | (with_reducible first | refine Stp.pf ?_ | refine block_x (by decide) ?_ | refine ret_n ?_)
     | refine tri_reg [] ?_ | refine tri_regc [] [] mixed (by decide +kernel) ?_
     | (refine rwf_nilt rfl (by decide +kernel) fun B hB => ?_; (try simp [*]); refine hB.out _ fun b => ?_; clear hB B)
     | (refine Rul.pf ⟨rfl, rfl⟩ fun B C hB => ?_; (try simp [*, -List.all_eq_true, Try.results8]); (try (simp (disch := first | assumption | omega) only [wc, ite_yes]; (try simp [*, -List.all_eq_true, Try.results8]))); first | (first | refine hB.out.1 _ (fun hb => ?_) fun hb => ⟨rfl, ?_⟩ | refine hB.out.1 _ (fun hb => ?_) fun hb => ?_) <;> clear hB C B <;> (try simp only [Bool.not_true, Bool.not_false] at hb) <;> (first | (exfalso; simp at hb; done) | (exfalso; simp at hb; omega) | (rw [hb]; (try simp at hb)) | (try simp at hb)) | ((first | refine hB.out.1 _ _ ?_ | refine hB.out.1 _ ?_ | refine hB.out.2.1 _ _ _ (a1) ?_ | refine hB.out.2.2 _ _ _ (a1) ?_ | refine hB.out.2.1 _ _ _ (g1) ?_ | refine hB.out.2.2 _ _ _ (g1) ?_ | refine hB.out.2.1 _ _ _ (g2) ?_ | refine hB.out.2.2 _ _ _ (g2) ?_ | refine hB.out.2 ⟨rfl, ?_⟩); clear hB C B) | (refine hB.out.2 _ ?_; clear hB C B; (try rfl)))
     | refine rwf_o ?_ | refine rwc_o .n rfl ?_ | refine rwc_o .z rfl ?_ | refine rwc_o .w rfl ?_ | refine rwc_o .b rfl ?_ | refine rwc_o _ rfl ?_)
  | false =>
    rw [hg] at g1
    cases hh : heavyM list with
    | true =>
      rw [hh] at g2
      refine spec_pure (by simp) (by simp) ?_
      refine spec_intro Try.func8 good8 rfl (by simp [Try.ntmps8]) ?_
      repeat' (first
       | (with_reducible first | refine Stp.pf ?_ | refine block_x (by decide) ?_ | refine ret_n ?_)
       | refine tri_reg [] ?_ | refine tri_regc [] [] mixed (by decide +kernel) ?_
       | (refine rwf_nilt rfl (by decide +kernel) fun B hB => ?_; (try simp [*]); refine hB.out _ fun b => ?_; clear hB B)
       | (refine Rul.pf ⟨rfl, rfl⟩ fun B C hB => ?_; (try simp [*, -List.all_eq_true, Try.results8]); (try (simp (disch := first | assumption | omega) only [wc, ite_yes]; (try simp [*, -List.all_eq_true, Try.results8]))); first | (first | refine hB.out.1 _ (fun hb => ?_) fun hb => ⟨rfl, ?_⟩ | refine hB.out.1 _ (fun hb => ?_) fun hb => ?_) <;> clear hB C B <;> (try simp only [Bool.not_true, Bool.not_false] at hb) <;> (first | (exfalso; simp at hb; done) | (exfalso; simp at hb; omega) | (rw [hb]; (try simp at hb)) | (try simp at hb)) | ((first | refine hB.out.1 _ _ ?_ | refine hB.out.1 _ ?_ | refine hB.out.2.1 _ _ _ (a1) ?_ | refine hB.out.2.2 _ _ _ (a1) ?_ | refine hB.out.2.1 _ _ _ (g1) ?_ | refine hB.out.2.2 _ _ _ (g1) ?_ | refine hB.out.2.1 _ _ _ (g2) ?_ | refine hB.out.2.2 _ _ _ (g2) ?_ | refine hB.out.2 ⟨rfl, ?_⟩); clear hB C B) | (refine hB.out.2 _ ?_; clear hB C B; (try rfl)))
       | refine rwf_o ?_ | refine rwc_o .n rfl ?_ | refine rwc_o .z rfl ?_ | refine rwc_o .w rfl ?_ | refine rwc_o .b rfl ?_ | refine rwc_o _ rfl ?_)
    | false =>
      rw [hh] at g2
      obtain ⟨y1, -⟩ := greatI_no hg
      obtain ⟨y2, -⟩ := heavyM_no hh
      have o1 := lOf_spec items (by omega)
      clear hg hh
      unfold leafR at o1
      cases hok : items.all okI with
      | false =>
        rw [hok, if_pos rfl] at o1
        refine spec_pure (by simp) (by simp) ?_
        refine spec_intro Try.func8 good8 rfl (by simp [Try.ntmps8]) ?_
        repeat' (first
         | (with_reducible first | refine Stp.pf ?_ | refine block_x (by decide) ?_ | refine ret_n ?_)
         | refine tri_reg [] ?_ | refine tri_regc [] [] mixed (by decide +kernel) ?_
         | (refine rwf_nilt rfl (by decide +kernel) fun B hB => ?_; (try simp [*]); refine hB.out _ fun b => ?_; clear hB B)
         | (refine Rul.pf ⟨rfl, rfl⟩ fun B C hB => ?_; (try simp [*, -List.all_eq_true, Try.results8]); (try (simp (disch := first | assumption | omega) only [wc, ite_yes]; (try simp [*, -List.all_eq_true, Try.results8]))); first | (first | refine hB.out.1 _ (fun hb => ?_) fun hb => ⟨rfl, ?_⟩ | refine hB.out.1 _ (fun hb => ?_) fun hb => ?_) <;> clear hB C B <;> (try simp only [Bool.not_true, Bool.not_false] at hb) <;> (first | (exfalso; simp at hb; done) | (exfalso; simp at hb; omega) | (rw [hb]; (try simp at hb)) | (try simp at hb)) | ((first | refine hB.out.1 _ _ ?_ | refine hB.out.1 _ ?_ | refine hB.out.2.1 _ _ _ (a1) ?_ | refine hB.out.2.2 _ _ _ (a1) ?_ | refine hB.out.2.1 _ _ _ (g1) ?_ | refine hB.out.2.2 _ _ _ (g1) ?_ | refine hB.out.2.1 _ _ _ (g2) ?_ | refine hB.out.2.2 _ _ _ (g2) ?_ | refine hB.out.2.1 _ _ _ (o1) ?_ | refine hB.out.2.2 _ _ _ (o1) ?_ | refine hB.out.2 ⟨rfl, ?_⟩); clear hB C B) | (refine hB.out.2 _ ?_; clear hB C B; (try rfl)))
         | refine rwf_o ?_ | refine rwc_o .n rfl ?_ | refine rwc_o .z rfl ?_ | refine rwc_o .w rfl ?_ | refine rwc_o .b rfl ?_ | refine rwc_o _ rfl ?_)
      | true =>
        rw [hok, if_neg (by simp)] at o1
        cases hof : ofL items with
        | none =>
          rw [hof] at o1
          refine spec_pure (by simp) (by simp) ?_
          refine spec_intro Try.func8 good8 rfl (by simp [Try.ntmps8]) ?_
          repeat' (first
           | (with_reducible first | refine Stp.pf ?_ | refine block_x (by decide) ?_ | refine ret_n ?_)
           | refine tri_reg [] ?_ | refine tri_regc [] [] mixed (by decide +kernel) ?_
           | (refine rwf_nilt rfl (by decide +kernel) fun B hB => ?_; (try simp [*]); refine hB.out _ fun b => ?_; clear hB B)
           | (refine Rul.pf ⟨rfl, rfl⟩ fun B C hB => ?_; (try simp [*, -List.all_eq_true, Try.results8]); (try (simp (disch := first | assumption | omega) only [wc, ite_yes]; (try simp [*, -List.all_eq_true, Try.results8]))); first | (first | refine hB.out.1 _ (fun hb => ?_) fun hb => ⟨rfl, ?_⟩ | refine hB.out.1 _ (fun hb => ?_) fun hb => ?_) <;> clear hB C B <;> (try simp only [Bool.not_true, Bool.not_false] at hb) <;> (first | (exfalso; simp at hb; done) | (exfalso; simp at hb; omega) | (rw [hb]; (try simp at hb)) | (try simp at hb)) | ((first | refine hB.out.1 _ _ ?_ | refine hB.out.1 _ ?_ | refine hB.out.2.1 _ _ _ (a1) ?_ | refine hB.out.2.2 _ _ _ (a1) ?_ | refine hB.out.2.1 _ _ _ (g1) ?_ | refine hB.out.2.2 _ _ _ (g1) ?_ | refine hB.out.2.1 _ _ _ (g2) ?_ | refine hB.out.2.2 _ _ _ (g2) ?_ | refine hB.out.2.1 _ _ _ (o1) ?_ | refine hB.out.2.2 _ _ _ (o1) ?_ | refine hB.out.2 ⟨rfl, ?_⟩); clear hB C B) | (refine hB.out.2 _ ?_; clear hB C B; (try rfl)))
           | refine rwf_o ?_ | refine rwc_o .n rfl ?_ | refine rwc_o .z rfl ?_ | refine rwc_o .w rfl ?_ | refine rwc_o .b rfl ?_ | refine rwc_o _ rfl ?_)
        | some l =>
          rw [hof] at o1
          obtain ⟨hr, hp⟩ := ofL_some hof
          have hlo := ofL_all hof hok
          have hll := hp.length_eq
          have hw := lWith_spec l list (by omega) hr hlo
          unfold lwithR at hw
          cases hv : list.all isMsg with
          | false =>
            rw [hv, if_neg (by simp)] at hw
            refine spec_pure (by simp) (by simp) ?_
            refine spec_intro Try.func8 good8 rfl (by simp [Try.ntmps8]) ?_
            repeat' (first
             | (with_reducible first | refine Stp.pf ?_ | refine block_x (by decide) ?_ | refine ret_n ?_)
             | refine tri_reg [] ?_ | refine tri_regc [] [] mixed (by decide +kernel) ?_
             | (refine rwf_nilt rfl (by decide +kernel) fun B hB => ?_; (try simp [*]); refine hB.out _ fun b => ?_; clear hB B)
             | (refine Rul.pf ⟨rfl, rfl⟩ fun B C hB => ?_; (try simp [*, -List.all_eq_true, Try.results8]); (try (simp (disch := first | assumption | omega) only [wc, ite_yes]; (try simp [*, -List.all_eq_true, Try.results8]))); first | (first | refine hB.out.1 _ (fun hb => ?_) fun hb => ⟨rfl, ?_⟩ | refine hB.out.1 _ (fun hb => ?_) fun hb => ?_) <;> clear hB C B <;> (try simp only [Bool.not_true, Bool.not_false] at hb) <;> (first | (exfalso; simp at hb; done) | (exfalso; simp at hb; omega) | (rw [hb]; (try simp at hb)) | (try simp at hb)) | ((first | refine hB.out.1 _ _ ?_ | refine hB.out.1 _ ?_ | refine hB.out.2.1 _ _ _ (a1) ?_ | refine hB.out.2.2 _ _ _ (a1) ?_ | refine hB.out.2.1 _ _ _ (g1) ?_ | refine hB.out.2.2 _ _ _ (g1) ?_ | refine hB.out.2.1 _ _ _ (g2) ?_ | refine hB.out.2.2 _ _ _ (g2) ?_ | refine hB.out.2.1 _ _ _ (o1) ?_ | refine hB.out.2.2 _ _ _ (o1) ?_ | refine hB.out.2.1 _ _ _ (hw) ?_ | refine hB.out.2.2 _ _ _ (hw) ?_ | refine hB.out.2 ⟨rfl, ?_⟩); clear hB C B) | (refine hB.out.2 _ ?_; clear hB C B; (try rfl)))
             | refine rwf_o ?_ | refine rwc_o .n rfl ?_ | refine rwc_o .z rfl ?_ | refine rwc_o .w rfl ?_ | refine rwc_o .b rfl ?_ | refine rwc_o _ rfl ?_)
          | true =>
            rw [hv, if_pos rfl] at hw
            have hv2 := List.all_eq_true.1 hv
            obtain ⟨w1, w2, w3, w4⟩ := withI_ok list l hr hlo hv2
            have hf1 := lFind_spec l (by omega) hr k
            have hf2 := lFind_spec (withI l list) (by omega) w1 k
            have hpk : lookI k (withI l list) = putsK k list (lookI k l) := w4 k
            rw [hpk] at hf2
            refine spec_pureW (by simp) (by simp) ?_
            refine spec_intro Try.func8 good8 rfl (by simp [Try.ntmps8]) ?_
            repeat' (first
             | (with_reducible first | refine Stp.pf ?_ | refine block_x (by decide) ?_ | refine ret_n ?_)
             | refine tri_reg [55,56,86,93,110,112,114,120,122,124] ?_ | refine tri_regc [55,56,86,93,110,112,114,120,122,124] [] mixed (by decide +kernel) ?_
             | (refine rwf_nilt rfl (by decide +kernel) fun B hB => ?_; (try simp [*]); refine hB.out _ fun b => ?_; clear hB B)
             | (refine Rul.pf ⟨rfl, rfl⟩ fun B C hB => ?_; (try simp [*, -List.all_eq_true, Try.results8]); (try (simp (disch := first | assumption | omega) only [wc, ite_yes]; (try simp [*, -List.all_eq_true, Try.results8]))); first | (first | refine hB.out.1 _ (fun hb => ?_) fun hb => ⟨rfl, ?_⟩ | refine hB.out.1 _ (fun hb => ?_) fun hb => ?_) <;> clear hB C B <;> (try simp only [Bool.not_true, Bool.not_false] at hb) <;> (first | (exfalso; simp at hb; done) | (exfalso; simp at hb; omega) | (rw [hb]; (try simp at hb)) | (try simp at hb)) | ((first | refine hB.out.1 _ _ ?_ | refine hB.out.1 _ ?_ | refine hB.out.2.1 _ _ _ (a1) ?_ | refine hB.out.2.2 _ _ _ (a1) ?_ | refine hB.out.2.1 _ _ _ (g1) ?_ | refine hB.out.2.2 _ _ _ (g1) ?_ | refine hB.out.2.1 _ _ _ (g2) ?_ | refine hB.out.2.2 _ _ _ (g2) ?_ | refine hB.out.2.1 _ _ _ (o1) ?_ | refine hB.out.2.2 _ _ _ (o1) ?_ | refine hB.out.2.1 _ _ _ (hw) ?_ | refine hB.out.2.2 _ _ _ (hw) ?_ | refine hB.out.2.1 _ _ _ (hf1) ?_ | refine hB.out.2.2 _ _ _ (hf1) ?_ | refine hB.out.2 ⟨rfl, ?_⟩); clear hB C B) | (refine hB.out.2 _ ?_; clear hB C B; (try rfl)))
             | refine rwf_o ?_ | refine rwc_o .n rfl ?_ | refine rwc_o .z rfl ?_ | refine rwc_o .w rfl ?_ | refine rwc_o .b rfl ?_ | refine rwc_o _ rfl ?_)
            have m1 : ∀ x ∈ mineM k list, isMsg x = true := fun x hx => hv2 x (List.mem_filter.1 hx).1
            have m2 : ∀ x ∈ restM k list, isMsg x = true := fun x hx => hv2 x (List.mem_filter.1 hx).1
            have mm1 : ∀ x ∈ mineM k list ++ restM k list, isMsg x = true := fun x hx => (List.mem_append.1 hx).elim (m1 x) (m2 x)
            have mm2 : ∀ x ∈ restM k list ++ mineM k list, isMsg x = true := fun x hx => (List.mem_append.1 hx).elim (m2 x) (m1 x)
            have n1 : (mineM k list).length ≤ list.length := List.length_filter_le _ _
            have n2 : (restM k list).length ≤ list.length := List.length_filter_le _ _
            have wA := lWith_spec l (mineM k list ++ restM k list) (by simp; omega) hr hlo
            have wB := lWith_spec l (restM k list ++ mineM k list) (by simp; omega) hr hlo
            unfold lwithR at wA wB
            rw [if_pos (List.all_eq_true.2 mm1), with_order hr hlo mm1 hv2 (fun k2 => filter_mine k k2 list)] at wA
            rw [if_pos (List.all_eq_true.2 mm2), with_order hr hlo mm2 hv2 (fun k2 => filter_mine2 k k2 list)] at wB
            have hsame := lSame_spec (withI l list) (withI l list) (by omega) (by omega)
            rw [decide_eq_true rfl] at hsame
            clear m1 m2 mm1 mm2
            clear w1 w2 w3 w4 hr hlo hv2 hv hp hof hok o1 hw hf1 g1 g2 a1 hpk
            generalize withI l list = L at *
            refine tri_for [1, 2, 6, 7, 9] list.length (fun k_ e σ => e 15 = .sc (.int .i64 k_) ∧ e 11 = .sc (.string ((putsK k (list.take k_) (lookI k l)).getD ⟨#[]⟩)) ∧ e 12 = .sc (.bool (putsK k (list.take k_) (lookI k l)).isSome) ∧ ∃ v1 v2, e 13 = v1 ∧ e 14 = v2 ∧ Own 3 σ v1 (mineM k (list.take k_)).length (flatM (mineM k (list.take k_))) ∧ Own 3 σ v2 (restM k (list.take k_)).length (flatM (restM k (list.take k_))) ∧ ∀ j, isH j v1 → ¬ isH j v2) ?_ (fun j env' σ' hlt hk hI => ?_) (fun env' σ' hk hI => ?_)
            · refine ⟨by simp, by simp [putsK], by simp [putsK], _, _, by simp; rfl, by simp; rfl, ?_, ?_, ?_⟩
              · simpa [mineM, flatM, flatC] using (Own.new 3 []).append [⟨[], 0, false, false⟩]
              · simpa [restM, flatM, flatC] using Own.new 3 [⟨[], 0, false, false⟩]
              · intro j h1 h2
                have := isH_ms h1
                have := isH_ms h2
                omega
            · skip
              (try simp at hk)
              obtain ⟨h15, h11, h12, v1, v2, h13, h14, o1, o2, hd⟩ := hI
              have s1 := mine_succ k hlt
              have s2 := rest_succ k hlt
              have s3 := putsK_succ k (lookI k l) hlt
              rw [s1, s2, s3]
              clear s1 s2 s3
              have ap := act_pair (putsK k (list.take j) (lookI k l)) list[j]
              have has := mApply_spec list[j] ((putsK k (list.take j) (lookI k l)).getD ⟨#[]⟩) (putsK k (list.take j) (lookI k l)).isSome
              rw [ap.1, ap.2] at has
              clear ap
              have sg := flatM_seg list j hlt
              have sg1 := flatM_1 list j hlt
              clear n1 n2
              have n1 : (mineM k (list.take j)).length ≤ (list.take j).length := List.length_filter_le _ _
              have n2 : (restM k (list.take j)).length ≤ (list.take j).length := List.length_filter_le _ _
              have n3 : (list.take j).length ≤ list.length := by simp; omega
              generalize mineM k (list.take j) = M1 at *
              generalize restM k (list.take j) = M2 at *
              generalize actM (putsK k (list.take j) (lookI k l)) list[j] = s1 at *
              generalize putsK k (list.take j) (lookI k l) = s0 at *
              replace hd := Lib.hid hd
              by_cases hkey : list[j].key = k
              · rw [if_pos hkey, if_pos hkey, if_pos hkey]
                repeat' (first
                 | (with_reducible first | refine Stp.pf ?_ | refine block_x (by decide) ?_ | refine ret_n ?_)
                 | refine tri_reg [55,56,86,93,110,112,114,120,122,124] ?_ | refine tri_regc [55,56,86,93,110,112,114,120,122,124] [] mixed (by decide +kernel) ?_
                 | (refine rwf_nilt rfl (by decide +kernel) fun B hB => ?_; (try simp [*]); refine hB.out _ fun b => ?_; clear hB B)
                 | (refine Rul.pf ⟨rfl, rfl⟩ fun B C hB => ?_; (try simp [*, -List.all_eq_true, Try.results8]); (try (simp (disch := first | assumption | omega) only [wc, ite_yes]; (try simp [*, -List.all_eq_true, Try.results8]))); first | (first | refine hB.out.1 _ (fun hb => ?_) fun hb => ⟨rfl, ?_⟩ | refine hB.out.1 _ (fun hb => ?_) fun hb => ?_) <;> clear hB C B <;> (try simp only [Bool.not_true, Bool.not_false] at hb) <;> (first | (exfalso; simp at hb; done) | (exfalso; simp at hb; omega) | (rw [hb]; (try simp at hb)) | (try simp at hb)) | ((first | refine hB.out.1 _ _ ?_ | refine hB.out.1 _ ?_ | refine hB.out.2.1 _ _ _ (has) ?_ | refine hB.out.2.2 _ _ _ (has) ?_ | refine hB.out.2 ⟨rfl, ?_⟩); clear hB C B) | (refine hB.out.2 _ ?_; clear hB C B; (try rfl)))
                 | refine rwf_o ?_ | refine rwc_o .n rfl ?_ | refine rwc_o .z rfl ?_ | refine rwc_o .w rfl ?_ | refine rwc_o .b rfl ?_ | refine rwc_o _ rfl ?_)
                refine rwf_app rfl rfl elem22 zero43 rfl bytes43 (by decide) slc22 fun G hG => ?_
                (try simp [*, -List.all_eq_true])
                refine hG.out _ _ _ _ _ (o1) (by simp) (by simp) (by omega) fun v1' σ1 q1 q2 => ?_
                clear hG G
                obtain ⟨f1, f2⟩ := o2.frame (fun j h2 h1 => hd.out j h1 h2) q2
                repeat' (first
                 | (with_reducible first | refine Stp.pf ?_ | refine block_x (by decide) ?_ | refine ret_n ?_)
                 | refine tri_reg [55,56,86,93,110,112,114,120,122,124] ?_ | refine tri_regc [55,56,86,93,110,112,114,120,122,124] [] mixed (by decide +kernel) ?_
                 | (refine rwf_nilt rfl (by decide +kernel) fun B hB => ?_; (try simp [*]); refine hB.out _ fun b => ?_; clear hB B)
                 | (refine Rul.pf ⟨rfl, rfl⟩ fun B C hB => ?_; (try simp [*, -List.all_eq_true, Try.results8]); (try (simp (disch := first | assumption | omega) only [wc, ite_yes]; (try simp [*, -List.all_eq_true, Try.results8]))); first | (first | refine hB.out.1 _ (fun hb => ?_) fun hb => ⟨rfl, ?_⟩ | refine hB.out.1 _ (fun hb => ?_) fun hb => ?_) <;> clear hB C B <;> (try simp only [Bool.not_true, Bool.not_false] at hb) <;> (first | (exfalso; simp at hb; done) | (exfalso; simp at hb; omega) | (rw [hb]; (try simp at hb)) | (try simp at hb)) | ((first | refine hB.out.1 _ _ ?_ | refine hB.out.1 _ ?_ | refine hB.out.2 ⟨rfl, ?_⟩); clear hB C B) | (refine hB.out.2 _ ?_; clear hB C B; (try rfl)))
                 | refine rwf_o ?_ | refine rwc_o .n rfl ?_ | refine rwc_o .z rfl ?_ | refine rwc_o .w rfl ?_ | refine rwc_o .b rfl ?_ | refine rwc_o _ rfl ?_)
                exact ⟨by simp [*], by simp, by simp, by simp, v1', v2, by simp, by simp [*], by simpa [flatM_append, flatM, flatC] using q1, f1, fun j h1 h2 => f2 j h2 h1⟩
              · rw [if_neg hkey, if_neg hkey, if_neg hkey]
                repeat' (first
                 | (with_reducible first | refine Stp.pf ?_ | refine block_x (by decide) ?_ | refine ret_n ?_)
                 | refine tri_reg [55,56,86,93,110,112,114,120,122,124] ?_ | refine tri_regc [55,56,86,93,110,112,114,120,122,124] [] mixed (by decide +kernel) ?_
                 | (refine rwf_nilt rfl (by decide +kernel) fun B hB => ?_; (try simp [*]); refine hB.out _ fun b => ?_; clear hB B)
                 | (refine Rul.pf ⟨rfl, rfl⟩ fun B C hB => ?_; (try simp [*, -List.all_eq_true, Try.results8]); (try (simp (disch := first | assumption | omega) only [wc, ite_yes]; (try simp [*, -List.all_eq_true, Try.results8]))); first | (first | refine hB.out.1 _ (fun hb => ?_) fun hb => ⟨rfl, ?_⟩ | refine hB.out.1 _ (fun hb => ?_) fun hb => ?_) <;> clear hB C B <;> (try simp only [Bool.not_true, Bool.not_false] at hb) <;> (first | (exfalso; simp at hb; done) | (exfalso; simp at hb; omega) | (rw [hb]; (try simp at hb)) | (try simp at hb)) | ((first | refine hB.out.1 _ _ ?_ | refine hB.out.1 _ ?_ | refine hB.out.2 ⟨rfl, ?_⟩); clear hB C B) | (refine hB.out.2 _ ?_; clear hB C B; (try rfl)))
                 | refine rwf_o ?_ | refine rwc_o .n rfl ?_ | refine rwc_o .z rfl ?_ | refine rwc_o .w rfl ?_ | refine rwc_o .b rfl ?_ | refine rwc_o _ rfl ?_)
                refine rwf_app rfl rfl elem22 zero43 rfl bytes43 (by decide) slc22 fun G hG => ?_
                (try simp [*, -List.all_eq_true])
                refine hG.out _ _ _ _ _ (o2) (by simp) (by simp) (by omega) fun v2' σ1 q1 q2 => ?_
                clear hG G
                obtain ⟨f1, f2⟩ := o1.frame hd.out q2
                repeat' (first
                 | (with_reducible first | refine Stp.pf ?_ | refine block_x (by decide) ?_ | refine ret_n ?_)
                 | refine tri_reg [55,56,86,93,110,112,114,120,122,124] ?_ | refine tri_regc [55,56,86,93,110,112,114,120,122,124] [] mixed (by decide +kernel) ?_
                 | (refine rwf_nilt rfl (by decide +kernel) fun B hB => ?_; (try simp [*]); refine hB.out _ fun b => ?_; clear hB B)
                 | (refine Rul.pf ⟨rfl, rfl⟩ fun B C hB => ?_; (try simp [*, -List.all_eq_true, Try.results8]); (try (simp (disch := first | assumption | omega) only [wc, ite_yes]; (try simp [*, -List.all_eq_true, Try.results8]))); first | (first | refine hB.out.1 _ (fun hb => ?_) fun hb => ⟨rfl, ?_⟩ | refine hB.out.1 _ (fun hb => ?_) fun hb => ?_) <;> clear hB C B <;> (try simp only [Bool.not_true, Bool.not_false] at hb) <;> (first | (exfalso; simp at hb; done) | (exfalso; simp at hb; omega) | (rw [hb]; (try simp at hb)) | (try simp at hb)) | ((first | refine hB.out.1 _ _ ?_ | refine hB.out.1 _ ?_ | refine hB.out.2 ⟨rfl, ?_⟩); clear hB C B) | (refine hB.out.2 _ ?_; clear hB C B; (try rfl)))
                 | refine rwf_o ?_ | refine rwc_o .n rfl ?_ | refine rwc_o .z rfl ?_ | refine rwc_o .w rfl ?_ | refine rwc_o .b rfl ?_ | refine rwc_o _ rfl ?_)
                exact ⟨by simp [*], by simp, by simp [*], by simp [*], v1, v2', by simp [*], by simp, f1, by simpa [flatM_append, flatM, flatC] using q1, f2⟩
            · skip
              (try simp at hk)
              obtain ⟨h15, h11, h12, v1, v2, h13, h14, o1, o2, hd⟩ := hI
              clear hd
              rw [List.take_length] at *
              obtain ⟨u1, hu1, wu1⟩ := frz_own o1 (by simp) 0
              obtain ⟨u2, hu2, wu2⟩ := frz_own o2 (by simp) 0
              refine tri_frz2 13 14 _ _ (by rw [h13]; exact hu1) (by rw [h14]; exact hu2) ?_
              refine tri_wk 13 (by simpa using wu1) (tri_wk 14 (by simpa using wu2) ?_)
              clear o1 o2 hu1 hu2 wu1 wu2
              generalize freezeL σ' (List.range σ'.length) = S at *
              generalize mineM k list = M1 at *
              generalize restM k list = M2 at *
              repeat' (first
               | (with_reducible first | refine Stp.pf ?_ | refine block_x (by decide) ?_ | refine ret_n ?_)
               | refine tri_reg [55,56,86,93,110,112,114,120,122,124] ?_ | refine tri_regc [55,56,86,93,110,112,114,120,122,124] [] mixed (by decide +kernel) ?_
               | (refine rwf_nilt rfl (by decide +kernel) fun B hB => ?_; (try simp [*]); refine hB.out _ fun b => ?_; clear hB B)
               | (refine Rul.pf ⟨rfl, rfl⟩ fun B C hB => ?_; (try simp [*, -List.all_eq_true, Try.results8]); (try (simp (disch := first | assumption | omega) only [wc, ite_yes]; (try simp [*, -List.all_eq_true, Try.results8]))); first | (first | refine hB.out.1 _ (fun hb => ?_) fun hb => ⟨rfl, ?_⟩ | refine hB.out.1 _ (fun hb => ?_) fun hb => ?_) <;> clear hB C B <;> (try simp only [Bool.not_true, Bool.not_false] at hb) <;> (first | (exfalso; simp at hb; done) | (exfalso; simp at hb; omega) | (rw [hb]; (try simp at hb)) | (try simp at hb)) | ((first | refine hB.out.1 _ _ ?_ | refine hB.out.1 _ ?_ | refine hB.out.2.1 _ _ _ (hf2) ?_ | refine hB.out.2.2 _ _ _ (hf2) ?_ | refine hB.out.2 ⟨rfl, ?_⟩); clear hB C B) | (refine hB.out.2 _ ?_; clear hB C B; (try rfl)))
               | refine rwf_o ?_ | refine rwc_o .n rfl ?_ | refine rwc_o .z rfl ?_ | refine rwc_o .w rfl ?_ | refine rwc_o .b rfl ?_ | refine rwc_o _ rfl ?_)
              refine rwf_app rfl rfl elem22 zero43 rfl bytes43 (by decide) slc22 fun G hG => ?_
              (try simp [*, -List.all_eq_true])
              refine hG.out _ _ _ _ _ (Own.new 3 S) (by simp) (by simp) (by omega) fun v3 σ3 q1 q2 => ?_
              clear hG G
              clear q2
              repeat' (first
               | (with_reducible first | refine Stp.pf ?_ | refine block_x (by decide) ?_ | refine ret_n ?_)
               | refine tri_reg [55,56,86,93,110,112,114,120,122,124] ?_ | refine tri_regc [55,56,86,93,110,112,114,120,122,124] [] mixed (by decide +kernel) ?_
               | (refine rwf_nilt rfl (by decide +kernel) fun B hB => ?_; (try simp [*]); refine hB.out _ fun b => ?_; clear hB B)
               | (refine Rul.pf ⟨rfl, rfl⟩ fun B C hB => ?_; (try simp [*, -List.all_eq_true, Try.results8]); (try (simp (disch := first | assumption | omega) only [wc, ite_yes]; (try simp [*, -List.all_eq_true, Try.results8]))); first | (first | refine hB.out.1 _ (fun hb => ?_) fun hb => ⟨rfl, ?_⟩ | refine hB.out.1 _ (fun hb => ?_) fun hb => ?_) <;> clear hB C B <;> (try simp only [Bool.not_true, Bool.not_false] at hb) <;> (first | (exfalso; simp at hb; done) | (exfalso; simp at hb; omega) | (rw [hb]; (try simp at hb)) | (try simp at hb)) | ((first | refine hB.out.1 _ _ ?_ | refine hB.out.1 _ ?_ | refine hB.out.2 ⟨rfl, ?_⟩); clear hB C B) | (refine hB.out.2 _ ?_; clear hB C B; (try rfl)))
               | refine rwf_o ?_ | refine rwc_o .n rfl ?_ | refine rwc_o .z rfl ?_ | refine rwc_o .w rfl ?_ | refine rwc_o .b rfl ?_ | refine rwc_o _ rfl ?_)
              refine rwf_app rfl rfl elem22 zero43 rfl bytes43 (by decide) slc22 fun G hG => ?_
              (try simp [*, -List.all_eq_true])
              refine hG.out _ _ _ _ _ (q1) (by simp) (by simp) (by omega) fun v4 σ4 q3 q4 => ?_
              clear hG G
              clear q1 q4
              have q5 : Own 3 σ4 v4 (M1 ++ M2).length (flatM (M1 ++ M2)) := by simpa [flatM_append] using q3
              have c1 := spec_own2 (x := .fp (cL l) 0) (by simp [AV.flat]) q5 (by simp) (wA _)
              clear q3 q5
              repeat' (first
               | (with_reducible first | refine Stp.pf ?_ | refine block_x (by decide) ?_ | refine ret_n ?_)
               | refine tri_reg [55,56,86,93,110,112,114,120,122,124] ?_ | refine tri_regc [55,56,86,93,110,112,114,120,122,124] [] mixed (by decide +kernel) ?_
               | (refine rwf_nilt rfl (by decide +kernel) fun B hB => ?_; (try simp [*]); refine hB.out _ fun b => ?_; clear hB B)
               | (refine Rul.pf ⟨rfl, rfl⟩ fun B C hB => ?_; (try simp [*, -List.all_eq_true, Try.results8]); (try (simp (disch := first | assumption | omega) only [wc, ite_yes]; (try simp [*, -List.all_eq_true, Try.results8]))); first | (first | refine hB.out.1 _ (fun hb => ?_) fun hb => ⟨rfl, ?_⟩ | refine hB.out.1 _ (fun hb => ?_) fun hb => ?_) <;> clear hB C B <;> (try simp only [Bool.not_true, Bool.not_false] at hb) <;> (first | (exfalso; simp at hb; done) | (exfalso; simp at hb; omega) | (rw [hb]; (try simp at hb)) | (try simp at hb)) | ((first | refine hB.out.1 _ _ ?_ | refine hB.out.1 _ ?_ | refine hB.out.2 ⟨rfl, ?_⟩); clear hB C B) | (refine hB.out.2 _ ?_; clear hB C B; (try rfl)))
               | refine rwf_o ?_ | refine rwc_o .n rfl ?_ | refine rwc_o .z rfl ?_ | refine rwc_o .w rfl ?_ | refine rwc_o .b rfl ?_ | refine rwc_o _ rfl ?_)
              refine rwf_ca rfl fun C' hC hP => ?_
              clear hP
              (try simp [*, -List.all_eq_true]); (try (simp (disch := first | assumption | omega) only [wrap_id, wrapu_id, wrapb_id, tmod_nn, tdiv_nn, ite_yes, flatM_seg, flatM_0, flatM_1, flatM_2, flatI_seg, flatI_0, flatI_1, flatS_get]; (try simp [*, -List.all_eq_true])))
              refine hC.out _ _ _ (c1) fun r s5 hq => ?_
              clear hC C'
              obtain ⟨rfl, rfl⟩ := hq
              clear c1
              generalize freezeL σ4 (List.range σ4.length) = S4 at *
              repeat' (first
               | (with_reducible first | refine Stp.pf ?_ | refine block_x (by decide) ?_ | refine ret_n ?_)
               | refine tri_reg [55,56,86,93,110,112,114,120,122,124] ?_ | refine tri_regc [55,56,86,93,110,112,114,120,122,124] [] mixed (by decide +kernel) ?_
               | (refine rwf_nilt rfl (by decide +kernel) fun B hB => ?_; (try simp [*]); refine hB.out _ fun b => ?_; clear hB B)
               | (refine Rul.pf ⟨rfl, rfl⟩ fun B C hB => ?_; (try simp [*, -List.all_eq_true, Try.results8]); (try (simp (disch := first | assumption | omega) only [wc, ite_yes]; (try simp [*, -List.all_eq_true, Try.results8]))); first | (first | refine hB.out.1 _ (fun hb => ?_) fun hb => ⟨rfl, ?_⟩ | refine hB.out.1 _ (fun hb => ?_) fun hb => ?_) <;> clear hB C B <;> (try simp only [Bool.not_true, Bool.not_false] at hb) <;> (first | (exfalso; simp at hb; done) | (exfalso; simp at hb; omega) | (rw [hb]; (try simp at hb)) | (try simp at hb)) | ((first | refine hB.out.1 _ _ ?_ | refine hB.out.1 _ ?_ | refine hB.out.2 ⟨rfl, ?_⟩); clear hB C B) | (refine hB.out.2 _ ?_; clear hB C B; (try rfl)))
               | refine rwf_o ?_ | refine rwc_o .n rfl ?_ | refine rwc_o .z rfl ?_ | refine rwc_o .w rfl ?_ | refine rwc_o .b rfl ?_ | refine rwc_o _ rfl ?_)
              refine rwf_app rfl rfl elem22 zero43 rfl bytes43 (by decide) slc22 fun G hG => ?_
              (try simp [*, -List.all_eq_true])
              refine hG.out _ _ _ _ _ (Own.new 3 S4) (by simp) (by simp) (by omega) fun v5 σ5 q1 q2 => ?_
              clear hG G
              clear q2
              repeat' (first
               | (with_reducible first | refine Stp.pf ?_ | refine block_x (by decide) ?_ | refine ret_n ?_)
               | refine tri_reg [55,56,86,93,110,112,114,120,122,124] ?_ | refine tri_regc [55,56,86,93,110,112,114,120,122,124] [] mixed (by decide +kernel) ?_
               | (refine rwf_nilt rfl (by decide +kernel) fun B hB => ?_; (try simp [*]); refine hB.out _ fun b => ?_; clear hB B)
               | (refine Rul.pf ⟨rfl, rfl⟩ fun B C hB => ?_; (try simp [*, -List.all_eq_true, Try.results8]); (try (simp (disch := first | assumption | omega) only [wc, ite_yes]; (try simp [*, -List.all_eq_true, Try.results8]))); first | (first | refine hB.out.1 _ (fun hb => ?_) fun hb => ⟨rfl, ?_⟩ | refine hB.out.1 _ (fun hb => ?_) fun hb => ?_) <;> clear hB C B <;> (try simp only [Bool.not_true, Bool.not_false] at hb) <;> (first | (exfalso; simp at hb; done) | (exfalso; simp at hb; omega) | (rw [hb]; (try simp at hb)) | (try simp at hb)) | ((first | refine hB.out.1 _ _ ?_ | refine hB.out.1 _ ?_ | refine hB.out.2 ⟨rfl, ?_⟩); clear hB C B) | (refine hB.out.2 _ ?_; clear hB C B; (try rfl)))
               | refine rwf_o ?_ | refine rwc_o .n rfl ?_ | refine rwc_o .z rfl ?_ | refine rwc_o .w rfl ?_ | refine rwc_o .b rfl ?_ | refine rwc_o _ rfl ?_)
              refine rwf_app rfl rfl elem22 zero43 rfl bytes43 (by decide) slc22 fun G hG => ?_
              (try simp [*, -List.all_eq_true])
              refine hG.out _ _ _ _ _ (q1) (by simp) (by simp) (by omega) fun v6 σ6 q3 q4 => ?_
              clear hG G
              clear q1 q4
              have q5 : Own 3 σ6 v6 (M2 ++ M1).length (flatM (M2 ++ M1)) := by simpa [flatM_append] using q3
              have c1 := spec_own2 (x := .fp (cL l) 0) (by simp [AV.flat]) q5 (by simp) (wB _)
              clear q3 q5
              repeat' (first
               | (with_reducible first | refine Stp.pf ?_ | refine block_x (by decide) ?_ | refine ret_n ?_)
               | refine tri_reg [55,56,86,93,110,112,114,120,122,124] ?_ | refine tri_regc [55,56,86,93,110,112,114,120,122,124] [] mixed (by decide +kernel) ?_
               | (refine rwf_nilt rfl (by decide +kernel) fun B hB => ?_; (try simp [*]); refine hB.out _ fun b => ?_; clear hB B)
               | (refine Rul.pf ⟨rfl, rfl⟩ fun B C hB => ?_; (try simp [*, -List.all_eq_true, Try.results8]); (try (simp (disch := first | assumption | omega) only [wc, ite_yes]; (try simp [*, -List.all_eq_true, Try.results8]))); first | (first | refine hB.out.1 _ (fun hb => ?_) fun hb => ⟨rfl, ?_⟩ | refine hB.out.1 _ (fun hb => ?_) fun hb => ?_) <;> clear hB C B <;> (try simp only [Bool.not_true, Bool.not_false] at hb) <;> (first | (exfalso; simp at hb; done) | (exfalso; simp at hb; omega) | (rw [hb]; (try simp at hb)) | (try simp at hb)) | ((first | refine hB.out.1 _ _ ?_ | refine hB.out.1 _ ?_ | refine hB.out.2 ⟨rfl, ?_⟩); clear hB C B) | (refine hB.out.2 _ ?_; clear hB C B; (try rfl)))
               | refine rwf_o ?_ | refine rwc_o .n rfl ?_ | refine rwc_o .z rfl ?_ | refine rwc_o .w rfl ?_ | refine rwc_o .b rfl ?_ | refine rwc_o _ rfl ?_)
              refine rwf_ca rfl fun C' hC hP => ?_
              clear hP
              (try simp [*, -List.all_eq_true]); (try (simp (disch := first | assumption | omega) only [wrap_id, wrapu_id, wrapb_id, tmod_nn, tdiv_nn, ite_yes, flatM_seg, flatM_0, flatM_1, flatM_2, flatI_seg, flatI_0, flatI_1, flatS_get]; (try simp [*, -List.all_eq_true])))
              refine hC.out _ _ _ (c1) fun r s7 hq => ?_
              clear hC C'
              obtain ⟨rfl, rfl⟩ := hq
              clear c1
              generalize freezeL σ6 (List.range σ6.length) = S6 at *
              repeat' (first
               | (with_reducible first | refine Stp.pf ?_ | refine block_x (by decide) ?_ | refine ret_n ?_)
               | refine tri_reg [55,56,86,93,110,112,114,120,122,124] ?_ | refine tri_regc [55,56,86,93,110,112,114,120,122,124] [] mixed (by decide +kernel) ?_
               | (refine rwf_nilt rfl (by decide +kernel) fun B hB => ?_; (try simp [*]); refine hB.out _ fun b => ?_; clear hB B)
               | (refine Rul.pf ⟨rfl, rfl⟩ fun B C hB => ?_; (try simp [*, -List.all_eq_true, Try.results8]); (try (simp (disch := first | assumption | omega) only [wc, ite_yes]; (try simp [*, -List.all_eq_true, Try.results8]))); first | (first | refine hB.out.1 _ (fun hb => ?_) fun hb => ⟨rfl, ?_⟩ | refine hB.out.1 _ (fun hb => ?_) fun hb => ?_) <;> clear hB C B <;> (try simp only [Bool.not_true, Bool.not_false] at hb) <;> (first | (exfalso; simp at hb; done) | (exfalso; simp at hb; omega) | (rw [hb]; (try simp at hb)) | (try simp at hb)) | ((first | refine hB.out.1 _ _ ?_ | refine hB.out.1 _ ?_ | refine hB.out.2.1 _ _ _ (hsame) ?_ | refine hB.out.2.2 _ _ _ (hsame) ?_ | refine hB.out.2 ⟨rfl, ?_⟩); clear hB C B) | (refine hB.out.2 _ ?_; clear hB C B; (try rfl)))
               | refine rwf_o ?_ | refine rwc_o .n rfl ?_ | refine rwc_o .z rfl ?_ | refine rwc_o .w rfl ?_ | refine rwc_o .b rfl ?_ | refine rwc_o _ rfl ?_)
              exact .refl _
end Go.Proofs.Ytemijcjgdgdhjaa
