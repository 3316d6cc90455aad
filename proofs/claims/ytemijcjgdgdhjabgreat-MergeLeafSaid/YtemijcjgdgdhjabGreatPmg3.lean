/- Merging, plainly: how many are left; when all is well. -/
import Derived.Test.YtemijcjgdgdhjabGreatPmg
namespace Go.Proofs.YtemijcjgdgdhjabGreat
open Go.RowKit
set_option linter.unusedSimpArgs false
theorem runs_empty {qs : List (List Msg)} {U : List Run} (hp : U.Perm (runsU qs)) (h : U = []) : qs.flatten = [] := by
  subst h
  have h1 : runsU qs = [] := hp.symm.eq_nil
  rw [List.flatten_eq_nil_iff]
  intro q hq
  obtain ⟨j, hj, rfl⟩ := List.mem_iff_getElem.1 hq
  cases e : qs[j] with
  | nil => rfl
  | cons x l =>
    have := runsU_in hj (by rw [e]; simp)
    rw [h1] at this
    cases this
theorem goodQ_tail {A B : List (List Msg)} {m : Msg} {t : List Msg} (h : GoodQ (A ++ (m :: t) :: B)) : GoodQ (A ++ t :: B) := fun q hq => by
  rcases List.mem_append.1 hq with hq | hq
  · exact h q (by simp [hq])
  · rcases List.mem_cons.1 hq with rfl | hq
    · obtain ⟨h1, h2⟩ := h (m :: q) (by simp)
      exact ⟨(List.pairwise_cons.1 h1).2, fun x hx => h2 x (by simp [hx])⟩
    · exact h q (by simp [hq])
theorem goodQ_head {A B : List (List Msg)} {m : Msg} {t : List Msg} (h : GoodQ (A ++ (m :: t) :: B)) : isMsg m = true := (h (m :: t) (by simp)).2 m (by simp)
theorem fold_pop {k : Str} {A B : List (List Msg)} {m : Msg} {t : List Msg} {o : Option Msg} (hA : ∀ y ∈ A.flatten, y.key ≠ m.key) : (A ++ (m :: t) :: B).flatten.foldl (stepK k) o = (A ++ t :: B).flatten.foldl (stepK k) (if m.key = k then some (cmbO o m) else o) := by
  simp only [List.flatten_append, List.flatten_cons, List.foldl_append, List.foldl_cons, List.cons_append]
  by_cases e : m.key = k
  · rw [fold_skip A.flatten o fun y hy => by rw [← e]; exact hA y hy, fold_skip A.flatten _ fun y hy => by rw [← e]; exact hA y hy]
    rfl
  · have e1 : ∀ o', stepK k o' m = o' := fun o' => by unfold stepK; rw [if_neg e]
    rw [if_neg e, e1]
theorem runs_len {U : List Run} {qs : List (List Msg)} (hp : U.Perm (runsU qs)) : ∀ r ∈ U, 0 < r.1.length := fun r hr => by
  obtain ⟨j, hj, rfl, h⟩ := runsU_out (hp.mem_iff.1 hr)
  exact h
theorem count_zero {U : List Run} (hn : ∀ r ∈ U, 0 < r.1.length) (h : countU U = 0) : U = [] := by
  cases U with
  | nil => rfl
  | cons r U =>
    have h1 := hn r (by simp)
    have h2 : countU (r :: U) = r.1.length + countU U := by simp [countU]
    omega
theorem gather_step : ∀ (f : Nat) (x : Msg) (U : List Run) (qs : List (List Msg)), U.Perm (runsU qs) → HeapOn lessU U 0 U.length → GoodQ qs → isMsg x = true → (∀ y ∈ qs.flatten, slt y.key x.key = false) → countU U ≤ f →
    ∃ qs' : List (List Msg), (gatherU f x U).2.Perm (runsU qs') ∧ HeapOn lessU (gatherU f x U).2 0 (gatherU f x U).2.length ∧ GoodQ qs' ∧ (∀ y ∈ qs'.flatten, slt x.key y.key = true) ∧ (gatherU f x U).1.key = x.key ∧ isMsg (gatherU f x U).1 = true ∧
      qs.flatten.foldl (stepK x.key) (some x) = some (gatherU f x U).1 ∧ (∀ k, k ≠ x.key → ∀ o, qs'.flatten.foldl (stepK k) o = qs.flatten.foldl (stepK k) o) ∧ countU (gatherU f x U).2 ≤ countU U := by
  intro f
  induction f with
  | zero =>
    intro x U qs hp hh hg hx hy hf
    have h1 := count_zero (runs_len hp) (by omega)
    have h2 := runs_empty hp h1
    refine ⟨qs, hp, hh, hg, by rw [h2]; simp, rfl, hx, by rw [h2]; rfl, fun _ _ _ => rfl, Nat.le_refl _⟩
  | succ f ih =>
    intro x U qs hp hh hg hx hy hf
    unfold gatherU
    by_cases hc : U ≠ [] ∧ headK (at_ U 0) = x.key
    · rw [if_pos hc]
      have h0 : 0 < U.length := List.length_pos_iff.2 hc.1
      obtain ⟨A, B, m, t, e, p1, p2, p3, p4, p5, p6⟩ := pop_step hp hh hg h0
      subst e
      have hk : m.key = x.key := p4.symm.trans hc.2
      have hm := goodQ_head hg
      rw [p3]
      have ck := comb_key hx hm hk.symm
      have cv := comb_valid hx hm hk.symm
      have hcp := countU_pop h0 (runs_len hp)
      have hsub : ∀ y ∈ (A ++ t :: B).flatten, y ∈ (A ++ (m :: t) :: B).flatten := fun y hy => by
        simp only [List.flatten_append, List.flatten_cons, List.mem_append, List.cons_append, List.mem_cons] at hy ⊢
        rcases hy with h | h | h <;> simp [h]
      have hkk : (combM x m).key = x.key := ck.trans hk
      obtain ⟨qs', q1, q2, q3, q4, q5, q6, q7, q8, q9⟩ := ih (combM x m) (popU U) (A ++ t :: B) p1 p2 (goodQ_tail hg) cv (fun y h => by rw [hkk]; exact hy y (hsub y h)) (by omega)
      rw [hkk] at q4 q5 q7 q8
      refine ⟨qs', q1, q2, q3, q4, q5, q6, ?_, ?_, by omega⟩
      · rw [fold_pop p6, if_pos hk]
        exact q7
      · intro k hne o
        rw [q8 k hne o, fold_pop p6, if_neg fun e => hne (e.symm.trans hk)]
    · rw [if_neg hc]
      by_cases h1 : U = []
      · have h2 := runs_empty hp h1
        refine ⟨qs, hp, hh, hg, by rw [h2]; simp, rfl, hx, by rw [h2]; rfl, fun _ _ _ => rfl, Nat.le_refl _⟩
      · have h0 : 0 < U.length := List.length_pos_iff.2 h1
        obtain ⟨A, B, m, t, e, p1, p2, p3, p4, p5, p6⟩ := pop_step hp hh hg h0
        have hne : m.key ≠ x.key := fun e => hc ⟨h1, p4.trans e⟩
        have hmin : m ∈ qs.flatten := by rw [e]; simp
        have hlt : slt x.key m.key = true := by
          cases e1 : slt x.key m.key with
          | true => rfl
          | false => exact absurd (slt_tri (hy m hmin) e1) hne
        have hall : ∀ y ∈ qs.flatten, slt x.key y.key = true := fun y h => by
          cases e2 : slt m.key y.key with
          | true => exact slt_trans hlt e2
          | false => rw [← slt_tri e2 (p5 y h)]; exact hlt
        refine ⟨qs, hp, hh, hg, hall, rfl, hx, ?_, fun _ _ _ => rfl, Nat.le_refl _⟩
        exact fold_skip _ _ fun y h e => slt_ne (hall y h) e.symm
/-- One told message. -/
theorem next_step {U : List Run} {qs : List (List Msg)} (hp : U.Perm (runsU qs)) (hh : HeapOn lessU U 0 U.length) (hg : GoodQ qs) (h0 : 0 < U.length) :
    ∃ qs' : List (List Msg), (nextU U).2.Perm (runsU qs') ∧ HeapOn lessU (nextU U).2 0 (nextU U).2.length ∧ GoodQ qs' ∧ (∀ y ∈ qs'.flatten, slt (nextU U).1.key y.key = true) ∧ isMsg (nextU U).1 = true ∧
      qs.flatten.foldl (stepK (nextU U).1.key) none = some (nextU U).1 ∧ (∀ k, k ≠ (nextU U).1.key → ∀ o, qs'.flatten.foldl (stepK k) o = qs.flatten.foldl (stepK k) o) ∧ countU (nextU U).2 < countU U ∧ ∃ y ∈ qs.flatten, y.key = (nextU U).1.key := by
  obtain ⟨A, B, m, t, e, p1, p2, p3, p4, p5, p6⟩ := pop_step hp hh hg h0
  subst e
  have hm := goodQ_head hg
  have hcp := countU_pop h0 (runs_len hp)
  have hsub : ∀ y ∈ (A ++ t :: B).flatten, y ∈ (A ++ (m :: t) :: B).flatten := fun y hy => by
    simp only [List.flatten_append, List.flatten_cons, List.mem_append, List.cons_append, List.mem_cons] at hy ⊢
    rcases hy with h | h | h <;> simp [h]
  unfold nextU
  rw [p3]
  obtain ⟨qs', q1, q2, q3, q4, q5, q6, q7, q8, q9⟩ := gather_step (countU (popU U) + 1) m (popU U) (A ++ t :: B) p1 p2 (goodQ_tail hg) hm (fun y h => p5 y (hsub y h)) (by omega)
  refine ⟨qs', q1, q2, q3, by rw [q5]; exact q4, q6, ?_, ?_, by omega, m, by simp, q5.symm⟩
  · rw [q5, fold_pop p6, if_pos rfl]
    exact q7
  · intro k hne o
    rw [q5] at hne
    rw [q8 k hne o, fold_pop p6, if_neg fun e => hne e.symm]
theorem tell_all : ∀ (f : Nat) (U : List Run) (qs : List (List Msg)), U.Perm (runsU qs) → HeapOn lessU U 0 U.length → GoodQ qs → countU U ≤ f →
    (tellU f U).Pairwise (fun x y => slt x.key y.key = true) ∧ (∀ x ∈ tellU f U, isMsg x = true ∧ ∃ y ∈ qs.flatten, y.key = x.key) ∧ ∀ k, lookM k (tellU f U) = qs.flatten.foldl (stepK k) none := by
  intro f
  induction f with
  | zero =>
    intro U qs hp hh hg hf
    have h2 := runs_empty hp (count_zero (runs_len hp) (by omega))
    rw [h2]
    exact ⟨by simp [tellU], by simp [tellU], fun k => rfl⟩
  | succ f ih =>
    intro U qs hp hh hg hf
    unfold tellU
    by_cases h1 : U = []
    · rw [if_pos h1, runs_empty hp h1]
      exact ⟨by simp, by simp, fun k => rfl⟩
    · rw [if_neg h1]
      obtain ⟨qs', q1, q2, q3, q4, q5, q6, q7, q8, q9⟩ := next_step hp hh hg (List.length_pos_iff.2 h1)
      obtain ⟨i1, i2, i3⟩ := ih _ qs' q1 q2 q3 (by omega)
      have hin : ∀ y ∈ qs'.flatten, ∃ z ∈ qs.flatten, z.key = y.key := fun y hy => by
        apply Classical.byContradiction
        intro hn
        have hk : y.key ≠ (nextU U).1.key := fun e => slt_ne (q4 y hy) e.symm
        have h2 := q7 y.key hk none
        rw [fold_skip qs.flatten none fun z hz e => hn ⟨z, hz, e⟩] at h2
        rw [← i3] at h2
        have h3 : ∀ (l : List Msg) (o : Option Msg), (∃ z ∈ l, z.key = y.key) ∨ o ≠ none → l.foldl (stepK y.key) o ≠ none := by
          intro l
          induction l with
          | nil => intro o h; simpa using h
          | cons z l ihl =>
            intro o h
            rw [List.foldl_cons]
            refine ihl _ ?_
            by_cases e : z.key = y.key
            · right; unfold stepK; rw [if_pos e]; simp
            · rcases h with ⟨w, hw, hwe⟩ | h
              · rcases List.mem_cons.1 hw with rfl | hw
                · exact absurd hwe e
                · exact .inl ⟨w, hw, hwe⟩
              · right; unfold stepK; rw [if_neg e]; exact h
        exact h3 _ none (.inl ⟨y, hy, rfl⟩) ((i3 _).symm.trans h2)
      refine ⟨List.pairwise_cons.2 ⟨fun y hy => ?_, i1⟩, fun y hy => ?_, fun k => ?_⟩
      · obtain ⟨_, z, hz, e⟩ := i2 y hy
        rw [← e]; exact q4 z hz
      · rcases List.mem_cons.1 hy with rfl | hy
        · exact ⟨q5, q9⟩
        · obtain ⟨v, z, hz, e⟩ := i2 y hy
          obtain ⟨w, hw, e2⟩ := hin z hz
          exact ⟨v, w, hw, e2.trans e⟩
      · by_cases e : (nextU U).1.key = k
        · subst e
          rw [q6]
          simp [lookM]
        · rw [← q7 k (fun h => e h.symm) none, ← i3 k]
          simp [lookM, e]
/-- The code's merging is the reference's. -/
theorem merged_fold {rs : List (List Msg)} (hg : GoodQ rs) : mergedU rs = foldR rs := by
  obtain ⟨p1, p2⟩ := heapInit_spec lessU_ahead (runsU rs)
  have hl := p1.length_eq
  obtain ⟨t1, t2, t3⟩ := tell_all (countU (heapInit lessU (runsU rs))) (heapInit lessU (runsU rs)) rs p1 (by first | exact p2 | (rw [hl]; exact p2)) hg (Nat.le_refl _)
  obtain ⟨f1, f2, f3⟩ := foldR_ok rs [] rise_nil (by simp) fun q hq => (hg q hq).2
  refine look_ext _ _ t1 (rise_iff.1 f1) fun k => ?_
  have := f3 k
  unfold foldR mergedU
  rw [this, t3 k]
  rfl
end Go.Proofs.YtemijcjgdgdhjabGreat
namespace Go.Proofs.YtemijcjgdgdhjabGreat
open Go.RowKit
set_option linter.unusedSimpArgs false
theorem checkM_zero {l : List Msg} (h : checkM l = 0) : l.Pairwise (fun x y => slt x.key y.key = true) ∧ ∀ x ∈ l, isMsg x = true := by
  unfold checkM riseB at h
  split at h
  · cases h
  · rename_i h1
    split at h
    · cases h
    · rename_i h2
      simp only [decide_eq_false_iff_not, Classical.not_not] at h2
      exact ⟨h2, List.all_eq_true.1 (by simpa using h1)⟩
theorem worst_zero {a b : Int} (ha : a = 0 ∨ a = 1 ∨ a = 11) (hb : b = 0 ∨ b = 1 ∨ b = 11) : (worstE a b = 0 ∨ worstE a b = 1 ∨ worstE a b = 11) ∧ (worstE a b = 0 → a = 0 ∧ b = 0) := by
  unfold worstE
  rcases ha with rfl | rfl | rfl <;> rcases hb with rfl | rfl | rfl <;> simp
theorem checkM_vals (l : List Msg) : checkM l = 0 ∨ checkM l = 1 ∨ checkM l = 11 := by
  unfold checkM
  split
  · simp
  · split <;> simp
theorem errs_zero : ∀ (rs : List (List Msg)) (e : Int), (e = 0 ∨ e = 1 ∨ e = 11) → rs.foldl (fun e l => worstE e (checkM l)) e = 0 → e = 0 ∧ ∀ l ∈ rs, checkM l = 0
  | [], e, _, h => ⟨h, by simp⟩
  | l :: rs, e, he, h => by
    obtain ⟨w1, w2⟩ := worst_zero he (checkM_vals l)
    obtain ⟨i1, i2⟩ := errs_zero rs (worstE e (checkM l)) w1 h
    obtain ⟨w3, w4⟩ := w2 i1
    exact ⟨w3, fun q hq => by
      rcases List.mem_cons.1 hq with rfl | hq
      · exact w4
      · exact i2 q hq⟩
theorem err_good {rs : List (List Msg)} (h : errU rs = 0) : GoodQ rs := fun q hq => checkM_zero ((errs_zero rs 0 (.inl rfl) h).2 q hq)
end Go.Proofs.YtemijcjgdgdhjabGreat
