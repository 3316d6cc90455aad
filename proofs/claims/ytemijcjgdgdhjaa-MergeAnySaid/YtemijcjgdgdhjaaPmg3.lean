/- Merging, plainly: how many are left; when all is well. -/
import Derived.Test.YtemijcjgdgdhjaaPmg2
namespace Go.Proofs.Ytemijcjgdgdhjaa
open Go.RowKit
set_option linter.unusedSimpArgs false

/-- How many of a key. -/
def cntK (k : Str) (l : List Msg) : Nat := (l.filter fun m => decide (m.key = k)).length
def cntU (k : Str) (l : List Run) : Nat := (l.map fun r => cntK k r.1).sum
theorem cntU_perm {k : Str} {l m : List Run} (h : l.Perm m) : cntU k l = cntU k m := (h.map _).sum_nat
theorem cntK_cons (k : Str) (x : Msg) (l : List Msg) : cntK k (x :: l) = (if x.key = k then 1 else 0) + cntK k l := by
  unfold cntK
  by_cases h : x.key = k <;> simp [h]; omega
theorem cntK_tail {k : Str} {l : List Msg} (h : 0 < l.length) : (if (l.headD zeroM).key = k then 1 else 0) + cntK k l.tail = cntK k l := by
  cases l with
  | nil => simp at h
  | cons x l => rw [cntK_cons]; rfl
theorem cntU_pop {k : Str} {l : List Run} (h0 : 0 < l.length) (hn : ∀ r ∈ l, 0 < r.1.length) : (if headK (at_ l 0) = k then 1 else 0) + cntU k (popU l) = cntU k l := by
  have e0 : at_ l 0 = l[0] := at_lt h0
  have n1 := hn _ (List.getElem_mem h0)
  have n2 := cntK_tail (k := k) n1
  unfold popU
  rw [e0]
  have e2 : headK l[0] = (l[0].1.headD zeroM).key := rfl
  rw [e2]
  by_cases hb : 1 < l[0].1.length
  · rw [if_pos hb]
    obtain ⟨r1, _⟩ := downG_spec lessU_ahead l.length (l.set 0 (l[0].1.tail, l[0].2)) 0 l.length (by omega) (by simp)
    unfold heapDown
    rw [cntU_perm r1]
    cases l with
    | nil => simp at h0
    | cons r l =>
      simp only [List.getElem_cons_zero] at n2
      simp only [List.set_cons_zero, cntU, List.map_cons, List.sum_cons, List.getElem_cons_zero]
      omega
  · rw [if_neg hb]
    obtain ⟨p1, p2, _⟩ := heapPop_spec lessU_ahead l h0
    rw [← cntU_perm p2, p1, e0]
    have e3 : l[0].1.tail = [] := by
      apply List.eq_nil_of_length_eq_zero
      simp; omega
    rw [e3] at n2
    have e4 : cntK k [] = 0 := rfl
    simp only [cntU, List.map_cons, List.sum_cons]
    omega
theorem gather_cnt : ∀ (f : Nat) (x : Msg) (U : List Run) (qs : List (List Msg)), U.Perm (runsU qs) → HeapOn lessU U 0 U.length → GoodQ qs → isMsg x = true →
    countU (gatherU f x U).2 + cntU x.key U = countU U + cntU x.key (gatherU f x U).2 ∧ ∀ k, k ≠ x.key → cntU k (gatherU f x U).2 = cntU k U := by
  intro f
  induction f with
  | zero => intro x U qs hp hh hg hx; exact ⟨rfl, fun _ _ => rfl⟩
  | succ f ih =>
    intro x U qs hp hh hg hx
    unfold gatherU
    by_cases hc : U ≠ [] ∧ headK (at_ U 0) = x.key
    · rw [if_pos hc]
      have h0 : 0 < U.length := List.length_pos_iff.2 hc.1
      have c1 := countU_pop h0 (runs_len hp)
      have c2 := fun k => cntU_pop (k := k) h0 (runs_len hp)
      obtain ⟨A, B, m, t, e, p1, p2, p3, p4, p5, p6⟩ := pop_step hp hh hg h0
      subst e
      have hk : m.key = x.key := p4.symm.trans hc.2
      have hm := goodQ_head hg
      rw [p3]
      have ck := (comb_key hx hm hk.symm).trans hk
      have cv := comb_valid hx hm hk.symm
      obtain ⟨i1, i2⟩ := ih (combM x m) (popU U) (A ++ t :: B) p1 p2 (goodQ_tail hg) cv
      rw [ck] at i1 i2
      refine ⟨?_, fun k hne => ?_⟩
      · have := c2 x.key
        rw [if_pos hc.2] at this
        omega
      · have := c2 k
        rw [if_neg (fun e => hne (e.symm.trans hc.2))] at this
        rw [i2 k hne]; omega
    · rw [if_neg hc]
      exact ⟨rfl, fun _ _ => rfl⟩
theorem cntU_none {k : Str} {U : List Run} (h : ∀ r ∈ U, ∀ y ∈ r.1, y.key ≠ k) : cntU k U = 0 := by
  unfold cntU
  induction U with
  | nil => rfl
  | cons r U ih =>
    have h1 : cntK k r.1 = 0 := by
      unfold cntK
      rw [List.length_eq_zero_iff, List.filter_eq_nil_iff]
      intro y hy
      simpa using h r (by simp) y hy
    simp only [List.map_cons, List.sum_cons, h1]
    rw [ih fun r hr => h r (by simp [hr])]
/-- How many are left behind each told message. -/
theorem next_cnt {U : List Run} {qs : List (List Msg)} (hp : U.Perm (runsU qs)) (hh : HeapOn lessU U 0 U.length) (hg : GoodQ qs) (h0 : 0 < U.length) :
    countU (nextU U).2 + cntU (nextU U).1.key U = countU U ∧ ∀ k, k ≠ (nextU U).1.key → cntU k (nextU U).2 = cntU k U := by
  obtain ⟨qs', q1, q2, q3, q4, q5, q6, q7, q8, q9⟩ := next_step hp hh hg h0
  have hz : cntU (nextU U).1.key (nextU U).2 = 0 := cntU_none fun r hr y hy e => by
    obtain ⟨j, hj, rfl, _⟩ := runsU_out (q1.mem_iff.1 hr)
    have := q4 y (List.mem_flatten.2 ⟨_, List.getElem_mem hj, hy⟩)
    exact slt_ne this e.symm
  have c1 := countU_pop h0 (runs_len hp)
  have c2 := fun k => cntU_pop (k := k) h0 (runs_len hp)
  obtain ⟨A, B, m, t, e, p1, p2, p3, p4, p5, p6⟩ := pop_step hp hh hg h0
  subst e
  have hm := goodQ_head hg
  obtain ⟨g1, g2⟩ := gather_cnt (countU (popU U) + 1) m (popU U) (A ++ t :: B) p1 p2 (goodQ_tail hg) hm
  obtain ⟨_, _, _, _, _, k5, _⟩ := gather_step (countU (popU U) + 1) m (popU U) (A ++ t :: B) p1 p2 (goodQ_tail hg) hm (fun y h => p5 y (by
    simp only [List.flatten_append, List.flatten_cons, List.mem_append, List.cons_append, List.mem_cons] at h ⊢
    rcases h with h | h | h <;> simp [h])) (by omega)
  unfold nextU at hz ⊢
  rw [p3] at hz ⊢
  rw [k5] at hz ⊢
  refine ⟨?_, fun k hne => ?_⟩
  · have := c2 m.key
    rw [if_pos p4] at this
    omega
  · have := c2 k
    rw [if_neg (fun e => hne (e.symm.trans p4))] at this
    rw [g2 k hne]; omega
theorem tell_cnt : ∀ (f : Nat) (U : List Run) (qs : List (List Msg)), U.Perm (runsU qs) → HeapOn lessU U 0 U.length → GoodQ qs → countU U ≤ f →
    ∀ (k : Nat) (h : k < (tellU f U).length), countU (iterU (k + 1) U) + cntU (tellU f U)[k].key U = countU (iterU k U) := by
  intro f
  induction f with
  | zero => intro U qs _ _ _ _ k h; simp [tellU] at h
  | succ f ih =>
    intro U qs hp hh hg hf k h
    by_cases h1 : U = []
    · exfalso; unfold tellU at h; rw [if_pos h1] at h; simp at h
    · obtain ⟨t1, _, _⟩ := tell_all (f + 1) U qs hp hh hg hf
      have e : tellU (f + 1) U = (nextU U).1 :: tellU f (nextU U).2 := by
        conv => lhs; unfold tellU
        rw [if_neg h1]
      obtain ⟨n1, n2⟩ := next_cnt hp hh hg (List.length_pos_iff.2 h1)
      obtain ⟨qs', q1, q2, q3, q4, q5, q6, q7, q8, q9⟩ := next_step hp hh hg (List.length_pos_iff.2 h1)
      cases k with
      | zero =>
        simp only [e, List.getElem_cons_zero]
        exact n1
      | succ k =>
        simp only [e, List.getElem_cons_succ]
        rw [e] at h t1
        have hk : k < (tellU f (nextU U).2).length := by simpa using h
        have := ih (nextU U).2 qs' q1 q2 q3 (by omega) k hk
        rw [← n2 _ (fun e2 => slt_ne ((List.pairwise_cons.1 t1).1 _ (List.getElem_mem hk)) e2.symm)]
        exact this
theorem runsFrom_cons (i : Nat) (l : List Msg) (rs : List (List Msg)) : runsFrom i (l :: rs) = (if 0 < l.length then [(l, (i : Int))] else []) ++ runsFrom (i + 1) rs := by
  unfold runsFrom
  rw [List.zipIdx_cons, List.filter_cons]
  by_cases h : 0 < l.length <;> simp [h]
theorem cntU_app (k : Str) (a b : List Run) : cntU k (a ++ b) = cntU k a + cntU k b := by simp [cntU]
theorem countU_app (a b : List Run) : countU (a ++ b) = countU a + countU b := by simp [countU]
theorem cntU_from (k : Str) : ∀ (rs : List (List Msg)) (i : Nat), cntU k (runsFrom i rs) = (rs.map (cntK k)).sum
  | [], _ => rfl
  | l :: rs, i => by
    rw [runsFrom_cons, cntU_app, cntU_from k rs (i + 1), List.map_cons, List.sum_cons]
    by_cases h : 0 < l.length
    · rw [if_pos h]; simp [cntU]
    · have h2 : l = [] := List.eq_nil_of_length_eq_zero (by omega)
      subst h2
      simp [cntU, cntK]
theorem countU_from : ∀ (rs : List (List Msg)) (i : Nat), countU (runsFrom i rs) = (rs.map List.length).sum
  | [], _ => rfl
  | l :: rs, i => by
    rw [runsFrom_cons, countU_app, countU_from rs (i + 1), List.map_cons, List.sum_cons]
    by_cases h : 0 < l.length
    · rw [if_pos h]; simp [countU]
    · have h2 : l = [] := List.eq_nil_of_length_eq_zero (by omega)
      subst h2
      simp [countU]
theorem cntU_runs (k : Str) (rs : List (List Msg)) : cntU k (runsU rs) = (rs.map (cntK k)).sum := cntU_from k rs 0
theorem countU_runs (rs : List (List Msg)) : countU (runsU rs) = (rs.map List.length).sum := countU_from rs 0
theorem checkM_zero {l : List Msg} (h : checkM l = 0) : l.Pairwise (fun x y => slt x.key y.key = true) ∧ ∀ x ∈ l, isMsg x = true := by
  unfold checkM riseB at h
  split at h
  · cases h
  · rename_i h1
    split at h
    · cases h
    · rename_i h2
      simp only [decide_eq_false_iff_not, Classical.not_not] at h2
      exact ⟨h2, List.all_eq_true.1 (by simpa using h1)⟩
theorem worst_zero {a b : Int} (ha : a = 0 ∨ a = 1 ∨ a = 11) (hb : b = 0 ∨ b = 1 ∨ b = 11) : (worstE a b = 0 ∨ worstE a b = 1 ∨ worstE a b = 11) ∧ (worstE a b = 0 → a = 0 ∧ b = 0) := by
  unfold worstE
  rcases ha with rfl | rfl | rfl <;> rcases hb with rfl | rfl | rfl <;> simp
theorem checkM_vals (l : List Msg) : checkM l = 0 ∨ checkM l = 1 ∨ checkM l = 11 := by
  unfold checkM
  split
  · simp
  · split <;> simp
theorem errs_zero : ∀ (rs : List (List Msg)) (e : Int), (e = 0 ∨ e = 1 ∨ e = 11) → rs.foldl (fun e l => worstE e (checkM l)) e = 0 → e = 0 ∧ ∀ l ∈ rs, checkM l = 0
  | [], e, _, h => ⟨h, by simp⟩
  | l :: rs, e, he, h => by
    obtain ⟨w1, w2⟩ := worst_zero he (checkM_vals l)
    obtain ⟨i1, i2⟩ := errs_zero rs (worstE e (checkM l)) w1 h
    obtain ⟨w3, w4⟩ := w2 i1
    exact ⟨w3, fun q hq => by
      rcases List.mem_cons.1 hq with rfl | hq
      · exact w4
      · exact i2 q hq⟩
theorem err_good {rs : List (List Msg)} (h : errU rs = 0) : GoodQ rs := fun q hq => checkM_zero ((errs_zero rs 0 (.inl rfl) h).2 q hq)
end Go.Proofs.Ytemijcjgdgdhjaa
