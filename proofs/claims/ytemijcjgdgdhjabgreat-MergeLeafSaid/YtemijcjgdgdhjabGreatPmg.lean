/- Merging, plainly: what Next tells is what all runs come to. -/
import Derived.Test.YtemijcjgdgdhjabGreatWm5
namespace Go.Proofs.YtemijcjgdgdhjabGreat
open Go.RowKit
set_option linter.unusedSimpArgs false
set_option maxRecDepth 10000
/-- All runs, as the reference has them. -/
def foldR (rs : List (List Msg)) : List Msg := rs.foldl withM []
def lenU (rs : List (List Msg)) : Nat := (rs.map List.length).sum
theorem lenU_succ {rs : List (List Msg)} {k : Nat} (h : k < rs.length) : lenU (rs.take (k + 1)) = lenU (rs.take k) + rs[k].length := by
  unfold lenU
  rw [List.take_add_one, List.getElem?_eq_getElem h, List.map_append, List.sum_append]
  simp
theorem lenU_le (rs : List (List Msg)) (hn : ∀ l ∈ rs, l.length ≤ 30) : ∀ k, lenU (rs.take k) ≤ 30 * k
  | 0 => by simp [lenU]
  | k + 1 => by
    have ih := lenU_le rs hn k
    rcases Nat.lt_or_ge k rs.length with h | h
    · have := hn _ (List.getElem_mem h)
      rw [lenU_succ h]; omega
    · rw [List.take_of_length_le (by omega)] at ih ⊢; omega
end Go.Proofs.YtemijcjgdgdhjabGreat
namespace Go.Proofs.YtemijcjgdgdhjabGreat
open Go.RowKit
set_option linter.unusedSimpArgs false
/-- A key's message. -/
def lookM (k : Str) (l : List Msg) : Option Msg := l.find? fun m => decide (m.key = k)
def cmbO (o : Option Msg) (m : Msg) : Msg := match o with
  | some x => combM x m
  | none => m
def stepK (k : Str) (o : Option Msg) (m : Msg) : Option Msg := if m.key = k then some (cmbO o m) else o
theorem lookM_none {k : Str} {l : List Msg} (h : ∀ x ∈ l, x.key ≠ k) : lookM k l = none := by
  unfold lookM
  rw [List.find?_eq_none]
  intro x hx
  simpa using h x hx
theorem look_put {k : Str} {m : Msg} (hm : isMsg m = true) : ∀ (l : List Msg), l.Pairwise (fun x y => slt x.key y.key = true) → (∀ x ∈ l, isMsg x = true) → lookM k (putL l m) = stepK k (lookM k l) m
  | [], _, _ => by
    unfold putL lookM stepK
    by_cases h : m.key = k <;> simp [h, cmbO]
  | a :: l, h, hv => by
    rw [List.pairwise_cons] at h
    have ih := look_put (k := k) hm l h.2 fun x hx => hv x (by simp [hx])
    unfold putL
    split
    · rename_i h1
      unfold lookM at *
      by_cases ha : a.key = k
      · have hmk : ¬ m.key = k := fun e => slt_ne h1 (ha.trans e.symm)
        simp [stepK, ha, hmk]
      · simp [ha, ih]
    · rename_i h1
      split
      · rename_i h2
        have hk := comb_key (hv a (by simp)) hm h2
        unfold lookM stepK
        by_cases ha : a.key = k
        · have hmk : m.key = k := h2.symm.trans ha
          simp [ha, hk, hmk, cmbO]
        · have hmk : ¬ m.key = k := fun e => ha (h2.trans e)
          simp [ha, hk, hmk]
      · rename_i h2
        unfold stepK
        by_cases hmk : m.key = k
        · have hlt : slt m.key a.key = true := by
            cases e : slt m.key a.key with
            | true => rfl
            | false => exact absurd (slt_tri (by simpa using h1) e) h2
          have hn : lookM k (a :: l) = none := lookM_none fun x hx => by
            rw [← hmk]
            rcases List.mem_cons.1 hx with rfl | hx
            · exact fun e => slt_ne hlt e.symm
            · exact fun e => slt_ne (slt_trans hlt (h.1 x hx)) e.symm
          rw [hn]
          simp [lookM, hmk, cmbO]
        · simp [lookM, hmk]
theorem look_with {k : Str} : ∀ (ms l : List Msg), Rise l → (∀ x ∈ l, isMsg x = true) → (∀ x ∈ ms, isMsg x = true) → lookM k (withM l ms) = ms.foldl (stepK k) (lookM k l)
  | [], l, _, _, _ => rfl
  | m :: ms, l, hr, hv, hms => by
    have h1 := look_put (k := k) (hms m (by simp)) l (rise_iff.1 hr) hv
    rw [← putM_eq] at h1
    have ih := look_with (k := k) ms (putM l m) (putM_rise hr hv (hms m (by simp))) (putM_valid hv (hms m (by simp))) fun x hx => hms x (by simp [hx])
    rw [List.foldl_cons, ← h1]
    exact ih
theorem foldR_ok : ∀ (rs : List (List Msg)) (l : List Msg), Rise l → (∀ x ∈ l, isMsg x = true) → (∀ q ∈ rs, ∀ x ∈ q, isMsg x = true) → Rise (rs.foldl withM l) ∧ (∀ x ∈ rs.foldl withM l, isMsg x = true) ∧ ∀ k, lookM k (rs.foldl withM l) = rs.flatten.foldl (stepK k) (lookM k l)
  | [], l, hr, hv, _ => ⟨hr, hv, fun k => rfl⟩
  | q :: rs, l, hr, hv, hq => by
    obtain ⟨w1, w2, w3⟩ := withM_ok q l hr hv (hq q (by simp))
    obtain ⟨i1, i2, i3⟩ := foldR_ok rs (withM l q) w1 w2 fun r hx => hq r (by simp [hx])
    refine ⟨i1, i2, fun k => ?_⟩
    rw [List.flatten_cons, List.foldl_append, ← look_with q l hr hv (hq q (by simp))]
    exact i3 k
/-- Rows that rise are the same, if they have the same of each key. -/
theorem look_ext : ∀ (a b : List Msg), a.Pairwise (fun x y => slt x.key y.key = true) → b.Pairwise (fun x y => slt x.key y.key = true) → (∀ k, lookM k a = lookM k b) → a = b
  | [], [], _, _, _ => rfl
  | [], y :: b, _, _, h => by have := h y.key; simp [lookM] at this
  | x :: a, [], _, _, h => by have := h x.key; simp [lookM] at this
  | x :: a, y :: b, ha, hb, h => by
    rw [List.pairwise_cons] at ha hb
    have hxy : x = y := by
      have h1 := h x.key
      have h2 := h y.key
      unfold lookM at h1 h2
      simp only [List.find?_cons, decide_true] at h1 h2
      by_cases e : y.key = x.key
      · simp [e] at h1; exact h1
      · have e' : ¬ x.key = y.key := fun q => e q.symm
        simp [e] at h1
        simp [e'] at h2
        have m1 := List.mem_of_find?_eq_some h1.symm
        have m2 := List.mem_of_find?_eq_some h2
        have l1 := hb.1 x m1
        have l2 := ha.1 y m2
        rw [slt_asymm l1] at l2; cases l2
    subst hxy
    congr 1
    refine look_ext a b ha.2 hb.2 fun k => ?_
    have := h k
    unfold lookM at *
    by_cases e : x.key = k
    · have n1 : lookM k a = none := lookM_none fun z hz q => slt_ne (ha.1 z hz) (e.trans q.symm)
      have n2 : lookM k b = none := lookM_none fun z hz q => slt_ne (hb.1 z hz) (e.trans q.symm)
      unfold lookM at n1 n2
      rw [n1, n2]
    · simpa [e] using this
theorem fold_skip {k : Str} : ∀ (l : List Msg) (o : Option Msg), (∀ x ∈ l, x.key ≠ k) → l.foldl (stepK k) o = o
  | [], o, _ => rfl
  | x :: l, o, h => by
    rw [List.foldl_cons]
    unfold stepK
    rw [if_neg (h x (by simp))]
    exact fold_skip l o fun y hy => h y (by simp [hy])
def runsFrom (i : Nat) (qs : List (List Msg)) : List Run := ((qs.zipIdx i).filter fun p => decide (0 < p.1.length)).map fun p => (p.1, (p.2 : Int))
theorem runsFrom_split (A B : List (List Msg)) (l : List Msg) (i : Nat) : runsFrom i (A ++ l :: B) = runsFrom i A ++ (if 0 < l.length then [(l, ((i + A.length : Nat) : Int))] else []) ++ runsFrom (i + A.length + 1) B := by
  unfold runsFrom
  rw [List.zipIdx_append, List.zipIdx_cons, List.filter_append, List.filter_cons, List.map_append]
  by_cases h : 0 < l.length
  · simp [h]
  · simp [h]
theorem runsU_from (qs : List (List Msg)) : runsU qs = runsFrom 0 qs := rfl
theorem runsU_in {qs : List (List Msg)} {j : Nat} (h : j < qs.length) (h0 : 0 < qs[j].length) : (qs[j], (j : Int)) ∈ runsU qs := by
  have e : qs = qs.take j ++ qs[j] :: qs.drop (j + 1) := by rw [← List.drop_eq_getElem_cons h, List.take_append_drop]
  have : runsU qs = runsFrom 0 (qs.take j ++ qs[j] :: qs.drop (j + 1)) := by rw [← e]; rfl
  rw [this, runsFrom_split, if_pos h0]
  simp [Nat.min_eq_left (Nat.le_of_lt h)]
theorem runsU_out {qs : List (List Msg)} {r : Run} (h : r ∈ runsU qs) : ∃ (j : Nat) (hj : j < qs.length), r = (qs[j], (j : Int)) ∧ 0 < qs[j].length := by
  unfold runsU at h
  simp at h
  obtain ⟨a, b, ⟨h1, h2⟩, rfl⟩ := h
  obtain ⟨_, h3, h4⟩ := List.mem_zipIdx h1
  simp at h3 h4
  exact ⟨b, h3, by rw [← h4], by rw [← h4]; exact h2⟩
def GoodQ (qs : List (List Msg)) : Prop := ∀ q ∈ qs, q.Pairwise (fun x y => slt x.key y.key = true) ∧ ∀ x ∈ q, isMsg x = true
/-- One message off the heads. -/
theorem pop_step {U : List Run} {qs : List (List Msg)} (hp : U.Perm (runsU qs)) (hh : HeapOn lessU U 0 U.length) (hg : GoodQ qs) (h0 : 0 < U.length) :
    ∃ (A B : List (List Msg)) (m : Msg) (t : List Msg), qs = A ++ (m :: t) :: B ∧ (popU U).Perm (runsU (A ++ t :: B)) ∧ HeapOn lessU (popU U) 0 (popU U).length ∧ headM (at_ U 0) = m ∧ headK (at_ U 0) = m.key ∧
      (∀ y ∈ qs.flatten, slt y.key m.key = false) ∧ (∀ y ∈ A.flatten, y.key ≠ m.key) := by
  have hin : at_ U 0 ∈ U := by rw [at_lt h0]; exact List.getElem_mem h0
  obtain ⟨a, ha, htop, hpos⟩ := runsU_out (hp.mem_iff.1 hin)
  have e : qs = qs.take a ++ qs[a] :: qs.drop (a + 1) := by rw [← List.drop_eq_getElem_cons ha, List.take_append_drop]
  obtain ⟨m, t, hmt⟩ : ∃ m t, qs[a] = m :: t := by
    cases h : qs[a] with
    | nil => rw [h] at hpos; simp at hpos
    | cons m t => exact ⟨m, t, rfl⟩
  rw [hmt] at e htop
  have hAl : (qs.take a).length = a := by simp; omega
  have hkey : headK (at_ U 0) = m.key := by rw [htop]; rfl
  have hmin : ∀ r ∈ U, lessU r (at_ U 0) = false := fun r hr => by
    obtain ⟨i, hi, rfl⟩ := List.mem_iff_getElem.1 hr
    have := heap_top lessU_ahead hh i hi
    rwa [at_lt hi] at this
  have hmin2 : ∀ (j : Nat) (hj : j < qs.length), 0 < qs[j].length → slt (headK (qs[j], (j : Int))) m.key = false ∧ (headK (qs[j], (j : Int)) = m.key → a ≤ j) := fun j hj hjp => by
    have := hmin _ (hp.mem_iff.2 (runsU_in hj hjp))
    unfold lessU at this
    rw [hkey] at this
    simp only [Bool.or_eq_false_iff, Bool.and_eq_false_iff, decide_eq_false_iff_not] at this
    refine ⟨this.1, fun e => ?_⟩
    have h2 := this.2.resolve_left (fun hn => hn e)
    rw [htop] at h2
    simp at h2
    omega
  have hhead : ∀ (q : List Msg), q ∈ qs → ∀ y ∈ q, 0 < q.length ∧ (y.key = (q.headD zeroM).key ∨ slt (q.headD zeroM).key y.key = true) := fun q hq y hy => by
    cases q with
    | nil => cases hy
    | cons z q =>
      refine ⟨by simp, ?_⟩
      rcases List.mem_cons.1 hy with rfl | hy
      · exact .inl rfl
      · exact .inr ((List.pairwise_cons.1 (hg _ hq).1).1 y hy)
  have hge : ∀ y ∈ qs.flatten, slt y.key m.key = false := fun y hy => by
    obtain ⟨q, hq, hyq⟩ := List.mem_flatten.1 hy
    obtain ⟨j, hj, rfl⟩ := List.mem_iff_getElem.1 hq
    obtain ⟨h1, h2⟩ := hhead _ hq y hyq
    have h3 := (hmin2 j hj h1).1
    change slt (qs[j].headD zeroM).key m.key = false at h3
    rcases h2 with h2 | h2
    · rw [h2]; exact h3
    · exact slt_neg (slt_asymm h2) h3
  have hA : ∀ y ∈ (qs.take a).flatten, y.key ≠ m.key := fun y hy e1 => by
    obtain ⟨q, hq, hyq⟩ := List.mem_flatten.1 hy
    obtain ⟨j, hj, rfl⟩ := List.mem_iff_getElem.1 hq
    rw [List.getElem_take] at hyq
    have hj2 : j < qs.length := by rw [List.length_take] at hj; omega
    have hj3 : j < a := by rw [List.length_take] at hj; omega
    obtain ⟨h1, h2⟩ := hhead _ (List.getElem_mem hj2) y hyq
    have h3 := hmin2 j hj2 h1
    change slt (qs[j].headD zeroM).key m.key = false ∧ ((qs[j].headD zeroM).key = m.key → a ≤ j) at h3
    rcases h2 with h2 | h2
    · have := h3.2 (h2.symm.trans e1); omega
    · rw [e1] at h2; rw [h2] at h3; cases h3.1
  have hpo : (popU U).Perm (runsU (qs.take a ++ t :: qs.drop (a + 1))) ∧ HeapOn lessU (popU U) 0 (popU U).length := by
    obtain ⟨rest, hU⟩ : ∃ rest, U = at_ U 0 :: rest := by
      cases U with
      | nil => simp at h0
      | cons r U => exact ⟨U, rfl⟩
    have hr : rest.Perm (runsFrom 0 (qs.take a) ++ runsFrom (a + 1) (qs.drop (a + 1))) := by
      have h1 : runsU qs = runsFrom 0 (qs.take a) ++ [(m :: t, (a : Int))] ++ runsFrom (a + 1) (qs.drop (a + 1)) := by
        have h2 : runsU qs = runsFrom 0 (qs.take a ++ (m :: t) :: qs.drop (a + 1)) := by rw [← e]; rfl
        rw [h2, runsFrom_split, if_pos (by simp), hAl]
        simp
      rw [h1, hU, htop] at hp
      have h3 : (runsFrom 0 (qs.take a) ++ [(m :: t, (a : Int))] ++ runsFrom (a + 1) (qs.drop (a + 1))).Perm ((m :: t, (a : Int)) :: (runsFrom 0 (qs.take a) ++ runsFrom (a + 1) (qs.drop (a + 1)))) := by
        rw [List.append_assoc]
        exact List.perm_middle
      exact List.Perm.cons_inv (hp.trans h3)
    have hrun : runsU (qs.take a ++ t :: qs.drop (a + 1)) = runsFrom 0 (qs.take a) ++ (if 0 < t.length then [(t, (a : Int))] else []) ++ runsFrom (a + 1) (qs.drop (a + 1)) := by
      rw [runsU_from, runsFrom_split, hAl]
      simp
    rw [hrun]
    unfold popU
    rw [htop]
    by_cases ht : 0 < t.length
    · rw [if_pos (by simpa using ht), if_pos ht]
      obtain ⟨f1, f2⟩ := heapFix_spec lessU_ahead U (t, (a : Int)) hh
      refine ⟨f1.trans ?_, ?_⟩
      · rw [hU]
        show ((t, (a : Int)) :: rest).Perm _
        refine (List.Perm.cons _ hr).trans ?_
        rw [List.append_assoc]
        exact List.perm_middle.symm
      · have hl := f1.length_eq
        rw [List.length_set] at hl
        show HeapOn lessU (heapDown lessU (U.set 0 (t, (a : Int))) 0 U.length).1 0 (heapDown lessU (U.set 0 (t, (a : Int))) 0 U.length).1.length
        rw [hl]; exact f2
    · rw [if_neg (by simpa using ht), if_neg ht]
      obtain ⟨g1, g2, g3⟩ := heapPop_spec lessU_ahead U h0
      have g4 : (heapPop lessU U).1.Perm rest := by
        have h5 := g2
        rw [g1] at h5
        have h6 : (at_ U 0 :: (heapPop lessU U).1).Perm (at_ U 0 :: rest) := h5.trans (by rw [← hU])
        exact List.Perm.cons_inv h6
      refine ⟨by simpa using g4.trans hr, ?_⟩
      have h7 := g2.length_eq
      simp at h7
      rw [show (heapPop lessU U).1.length = U.length - 1 by omega]
      exact g3 hh
  refine ⟨qs.take a, qs.drop (a + 1), m, t, e, ?_, ?_, ?_, hkey, hge, hA⟩
  · exact hpo.1
  · exact hpo.2
  · rw [htop]; rfl
end Go.Proofs.YtemijcjgdgdhjabGreat
