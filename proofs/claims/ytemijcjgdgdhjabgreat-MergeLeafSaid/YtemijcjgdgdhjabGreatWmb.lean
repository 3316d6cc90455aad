/- Merging: Over's row. -/
import Derived.Test.YtemijcjgdgdhjabGreatWm9
namespace Go.Proofs.YtemijcjgdgdhjabGreat
open Go.RowKit
set_option linter.unusedSimpArgs false
set_option maxRecDepth 10000
theorem mOver1_no (x : Msg) (o : Nat) (σ : Sto) (hx : (applyM x ⟨#[]⟩ false).2 = false) : Spec Tryz.prog 28 [.agg (cM x), .mp o 0 0] σ (fun r s => r = .tup [] ∧ s = σ) := by
  have ha := mApply_spec x ⟨#[]⟩ false
  rw [hx] at ha
  refine spec_intro Tryz.func28 good28 rfl (by simp [Tryz.ntmps28]) ?_
  repeat' (first
   | (with_reducible first | refine Stp.pf ?_ | refine block_x (by decide) ?_ | refine ret_n ?_)
   | refine tri_reg [17] ?_ | refine tri_regc [17] [] mixed (by decide +kernel) ?_
   | (refine rwf_nilt rfl (by decide +kernel) fun B hB => ?_; (try simp [*]); refine hB.out _ fun b => ?_; clear hB B)
   | (refine Rul.pf ⟨rfl, rfl⟩ fun B C hB => ?_; (try simp [*, -List.all_eq_true, Tryz.results28]); (try (simp (disch := first | assumption | omega) only [wc, ite_yes]; (try simp [*, -List.all_eq_true, Tryz.results28]))); first | (first | refine hB.out.1 _ (fun hb => ?_) fun hb => ⟨rfl, ?_⟩ | refine hB.out.1 _ (fun hb => ?_) fun hb => ?_) <;> clear hB C B <;> (try simp only [Bool.not_true, Bool.not_false] at hb) <;> (first | (exfalso; simp at hb; done) | (exfalso; simp at hb; omega) | (rw [hb]; (try simp at hb)) | (try simp at hb)) | ((first | refine hB.out.1 _ _ ?_ | refine hB.out.1 _ ?_ | refine hB.out.2.1 _ _ _ (ha) ?_ | refine hB.out.2.2 _ _ _ (ha) ?_ | refine hB.out.2 ⟨rfl, ?_⟩); clear hB C B) | (refine hB.out.2 _ ?_; clear hB C B; (try rfl)))
   | refine rwf_o ?_ | refine rwc_o .n rfl ?_ | refine rwc_o .z rfl ?_ | refine rwc_o .w rfl ?_ | refine rwc_o .b rfl ?_ | refine rwc_o _ rfl ?_)
  all_goals exact ⟨rfl, rfl⟩
theorem mOver1_yes (x : Msg) (o n : Nat) (v : AV) (fu : Bool) (cs : List AV) (hn : n ≤ 50000000) (σ : Sto) (h1 : σ[o]? = some ⟨[v], 0, false, fu⟩) (h2 : Own 2 σ v n cs) (h3 : ¬ isH o v) (hx : (applyM x ⟨#[]⟩ false).2 = true) :
    Spec Tryz.prog 28 [.agg (cM x), .mp o 0 0] σ (fun r s => r = .tup [] ∧ ∃ v', s[o]? = some ⟨[v'], 0, false, false⟩ ∧ Own 2 s v' (n + 1) (cs ++ cI ⟨x.key, (applyM x ⟨#[]⟩ false).1⟩) ∧ ¬ isH o v' ∧ (∀ j, isH j v' → isH j v ∨ σ.length ≤ j) ∧ (∀ (i : Nat) (ob : MO), i ≠ o → ¬ isH i v → σ[i]? = some ob → s[i]? = some ob) ∧ σ.length ≤ s.length) := by
  have ha := mApply_spec x ⟨#[]⟩ false
  rw [hx] at ha
  have hcM : cM x = [.sc (.int .i64 x.kind), .sc (.string x.key), .sc (.string x.val)] := rfl
  generalize (applyM x ⟨#[]⟩ false).1 = y at *
  refine spec_intro Tryz.func28 good28 rfl (by simp [Tryz.ntmps28]) ?_
  repeat' (first
   | (with_reducible first | refine Stp.pf ?_ | refine block_x (by decide) ?_ | refine ret_n ?_)
   | refine tri_reg [17] ?_ | refine tri_regc [17] [] mixed (by decide +kernel) ?_
   | (refine rwf_nilt rfl (by decide +kernel) fun B hB => ?_; (try simp [*]); refine hB.out _ fun b => ?_; clear hB B)
   | (refine Rul.pf ⟨rfl, rfl⟩ fun B C hB => ?_; (try simp [*, -List.all_eq_true, Tryz.results28]); (try (simp (disch := first | assumption | omega) only [wc, ite_yes]; (try simp [*, -List.all_eq_true, Tryz.results28]))); first | (first | refine hB.out.1 _ (fun hb => ?_) fun hb => ⟨rfl, ?_⟩ | refine hB.out.1 _ (fun hb => ?_) fun hb => ?_) <;> clear hB C B <;> (try simp only [Bool.not_true, Bool.not_false] at hb) <;> (first | (exfalso; simp at hb; done) | (exfalso; simp at hb; omega) | (rw [hb]; (try simp at hb)) | (try simp at hb)) | ((first | refine hB.out.1 _ _ ?_ | refine hB.out.1 _ ?_ | refine hB.out.2.1 _ _ _ (ha) ?_ | refine hB.out.2.2 _ _ _ (ha) ?_ | refine hB.out.2 ⟨rfl, ?_⟩); clear hB C B) | (refine hB.out.2 _ ?_; clear hB C B; (try rfl)))
   | refine rwf_o ?_ | refine rwc_o .n rfl ?_ | refine rwc_o .z rfl ?_ | refine rwc_o .w rfl ?_ | refine rwc_o .b rfl ?_ | refine rwc_o _ rfl ?_)
  refine rwf_app rfl rfl elem22 zero50 rfl bytes50 (by decide) slc22 fun G hG => ?_
  (try simp [*, -List.all_eq_true])
  refine hG.out _ _ _ _ _ (h2) (by simp) (by simp) (by omega) fun v1 σ1 q1 q2 => ?_
  clear hG G
  have w1 := q2.1 _ _ h1 h3
  have w3 : ¬ isH o v1 := fun h => by
    rcases q2.2.1 _ h with h | h
    · exact h3 h
    · have := lt_of_get h1; omega
  have q3 := q1
  rcases q1 with ⟨rfl, q4, _⟩ | ⟨i1, g1, off1, c1, rfl, _⟩
  · omega
  clear h1
  repeat' (first
   | (with_reducible first | refine Stp.pf ?_ | refine block_x (by decide) ?_ | refine ret_n ?_)
   | refine tri_reg [] ?_ | refine tri_regc [] [] mixed (by decide +kernel) ?_
   | (refine rwf_nilt rfl (by decide +kernel) fun B hB => ?_; (try simp [*]); refine hB.out _ fun b => ?_; clear hB B)
   | (refine Rul.pf ⟨rfl, rfl⟩ fun B C hB => ?_; (try simp [*, -List.all_eq_true, Tryz.results28]); (try (simp (disch := first | assumption | omega) only [wc, ite_yes]; (try simp [*, -List.all_eq_true, Tryz.results28]))); first | (first | refine hB.out.1 _ (fun hb => ?_) fun hb => ⟨rfl, ?_⟩ | refine hB.out.1 _ (fun hb => ?_) fun hb => ?_) <;> clear hB C B <;> (try simp only [Bool.not_true, Bool.not_false] at hb) <;> (first | (exfalso; simp at hb; done) | (exfalso; simp at hb; omega) | (rw [hb]; (try simp at hb)) | (try simp at hb)) | ((first | refine hB.out.1 _ _ ?_ | refine hB.out.1 _ ?_ | refine hB.out.2 ⟨rfl, ?_⟩); clear hB C B) | (refine hB.out.2 _ ?_; clear hB C B; (try rfl)))
   | refine rwf_o ?_ | refine rwc_o .n rfl ?_ | refine rwc_o .z rfl ?_ | refine rwc_o .w rfl ?_ | refine rwc_o .b rfl ?_ | refine rwc_o _ rfl ?_)
  exact ⟨rfl, _, by rw [List.getElem?_set_self (lt_of_get w1)], own_set q3 w3 _, w3, q2.2.1, fun i ob hi hv ho => by rw [List.getElem?_set_ne (Ne.symm hi)]; exact q2.1 i ob ho hv, by rw [List.length_set]; exact q2.2.2⟩
end Go.Proofs.YtemijcjgdgdhjabGreat
namespace Go.Proofs.YtemijcjgdgdhjabGreat
open Go.RowKit
set_option linter.unusedSimpArgs false
set_option maxRecDepth 10000
/-- The items that told messages come to. -/
def itemsM (l : List Msg) : List Item := l.filterMap fun m => if (applyM m ⟨#[]⟩ false).2 = true then some ⟨m.key, (applyM m ⟨#[]⟩ false).1⟩ else none
theorem itemsM_len (l : List Msg) : (itemsM l).length ≤ l.length := List.length_filterMap_le _ _
theorem itemsM_succ {M : List Msg} {k : Nat} (h : k < M.length) : itemsM (M.take (k + 1)) = if (applyM M[k] ⟨#[]⟩ false).2 = true then itemsM (M.take k) ++ [⟨M[k].key, (applyM M[k] ⟨#[]⟩ false).1⟩] else itemsM (M.take k) := by
  unfold itemsM
  rw [List.take_add_one, List.getElem?_eq_getElem h, List.filterMap_append]
  by_cases e : (applyM M[k] ⟨#[]⟩ false).2 = true <;> simp [e]
/-- A merger at p and q, and a row of items at o. -/
def OverJ (p q o : Nat) (l : List Run) (I : List Item) (D : List Nat) (σ : Sto) : Prop :=
  q < σ.length ∧ HeadsQ p q [] l σ ∧ o ≠ p ∧ o ≠ q ∧ (p ∈ D ∧ q ∈ D ∧ o ∈ D) ∧ (∀ i ∈ D, i < σ.length) ∧ ∃ v fu, σ[o]? = some ⟨[v], 0, false, fu⟩ ∧ Own 2 σ v I.length (flatI I) ∧ ¬ isH o v ∧ ¬ isH p v ∧ ¬ isH q v ∧ ∀ j, isH j v → j ∈ D
theorem OverJ.stay {p q o : Nat} {l : List Run} {I : List Item} {D : List Nat} {σ s : Sto} (h : OverJ p q o l I D σ) (hs : ∀ i ∈ D, s[i]? = σ[i]?) : OverJ p q o l I D s := by
  obtain ⟨h1, h2, h3, h4, ⟨d1, d2, d3⟩, h6, v, fu, h7, h8, h9, ha, hb, hc⟩ := h
  have hlt : ∀ i ∈ D, i < s.length := fun i hi => by
    obtain ⟨o, ho⟩ := some_of_lt (h6 i hi)
    rw [← hs i hi] at ho
    exact lt_of_get ho
  exact ⟨hlt q d2, h2.stay (hs p d1) (hs q d2), h3, h4, ⟨d1, d2, d3⟩, hlt, v, fu, by rw [hs o d3]; exact h7, own_stay h8 fun j hj => hs j (hc j hj), h9, ha, hb, hc⟩
theorem over_each (p q o : Nat) (l : List Run) (hok : OkU l) (hcu : countU l ≤ 40000000) : EachM Tryz.prog (.fn (.func 16) [.mp p 0 0] []) (.fn (.func 28) [] [.mp o 0 0]) (tellU (countU l) l) (fun k D σ => OverJ p q o (iterU k l) (itemsM ((tellU (countU l) l).take k)) D σ) (fun k D σ => OverJ p q o (iterU (k + 1) l) (itemsM ((tellU (countU l) l).take k)) D σ) := by
  obtain ⟨t1, t2, t3⟩ := tellU_spec (countU l) l hok (Nat.le_refl _)
  have t4 := tellU_len (countU l) l
  generalize tellU (countU l) l = M at *
  refine ⟨fun k D σ σ' h hs => h.stay hs, fun k D σ σ' h hs => h.stay hs, fun k D σ h => h.2.2.2.2.2.1, fun k D σ h => h.2.2.2.2.2.1, fun k D σ hk h => ?_, fun D σ h => ?_, fun k D σ hk h => ?_⟩
  · obtain ⟨h1, h2, h3, h4, ⟨d1, d2, d3⟩, h6, v, fu, h7, h8, h9, ha, hb, hc⟩ := h
    obtain ⟨u1, u2⟩ := t2 k hk
    refine ⟨16, [.mp p 0 0], rfl, (mNext_spec p q σ _ σ h2.self u1).mono fun r s ⟨e1, e2⟩ => ⟨by rw [e1, u2], ⟨D, ?_, fun i hi => .inl hi⟩, fun i ob hi ho => e2.2.1 i ob (fun e => hi (e ▸ d1)) (fun e => hi (e ▸ d2)) ho⟩⟩
    have keep : ∀ i, i ≠ p → i ≠ q → i < σ.length → s[i]? = σ[i]? := fun i hp hq hi => by
      obtain ⟨ob, ho⟩ := some_of_lt hi
      rw [ho]; exact e2.2.1 i ob hp hq ho
    rw [iterU_succ]
    refine ⟨Nat.lt_of_lt_of_le h1 e2.2.2.1, ⟨e2.1, fun i o _ _ ho => by simp at ho, by simp, e2.2.2.2⟩, h3, h4, ⟨d1, d2, d3⟩, fun i hi => Nat.lt_of_lt_of_le (h6 i hi) e2.2.2.1, v, fu, by rw [keep o h3 h4 (h6 o d3)]; exact h7, own_stay h8 fun j hj => keep j (fun e => ha (e ▸ hj)) (fun e => hb (e ▸ hj)) (h6 j (hc j hj)), h9, ha, hb, hc⟩
  · obtain ⟨h1, h2, h3, h4, ⟨d1, d2, d3⟩, h6, v, fu, h7, h8, h9, ha, hb, hc⟩ := h
    rw [t1] at h2
    refine ⟨16, [.mp p 0 0], rfl, (mNext_nil p q σ σ h2.self).mono fun r s ⟨e1, e2⟩ => ⟨e1, ⟨D, ?_, fun i hi => .inl hi⟩, fun i ob hi ho => e2.2.1 i ob (fun e => hi (e ▸ d1)) (fun e => hi (e ▸ d2)) ho⟩⟩
    have keep : ∀ i, i ≠ p → i ≠ q → i < σ.length → s[i]? = σ[i]? := fun i hp hq hi => by
      obtain ⟨ob, ho⟩ := some_of_lt hi
      rw [ho]; exact e2.2.1 i ob hp hq ho
    rw [t1]
    exact ⟨Nat.lt_of_lt_of_le h1 e2.2.2.1, ⟨e2.1, fun i o _ _ ho => by simp at ho, by simp, e2.2.2.2⟩, h3, h4, ⟨d1, d2, d3⟩, fun i hi => Nat.lt_of_lt_of_le (h6 i hi) e2.2.2.1, v, fu, by rw [keep o h3 h4 (h6 o d3)]; exact h7, own_stay h8 fun j hj => keep j (fun e => ha (e ▸ hj)) (fun e => hb (e ▸ hj)) (h6 j (hc j hj)), h9, ha, hb, hc⟩
  · obtain ⟨h1, h2, h3, h4, ⟨d1, d2, d3⟩, h6, v, fu, h7, h8, h9, ha, hb, hc⟩ := h
    have hil := itemsM_len (M.take k)
    have htl : (M.take k).length ≤ M.length := by simp; omega
    have hsu := itemsM_succ hk
    generalize itemsM (M.take k) = I at *
    generalize itemsM (M.take (k + 1)) = I2 at *
    cases hx : (applyM M[k] ⟨#[]⟩ false).2 with
    | false =>
      rw [if_neg (by rw [hx]; simp)] at hsu
      subst hsu
      exact ⟨28, [.agg (cM M[k]), .mp o 0 0], rfl, (mOver1_no M[k] o σ hx).mono fun r s ⟨e1, e2⟩ => ⟨e1, ⟨D, by rw [e2]; exact ⟨h1, h2, h3, h4, ⟨d1, d2, d3⟩, h6, v, fu, h7, h8, h9, ha, hb, hc⟩, fun i hi => .inl hi⟩, fun i ob hi ho => by rw [e2]; exact ho⟩⟩
    | true =>
    rw [if_pos hx] at hsu
    refine ⟨28, [.agg (cM M[k]), .mp o 0 0], rfl, (mOver1_yes M[k] o I.length v fu _ (by omega) σ h7 h8 h9 hx).mono fun r s ⟨e1, v', e2, e3, e4, e5, e6, e7⟩ => ⟨e1, ?_, fun i ob hi ho => e6 i ob (fun e => hi (e ▸ d3)) (fun hh => hi (hc i hh)) ho⟩⟩
    have keep : ∀ i, i ≠ o → ¬ isH i v → i < σ.length → s[i]? = σ[i]? := fun i h1 h2 hi => by
      obtain ⟨ob, ho⟩ := some_of_lt hi
      rw [ho]; exact e6 i ob h1 h2 ho
    have hcs : flatI I ++ cI ⟨M[k].key, (applyM M[k] ⟨#[]⟩ false).1⟩ = flatI I2 := by rw [hsu]; unfold flatI; rw [flatC_append]; simp [flatC]
    have hlen : I.length + 1 = I2.length := by rw [hsu]; simp
    rw [hcs, hlen] at e3
    rcases e3 with ⟨_, h, _⟩ | ⟨i1, g1, off1, c1, rfl, r1, r2, r3⟩
    · omega
    have hno : ∀ i, i < σ.length → ¬ isH i v → ¬ isH i (.ms i1 g1 off1 I2.length 2) := fun i hi hv hh => by
      rcases e5 i hh with h | h
      · exact hv h
      · omega
    have hp1 : p < σ.length := h6 p d1
    have hsl : ∀ i, i < σ.length → i < s.length := fun i hi => Nat.lt_of_lt_of_le hi e7
    refine ⟨i1 :: D, ⟨hsl q h1, h2.stay (keep p h3.symm ha hp1) (keep q h4.symm hb h1), h3, h4, ⟨by simp [d1], by simp [d2], by simp [d3]⟩, fun i hi => ?_, _, false, e2, .inr ⟨i1, g1, off1, c1, rfl, r1, r2, r3⟩, e4, hno p hp1 ha, hno q h1 hb, fun j hj => ?_⟩, fun i hi => ?_⟩
    · rcases List.mem_cons.1 hi with rfl | hi
      · exact lt_of_get r1
      · exact hsl i (h6 i hi)
    · rw [isH_ms hj]; simp
    · rcases List.mem_cons.1 hi with rfl | hi
      · rcases e5 i ⟨_, _, _, _, rfl⟩ with h | h
        · exact .inl (hc i h)
        · exact .inr h
      · exact .inl hi
end Go.Proofs.YtemijcjgdgdhjabGreat
