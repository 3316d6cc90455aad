/- Parts of an inner node, plainly. -/
import Derived.Test.YticpnfgiidljlaaGreatNx
namespace Go.Proofs.YticpnfgiidljlaaGreat
open Go.RowKit
set_option linter.unusedSimpArgs false
set_option linter.unusedVariables false
theorem riseB_iff {ps : List Str} : riseB ps = true ↔ (∀ t ∈ ps, isKey t = true) ∧ ps.Pairwise (fun a b => slt a b = true) := by
  constructor
  · intro h
    refine ⟨riseB_keys h, pw_adj (fun s : Str => s) fun j h1 h2 => ?_⟩
    have := List.all_eq_true.1 h (j + 1) (by simpa using h2)
    unfold riseAt at this
    rw [List.getElem?_eq_getElem h2] at this
    rw [Bool.and_eq_true] at this
    have h3 := this.2
    simp only [Nat.add_sub_cancel] at h3
    rw [List.getD_eq_getElem?_getD, List.getElem?_eq_getElem h1, Option.getD_some] at h3
    simpa using h3
  · rintro ⟨h1, h2⟩
    refine List.all_eq_true.2 fun i hi => ?_
    have hi' : i < ps.length := by simpa using hi
    unfold riseAt
    rw [List.getElem?_eq_getElem hi']
    simp only [Bool.and_eq_true, Bool.or_eq_true, decide_eq_true_eq]
    refine ⟨h1 _ (List.getElem_mem hi'), ?_⟩
    by_cases h0 : i = 0
    · exact .inl h0
    · refine .inr ?_
      have := adj_pw (fun s : Str => s) h2 (i - 1) (by omega) (by omega)
      simp only [show i - 1 + 1 = i by omega] at this
      rw [List.getD_eq_getElem?_getD, List.getElem?_eq_getElem (by omega), Option.getD_some]
      exact this
theorem riseB_sub {a b : List Str} (h : riseB b = true) (hs : a.Sublist b) : riseB a = true := by
  rw [riseB_iff] at h ⊢
  exact ⟨fun t ht => h.1 t (hs.subset ht), h.2.sublist hs⟩
theorem good_piece {k : List Int} {p : List Str} (h : goodIn k p = true) {f s : Nat} (hs : 1 ≤ s) (hf : f + s ≤ k.length) : goodIn ((k.drop f).take s) ((p.drop f).take (s - 1)) = true := by
  rw [goodIn_iff] at h ⊢
  obtain ⟨h1, h2, h3, h4⟩ := h
  refine ⟨by simp; omega, by simp; omega, fun x hx => h3 x (List.mem_of_mem_drop (List.mem_of_mem_take hx)), riseB_sub h4 ((List.take_sublist _ _).trans (List.drop_sublist _ _))⟩
theorem good_take {k : List Int} {p : List Str} (h : goodIn k p = true) {f : Nat} (hs : 1 ≤ f) (hf : f ≤ k.length) : goodIn (k.take f) (p.take (f - 1)) = true := by
  have := good_piece h (f := 0) hs (by omega)
  simpa using this
/-- The bounds of a part's messages. -/
def loP (p : List Str) (f : Nat) : Str := if 0 < f then p.getD (f - 1) ⟨#[]⟩ else ⟨#[]⟩
def hiP (p : List Str) (f : Nat) : Str := if f ≤ p.length then p.getD (f - 1) ⟨#[]⟩ else ⟨#[]⟩
theorem takeM_good {m : List Msg} (hr : Rise m) (hm : ∀ x ∈ m, isMsg x = true) (lo hi : Str) (b : Bool) : Rise (takeM m lo hi b) ∧ ∀ x ∈ takeM m lo hi b, isMsg x = true :=
  ⟨by rw [rise_iff] at hr ⊢; exact hr.filter _, fun x hx => hm x (List.mem_filter.1 hx).1⟩
theorem has_key {k lo hi : Str} (h : isKey k = true) : hasM lo hi k = (!(slt k lo) && (decide (hi = ⟨#[]⟩) || slt k hi)) := by unfold hasM; rw [h, Bool.true_and]
theorem slt_no (s : Str) : slt s ⟨#[]⟩ = false := by
  cases h : slt s ⟨#[]⟩ with
  | false => rfl
  | true => simp [slt] at h
theorem msg_key {m : Msg} (h : isMsg m = true) : isKey m.key = true := by
  unfold isMsg at h
  simp only [Bool.and_eq_true] at h
  simp [h]
theorem takeM_all {m : List Msg} (hm : ∀ x ∈ m, isMsg x = true) : takeM m ⟨#[]⟩ ⟨#[]⟩ true = m := by
  unfold takeM
  rw [List.filter_eq_self]
  intro x hx
  rw [has_key (msg_key (hm x hx)), slt_no]
  simp
theorem key_pos {t : Str} (h : isKey t = true) : t ≠ ⟨#[]⟩ := by
  rintro rfl
  have h1 : (1 : Nat) ≤ 0 := (isKey_size h).1
  omega
/-- Messages below a bound and those from it on, one behind the other. -/
theorem take_join {m : List Msg} (hr : Rise m) (hm : ∀ x ∈ m, isMsg x = true) {x hi : Str} (hx : x ≠ ⟨#[]⟩) (hh : hi = ⟨#[]⟩ ∨ slt x hi = true) : withM (takeM m ⟨#[]⟩ x true) (takeM m x hi true) = takeM m ⟨#[]⟩ hi true := by
  have e : takeM m ⟨#[]⟩ x true ++ takeM m x hi true = takeM m ⟨#[]⟩ hi true := by
    rw [rise_iff] at hr
    induction m with
    | nil => rfl
    | cons a m ih =>
      obtain ⟨q1, q2⟩ := List.pairwise_cons.1 hr
      have hka := msg_key (hm a List.mem_cons_self)
      have ih' := ih q2 fun y hy => hm y (List.mem_cons_of_mem _ hy)
      unfold takeM at ih' ⊢
      simp only [List.filter_cons]
      cases ha : slt a.key x with
      | true =>
        have a1 : hasM ⟨#[]⟩ x a.key = true := by rw [has_key hka, slt_no, ha]; simp
        have a2 : hasM x hi a.key = false := by rw [has_key hka, ha]; simp
        have a3 : hasM ⟨#[]⟩ hi a.key = true := by
          rw [has_key hka, slt_no]
          rcases hh with rfl | hh
          · simp
          · simp [slt_trans ha hh]
        rw [a1, a2, a3]
        simp only [beq_self_eq_true, if_true]
        rw [List.cons_append]
        simp only [show (false == true) = false from rfl, Bool.false_eq_true, if_false]
        rw [ih']
      | false =>
        have a1 : hasM ⟨#[]⟩ x a.key = false := by rw [has_key hka, ha]; simp [hx]
        have a2 : hasM x hi a.key = hasM ⟨#[]⟩ hi a.key := by rw [has_key hka, has_key hka, ha, slt_no]
        have rest : List.filter (fun m => hasM ⟨#[]⟩ x m.key == true) m = [] := by
          rw [List.filter_eq_nil_iff]
          intro y hy
          rw [has_key (msg_key (hm y (List.mem_cons_of_mem _ hy)))]
          have := q1 y hy
          cases hyx : slt y.key x with
          | false => simp [hx]
          | true => exact absurd (slt_trans this hyx) (by rw [ha]; simp)
        rw [rest] at ih' ⊢
        rw [a1, a2]
        simp only [List.nil_append, show (false == true) = false from rfl, Bool.false_eq_true, if_false] at ih' ⊢
        rw [ih']
  rw [← e]
  refine with_go _ _ ?_
  rw [e]
  rw [rise_iff] at hr
  exact hr.filter _
end Go.Proofs.YticpnfgiidljlaaGreat
