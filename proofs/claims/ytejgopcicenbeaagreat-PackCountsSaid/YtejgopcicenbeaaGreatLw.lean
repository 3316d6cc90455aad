/- The walker, told once: what is left of a walk is handed on. -/
import Derived.Test.YtejgopcicenbeaaGreatLc
namespace Go.Proofs.YtejgopcicenbeaaGreat
open Go.RowKit
/-- The slots whose objects are written later; classes of operations in regions that draw. -/
structure Mu (mu : List Nat) : Prop
structure Ov (ov : List (Nat × List (Nat × Cls))) : Prop
structure Later (R : Prop) : Prop where
  get : R
section
variable {P : Program} {nt : Nat} {Q : Exit → Env → Sto → Prop} {id : Nat} {l : List Oper} {env : Env} {σ : Sto} {mu : List Nat} {ov : List (Nat × List (Nat × Cls))}
theorem tri_regM (_ : Mu mu) (h : rwf P mu (l.map (·.dst)) nt .a (fun env σ => Q .normal env σ) l env σ) : Tri P nt (.region id l.toArray false) env σ Q := tri_reg mu h
theorem tri_regcM {o : List (Nat × Cls)} (_ : Mu mu) (_ : Ov ov) (hm : P.follows .mixedOrders = true) (ho : (ov.lookup id).getD [] = o) (hok : orderOK l.toArray (clsL mu o 0 l) = true) (h : rwc P mu (l.map (·.dst)) nt o (fun env σ => Q .normal env σ) 0 l env σ) : Tri P nt (.region id l.toArray true) env σ Q :=
  tri_regc mu o hm hok h
end
theorem cns {a b : Prop} (h : a) (k : b) : a ∧ b := ⟨h, k⟩
theorem go0 (mu : List Nat) (ov : List (Nat × List (Nat × Cls))) {S Q : Prop} (s : S) (h : Mu mu → Ov ov → S → Q := by
  intro hmu hov hS
  repeat (obtain ⟨_, hS⟩ := hS)
  repeat' (first
   | (with_reducible first | refine Stp.pf ?_ | refine block_x (by decide) ?_ | refine ret_n ?_)
   | refine tri_regM hmu ?_ | refine tri_regcM hmu hov mixed rfl (by decide +kernel) ?_
   | (refine rwf_nilt rfl (by decide +kernel) fun B hB => ?_; (try simp [*]); refine hB.out _ fun b => ?_; clear hB B)
   | (refine Rul.pf ⟨rfl, rfl⟩ fun B C hB => ?_; (try simp [*, -List.all_eq_true]); (try (simp (disch := first | assumption | omega) only [wc, ite_yes]; (try simp [*, -List.all_eq_true]))); first | (first | refine hB.out.1 _ (fun hb => ?_) fun hb => ⟨rfl, ?_⟩ | refine hB.out.1 _ (fun hb => ?_) fun hb => ?_) <;> clear hB C B <;> (try simp only [Bool.not_true, Bool.not_false] at hb) <;> (first | (exfalso; simp at hb; done) | (exfalso; simp at hb; omega) | (rw [hb]; (try simp at hb)) | (try simp at hb)) | ((first | refine hB.out.1 _ _ ?_ | refine hB.out.1 _ ?_ | refine hB.out.2.1 _ _ _ (by first | assumption | apply_assumption) ?_ | refine hB.out.2.2 _ _ _ (by first | assumption | apply_assumption) ?_ | refine hB.out.2 ⟨rfl, ?_⟩); clear hB C B) | (refine hB.out.2 _ ?_; clear hB C B; (try rfl)))
   | refine rwf_o ?_ | refine rwc_o .n rfl ?_ | refine rwc_o .z rfl ?_ | refine rwc_o .w rfl ?_ | refine rwc_o .b rfl ?_ | refine rwc_o _ rfl ?_)
  all_goals (exfalso; contradiction)) : Q := h ⟨⟩ ⟨⟩ s
theorem go1 (mu : List Nat) (ov : List (Nat × List (Nat × Cls))) {S R Q : Prop} (s : S) (r : R) (h : Mu mu → Ov ov → S → Later R → Q := by
  intro hmu hov hS hlater
  repeat (obtain ⟨_, hS⟩ := hS)
  repeat' (first
   | (with_reducible first | refine Stp.pf ?_ | refine block_x (by decide) ?_ | refine ret_n ?_)
   | refine tri_regM hmu ?_ | refine tri_regcM hmu hov mixed rfl (by decide +kernel) ?_
   | (refine rwf_nilt rfl (by decide +kernel) fun B hB => ?_; (try simp [*]); refine hB.out _ fun b => ?_; clear hB B)
   | (refine Rul.pf ⟨rfl, rfl⟩ fun B C hB => ?_; (try simp [*, -List.all_eq_true]); (try (simp (disch := first | assumption | omega) only [wc, ite_yes]; (try simp [*, -List.all_eq_true]))); first | (first | refine hB.out.1 _ (fun hb => ?_) fun hb => ⟨rfl, ?_⟩ | refine hB.out.1 _ (fun hb => ?_) fun hb => ?_) <;> clear hB C B <;> (try simp only [Bool.not_true, Bool.not_false] at hb) <;> (first | (exfalso; simp at hb; done) | (exfalso; simp at hb; omega) | (rw [hb]; (try simp at hb)) | (try simp at hb)) | ((first | refine hB.out.1 _ _ ?_ | refine hB.out.1 _ ?_ | refine hB.out.2.1 _ _ _ (by first | assumption | apply_assumption) ?_ | refine hB.out.2.2 _ _ _ (by first | assumption | apply_assumption) ?_ | refine hB.out.2 ⟨rfl, ?_⟩); clear hB C B) | (refine hB.out.2 _ ?_; clear hB C B; (try rfl)))
   | refine rwf_o ?_ | refine rwc_o .n rfl ?_ | refine rwc_o .z rfl ?_ | refine rwc_o .w rfl ?_ | refine rwc_o .b rfl ?_ | refine rwc_o _ rfl ?_)
  all_goals first | (exfalso; contradiction) | exact hlater.get) : Q := h ⟨⟩ ⟨⟩ s ⟨r⟩
end Go.Proofs.YtejgopcicenbeaaGreat
