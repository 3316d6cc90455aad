/- container/heap, at whatever methods that keep a list. -/
import Derived.Test.YtemijcjgdgdhjabGreatFacts
import Derived.Test.YtemijcjgdgdhjabGreatLc
import Derived.Test.YtemijcjgdgdhjabGreatHeapP
namespace Go.Proofs.YtemijcjgdgdhjabGreat
open Go.RowKit
set_option linter.unusedSimpArgs false
set_option maxRecDepth 10000
/-- The methods of x keep a list: Inv. -/
structure HeapM {α : Type} [Inhabited α] (P : Program) (x : AV) (lt : α → α → Bool) (Inv : List α → Sto → Prop) : Prop where
  len : ∀ (l : List α) (σ : Sto), Inv l σ → ∃ f xs, invokeA P σ x "Len" [] = some (f, xs) ∧ Spec P f xs σ (fun r s => r = .sc (.int .i64 l.length) ∧ s = σ)
  less : ∀ (l : List α) (σ : Sto) (i j : Nat), Inv l σ → i < l.length → j < l.length → ∃ f xs, invokeA P σ x "Less" [.sc (.int .i64 i), .sc (.int .i64 j)] = some (f, xs) ∧ Spec P f xs σ (fun r s => r = .sc (.bool (lt (at_ l i) (at_ l j))) ∧ s = σ)
  swap : ∀ (l : List α) (σ : Sto) (i j : Nat), Inv l σ → i < l.length → j < l.length → ∃ f xs, invokeA P σ x "Swap" [.sc (.int .i64 i), .sc (.int .i64 j)] = some (f, xs) ∧ Spec P f xs σ (fun r s => r = .tup [] ∧ Inv (swapG l i j) s)
section
variable {α : Type} [Inhabited α] {x : AV} {lt : α → α → Bool} {Inv : List α → Sto → Prop}
theorem par_int (j : Nat) (h : 0 < j) : ((j : Int) - 1).tdiv 2 = (par j : Nat) := by
  rw [Int.tdiv_eq_ediv_of_nonneg (by omega)]; unfold par; omega
theorem hUp_spec (H : HeapM Tryz.prog x lt Inv) (l : List α) (hl : l.length ≤ 1000000) (j : Nat) (hj : j < l.length) (σ : Sto) (hI : Inv l σ) :
    Spec Tryz.prog 73 [x, .sc (.int .i64 j)] σ (fun r s => r = .tup [] ∧ Inv (heapUp lt l j) s) := by
  refine spec_intro Tryz.func73 good73 rfl (by simp [Tryz.ntmps73]) ?_
  repeat' (first
   | (with_reducible first | refine Stp.pf ?_ | refine block_x (by decide) ?_ | refine ret_n ?_)
   | refine tri_reg [] ?_ | refine tri_regc [] [] mixed (by decide +kernel) ?_
   | (refine rwf_nilt rfl (by decide +kernel) fun B hB => ?_; (try simp [*]); refine hB.out _ fun b => ?_; clear hB B)
   | (refine Rul.pf ⟨rfl, rfl⟩ fun B C hB => ?_; (try simp [*, -List.all_eq_true, Tryz.results73]); (try (simp (disch := first | assumption | omega) only [wc, ite_yes]; (try simp [*, -List.all_eq_true, Tryz.results73]))); first | (first | refine hB.out.1 _ (fun hb => ?_) fun hb => ⟨rfl, ?_⟩ | refine hB.out.1 _ (fun hb => ?_) fun hb => ?_) <;> clear hB C B <;> (try simp only [Bool.not_true, Bool.not_false] at hb) <;> (first | (exfalso; simp at hb; done) | (exfalso; simp at hb; omega) | (rw [hb]; (try simp at hb)) | (try simp at hb)) | ((first | refine hB.out.1 _ _ ?_ | refine hB.out.1 _ ?_ | refine hB.out.2 ⟨rfl, ?_⟩); clear hB C B) | (refine hB.out.2 _ ?_; clear hB C B; (try rfl)))
   | refine rwf_o ?_ | refine rwc_o .n rfl ?_ | refine rwc_o .z rfl ?_ | refine rwc_o .w rfl ?_ | refine rwc_o .b rfl ?_ | refine rwc_o _ rfl ?_)
  refine tri_whl [0] j (fun m e σ => ∃ (f : Nat) (m1 : List α), m ≤ f ∧ e 1 = .sc (.int .i64 m) ∧ m < m1.length ∧ m1.length = l.length ∧ upG lt f m1 m = heapUp lt l j ∧ Inv m1 σ) ?_ (fun m env' σ' hm hk hI => ?_)
  · exact ⟨j, Nat.le_refl _, j, l, Nat.le_refl _, by simp, hj, rfl, rfl, hI⟩
  · skip
    (try simp at hk)
    obtain ⟨f, m1, hf, h1, hm1, hm2, hup, hI1⟩ := hI
    rcases Nat.eq_zero_or_pos m with rfl | hp
    · have : upG lt f m1 0 = m1 := by cases f <;> simp [upG]
      rw [this] at hup
      subst hup
      repeat' (first
       | (with_reducible first | refine Stp.pf ?_ | refine block_x (by decide) ?_ | refine ret_n ?_)
       | refine tri_reg [] ?_ | refine tri_regc [] [] mixed (by decide +kernel) ?_
       | (refine rwf_nilt rfl (by decide +kernel) fun B hB => ?_; (try simp [*]); refine hB.out _ fun b => ?_; clear hB B)
       | (refine Rul.pf ⟨rfl, rfl⟩ fun B C hB => ?_; (try simp [*, -List.all_eq_true, Tryz.results73]); (try (simp (disch := first | assumption | omega) only [wc, ite_yes]; (try simp [*, -List.all_eq_true, Tryz.results73]))); first | (first | refine hB.out.1 _ (fun hb => ?_) fun hb => ⟨rfl, ?_⟩ | refine hB.out.1 _ (fun hb => ?_) fun hb => ?_) <;> clear hB C B <;> (try simp only [Bool.not_true, Bool.not_false] at hb) <;> (first | (exfalso; simp at hb; done) | (exfalso; simp at hb; omega) | (rw [hb]; (try simp at hb)) | (try simp at hb)) | ((first | refine hB.out.1 _ _ ?_ | refine hB.out.1 _ ?_ | refine hB.out.2 ⟨rfl, ?_⟩); clear hB C B) | (refine hB.out.2 _ ?_; clear hB C B; (try rfl)))
       | refine rwf_o ?_ | refine rwc_o .n rfl ?_ | refine rwc_o .z rfl ?_ | refine rwc_o .w rfl ?_ | refine rwc_o .b rfl ?_ | refine rwc_o _ rfl ?_)
      exact ⟨rfl, hI1⟩
    · have hpi := par_int m hp
      have hpl : par m < m := by unfold par; omega
      obtain ⟨fL, xL, i1, s1⟩ := H.less m1 σ' m (par m) hI1 hm1 (by omega)
      obtain ⟨fS, xS, i2, s2⟩ := H.swap m1 σ' (par m) m hI1 (by omega) hm1
      obtain ⟨f, rfl⟩ : ∃ g, f = g + 1 := ⟨f - 1, by omega⟩
      rw [upG, if_neg (by omega)] at hup
      cases hlt : lt (at_ m1 m) (at_ m1 (par m)) with
      | false =>
        rw [hlt, if_neg (by simp)] at hup
        subst hup
        rw [hlt] at s1
        repeat' (first
         | (with_reducible first | refine Stp.pf ?_ | refine block_x (by decide) ?_ | refine ret_n ?_)
         | refine tri_reg [] ?_ | refine tri_regc [] [] mixed (by decide +kernel) ?_
         | (refine rwf_nilt rfl (by decide +kernel) fun B hB => ?_; (try simp [*]); refine hB.out _ fun b => ?_; clear hB B)
         | (refine Rul.pf ⟨rfl, rfl⟩ fun B C hB => ?_; (try simp [*, -List.all_eq_true, -invokeA, Tryz.results73]); (try (simp (disch := first | assumption | omega) only [wc, ite_yes]; (try simp [*, -List.all_eq_true, -invokeA, Tryz.results73]))); first | (first | refine hB.out.1 _ (fun hb => ?_) fun hb => ⟨rfl, ?_⟩ | refine hB.out.1 _ (fun hb => ?_) fun hb => ?_) <;> clear hB C B <;> (try simp only [Bool.not_true, Bool.not_false] at hb) <;> (first | (exfalso; simp at hb; done) | (exfalso; simp at hb; omega) | (rw [hb]; (try simp at hb)) | (try simp at hb)) | ((first | refine hB.out.1 _ _ ?_ | refine hB.out.1 _ ?_ | refine hB.out.2.1 _ _ _ (s1) ?_ | refine hB.out.2.2 _ _ _ (s1) ?_ | refine hB.out.2 ⟨rfl, ?_⟩); clear hB C B) | (refine hB.out.2 _ ?_; clear hB C B; (try rfl)))
         | refine rwf_o ?_ | refine rwc_o .n rfl ?_ | refine rwc_o .z rfl ?_ | refine rwc_o .w rfl ?_ | refine rwc_o .b rfl ?_ | refine rwc_o _ rfl ?_)
        exact ⟨rfl, hI1⟩
      | true =>
        rw [if_pos hlt] at hup
        rw [hlt] at s1
        repeat' (first
         | (with_reducible first | refine Stp.pf ?_ | refine block_x (by decide) ?_ | refine ret_n ?_)
         | refine tri_reg [] ?_ | refine tri_regc [] [] mixed (by decide +kernel) ?_
         | (refine rwf_nilt rfl (by decide +kernel) fun B hB => ?_; (try simp [*]); refine hB.out _ fun b => ?_; clear hB B)
         | (refine Rul.pf ⟨rfl, rfl⟩ fun B C hB => ?_; (try simp [*, -List.all_eq_true, -invokeA, Tryz.results73]); (try (simp (disch := first | assumption | omega) only [wc, ite_yes]; (try simp [*, -List.all_eq_true, -invokeA, Tryz.results73]))); first | (first | refine hB.out.1 _ (fun hb => ?_) fun hb => ⟨rfl, ?_⟩ | refine hB.out.1 _ (fun hb => ?_) fun hb => ?_) <;> clear hB C B <;> (try simp only [Bool.not_true, Bool.not_false] at hb) <;> (first | (exfalso; simp at hb; done) | (exfalso; simp at hb; omega) | (rw [hb]; (try simp at hb)) | (try simp at hb)) | ((first | refine hB.out.1 _ _ ?_ | refine hB.out.1 _ ?_ | refine hB.out.2.1 _ _ _ (s1) ?_ | refine hB.out.2.2 _ _ _ (s1) ?_ | refine hB.out.2.1 _ _ _ (s2) ?_ | refine hB.out.2.2 _ _ _ (s2) ?_ | refine hB.out.2 ⟨rfl, ?_⟩); clear hB C B) | (refine hB.out.2 _ ?_; clear hB C B; (try rfl)))
         | refine rwf_o ?_ | refine rwc_o .n rfl ?_ | refine rwc_o .z rfl ?_ | refine rwc_o .w rfl ?_ | refine rwc_o .b rfl ?_ | refine rwc_o _ rfl ?_)
        refine rwf_ca rfl fun C' hC hP => ?_
        clear hP
        (try simp [*, -List.all_eq_true, -invokeA]); (try (simp (disch := first | assumption | omega) only [wrap_id, wrapu_id, wrapb_id, tmod_nn, tdiv_nn, ite_yes, flatM_seg, flatM_0, flatM_1, flatM_2, flatI_seg, flatI_0, flatI_1, flatS_get]; (try simp [*, -List.all_eq_true, -invokeA])))
        refine hC.out _ _ _ (s2) fun r s hq => ?_
        clear hC C'
        obtain ⟨rfl, hq⟩ := hq
        repeat' (first
         | (with_reducible first | refine Stp.pf ?_ | refine block_x (by decide) ?_ | refine ret_n ?_)
         | refine tri_reg [] ?_ | refine tri_regc [] [] mixed (by decide +kernel) ?_
         | (refine rwf_nilt rfl (by decide +kernel) fun B hB => ?_; (try simp [*]); refine hB.out _ fun b => ?_; clear hB B)
         | (refine Rul.pf ⟨rfl, rfl⟩ fun B C hB => ?_; (try simp [*, -List.all_eq_true, -invokeA, Tryz.results73]); (try (simp (disch := first | assumption | omega) only [wc, ite_yes]; (try simp [*, -List.all_eq_true, -invokeA, Tryz.results73]))); first | (first | refine hB.out.1 _ (fun hb => ?_) fun hb => ⟨rfl, ?_⟩ | refine hB.out.1 _ (fun hb => ?_) fun hb => ?_) <;> clear hB C B <;> (try simp only [Bool.not_true, Bool.not_false] at hb) <;> (first | (exfalso; simp at hb; done) | (exfalso; simp at hb; omega) | (rw [hb]; (try simp at hb)) | (try simp at hb)) | ((first | refine hB.out.1 _ _ ?_ | refine hB.out.1 _ ?_ | refine hB.out.2 ⟨rfl, ?_⟩); clear hB C B) | (refine hB.out.2 _ ?_; clear hB C B; (try rfl)))
         | refine rwf_o ?_ | refine rwc_o .n rfl ?_ | refine rwc_o .z rfl ?_ | refine rwc_o .w rfl ?_ | refine rwc_o .b rfl ?_ | refine rwc_o _ rfl ?_)
        exact ⟨by simp [*], par m, hpl, f, _, by omega, by simp, by simp; omega, by simpa using hm2, hup, hq⟩
set_option maxHeartbeats 4000000 in
theorem hDown_spec (H : HeapM Tryz.prog x lt Inv) (l : List α) (hl : l.length ≤ 1000000) (i n : Nat) (hn : n ≤ l.length) (hi : i < l.length) (σ : Sto) (hI : Inv l σ) :
    Spec Tryz.prog 56 [x, .sc (.int .i64 i), .sc (.int .i64 n)] σ (fun r s => r = .sc (.bool (decide (i < (heapDown lt l i n).2))) ∧ Inv (heapDown lt l i n).1 s) := by
  refine spec_intro Tryz.func56 good56 rfl (by simp [Tryz.ntmps56]) ?_
  repeat' (first
   | (with_reducible first | refine Stp.pf ?_ | refine block_x (by decide) ?_ | refine ret_n ?_)
   | refine tri_reg [] ?_ | refine tri_regc [] [] mixed (by decide +kernel) ?_
   | (refine rwf_nilt rfl (by decide +kernel) fun B hB => ?_; (try simp [*]); refine hB.out _ fun b => ?_; clear hB B)
   | (refine Rul.pf ⟨rfl, rfl⟩ fun B C hB => ?_; (try simp [*, -List.all_eq_true, Tryz.results56]); (try (simp (disch := first | assumption | omega) only [wc, ite_yes]; (try simp [*, -List.all_eq_true, Tryz.results56]))); first | (first | refine hB.out.1 _ (fun hb => ?_) fun hb => ⟨rfl, ?_⟩ | refine hB.out.1 _ (fun hb => ?_) fun hb => ?_) <;> clear hB C B <;> (try simp only [Bool.not_true, Bool.not_false] at hb) <;> (first | (exfalso; simp at hb; done) | (exfalso; simp at hb; omega) | (rw [hb]; (try simp at hb)) | (try simp at hb)) | ((first | refine hB.out.1 _ _ ?_ | refine hB.out.1 _ ?_ | refine hB.out.2 ⟨rfl, ?_⟩); clear hB C B) | (refine hB.out.2 _ ?_; clear hB C B; (try rfl)))
   | refine rwf_o ?_ | refine rwc_o .n rfl ?_ | refine rwc_o .z rfl ?_ | refine rwc_o .w rfl ?_ | refine rwc_o .b rfl ?_ | refine rwc_o _ rfl ?_)
  refine tri_whl [0, 1, 2, 6] n (fun m e σ => ∃ (f i1 : Nat) (m1 : List α), n ≤ f + i1 ∧ e 7 = .sc (.int .i64 i1) ∧ i1 < m1.length ∧ m = n - i1 ∧ m1.length = l.length ∧ downG lt f m1 i1 n = heapDown lt l i n ∧ Inv m1 σ) ?_ (fun m env' σ' hm hk hI => ?_)
  · exact ⟨n - i, by omega, n, i, l, by omega, by simp, hi, rfl, rfl, rfl, hI⟩
  · skip
    (try simp at hk)
    obtain ⟨f, i1, m1, hf, h7, hm1, hmn, hm2, hdn, hI1⟩ := hI
    by_cases hlt : n ≤ 2 * i1 + 1
    · have : downG lt f m1 i1 n = (m1, i1) := by cases f <;> simp [downG, hlt]
      rw [this] at hdn
      repeat' (first
       | (with_reducible first | refine Stp.pf ?_ | refine block_x (by decide) ?_ | refine ret_n ?_)
       | refine tri_reg [] ?_ | refine tri_regc [] [] mixed (by decide +kernel) ?_
       | (refine rwf_nilt rfl (by decide +kernel) fun B hB => ?_; (try simp [*]); refine hB.out _ fun b => ?_; clear hB B)
       | (refine Rul.pf ⟨rfl, rfl⟩ fun B C hB => ?_; (try simp [*, -List.all_eq_true, Tryz.results56]); (try (simp (disch := first | assumption | omega) only [wc, ite_yes]; (try simp [*, -List.all_eq_true, Tryz.results56]))); first | (first | refine hB.out.1 _ (fun hb => ?_) fun hb => ⟨rfl, ?_⟩ | refine hB.out.1 _ (fun hb => ?_) fun hb => ?_) <;> clear hB C B <;> (try simp only [Bool.not_true, Bool.not_false] at hb) <;> (first | (exfalso; simp at hb; done) | (exfalso; simp at hb; omega) | (rw [hb]; (try simp at hb)) | (try simp at hb)) | ((first | refine hB.out.1 _ _ ?_ | refine hB.out.1 _ ?_ | refine hB.out.2 ⟨rfl, ?_⟩); clear hB C B) | (refine hB.out.2 _ ?_; clear hB C B; (try rfl)))
       | refine rwf_o ?_ | refine rwc_o .n rfl ?_ | refine rwc_o .z rfl ?_ | refine rwc_o .w rfl ?_ | refine rwc_o .b rfl ?_ | refine rwc_o _ rfl ?_)
      all_goals (rw [← hdn]; exact ⟨rfl, hI1⟩)
    · obtain ⟨f, rfl⟩ : ∃ g, f = g + 1 := ⟨f - 1, by omega⟩
      rw [downG, if_neg hlt] at hdn
      have hkid := kidG_two (lt := lt) m1 i1 n
      obtain ⟨j1, hj1⟩ : ∃ j1, 2 * i1 + 1 = j1 := ⟨_, rfl⟩
      obtain ⟨j2, hj2⟩ : ∃ j2, j1 + 1 = j2 := ⟨_, rfl⟩
      have c1 : 2 * (i1 : Int) + 1 = (j1 : Int) := by omega
      have c2 : (j1 : Int) + 1 = (j2 : Int) := by omega
      have hk2 : kidG lt m1 i1 n = if j2 < n ∧ lt (at_ m1 j2) (at_ m1 j1) = true then j2 else j1 := by unfold kidG; rw [hj1, show 2 * i1 + 2 = j2 by omega]
      generalize kidG lt m1 i1 n = j at *
      have hjn : j < n := by omega
      have hij : i1 < j := by omega
      obtain ⟨fL, xL, l1, l2⟩ := H.less m1 σ' j i1 hI1 (by omega) hm1
      obtain ⟨fS, xS, s1, s2⟩ := H.swap m1 σ' i1 j hI1 hm1 (by omega)
      by_cases h2 : j2 < n
      · obtain ⟨fA, xA, a1, a2⟩ := H.less m1 σ' j2 j1 hI1 (by omega) (by omega)
        cases hA : lt (at_ m1 j2) (at_ m1 j1) with
        | false =>
          rw [hA, if_neg (by simp)] at hk2
          subst hk2
          rw [hA] at a2
          cases hB : lt (at_ m1 j) (at_ m1 i1) with
          | false =>
            rw [hB, if_neg (by simp)] at hdn
            rw [hB] at l2
            clear hj1 hkid
            repeat' (first
             | (with_reducible first | refine Stp.pf ?_ | refine block_x (by decide) ?_ | refine ret_n ?_)
             | refine tri_reg [] ?_ | refine tri_regc [] [] mixed (by decide +kernel) ?_
             | (refine rwf_nilt rfl (by decide +kernel) fun B hB => ?_; (try simp [*]); refine hB.out _ fun b => ?_; clear hB B)
             | (refine Rul.pf ⟨rfl, rfl⟩ fun B C hB => ?_; (try simp [*, -List.all_eq_true, -invokeA, Tryz.results56]); (try (simp (disch := first | assumption | omega) only [wc, ite_yes]; (try simp [*, -List.all_eq_true, -invokeA, Tryz.results56]))); first | (first | refine hB.out.1 _ (fun hb => ?_) fun hb => ⟨rfl, ?_⟩ | refine hB.out.1 _ (fun hb => ?_) fun hb => ?_) <;> clear hB C B <;> (try simp only [Bool.not_true, Bool.not_false] at hb) <;> (first | (exfalso; simp at hb; done) | (exfalso; simp at hb; omega) | (rw [hb]; (try simp at hb)) | (try simp at hb)) | ((first | refine hB.out.1 _ _ ?_ | refine hB.out.1 _ ?_ | refine hB.out.2.1 _ _ _ (a2) ?_ | refine hB.out.2.2 _ _ _ (a2) ?_ | refine hB.out.2.1 _ _ _ (l2) ?_ | refine hB.out.2.2 _ _ _ (l2) ?_ | refine hB.out.2 ⟨rfl, ?_⟩); clear hB C B) | (refine hB.out.2 _ ?_; clear hB C B; (try rfl)))
             | refine rwf_o ?_ | refine rwc_o .n rfl ?_ | refine rwc_o .z rfl ?_ | refine rwc_o .w rfl ?_ | refine rwc_o .b rfl ?_ | refine rwc_o _ rfl ?_)
            all_goals (rw [← hdn]; exact ⟨rfl, hI1⟩)
          | true =>
            rw [if_pos hB] at hdn
            rw [hB] at l2
            clear hj1 hkid
            repeat' (first
             | (with_reducible first | refine Stp.pf ?_ | refine block_x (by decide) ?_ | refine ret_n ?_)
             | refine tri_reg [] ?_ | refine tri_regc [] [] mixed (by decide +kernel) ?_
             | (refine rwf_nilt rfl (by decide +kernel) fun B hB => ?_; (try simp [*]); refine hB.out _ fun b => ?_; clear hB B)
             | (refine Rul.pf ⟨rfl, rfl⟩ fun B C hB => ?_; (try simp [*, -List.all_eq_true, -invokeA, Tryz.results56]); (try (simp (disch := first | assumption | omega) only [wc, ite_yes]; (try simp [*, -List.all_eq_true, -invokeA, Tryz.results56]))); first | (first | refine hB.out.1 _ (fun hb => ?_) fun hb => ⟨rfl, ?_⟩ | refine hB.out.1 _ (fun hb => ?_) fun hb => ?_) <;> clear hB C B <;> (try simp only [Bool.not_true, Bool.not_false] at hb) <;> (first | (exfalso; simp at hb; done) | (exfalso; simp at hb; omega) | (rw [hb]; (try simp at hb)) | (try simp at hb)) | ((first | refine hB.out.1 _ _ ?_ | refine hB.out.1 _ ?_ | refine hB.out.2.1 _ _ _ (a2) ?_ | refine hB.out.2.2 _ _ _ (a2) ?_ | refine hB.out.2.1 _ _ _ (l2) ?_ | refine hB.out.2.2 _ _ _ (l2) ?_ | refine hB.out.2 ⟨rfl, ?_⟩); clear hB C B) | (refine hB.out.2 _ ?_; clear hB C B; (try rfl)))
             | refine rwf_o ?_ | refine rwc_o .n rfl ?_ | refine rwc_o .z rfl ?_ | refine rwc_o .w rfl ?_ | refine rwc_o .b rfl ?_ | refine rwc_o _ rfl ?_)
            refine rwf_ca rfl fun C' hC hP => ?_
            clear hP
            (try simp [*, -List.all_eq_true, -invokeA]); (try (simp (disch := first | assumption | omega) only [wrap_id, wrapu_id, wrapb_id, tmod_nn, tdiv_nn, ite_yes, flatM_seg, flatM_0, flatM_1, flatM_2, flatI_seg, flatI_0, flatI_1, flatS_get]; (try simp [*, -List.all_eq_true, -invokeA])))
            refine hC.out _ _ _ (s2) fun r s hq => ?_
            clear hC C'
            obtain ⟨rfl, hq⟩ := hq
            repeat' (first
             | (with_reducible first | refine Stp.pf ?_ | refine block_x (by decide) ?_ | refine ret_n ?_)
             | refine tri_reg [] ?_ | refine tri_regc [] [] mixed (by decide +kernel) ?_
             | (refine rwf_nilt rfl (by decide +kernel) fun B hB => ?_; (try simp [*]); refine hB.out _ fun b => ?_; clear hB B)
             | (refine Rul.pf ⟨rfl, rfl⟩ fun B C hB => ?_; (try simp [*, -List.all_eq_true, -invokeA, Tryz.results56]); (try (simp (disch := first | assumption | omega) only [wc, ite_yes]; (try simp [*, -List.all_eq_true, -invokeA, Tryz.results56]))); first | (first | refine hB.out.1 _ (fun hb => ?_) fun hb => ⟨rfl, ?_⟩ | refine hB.out.1 _ (fun hb => ?_) fun hb => ?_) <;> clear hB C B <;> (try simp only [Bool.not_true, Bool.not_false] at hb) <;> (first | (exfalso; simp at hb; done) | (exfalso; simp at hb; omega) | (rw [hb]; (try simp at hb)) | (try simp at hb)) | ((first | refine hB.out.1 _ _ ?_ | refine hB.out.1 _ ?_ | refine hB.out.2 ⟨rfl, ?_⟩); clear hB C B) | (refine hB.out.2 _ ?_; clear hB C B; (try rfl)))
             | refine rwf_o ?_ | refine rwc_o .n rfl ?_ | refine rwc_o .z rfl ?_ | refine rwc_o .w rfl ?_ | refine rwc_o .b rfl ?_ | refine rwc_o _ rfl ?_)
            exact ⟨by simp [*], n - j, by omega, f, j, _, by omega, by simp, by simp; omega, rfl, by simpa using hm2, hdn, hq⟩
        | true =>
          rw [if_pos ⟨h2, hA⟩] at hk2
          subst hk2
          rw [hA] at a2
          cases hB : lt (at_ m1 j) (at_ m1 i1) with
          | false =>
            rw [hB, if_neg (by simp)] at hdn
            rw [hB] at l2
            clear hj1 hkid
            repeat' (first
             | (with_reducible first | refine Stp.pf ?_ | refine block_x (by decide) ?_ | refine ret_n ?_)
             | refine tri_reg [] ?_ | refine tri_regc [] [] mixed (by decide +kernel) ?_
             | (refine rwf_nilt rfl (by decide +kernel) fun B hB => ?_; (try simp [*]); refine hB.out _ fun b => ?_; clear hB B)
             | (refine Rul.pf ⟨rfl, rfl⟩ fun B C hB => ?_; (try simp [*, -List.all_eq_true, -invokeA, Tryz.results56]); (try (simp (disch := first | assumption | omega) only [wc, ite_yes]; (try simp [*, -List.all_eq_true, -invokeA, Tryz.results56]))); first | (first | refine hB.out.1 _ (fun hb => ?_) fun hb => ⟨rfl, ?_⟩ | refine hB.out.1 _ (fun hb => ?_) fun hb => ?_) <;> clear hB C B <;> (try simp only [Bool.not_true, Bool.not_false] at hb) <;> (first | (exfalso; simp at hb; done) | (exfalso; simp at hb; omega) | (rw [hb]; (try simp at hb)) | (try simp at hb)) | ((first | refine hB.out.1 _ _ ?_ | refine hB.out.1 _ ?_ | refine hB.out.2.1 _ _ _ (a2) ?_ | refine hB.out.2.2 _ _ _ (a2) ?_ | refine hB.out.2.1 _ _ _ (l2) ?_ | refine hB.out.2.2 _ _ _ (l2) ?_ | refine hB.out.2 ⟨rfl, ?_⟩); clear hB C B) | (refine hB.out.2 _ ?_; clear hB C B; (try rfl)))
             | refine rwf_o ?_ | refine rwc_o .n rfl ?_ | refine rwc_o .z rfl ?_ | refine rwc_o .w rfl ?_ | refine rwc_o .b rfl ?_ | refine rwc_o _ rfl ?_)
            all_goals (rw [← hdn]; exact ⟨rfl, hI1⟩)
          | true =>
            rw [if_pos hB] at hdn
            rw [hB] at l2
            clear hj1 hkid
            repeat' (first
             | (with_reducible first | refine Stp.pf ?_ | refine block_x (by decide) ?_ | refine ret_n ?_)
             | refine tri_reg [] ?_ | refine tri_regc [] [] mixed (by decide +kernel) ?_
             | (refine rwf_nilt rfl (by decide +kernel) fun B hB => ?_; (try simp [*]); refine hB.out _ fun b => ?_; clear hB B)
             | (refine Rul.pf ⟨rfl, rfl⟩ fun B C hB => ?_; (try simp [*, -List.all_eq_true, -invokeA, Tryz.results56]); (try (simp (disch := first | assumption | omega) only [wc, ite_yes]; (try simp [*, -List.all_eq_true, -invokeA, Tryz.results56]))); first | (first | refine hB.out.1 _ (fun hb => ?_) fun hb => ⟨rfl, ?_⟩ | refine hB.out.1 _ (fun hb => ?_) fun hb => ?_) <;> clear hB C B <;> (try simp only [Bool.not_true, Bool.not_false] at hb) <;> (first | (exfalso; simp at hb; done) | (exfalso; simp at hb; omega) | (rw [hb]; (try simp at hb)) | (try simp at hb)) | ((first | refine hB.out.1 _ _ ?_ | refine hB.out.1 _ ?_ | refine hB.out.2.1 _ _ _ (a2) ?_ | refine hB.out.2.2 _ _ _ (a2) ?_ | refine hB.out.2.1 _ _ _ (l2) ?_ | refine hB.out.2.2 _ _ _ (l2) ?_ | refine hB.out.2 ⟨rfl, ?_⟩); clear hB C B) | (refine hB.out.2 _ ?_; clear hB C B; (try rfl)))
             | refine rwf_o ?_ | refine rwc_o .n rfl ?_ | refine rwc_o .z rfl ?_ | refine rwc_o .w rfl ?_ | refine rwc_o .b rfl ?_ | refine rwc_o _ rfl ?_)
            refine rwf_ca rfl fun C' hC hP => ?_
            clear hP
            (try simp [*, -List.all_eq_true, -invokeA]); (try (simp (disch := first | assumption | omega) only [wrap_id, wrapu_id, wrapb_id, tmod_nn, tdiv_nn, ite_yes, flatM_seg, flatM_0, flatM_1, flatM_2, flatI_seg, flatI_0, flatI_1, flatS_get]; (try simp [*, -List.all_eq_true, -invokeA])))
            refine hC.out _ _ _ (s2) fun r s hq => ?_
            clear hC C'
            obtain ⟨rfl, hq⟩ := hq
            repeat' (first
             | (with_reducible first | refine Stp.pf ?_ | refine block_x (by decide) ?_ | refine ret_n ?_)
             | refine tri_reg [] ?_ | refine tri_regc [] [] mixed (by decide +kernel) ?_
             | (refine rwf_nilt rfl (by decide +kernel) fun B hB => ?_; (try simp [*]); refine hB.out _ fun b => ?_; clear hB B)
             | (refine Rul.pf ⟨rfl, rfl⟩ fun B C hB => ?_; (try simp [*, -List.all_eq_true, -invokeA, Tryz.results56]); (try (simp (disch := first | assumption | omega) only [wc, ite_yes]; (try simp [*, -List.all_eq_true, -invokeA, Tryz.results56]))); first | (first | refine hB.out.1 _ (fun hb => ?_) fun hb => ⟨rfl, ?_⟩ | refine hB.out.1 _ (fun hb => ?_) fun hb => ?_) <;> clear hB C B <;> (try simp only [Bool.not_true, Bool.not_false] at hb) <;> (first | (exfalso; simp at hb; done) | (exfalso; simp at hb; omega) | (rw [hb]; (try simp at hb)) | (try simp at hb)) | ((first | refine hB.out.1 _ _ ?_ | refine hB.out.1 _ ?_ | refine hB.out.2 ⟨rfl, ?_⟩); clear hB C B) | (refine hB.out.2 _ ?_; clear hB C B; (try rfl)))
             | refine rwf_o ?_ | refine rwc_o .n rfl ?_ | refine rwc_o .z rfl ?_ | refine rwc_o .w rfl ?_ | refine rwc_o .b rfl ?_ | refine rwc_o _ rfl ?_)
            exact ⟨by simp [*], n - j, by omega, f, j, _, by omega, by simp, by simp; omega, rfl, by simpa using hm2, hdn, hq⟩
      · rw [if_neg (by omega)] at hk2
        subst hk2
        cases hB : lt (at_ m1 j) (at_ m1 i1) with
        | false =>
          rw [hB, if_neg (by simp)] at hdn
          rw [hB] at l2
          clear hj1 hkid
          repeat' (first
           | (with_reducible first | refine Stp.pf ?_ | refine block_x (by decide) ?_ | refine ret_n ?_)
           | refine tri_reg [] ?_ | refine tri_regc [] [] mixed (by decide +kernel) ?_
           | (refine rwf_nilt rfl (by decide +kernel) fun B hB => ?_; (try simp [*]); refine hB.out _ fun b => ?_; clear hB B)
           | (refine Rul.pf ⟨rfl, rfl⟩ fun B C hB => ?_; (try simp [*, -List.all_eq_true, -invokeA, Tryz.results56]); (try (simp (disch := first | assumption | omega) only [wc, ite_yes]; (try simp [*, -List.all_eq_true, -invokeA, Tryz.results56]))); first | (first | refine hB.out.1 _ (fun hb => ?_) fun hb => ⟨rfl, ?_⟩ | refine hB.out.1 _ (fun hb => ?_) fun hb => ?_) <;> clear hB C B <;> (try simp only [Bool.not_true, Bool.not_false] at hb) <;> (first | (exfalso; simp at hb; done) | (exfalso; simp at hb; omega) | (rw [hb]; (try simp at hb)) | (try simp at hb)) | ((first | refine hB.out.1 _ _ ?_ | refine hB.out.1 _ ?_ | refine hB.out.2.1 _ _ _ (l2) ?_ | refine hB.out.2.2 _ _ _ (l2) ?_ | refine hB.out.2 ⟨rfl, ?_⟩); clear hB C B) | (refine hB.out.2 _ ?_; clear hB C B; (try rfl)))
           | refine rwf_o ?_ | refine rwc_o .n rfl ?_ | refine rwc_o .z rfl ?_ | refine rwc_o .w rfl ?_ | refine rwc_o .b rfl ?_ | refine rwc_o _ rfl ?_)
          all_goals (rw [← hdn]; exact ⟨rfl, hI1⟩)
        | true =>
          rw [if_pos hB] at hdn
          rw [hB] at l2
          clear hj1 hkid
          repeat' (first
           | (with_reducible first | refine Stp.pf ?_ | refine block_x (by decide) ?_ | refine ret_n ?_)
           | refine tri_reg [] ?_ | refine tri_regc [] [] mixed (by decide +kernel) ?_
           | (refine rwf_nilt rfl (by decide +kernel) fun B hB => ?_; (try simp [*]); refine hB.out _ fun b => ?_; clear hB B)
           | (refine Rul.pf ⟨rfl, rfl⟩ fun B C hB => ?_; (try simp [*, -List.all_eq_true, -invokeA, Tryz.results56]); (try (simp (disch := first | assumption | omega) only [wc, ite_yes]; (try simp [*, -List.all_eq_true, -invokeA, Tryz.results56]))); first | (first | refine hB.out.1 _ (fun hb => ?_) fun hb => ⟨rfl, ?_⟩ | refine hB.out.1 _ (fun hb => ?_) fun hb => ?_) <;> clear hB C B <;> (try simp only [Bool.not_true, Bool.not_false] at hb) <;> (first | (exfalso; simp at hb; done) | (exfalso; simp at hb; omega) | (rw [hb]; (try simp at hb)) | (try simp at hb)) | ((first | refine hB.out.1 _ _ ?_ | refine hB.out.1 _ ?_ | refine hB.out.2.1 _ _ _ (l2) ?_ | refine hB.out.2.2 _ _ _ (l2) ?_ | refine hB.out.2 ⟨rfl, ?_⟩); clear hB C B) | (refine hB.out.2 _ ?_; clear hB C B; (try rfl)))
           | refine rwf_o ?_ | refine rwc_o .n rfl ?_ | refine rwc_o .z rfl ?_ | refine rwc_o .w rfl ?_ | refine rwc_o .b rfl ?_ | refine rwc_o _ rfl ?_)
          refine rwf_ca rfl fun C' hC hP => ?_
          clear hP
          (try simp [*, -List.all_eq_true, -invokeA]); (try (simp (disch := first | assumption | omega) only [wrap_id, wrapu_id, wrapb_id, tmod_nn, tdiv_nn, ite_yes, flatM_seg, flatM_0, flatM_1, flatM_2, flatI_seg, flatI_0, flatI_1, flatS_get]; (try simp [*, -List.all_eq_true, -invokeA])))
          refine hC.out _ _ _ (s2) fun r s hq => ?_
          clear hC C'
          obtain ⟨rfl, hq⟩ := hq
          repeat' (first
           | (with_reducible first | refine Stp.pf ?_ | refine block_x (by decide) ?_ | refine ret_n ?_)
           | refine tri_reg [] ?_ | refine tri_regc [] [] mixed (by decide +kernel) ?_
           | (refine rwf_nilt rfl (by decide +kernel) fun B hB => ?_; (try simp [*]); refine hB.out _ fun b => ?_; clear hB B)
           | (refine Rul.pf ⟨rfl, rfl⟩ fun B C hB => ?_; (try simp [*, -List.all_eq_true, -invokeA, Tryz.results56]); (try (simp (disch := first | assumption | omega) only [wc, ite_yes]; (try simp [*, -List.all_eq_true, -invokeA, Tryz.results56]))); first | (first | refine hB.out.1 _ (fun hb => ?_) fun hb => ⟨rfl, ?_⟩ | refine hB.out.1 _ (fun hb => ?_) fun hb => ?_) <;> clear hB C B <;> (try simp only [Bool.not_true, Bool.not_false] at hb) <;> (first | (exfalso; simp at hb; done) | (exfalso; simp at hb; omega) | (rw [hb]; (try simp at hb)) | (try simp at hb)) | ((first | refine hB.out.1 _ _ ?_ | refine hB.out.1 _ ?_ | refine hB.out.2 ⟨rfl, ?_⟩); clear hB C B) | (refine hB.out.2 _ ?_; clear hB C B; (try rfl)))
           | refine rwf_o ?_ | refine rwc_o .n rfl ?_ | refine rwc_o .z rfl ?_ | refine rwc_o .w rfl ?_ | refine rwc_o .b rfl ?_ | refine rwc_o _ rfl ?_)
          exact ⟨by simp [*], n - j, by omega, f, j, _, by omega, by simp, by simp; omega, rfl, by simpa using hm2, hdn, hq⟩
/-- Pop: the first one to the end, down, and the end off. -/
theorem hPop_spec (H : HeapM Tryz.prog x lt Inv) (l : List α) (hl : l.length ≤ 1000000) (h0 : 0 < l.length) (σ : Sto) (hI : Inv l σ) (Q : AV → Sto → Prop)
    (hp : ∀ s, Inv (heapDown lt (swapG l 0 (l.length - 1)) 0 (l.length - 1)).1 s → ∃ f xs, invokeA Tryz.prog s x "Pop" [] = some (f, xs) ∧ Spec Tryz.prog f xs s Q) :
    Spec Tryz.prog 58 [x] σ Q := by
  refine spec_intro Tryz.func58 good58 rfl (by simp [Tryz.ntmps58]) ?_
  obtain ⟨fL, xL, l1, l2⟩ := H.len _ _ hI
  obtain ⟨fS, xS, s1, s2⟩ := H.swap l σ 0 (l.length - 1) hI h0 (by omega)
  have c0 : ((l.length : Nat) : Int) - 1 = ((l.length - 1 : Nat) : Int) := by omega
  have hn : l.length - 1 < 1000000 := by omega
  simp only [Int.natCast_zero] at s1
  repeat' (first
   | (with_reducible first | refine Stp.pf ?_ | refine block_x (by decide) ?_ | refine ret_n ?_)
   | refine tri_reg [] ?_ | refine tri_regc [] [] mixed (by decide +kernel) ?_
   | (refine rwf_nilt rfl (by decide +kernel) fun B hB => ?_; (try simp [*]); refine hB.out _ fun b => ?_; clear hB B)
   | (refine Rul.pf ⟨rfl, rfl⟩ fun B C hB => ?_; (try simp [*, -List.all_eq_true, -invokeA, Tryz.results58]); (try (simp (disch := first | assumption | omega) only [wc, ite_yes]; (try simp [*, -List.all_eq_true, -invokeA, Tryz.results58]))); first | (first | refine hB.out.1 _ (fun hb => ?_) fun hb => ⟨rfl, ?_⟩ | refine hB.out.1 _ (fun hb => ?_) fun hb => ?_) <;> clear hB C B <;> (try simp only [Bool.not_true, Bool.not_false] at hb) <;> (first | (exfalso; simp at hb; done) | (exfalso; simp at hb; omega) | (rw [hb]; (try simp at hb)) | (try simp at hb)) | ((first | refine hB.out.1 _ _ ?_ | refine hB.out.1 _ ?_ | refine hB.out.2.1 _ _ _ (l2) ?_ | refine hB.out.2.2 _ _ _ (l2) ?_ | refine hB.out.2 ⟨rfl, ?_⟩); clear hB C B) | (refine hB.out.2 _ ?_; clear hB C B; (try rfl)))
   | refine rwf_o ?_ | refine rwc_o .n rfl ?_ | refine rwc_o .z rfl ?_ | refine rwc_o .w rfl ?_ | refine rwc_o .b rfl ?_ | refine rwc_o _ rfl ?_)
  refine rwf_ca rfl fun C' hC hP => ?_
  clear hP
  (try simp [*, -List.all_eq_true, -invokeA]); (try (simp (disch := first | assumption | omega) only [wrap_id, wrapu_id, wrapb_id, tmod_nn, tdiv_nn, ite_yes, flatM_seg, flatM_0, flatM_1, flatM_2, flatI_seg, flatI_0, flatI_1, flatS_get]; (try simp [*, -List.all_eq_true, -invokeA])))
  refine hC.out _ _ _ (s2) fun r t1 hq => ?_
  clear hC C'
  obtain ⟨rfl, hJ⟩ := hq
  repeat' (first
   | (with_reducible first | refine Stp.pf ?_ | refine block_x (by decide) ?_ | refine ret_n ?_)
   | refine tri_reg [] ?_ | refine tri_regc [] [] mixed (by decide +kernel) ?_
   | (refine rwf_nilt rfl (by decide +kernel) fun B hB => ?_; (try simp [*]); refine hB.out _ fun b => ?_; clear hB B)
   | (refine Rul.pf ⟨rfl, rfl⟩ fun B C hB => ?_; (try simp [*, -List.all_eq_true, -invokeA, Tryz.results58]); (try (simp (disch := first | assumption | omega) only [wc, ite_yes]; (try simp [*, -List.all_eq_true, -invokeA, Tryz.results58]))); first | (first | refine hB.out.1 _ (fun hb => ?_) fun hb => ⟨rfl, ?_⟩ | refine hB.out.1 _ (fun hb => ?_) fun hb => ?_) <;> clear hB C B <;> (try simp only [Bool.not_true, Bool.not_false] at hb) <;> (first | (exfalso; simp at hb; done) | (exfalso; simp at hb; omega) | (rw [hb]; (try simp at hb)) | (try simp at hb)) | ((first | refine hB.out.1 _ _ ?_ | refine hB.out.1 _ ?_ | refine hB.out.2 ⟨rfl, ?_⟩); clear hB C B) | (refine hB.out.2 _ ?_; clear hB C B; (try rfl)))
   | refine rwf_o ?_ | refine rwc_o .n rfl ?_ | refine rwc_o .z rfl ?_ | refine rwc_o .w rfl ?_ | refine rwc_o .b rfl ?_ | refine rwc_o _ rfl ?_)
  refine rwf_ca rfl fun C' hC hP => ?_
  clear hP
  (try simp [*, -List.all_eq_true, -invokeA]); (try (simp (disch := first | assumption | omega) only [wrap_id, wrapu_id, wrapb_id, tmod_nn, tdiv_nn, ite_yes, flatM_seg, flatM_0, flatM_1, flatM_2, flatI_seg, flatI_0, flatI_1, flatS_get]; (try simp [*, -List.all_eq_true, -invokeA])))
  refine hC.out _ _ _ (hDown_spec H _ (by simp; omega) 0 (l.length - 1) (by simp) (by simp; omega) _ hJ) fun r t2 hq => ?_
  clear hC C'
  obtain ⟨rfl, hK⟩ := hq
  obtain ⟨fP, xP, p1, p2⟩ := hp _ hK
  repeat' (first
   | (with_reducible first | refine Stp.pf ?_ | refine block_x (by decide) ?_ | refine ret_n ?_)
   | refine tri_reg [] ?_ | refine tri_regc [] [] mixed (by decide +kernel) ?_
   | (refine rwf_nilt rfl (by decide +kernel) fun B hB => ?_; (try simp [*]); refine hB.out _ fun b => ?_; clear hB B)
   | (refine Rul.pf ⟨rfl, rfl⟩ fun B C hB => ?_; (try simp [*, -List.all_eq_true, -invokeA, Tryz.results58]); (try (simp (disch := first | assumption | omega) only [wc, ite_yes]; (try simp [*, -List.all_eq_true, -invokeA, Tryz.results58]))); first | (first | refine hB.out.1 _ (fun hb => ?_) fun hb => ⟨rfl, ?_⟩ | refine hB.out.1 _ (fun hb => ?_) fun hb => ?_) <;> clear hB C B <;> (try simp only [Bool.not_true, Bool.not_false] at hb) <;> (first | (exfalso; simp at hb; done) | (exfalso; simp at hb; omega) | (rw [hb]; (try simp at hb)) | (try simp at hb)) | ((first | refine hB.out.1 _ _ ?_ | refine hB.out.1 _ ?_ | refine hB.out.2 ⟨rfl, ?_⟩); clear hB C B) | (refine hB.out.2 _ ?_; clear hB C B; (try rfl)))
   | refine rwf_o ?_ | refine rwc_o .n rfl ?_ | refine rwc_o .z rfl ?_ | refine rwc_o .w rfl ?_ | refine rwc_o .b rfl ?_ | refine rwc_o _ rfl ?_)
  refine rwf_ca rfl fun C' hC hP => ?_
  clear hP
  (try simp [*, -List.all_eq_true, -invokeA]); (try (simp (disch := first | assumption | omega) only [wrap_id, wrapu_id, wrapb_id, tmod_nn, tdiv_nn, ite_yes, flatM_seg, flatM_0, flatM_1, flatM_2, flatI_seg, flatI_0, flatI_1, flatS_get]; (try simp [*, -List.all_eq_true, -invokeA])))
  refine hC.out _ _ _ (p2) fun r t3 hq => ?_
  clear hC C'
  repeat' (first
   | (with_reducible first | refine Stp.pf ?_ | refine block_x (by decide) ?_ | refine ret_n ?_)
   | refine tri_reg [] ?_ | refine tri_regc [] [] mixed (by decide +kernel) ?_
   | (refine rwf_nilt rfl (by decide +kernel) fun B hB => ?_; (try simp [*]); refine hB.out _ fun b => ?_; clear hB B)
   | (refine Rul.pf ⟨rfl, rfl⟩ fun B C hB => ?_; (try simp [*, -List.all_eq_true, -invokeA, Tryz.results58]); (try (simp (disch := first | assumption | omega) only [wc, ite_yes]; (try simp [*, -List.all_eq_true, -invokeA, Tryz.results58]))); first | (first | refine hB.out.1 _ (fun hb => ?_) fun hb => ⟨rfl, ?_⟩ | refine hB.out.1 _ (fun hb => ?_) fun hb => ?_) <;> clear hB C B <;> (try simp only [Bool.not_true, Bool.not_false] at hb) <;> (first | (exfalso; simp at hb; done) | (exfalso; simp at hb; omega) | (rw [hb]; (try simp at hb)) | (try simp at hb)) | ((first | refine hB.out.1 _ _ ?_ | refine hB.out.1 _ ?_ | refine hB.out.2 ⟨rfl, ?_⟩); clear hB C B) | (refine hB.out.2 _ ?_; clear hB C B; (try rfl)))
   | refine rwf_o ?_ | refine rwc_o .n rfl ?_ | refine rwc_o .z rfl ?_ | refine rwc_o .w rfl ?_ | refine rwc_o .b rfl ?_ | refine rwc_o _ rfl ?_)
  exact hq
end
end Go.Proofs.YtemijcjgdgdhjabGreat
