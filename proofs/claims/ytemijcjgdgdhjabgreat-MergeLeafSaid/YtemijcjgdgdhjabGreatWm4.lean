/- Merging: each, Msgs. -/
import Derived.Test.YtemijcjgdgdhjabGreatWm3
namespace Go.Proofs.YtemijcjgdgdhjabGreat
open Go.RowKit
set_option linter.unusedSimpArgs false
set_option maxRecDepth 10000
/-- What 'next' and 'do' keep: J k D σ: behind k messages, with the objects D; M: the messages that are told. -/
structure EachM (P : Program) (fN fD : AV) (M : List Msg) (J J' : Nat → List Nat → Sto → Prop) : Prop where
  stay : ∀ k D σ σ', J k D σ → (∀ i ∈ D, σ'[i]? = σ[i]?) → J k D σ'
  stay' : ∀ k D σ σ', J' k D σ → (∀ i ∈ D, σ'[i]? = σ[i]?) → J' k D σ'
  low : ∀ k D σ, J k D σ → ∀ i ∈ D, i < σ.length
  low' : ∀ k D σ, J' k D σ → ∀ i ∈ D, i < σ.length
  next : ∀ k D σ (h : k < M.length), J k D σ → ∃ f xs, applyA P σ fN [] = some (f, xs) ∧ Spec P f xs σ (fun r s => r = .tup [.agg (cM M[k]), .sc (.bool true)] ∧ (∃ D', J' k D' s ∧ ∀ i ∈ D', i ∈ D ∨ σ.length ≤ i) ∧ ∀ (i : Nat) (o : MO), i ∉ D → σ[i]? = some o → s[i]? = some o)
  last : ∀ D σ, J M.length D σ → ∃ f xs, applyA P σ fN [] = some (f, xs) ∧ Spec P f xs σ (fun r s => r = .tup [.agg (cM zeroM), .sc (.bool false)] ∧ (∃ D', J M.length D' s ∧ ∀ i ∈ D', i ∈ D ∨ σ.length ≤ i) ∧ ∀ (i : Nat) (o : MO), i ∉ D → σ[i]? = some o → s[i]? = some o)
  doit : ∀ k D σ (h : k < M.length), J' k D σ → ∃ f xs, applyA P σ fD [.agg (cM M[k])] = some (f, xs) ∧ Spec P f xs σ (fun r s => r = .tup [] ∧ (∃ D', J (k + 1) D' s ∧ ∀ i ∈ D', i ∈ D ∨ σ.length ≤ i) ∧ ∀ (i : Nat) (o : MO), i ∉ D → σ[i]? = some o → s[i]? = some o)
theorem get_set_ne {σ : Sto} {i j : Nat} {X : MO} (h : j ≠ i) : (List.set σ i X)[j]? = σ[j]? := List.getElem?_set_ne (Ne.symm h)
/-- What the head of each's loop knows. -/
def EachI (M : List Msg) (J J' : Nat → List Nat → Sto → Prop) (m : Nat) (e : Env) (σ : Sto) : Prop :=
  ∃ (k : Nat) (D : List Nat) (i : Nat) (X : List AV) (fu : Bool), k + m = M.length ∧ e 4 = .mp i 0 0 ∧ σ[i]? = some ⟨X, 0, false, fu⟩ ∧ X.length = 3 ∧ i ∉ D ∧
    ((∃ h : k < M.length, e 5 = .sc (.bool true) ∧ X = cM M[k] ∧ J' k D σ) ∨ (k = M.length ∧ e 5 = .sc (.bool false) ∧ J M.length D σ))
set_option maxHeartbeats 4000000 in
theorem mEach_spec {fN fD : AV} {M : List Msg} {J J' : Nat → List Nat → Sto → Prop} (H : EachM Tryz.prog fN fD M J J') (D : List Nat) (τ : Sto) (h : J 0 D τ) :
    Spec Tryz.prog 27 [fN, fD] τ (fun r s => r = .tup [] ∧ ∃ D', J M.length D' s) := by
  refine spec_intro Tryz.func27 good27 rfl (by simp [Tryz.ntmps27]) ?_
  have key : ∀ (env : Env) (σ : Sto), env 0 = fN → env 1 = fD → EachI M J J' M.length env σ → True := fun _ _ _ _ _ => trivial
  clear key
  by_cases hM : 0 < M.length
  · obtain ⟨f, xs, a1, a2⟩ := H.next 0 D τ hM h
    repeat' (first
     | (with_reducible first | refine Stp.pf ?_ | refine block_x (by decide) ?_ | refine ret_n ?_)
     | refine tri_reg [4] ?_ | refine tri_regc [4] [] mixed (by decide +kernel) ?_
     | (refine rwf_nilt rfl (by decide +kernel) fun B hB => ?_; (try simp [*]); refine hB.out _ fun b => ?_; clear hB B)
     | (refine Rul.pf ⟨rfl, rfl⟩ fun B C hB => ?_; (try simp [*, -List.all_eq_true, -applyA, Tryz.results27]); (try (simp (disch := first | assumption | omega) only [wc, ite_yes]; (try simp [*, -List.all_eq_true, -applyA, Tryz.results27]))); first | (first | refine hB.out.1 _ (fun hb => ?_) fun hb => ⟨rfl, ?_⟩ | refine hB.out.1 _ (fun hb => ?_) fun hb => ?_) <;> clear hB C B <;> (try simp only [Bool.not_true, Bool.not_false] at hb) <;> (first | (exfalso; simp at hb; done) | (exfalso; simp at hb; omega) | (rw [hb]; (try simp at hb)) | (try simp at hb)) | ((first | refine hB.out.1 _ _ ?_ | refine hB.out.1 _ ?_ | refine hB.out.2 ⟨rfl, ?_⟩); clear hB C B) | (refine hB.out.2 _ ?_; clear hB C B; (try rfl)))
     | refine rwf_o ?_ | refine rwc_o .n rfl ?_ | refine rwc_o .z rfl ?_ | refine rwc_o .w rfl ?_ | refine rwc_o .b rfl ?_ | refine rwc_o _ rfl ?_)
    refine rwf_ca rfl fun C' hC hP => ?_
    clear hP
    (try simp [*, -List.all_eq_true, -applyA]); (try (simp (disch := first | assumption | omega) only [wrap_id, wrapu_id, wrapb_id, tmod_nn, tdiv_nn, ite_yes, flatM_seg, flatM_0, flatM_1, flatM_2, flatI_seg, flatI_0, flatI_1, flatS_get]; (try simp [*, -List.all_eq_true, -applyA])))
    refine hC.out _ _ _ (a2) fun r s hq => ?_
    clear hC C'
    obtain ⟨rfl, ⟨D', hz, hz2⟩, hfr⟩ := hq
    repeat' (first
     | (with_reducible first | refine Stp.pf ?_ | refine block_x (by decide) ?_ | refine ret_n ?_)
     | refine tri_reg [4] ?_ | refine tri_regc [4] [] mixed (by decide +kernel) ?_
     | (refine rwf_nilt rfl (by decide +kernel) fun B hB => ?_; (try simp [*]); refine hB.out _ fun b => ?_; clear hB B)
     | (refine Rul.pf ⟨rfl, rfl⟩ fun B C hB => ?_; (try simp [*, -List.all_eq_true, -applyA, Tryz.results27]); (try (simp (disch := first | assumption | omega) only [wc, ite_yes]; (try simp [*, -List.all_eq_true, -applyA, Tryz.results27]))); first | (first | refine hB.out.1 _ (fun hb => ?_) fun hb => ⟨rfl, ?_⟩ | refine hB.out.1 _ (fun hb => ?_) fun hb => ?_) <;> clear hB C B <;> (try simp only [Bool.not_true, Bool.not_false] at hb) <;> (first | (exfalso; simp at hb; done) | (exfalso; simp at hb; omega) | (rw [hb]; (try simp at hb)) | (try simp at hb)) | ((first | refine hB.out.1 _ _ ?_ | refine hB.out.1 _ ?_ | refine hB.out.2 ⟨rfl, ?_⟩); clear hB C B) | (refine hB.out.2 _ ?_; clear hB C B; (try rfl)))
     | refine rwf_o ?_ | refine rwc_o .n rfl ?_ | refine rwc_o .z rfl ?_ | refine rwc_o .w rfl ?_ | refine rwc_o .b rfl ?_ | refine rwc_o _ rfl ?_)
    refine tri_whl [0, 1] M.length (fun m e σ => EachI M J J' m e σ) ?_ (fun m env' σ' hm hk hI => ?_)
    · refine ⟨M.length, Nat.le_refl _, 0, D', s.length, _, _, by omega, by simp, List.getElem?_concat_length, by simp, fun hin => ?_, .inl ⟨hM, by simp, by simp, H.stay' _ _ _ _ hz fun i hi => ?_⟩⟩
      · have := H.low' _ _ _ hz _ hin; omega
      · rw [List.getElem?_append_left (H.low' _ _ _ hz _ hi)]
    · skip
      (try simp at hk)
      obtain ⟨k, D1, i, X, fu, hkm, h4, hi, hX3, hiD, hcase⟩ := hI
      rcases hcase with ⟨hlt, h5, rfl, hJ⟩ | ⟨hke, h5, hJ⟩
      · obtain ⟨f2, xs2, b1, b2⟩ := H.doit k D1 σ' hlt hJ
        clear a1 a2
        repeat' (first
         | (with_reducible first | refine Stp.pf ?_ | refine block_x (by decide) ?_ | refine ret_n ?_)
         | refine tri_reg [4] ?_ | refine tri_regc [4] [] mixed (by decide +kernel) ?_
         | (refine rwf_nilt rfl (by decide +kernel) fun B hB => ?_; (try simp [*]); refine hB.out _ fun b => ?_; clear hB B)
         | (refine Rul.pf ⟨rfl, rfl⟩ fun B C hB => ?_; (try simp [*, -List.all_eq_true, -applyA, Tryz.results27]); (try (simp (disch := first | assumption | omega) only [wc, ite_yes]; (try simp [*, -List.all_eq_true, -applyA, Tryz.results27]))); first | (first | refine hB.out.1 _ (fun hb => ?_) fun hb => ⟨rfl, ?_⟩ | refine hB.out.1 _ (fun hb => ?_) fun hb => ?_) <;> clear hB C B <;> (try simp only [Bool.not_true, Bool.not_false] at hb) <;> (first | (exfalso; simp at hb; done) | (exfalso; simp at hb; omega) | (rw [hb]; (try simp at hb)) | (try simp at hb)) | ((first | refine hB.out.1 _ _ ?_ | refine hB.out.1 _ ?_ | refine hB.out.2 ⟨rfl, ?_⟩); clear hB C B) | (refine hB.out.2 _ ?_; clear hB C B; (try rfl)))
         | refine rwf_o ?_ | refine rwc_o .n rfl ?_ | refine rwc_o .z rfl ?_ | refine rwc_o .w rfl ?_ | refine rwc_o .b rfl ?_ | refine rwc_o _ rfl ?_)
        refine rwf_ca rfl fun C' hC hP => ?_
        clear hP
        (try simp [*, -List.all_eq_true, -applyA]); (try (simp (disch := first | assumption | omega) only [wrap_id, wrapu_id, wrapb_id, tmod_nn, tdiv_nn, ite_yes, flatM_seg, flatM_0, flatM_1, flatM_2, flatI_seg, flatI_0, flatI_1, flatS_get]; (try simp [*, -List.all_eq_true, -applyA])))
        refine hC.out _ _ _ (b2) fun r s2 hq => ?_
        clear hC C'
        obtain ⟨rfl, ⟨D2, hJ2, hD2⟩, hfr2⟩ := hq
        have hi2 := hfr2 i _ hiD hi
        have hlow2 := H.low _ _ _ hJ2
        have hJ3 := H.stay _ _ _ (s2 ++ [⟨cM M[k], 0, false, false⟩]) hJ2 (fun j hj => List.getElem?_append_left (hlow2 j hj))
        have HF2 := Lib.hid hfr2
        clear hfr2 hi b1 b2
        by_cases hk1 : k + 1 < M.length
        · obtain ⟨f3, xs3, c1, c2⟩ := H.next (k + 1) D2 _ hk1 hJ3
          repeat' (first
           | (with_reducible first | refine Stp.pf ?_ | refine block_x (by decide) ?_ | refine ret_n ?_)
           | refine tri_reg [4] ?_ | refine tri_regc [4] [] mixed (by decide +kernel) ?_
           | (refine rwf_nilt rfl (by decide +kernel) fun B hB => ?_; (try simp [*]); refine hB.out _ fun b => ?_; clear hB B)
           | (refine Rul.pf ⟨rfl, rfl⟩ fun B C hB => ?_; (try simp [*, -List.all_eq_true, -applyA, Tryz.results27]); (try (simp (disch := first | assumption | omega) only [wc, ite_yes]; (try simp [*, -List.all_eq_true, -applyA, Tryz.results27]))); first | (first | refine hB.out.1 _ (fun hb => ?_) fun hb => ⟨rfl, ?_⟩ | refine hB.out.1 _ (fun hb => ?_) fun hb => ?_) <;> clear hB C B <;> (try simp only [Bool.not_true, Bool.not_false] at hb) <;> (first | (exfalso; simp at hb; done) | (exfalso; simp at hb; omega) | (rw [hb]; (try simp at hb)) | (try simp at hb)) | ((first | refine hB.out.1 _ _ ?_ | refine hB.out.1 _ ?_ | refine hB.out.2 ⟨rfl, ?_⟩); clear hB C B) | (refine hB.out.2 _ ?_; clear hB C B; (try rfl)))
           | refine rwf_o ?_ | refine rwc_o .n rfl ?_ | refine rwc_o .z rfl ?_ | refine rwc_o .w rfl ?_ | refine rwc_o .b rfl ?_ | refine rwc_o _ rfl ?_)
          refine rwf_ca rfl fun C' hC hP => ?_
          clear hP
          (try simp [*, -List.all_eq_true, -applyA]); (try (simp (disch := first | assumption | omega) only [wrap_id, wrapu_id, wrapb_id, tmod_nn, tdiv_nn, ite_yes, flatM_seg, flatM_0, flatM_1, flatM_2, flatI_seg, flatI_0, flatI_1, flatS_get]; (try simp [*, -List.all_eq_true, -applyA])))
          refine hC.out _ _ _ (c2) fun r s3 hq => ?_
          clear hC C'
          obtain ⟨rfl, ⟨D3, hJ4, hD3⟩, hfr3⟩ := hq
          have hnot : s2.length ∉ D2 := fun hin => by have := hlow2 _ hin; omega
          have hi3 := hfr3 s2.length _ hnot List.getElem?_concat_length
          have HF3 := Lib.hid hfr3
          clear hfr3 c1 c2
          repeat' (first
           | (with_reducible first | refine Stp.pf ?_ | refine block_x (by decide) ?_ | refine ret_n ?_)
           | refine tri_reg [4] ?_ | refine tri_regc [4] [] mixed (by decide +kernel) ?_
           | (refine rwf_nilt rfl (by decide +kernel) fun B hB => ?_; (try simp [*]); refine hB.out _ fun b => ?_; clear hB B)
           | (refine Rul.pf ⟨rfl, rfl⟩ fun B C hB => ?_; (try simp [*, -List.all_eq_true, -applyA, Tryz.results27]); (try (simp (disch := first | assumption | omega) only [wc, ite_yes]; (try simp [*, -List.all_eq_true, -applyA, Tryz.results27]))); first | (first | refine hB.out.1 _ (fun hb => ?_) fun hb => ⟨rfl, ?_⟩ | refine hB.out.1 _ (fun hb => ?_) fun hb => ?_) <;> clear hB C B <;> (try simp only [Bool.not_true, Bool.not_false] at hb) <;> (first | (exfalso; simp at hb; done) | (exfalso; simp at hb; omega) | (rw [hb]; (try simp at hb)) | (try simp at hb)) | ((first | refine hB.out.1 _ _ ?_ | refine hB.out.1 _ ?_ | refine hB.out.2 ⟨rfl, ?_⟩); clear hB C B) | (refine hB.out.2 _ ?_; clear hB C B; (try rfl)))
           | refine rwf_o ?_ | refine rwc_o .n rfl ?_ | refine rwc_o .z rfl ?_ | refine rwc_o .w rfl ?_ | refine rwc_o .b rfl ?_ | refine rwc_o _ rfl ?_)
          have hn3 : s2.length ∉ D3 := fun hin => by
            rcases hD3 _ hin with h | h
            · exact hnot h
            · simp at h; omega
          refine ⟨by simp [*], m - 1, by omega, k + 1, D3, s2.length, cM M[k + 1], false, by omega, by simp, by rw [List.getElem?_set_self (lt_of_get hi3)]; rfl, rfl, hn3, .inl ⟨hk1, by simp, rfl, H.stay' _ _ _ _ hJ4 fun j hj => get_set_ne fun e => hn3 (e ▸ hj)⟩⟩
        · have hke : k + 1 = M.length := by omega
          rw [hke] at hJ3
          obtain ⟨f3, xs3, c1, c2⟩ := H.last D2 _ hJ3
          clear hke
          repeat' (first
           | (with_reducible first | refine Stp.pf ?_ | refine block_x (by decide) ?_ | refine ret_n ?_)
           | refine tri_reg [4] ?_ | refine tri_regc [4] [] mixed (by decide +kernel) ?_
           | (refine rwf_nilt rfl (by decide +kernel) fun B hB => ?_; (try simp [*]); refine hB.out _ fun b => ?_; clear hB B)
           | (refine Rul.pf ⟨rfl, rfl⟩ fun B C hB => ?_; (try simp [*, -List.all_eq_true, -applyA, Tryz.results27]); (try (simp (disch := first | assumption | omega) only [wc, ite_yes]; (try simp [*, -List.all_eq_true, -applyA, Tryz.results27]))); first | (first | refine hB.out.1 _ (fun hb => ?_) fun hb => ⟨rfl, ?_⟩ | refine hB.out.1 _ (fun hb => ?_) fun hb => ?_) <;> clear hB C B <;> (try simp only [Bool.not_true, Bool.not_false] at hb) <;> (first | (exfalso; simp at hb; done) | (exfalso; simp at hb; omega) | (rw [hb]; (try simp at hb)) | (try simp at hb)) | ((first | refine hB.out.1 _ _ ?_ | refine hB.out.1 _ ?_ | refine hB.out.2 ⟨rfl, ?_⟩); clear hB C B) | (refine hB.out.2 _ ?_; clear hB C B; (try rfl)))
           | refine rwf_o ?_ | refine rwc_o .n rfl ?_ | refine rwc_o .z rfl ?_ | refine rwc_o .w rfl ?_ | refine rwc_o .b rfl ?_ | refine rwc_o _ rfl ?_)
          refine rwf_ca rfl fun C' hC hP => ?_
          clear hP
          (try simp [*, -List.all_eq_true, -applyA]); (try (simp (disch := first | assumption | omega) only [wrap_id, wrapu_id, wrapb_id, tmod_nn, tdiv_nn, ite_yes, flatM_seg, flatM_0, flatM_1, flatM_2, flatI_seg, flatI_0, flatI_1, flatS_get]; (try simp [*, -List.all_eq_true, -applyA])))
          refine hC.out _ _ _ (c2) fun r s3 hq => ?_
          clear hC C'
          obtain ⟨rfl, ⟨D3, hJ4, hD3⟩, hfr3⟩ := hq
          have hnot : s2.length ∉ D2 := fun hin => by have := hlow2 _ hin; omega
          have hi3 := hfr3 s2.length _ hnot List.getElem?_concat_length
          have HF3 := Lib.hid hfr3
          clear hfr3 c1 c2
          repeat' (first
           | (with_reducible first | refine Stp.pf ?_ | refine block_x (by decide) ?_ | refine ret_n ?_)
           | refine tri_reg [4] ?_ | refine tri_regc [4] [] mixed (by decide +kernel) ?_
           | (refine rwf_nilt rfl (by decide +kernel) fun B hB => ?_; (try simp [*]); refine hB.out _ fun b => ?_; clear hB B)
           | (refine Rul.pf ⟨rfl, rfl⟩ fun B C hB => ?_; (try simp [*, -List.all_eq_true, -applyA, Tryz.results27]); (try (simp (disch := first | assumption | omega) only [wc, ite_yes]; (try simp [*, -List.all_eq_true, -applyA, Tryz.results27]))); first | (first | refine hB.out.1 _ (fun hb => ?_) fun hb => ⟨rfl, ?_⟩ | refine hB.out.1 _ (fun hb => ?_) fun hb => ?_) <;> clear hB C B <;> (try simp only [Bool.not_true, Bool.not_false] at hb) <;> (first | (exfalso; simp at hb; done) | (exfalso; simp at hb; omega) | (rw [hb]; (try simp at hb)) | (try simp at hb)) | ((first | refine hB.out.1 _ _ ?_ | refine hB.out.1 _ ?_ | refine hB.out.2 ⟨rfl, ?_⟩); clear hB C B) | (refine hB.out.2 _ ?_; clear hB C B; (try rfl)))
           | refine rwf_o ?_ | refine rwc_o .n rfl ?_ | refine rwc_o .z rfl ?_ | refine rwc_o .w rfl ?_ | refine rwc_o .b rfl ?_ | refine rwc_o _ rfl ?_)
          have hn3 : s2.length ∉ D3 := fun hin => by
            rcases hD3 _ hin with h | h
            · exact hnot h
            · simp at h; omega
          refine ⟨by simp [*], m - 1, by omega, k + 1, D3, s2.length, cM zeroM, false, by omega, by simp, by rw [List.getElem?_set_self (lt_of_get hi3)]; rfl, rfl, hn3, .inr ⟨by omega, by simp, H.stay _ _ _ _ hJ4 fun j hj => get_set_ne fun e => hn3 (e ▸ hj)⟩⟩
      · clear a1 a2
        repeat' (first
         | (with_reducible first | refine Stp.pf ?_ | refine block_x (by decide) ?_ | refine ret_n ?_)
         | refine tri_reg [4] ?_ | refine tri_regc [4] [] mixed (by decide +kernel) ?_
         | (refine rwf_nilt rfl (by decide +kernel) fun B hB => ?_; (try simp [*]); refine hB.out _ fun b => ?_; clear hB B)
         | (refine Rul.pf ⟨rfl, rfl⟩ fun B C hB => ?_; (try simp [*, -List.all_eq_true, -applyA, Tryz.results27]); (try (simp (disch := first | assumption | omega) only [wc, ite_yes]; (try simp [*, -List.all_eq_true, -applyA, Tryz.results27]))); first | (first | refine hB.out.1 _ (fun hb => ?_) fun hb => ⟨rfl, ?_⟩ | refine hB.out.1 _ (fun hb => ?_) fun hb => ?_) <;> clear hB C B <;> (try simp only [Bool.not_true, Bool.not_false] at hb) <;> (first | (exfalso; simp at hb; done) | (exfalso; simp at hb; omega) | (rw [hb]; (try simp at hb)) | (try simp at hb)) | ((first | refine hB.out.1 _ _ ?_ | refine hB.out.1 _ ?_ | refine hB.out.2 ⟨rfl, ?_⟩); clear hB C B) | (refine hB.out.2 _ ?_; clear hB C B; (try rfl)))
         | refine rwf_o ?_ | refine rwc_o .n rfl ?_ | refine rwc_o .z rfl ?_ | refine rwc_o .w rfl ?_ | refine rwc_o .b rfl ?_ | refine rwc_o _ rfl ?_)
        exact ⟨rfl, _, hJ⟩
  · obtain ⟨f, xs, a1, a2⟩ := H.last D τ (by rw [show M.length = 0 by omega]; exact h)
    repeat' (first
     | (with_reducible first | refine Stp.pf ?_ | refine block_x (by decide) ?_ | refine ret_n ?_)
     | refine tri_reg [4] ?_ | refine tri_regc [4] [] mixed (by decide +kernel) ?_
     | (refine rwf_nilt rfl (by decide +kernel) fun B hB => ?_; (try simp [*]); refine hB.out _ fun b => ?_; clear hB B)
     | (refine Rul.pf ⟨rfl, rfl⟩ fun B C hB => ?_; (try simp [*, -List.all_eq_true, -applyA, Tryz.results27]); (try (simp (disch := first | assumption | omega) only [wc, ite_yes]; (try simp [*, -List.all_eq_true, -applyA, Tryz.results27]))); first | (first | refine hB.out.1 _ (fun hb => ?_) fun hb => ⟨rfl, ?_⟩ | refine hB.out.1 _ (fun hb => ?_) fun hb => ?_) <;> clear hB C B <;> (try simp only [Bool.not_true, Bool.not_false] at hb) <;> (first | (exfalso; simp at hb; done) | (exfalso; simp at hb; omega) | (rw [hb]; (try simp at hb)) | (try simp at hb)) | ((first | refine hB.out.1 _ _ ?_ | refine hB.out.1 _ ?_ | refine hB.out.2 ⟨rfl, ?_⟩); clear hB C B) | (refine hB.out.2 _ ?_; clear hB C B; (try rfl)))
     | refine rwf_o ?_ | refine rwc_o .n rfl ?_ | refine rwc_o .z rfl ?_ | refine rwc_o .w rfl ?_ | refine rwc_o .b rfl ?_ | refine rwc_o _ rfl ?_)
    refine rwf_ca rfl fun C' hC hP => ?_
    clear hP
    (try simp [*, -List.all_eq_true, -applyA]); (try (simp (disch := first | assumption | omega) only [wrap_id, wrapu_id, wrapb_id, tmod_nn, tdiv_nn, ite_yes, flatM_seg, flatM_0, flatM_1, flatM_2, flatI_seg, flatI_0, flatI_1, flatS_get]; (try simp [*, -List.all_eq_true, -applyA])))
    refine hC.out _ _ _ (a2) fun r s hq => ?_
    clear hC C'
    obtain ⟨rfl, ⟨D', hz, hz2⟩, hfr⟩ := hq
    repeat' (first
     | (with_reducible first | refine Stp.pf ?_ | refine block_x (by decide) ?_ | refine ret_n ?_)
     | refine tri_reg [4] ?_ | refine tri_regc [4] [] mixed (by decide +kernel) ?_
     | (refine rwf_nilt rfl (by decide +kernel) fun B hB => ?_; (try simp [*]); refine hB.out _ fun b => ?_; clear hB B)
     | (refine Rul.pf ⟨rfl, rfl⟩ fun B C hB => ?_; (try simp [*, -List.all_eq_true, -applyA, Tryz.results27]); (try (simp (disch := first | assumption | omega) only [wc, ite_yes]; (try simp [*, -List.all_eq_true, -applyA, Tryz.results27]))); first | (first | refine hB.out.1 _ (fun hb => ?_) fun hb => ⟨rfl, ?_⟩ | refine hB.out.1 _ (fun hb => ?_) fun hb => ?_) <;> clear hB C B <;> (try simp only [Bool.not_true, Bool.not_false] at hb) <;> (first | (exfalso; simp at hb; done) | (exfalso; simp at hb; omega) | (rw [hb]; (try simp at hb)) | (try simp at hb)) | ((first | refine hB.out.1 _ _ ?_ | refine hB.out.1 _ ?_ | refine hB.out.2 ⟨rfl, ?_⟩); clear hB C B) | (refine hB.out.2 _ ?_; clear hB C B; (try rfl)))
     | refine rwf_o ?_ | refine rwc_o .n rfl ?_ | refine rwc_o .z rfl ?_ | refine rwc_o .w rfl ?_ | refine rwc_o .b rfl ?_ | refine rwc_o _ rfl ?_)
    refine tri_whl [0, 1] M.length (fun m e σ => EachI M J J' m e σ) ?_ (fun m env' σ' hm hk hI => ?_)
    · refine ⟨M.length, Nat.le_refl _, 0, D', s.length, _, _, by omega, by simp, List.getElem?_concat_length, by simp, fun hin => ?_, .inr ⟨by omega, by simp, H.stay _ _ _ _ hz fun i hi => ?_⟩⟩
      · have := H.low _ _ _ hz _ hin; omega
      · rw [List.getElem?_append_left (H.low _ _ _ hz _ hi)]
    · skip
      (try simp at hk)
      obtain ⟨k, D1, i, X, fu, hkm, h4, hi, hX3, hiD, hcase⟩ := hI
      rcases hcase with ⟨hlt, h5, rfl, hJ⟩ | ⟨hke, h5, hJ⟩
      · obtain ⟨f2, xs2, b1, b2⟩ := H.doit k D1 σ' hlt hJ
        clear a1 a2
        repeat' (first
         | (with_reducible first | refine Stp.pf ?_ | refine block_x (by decide) ?_ | refine ret_n ?_)
         | refine tri_reg [4] ?_ | refine tri_regc [4] [] mixed (by decide +kernel) ?_
         | (refine rwf_nilt rfl (by decide +kernel) fun B hB => ?_; (try simp [*]); refine hB.out _ fun b => ?_; clear hB B)
         | (refine Rul.pf ⟨rfl, rfl⟩ fun B C hB => ?_; (try simp [*, -List.all_eq_true, -applyA, Tryz.results27]); (try (simp (disch := first | assumption | omega) only [wc, ite_yes]; (try simp [*, -List.all_eq_true, -applyA, Tryz.results27]))); first | (first | refine hB.out.1 _ (fun hb => ?_) fun hb => ⟨rfl, ?_⟩ | refine hB.out.1 _ (fun hb => ?_) fun hb => ?_) <;> clear hB C B <;> (try simp only [Bool.not_true, Bool.not_false] at hb) <;> (first | (exfalso; simp at hb; done) | (exfalso; simp at hb; omega) | (rw [hb]; (try simp at hb)) | (try simp at hb)) | ((first | refine hB.out.1 _ _ ?_ | refine hB.out.1 _ ?_ | refine hB.out.2 ⟨rfl, ?_⟩); clear hB C B) | (refine hB.out.2 _ ?_; clear hB C B; (try rfl)))
         | refine rwf_o ?_ | refine rwc_o .n rfl ?_ | refine rwc_o .z rfl ?_ | refine rwc_o .w rfl ?_ | refine rwc_o .b rfl ?_ | refine rwc_o _ rfl ?_)
        refine rwf_ca rfl fun C' hC hP => ?_
        clear hP
        (try simp [*, -List.all_eq_true, -applyA]); (try (simp (disch := first | assumption | omega) only [wrap_id, wrapu_id, wrapb_id, tmod_nn, tdiv_nn, ite_yes, flatM_seg, flatM_0, flatM_1, flatM_2, flatI_seg, flatI_0, flatI_1, flatS_get]; (try simp [*, -List.all_eq_true, -applyA])))
        refine hC.out _ _ _ (b2) fun r s2 hq => ?_
        clear hC C'
        obtain ⟨rfl, ⟨D2, hJ2, hD2⟩, hfr2⟩ := hq
        have hi2 := hfr2 i _ hiD hi
        have hlow2 := H.low _ _ _ hJ2
        have hJ3 := H.stay _ _ _ (s2 ++ [⟨cM M[k], 0, false, false⟩]) hJ2 (fun j hj => List.getElem?_append_left (hlow2 j hj))
        have HF2 := Lib.hid hfr2
        clear hfr2 hi b1 b2
        by_cases hk1 : k + 1 < M.length
        · obtain ⟨f3, xs3, c1, c2⟩ := H.next (k + 1) D2 _ hk1 hJ3
          repeat' (first
           | (with_reducible first | refine Stp.pf ?_ | refine block_x (by decide) ?_ | refine ret_n ?_)
           | refine tri_reg [4] ?_ | refine tri_regc [4] [] mixed (by decide +kernel) ?_
           | (refine rwf_nilt rfl (by decide +kernel) fun B hB => ?_; (try simp [*]); refine hB.out _ fun b => ?_; clear hB B)
           | (refine Rul.pf ⟨rfl, rfl⟩ fun B C hB => ?_; (try simp [*, -List.all_eq_true, -applyA, Tryz.results27]); (try (simp (disch := first | assumption | omega) only [wc, ite_yes]; (try simp [*, -List.all_eq_true, -applyA, Tryz.results27]))); first | (first | refine hB.out.1 _ (fun hb => ?_) fun hb => ⟨rfl, ?_⟩ | refine hB.out.1 _ (fun hb => ?_) fun hb => ?_) <;> clear hB C B <;> (try simp only [Bool.not_true, Bool.not_false] at hb) <;> (first | (exfalso; simp at hb; done) | (exfalso; simp at hb; omega) | (rw [hb]; (try simp at hb)) | (try simp at hb)) | ((first | refine hB.out.1 _ _ ?_ | refine hB.out.1 _ ?_ | refine hB.out.2 ⟨rfl, ?_⟩); clear hB C B) | (refine hB.out.2 _ ?_; clear hB C B; (try rfl)))
           | refine rwf_o ?_ | refine rwc_o .n rfl ?_ | refine rwc_o .z rfl ?_ | refine rwc_o .w rfl ?_ | refine rwc_o .b rfl ?_ | refine rwc_o _ rfl ?_)
          refine rwf_ca rfl fun C' hC hP => ?_
          clear hP
          (try simp [*, -List.all_eq_true, -applyA]); (try (simp (disch := first | assumption | omega) only [wrap_id, wrapu_id, wrapb_id, tmod_nn, tdiv_nn, ite_yes, flatM_seg, flatM_0, flatM_1, flatM_2, flatI_seg, flatI_0, flatI_1, flatS_get]; (try simp [*, -List.all_eq_true, -applyA])))
          refine hC.out _ _ _ (c2) fun r s3 hq => ?_
          clear hC C'
          obtain ⟨rfl, ⟨D3, hJ4, hD3⟩, hfr3⟩ := hq
          have hnot : s2.length ∉ D2 := fun hin => by have := hlow2 _ hin; omega
          have hi3 := hfr3 s2.length _ hnot List.getElem?_concat_length
          have HF3 := Lib.hid hfr3
          clear hfr3 c1 c2
          repeat' (first
           | (with_reducible first | refine Stp.pf ?_ | refine block_x (by decide) ?_ | refine ret_n ?_)
           | refine tri_reg [4] ?_ | refine tri_regc [4] [] mixed (by decide +kernel) ?_
           | (refine rwf_nilt rfl (by decide +kernel) fun B hB => ?_; (try simp [*]); refine hB.out _ fun b => ?_; clear hB B)
           | (refine Rul.pf ⟨rfl, rfl⟩ fun B C hB => ?_; (try simp [*, -List.all_eq_true, -applyA, Tryz.results27]); (try (simp (disch := first | assumption | omega) only [wc, ite_yes]; (try simp [*, -List.all_eq_true, -applyA, Tryz.results27]))); first | (first | refine hB.out.1 _ (fun hb => ?_) fun hb => ⟨rfl, ?_⟩ | refine hB.out.1 _ (fun hb => ?_) fun hb => ?_) <;> clear hB C B <;> (try simp only [Bool.not_true, Bool.not_false] at hb) <;> (first | (exfalso; simp at hb; done) | (exfalso; simp at hb; omega) | (rw [hb]; (try simp at hb)) | (try simp at hb)) | ((first | refine hB.out.1 _ _ ?_ | refine hB.out.1 _ ?_ | refine hB.out.2 ⟨rfl, ?_⟩); clear hB C B) | (refine hB.out.2 _ ?_; clear hB C B; (try rfl)))
           | refine rwf_o ?_ | refine rwc_o .n rfl ?_ | refine rwc_o .z rfl ?_ | refine rwc_o .w rfl ?_ | refine rwc_o .b rfl ?_ | refine rwc_o _ rfl ?_)
          have hn3 : s2.length ∉ D3 := fun hin => by
            rcases hD3 _ hin with h | h
            · exact hnot h
            · simp at h; omega
          refine ⟨by simp [*], m - 1, by omega, k + 1, D3, s2.length, cM M[k + 1], false, by omega, by simp, by rw [List.getElem?_set_self (lt_of_get hi3)]; rfl, rfl, hn3, .inl ⟨hk1, by simp, rfl, H.stay' _ _ _ _ hJ4 fun j hj => get_set_ne fun e => hn3 (e ▸ hj)⟩⟩
        · have hke : k + 1 = M.length := by omega
          rw [hke] at hJ3
          obtain ⟨f3, xs3, c1, c2⟩ := H.last D2 _ hJ3
          clear hke
          repeat' (first
           | (with_reducible first | refine Stp.pf ?_ | refine block_x (by decide) ?_ | refine ret_n ?_)
           | refine tri_reg [4] ?_ | refine tri_regc [4] [] mixed (by decide +kernel) ?_
           | (refine rwf_nilt rfl (by decide +kernel) fun B hB => ?_; (try simp [*]); refine hB.out _ fun b => ?_; clear hB B)
           | (refine Rul.pf ⟨rfl, rfl⟩ fun B C hB => ?_; (try simp [*, -List.all_eq_true, -applyA, Tryz.results27]); (try (simp (disch := first | assumption | omega) only [wc, ite_yes]; (try simp [*, -List.all_eq_true, -applyA, Tryz.results27]))); first | (first | refine hB.out.1 _ (fun hb => ?_) fun hb => ⟨rfl, ?_⟩ | refine hB.out.1 _ (fun hb => ?_) fun hb => ?_) <;> clear hB C B <;> (try simp only [Bool.not_true, Bool.not_false] at hb) <;> (first | (exfalso; simp at hb; done) | (exfalso; simp at hb; omega) | (rw [hb]; (try simp at hb)) | (try simp at hb)) | ((first | refine hB.out.1 _ _ ?_ | refine hB.out.1 _ ?_ | refine hB.out.2 ⟨rfl, ?_⟩); clear hB C B) | (refine hB.out.2 _ ?_; clear hB C B; (try rfl)))
           | refine rwf_o ?_ | refine rwc_o .n rfl ?_ | refine rwc_o .z rfl ?_ | refine rwc_o .w rfl ?_ | refine rwc_o .b rfl ?_ | refine rwc_o _ rfl ?_)
          refine rwf_ca rfl fun C' hC hP => ?_
          clear hP
          (try simp [*, -List.all_eq_true, -applyA]); (try (simp (disch := first | assumption | omega) only [wrap_id, wrapu_id, wrapb_id, tmod_nn, tdiv_nn, ite_yes, flatM_seg, flatM_0, flatM_1, flatM_2, flatI_seg, flatI_0, flatI_1, flatS_get]; (try simp [*, -List.all_eq_true, -applyA])))
          refine hC.out _ _ _ (c2) fun r s3 hq => ?_
          clear hC C'
          obtain ⟨rfl, ⟨D3, hJ4, hD3⟩, hfr3⟩ := hq
          have hnot : s2.length ∉ D2 := fun hin => by have := hlow2 _ hin; omega
          have hi3 := hfr3 s2.length _ hnot List.getElem?_concat_length
          have HF3 := Lib.hid hfr3
          clear hfr3 c1 c2
          repeat' (first
           | (with_reducible first | refine Stp.pf ?_ | refine block_x (by decide) ?_ | refine ret_n ?_)
           | refine tri_reg [4] ?_ | refine tri_regc [4] [] mixed (by decide +kernel) ?_
           | (refine rwf_nilt rfl (by decide +kernel) fun B hB => ?_; (try simp [*]); refine hB.out _ fun b => ?_; clear hB B)
           | (refine Rul.pf ⟨rfl, rfl⟩ fun B C hB => ?_; (try simp [*, -List.all_eq_true, -applyA, Tryz.results27]); (try (simp (disch := first | assumption | omega) only [wc, ite_yes]; (try simp [*, -List.all_eq_true, -applyA, Tryz.results27]))); first | (first | refine hB.out.1 _ (fun hb => ?_) fun hb => ⟨rfl, ?_⟩ | refine hB.out.1 _ (fun hb => ?_) fun hb => ?_) <;> clear hB C B <;> (try simp only [Bool.not_true, Bool.not_false] at hb) <;> (first | (exfalso; simp at hb; done) | (exfalso; simp at hb; omega) | (rw [hb]; (try simp at hb)) | (try simp at hb)) | ((first | refine hB.out.1 _ _ ?_ | refine hB.out.1 _ ?_ | refine hB.out.2 ⟨rfl, ?_⟩); clear hB C B) | (refine hB.out.2 _ ?_; clear hB C B; (try rfl)))
           | refine rwf_o ?_ | refine rwc_o .n rfl ?_ | refine rwc_o .z rfl ?_ | refine rwc_o .w rfl ?_ | refine rwc_o .b rfl ?_ | refine rwc_o _ rfl ?_)
          have hn3 : s2.length ∉ D3 := fun hin => by
            rcases hD3 _ hin with h | h
            · exact hnot h
            · simp at h; omega
          refine ⟨by simp [*], m - 1, by omega, k + 1, D3, s2.length, cM zeroM, false, by omega, by simp, by rw [List.getElem?_set_self (lt_of_get hi3)]; rfl, rfl, hn3, .inr ⟨by omega, by simp, H.stay _ _ _ _ hJ4 fun j hj => get_set_ne fun e => hn3 (e ▸ hj)⟩⟩
      · clear a1 a2
        repeat' (first
         | (with_reducible first | refine Stp.pf ?_ | refine block_x (by decide) ?_ | refine ret_n ?_)
         | refine tri_reg [4] ?_ | refine tri_regc [4] [] mixed (by decide +kernel) ?_
         | (refine rwf_nilt rfl (by decide +kernel) fun B hB => ?_; (try simp [*]); refine hB.out _ fun b => ?_; clear hB B)
         | (refine Rul.pf ⟨rfl, rfl⟩ fun B C hB => ?_; (try simp [*, -List.all_eq_true, -applyA, Tryz.results27]); (try (simp (disch := first | assumption | omega) only [wc, ite_yes]; (try simp [*, -List.all_eq_true, -applyA, Tryz.results27]))); first | (first | refine hB.out.1 _ (fun hb => ?_) fun hb => ⟨rfl, ?_⟩ | refine hB.out.1 _ (fun hb => ?_) fun hb => ?_) <;> clear hB C B <;> (try simp only [Bool.not_true, Bool.not_false] at hb) <;> (first | (exfalso; simp at hb; done) | (exfalso; simp at hb; omega) | (rw [hb]; (try simp at hb)) | (try simp at hb)) | ((first | refine hB.out.1 _ _ ?_ | refine hB.out.1 _ ?_ | refine hB.out.2 ⟨rfl, ?_⟩); clear hB C B) | (refine hB.out.2 _ ?_; clear hB C B; (try rfl)))
         | refine rwf_o ?_ | refine rwc_o .n rfl ?_ | refine rwc_o .z rfl ?_ | refine rwc_o .w rfl ?_ | refine rwc_o .b rfl ?_ | refine rwc_o _ rfl ?_)
        exact ⟨rfl, _, hJ⟩
theorem mMsgs1_spec (x : Msg) (o n : Nat) (v : AV) (fu : Bool) (cs : List AV) (hn : n ≤ 50000000) (σ : Sto) (h1 : σ[o]? = some ⟨[v], 0, false, fu⟩) (h2 : Own 3 σ v n cs) (h3 : ¬ isH o v) :
    Spec Tryz.prog 40 [.agg (cM x), .mp o 0 0] σ (fun r s => r = .tup [] ∧ ∃ v', s[o]? = some ⟨[v'], 0, false, false⟩ ∧ Own 3 s v' (n + 1) (cs ++ cM x) ∧ ¬ isH o v' ∧ (∀ j, isH j v' → isH j v ∨ σ.length ≤ j) ∧ (∀ (i : Nat) (ob : MO), i ≠ o → ¬ isH i v → σ[i]? = some ob → s[i]? = some ob) ∧ σ.length ≤ s.length) := by
  refine spec_intro Tryz.func40 good40 rfl (by simp [Tryz.ntmps40]) ?_
  repeat' (first
   | (with_reducible first | refine Stp.pf ?_ | refine block_x (by decide) ?_ | refine ret_n ?_)
   | refine tri_reg [6] ?_ | refine tri_regc [6] [] mixed (by decide +kernel) ?_
   | (refine rwf_nilt rfl (by decide +kernel) fun B hB => ?_; (try simp [*]); refine hB.out _ fun b => ?_; clear hB B)
   | (refine Rul.pf ⟨rfl, rfl⟩ fun B C hB => ?_; (try simp [*, -List.all_eq_true, Tryz.results40]); (try (simp (disch := first | assumption | omega) only [wc, ite_yes]; (try simp [*, -List.all_eq_true, Tryz.results40]))); first | (first | refine hB.out.1 _ (fun hb => ?_) fun hb => ⟨rfl, ?_⟩ | refine hB.out.1 _ (fun hb => ?_) fun hb => ?_) <;> clear hB C B <;> (try simp only [Bool.not_true, Bool.not_false] at hb) <;> (first | (exfalso; simp at hb; done) | (exfalso; simp at hb; omega) | (rw [hb]; (try simp at hb)) | (try simp at hb)) | ((first | refine hB.out.1 _ _ ?_ | refine hB.out.1 _ ?_ | refine hB.out.2 ⟨rfl, ?_⟩); clear hB C B) | (refine hB.out.2 _ ?_; clear hB C B; (try rfl)))
   | refine rwf_o ?_ | refine rwc_o .n rfl ?_ | refine rwc_o .z rfl ?_ | refine rwc_o .w rfl ?_ | refine rwc_o .b rfl ?_ | refine rwc_o _ rfl ?_)
  refine rwf_app rfl rfl elem34 zero38 rfl bytes38 (by decide) slc34 fun G hG => ?_
  (try simp [*, -List.all_eq_true])
  refine hG.out _ _ _ _ _ (h2) (by simp) (by simp) (by omega) fun v1 σ1 q1 q2 => ?_
  clear hG G
  have w1 := q2.1 _ _ h1 h3
  have w3 : ¬ isH o v1 := fun h => by
    rcases q2.2.1 _ h with h | h
    · exact h3 h
    · have := lt_of_get h1; omega
  have q3 := q1
  rcases q1 with ⟨rfl, q4, _⟩ | ⟨i1, g1, off1, c1, rfl, _⟩
  · omega
  clear h1
  repeat' (first
   | (with_reducible first | refine Stp.pf ?_ | refine block_x (by decide) ?_ | refine ret_n ?_)
   | refine tri_reg [] ?_ | refine tri_regc [] [] mixed (by decide +kernel) ?_
   | (refine rwf_nilt rfl (by decide +kernel) fun B hB => ?_; (try simp [*]); refine hB.out _ fun b => ?_; clear hB B)
   | (refine Rul.pf ⟨rfl, rfl⟩ fun B C hB => ?_; (try simp [*, -List.all_eq_true, Tryz.results40]); (try (simp (disch := first | assumption | omega) only [wc, ite_yes]; (try simp [*, -List.all_eq_true, Tryz.results40]))); first | (first | refine hB.out.1 _ (fun hb => ?_) fun hb => ⟨rfl, ?_⟩ | refine hB.out.1 _ (fun hb => ?_) fun hb => ?_) <;> clear hB C B <;> (try simp only [Bool.not_true, Bool.not_false] at hb) <;> (first | (exfalso; simp at hb; done) | (exfalso; simp at hb; omega) | (rw [hb]; (try simp at hb)) | (try simp at hb)) | ((first | refine hB.out.1 _ _ ?_ | refine hB.out.1 _ ?_ | refine hB.out.2 ⟨rfl, ?_⟩); clear hB C B) | (refine hB.out.2 _ ?_; clear hB C B; (try rfl)))
   | refine rwf_o ?_ | refine rwc_o .n rfl ?_ | refine rwc_o .z rfl ?_ | refine rwc_o .w rfl ?_ | refine rwc_o .b rfl ?_ | refine rwc_o _ rfl ?_)
  exact ⟨rfl, _, by rw [List.getElem?_set_self (lt_of_get w1)], own_set q3 w3 _, w3, q2.2.1, fun i ob hi hv ho => by rw [List.getElem?_set_ne (Ne.symm hi)]; exact q2.1 i ob ho hv, by rw [List.length_set]; exact q2.2.2⟩
end Go.Proofs.YtemijcjgdgdhjabGreat
