/- Buffers with more: With, Of. -/
import Derived.Test.YticpnfgiidljlaaGreatWp
namespace Go.Proofs.YticpnfgiidljlaaGreat
open Go.RowKit
set_option linter.unusedSimpArgs false
set_option maxRecDepth 10000
theorem isMsg_small {m : Msg} (h : isMsg m = true) : m.key.size ≤ 1000000 ∧ m.val.size ≤ 1000000 := by
  unfold isMsg at h
  simp [isKey, isVal] at h
  have h1 := h.1
  have h2 : m.val.size ≤ 16 := by
    rcases h.2 with h | h | h
    · exact h.2
    · have : m.val.size = 0 := by rw [h.2]; rfl
      omega
    · omega
  omega
theorem RowAt.shape {k p : Nat} {σ : Sto} {v : AV} {n : Nat} {cs : List AV} (h : RowAt k p σ v n cs) : v = .sc (.slice none 0 0) ∨ ∃ i g off, v = .ms i g off n k := by
  rcases h with ⟨h, _⟩ | ⟨i, g, off, c, h, _⟩
  · exact .inl h
  · exact .inr ⟨i, g, off, h⟩
theorem RowAt.born {k : Nat} {σ : Sto} {v : AV} {n : Nat} {cs : List AV} (h : RowAt k σ.length σ v n cs) (o : MO) : RowAt k σ.length (σ ++ [o]) v n cs := h.append _
/-- What With comes to. -/
def withR (l ms : List Msg) : AV := if ms.all isMsg = true then .tup [.fp (cB (withM l ms)) 0, .sc (.int .i64 0)] else .tup [.sc (.pointer none), .sc (.int .i64 1)]
set_option maxHeartbeats 1000000 in
theorem bWith_spec (l ms : List Msg) (hl : l.length + ms.length ≤ 900000) (hr : Rise l) (hv : ∀ x ∈ l, isMsg x = true) : PSpec Tryz.prog 78 [.fp (cB l) 0, .fs (flatM ms) ms.length] (withR l ms) := by
  refine spec_pureFW (by simp) ?_
  refine spec_intro Tryz.func78 good78 rfl (by simp [Tryz.ntmps78]) ?_
  repeat' (first
   | (with_reducible first | refine Stp.pf ?_ | refine block_x (by decide) ?_ | refine ret_n ?_)
   | refine tri_reg [] ?_ | refine tri_regc [] [] mixed (by decide +kernel) ?_
   | (refine rwf_nilt rfl (by decide +kernel) fun B hB => ?_; (try simp [*]); refine hB.out _ fun b => ?_; clear hB B)
   | (refine Rul.pf ⟨rfl, rfl⟩ fun B C hB => ?_; (try simp [*, -List.all_eq_true, cB, Tryz.results78]); (try (simp (disch := first | assumption | omega) only [wc, ite_yes]; (try simp [*, -List.all_eq_true, cB, Tryz.results78]))); first | (first | refine hB.out.1 _ (fun hb => ?_) fun hb => ⟨rfl, ?_⟩ | refine hB.out.1 _ (fun hb => ?_) fun hb => ?_) <;> clear hB C B <;> (try simp only [Bool.not_true, Bool.not_false] at hb) <;> (first | (exfalso; simp at hb; done) | (exfalso; simp at hb; omega) | (rw [hb]; (try simp at hb)) | (try simp at hb)) | ((first | refine hB.out.1 _ _ ?_ | refine hB.out.1 _ ?_ | refine hB.out.2 ⟨rfl, ?_⟩); clear hB C B) | (refine hB.out.2 _ ?_; clear hB C B; (try rfl)))
   | refine rwf_o ?_ | refine rwc_o .n rfl ?_ | refine rwc_o .z rfl ?_ | refine rwc_o .w rfl ?_ | refine rwc_o .b rfl ?_ | refine rwc_o _ rfl ?_)
  refine tri_loopk [0, 1, 14, 15] (fun m env σ => ∃ k : Nat, k + m = ms.length ∧ env 16 = .sc (.int .i64 k) ∧ σ = [] ∧ (ms.take k).all isMsg = true) ms.length ⟨0, by simp, by simp, by simp, by simp⟩ ?_
  intro m env' σ' hk hI
  simp at hk
  obtain ⟨k, hkm, h16, rfl, hok⟩ := hI
  by_cases hlt : k < ms.length
  · cases hmk : isMsg ms[k] with
    | true =>
      repeat' (first
       | (with_reducible first | refine Stp.pf ?_ | refine block_x (by decide) ?_ | refine ret_n ?_)
       | refine tri_reg [] ?_ | refine tri_regc [] [] mixed (by decide +kernel) ?_
       | (refine rwf_nilt rfl (by decide +kernel) fun B hB => ?_; (try simp [*]); refine hB.out _ fun b => ?_; clear hB B)
       | (refine Rul.pf ⟨rfl, rfl⟩ fun B C hB => ?_; (try simp [*, -List.all_eq_true, cB, Tryz.results78]); (try (simp (disch := first | assumption | omega) only [wc, ite_yes]; (try simp [*, -List.all_eq_true, cB, Tryz.results78]))); first | (first | refine hB.out.1 _ (fun hb => ?_) fun hb => ⟨rfl, ?_⟩ | refine hB.out.1 _ (fun hb => ?_) fun hb => ?_) <;> clear hB C B <;> (try simp only [Bool.not_true, Bool.not_false] at hb) <;> (first | (exfalso; simp at hb; done) | (exfalso; simp at hb; omega) | (rw [hb]; (try simp at hb)) | (try simp at hb)) | ((first | refine hB.out.1 _ _ ?_ | refine hB.out.1 _ ?_ | refine hB.out.2.1 _ _ _ (msgIs_spec _) ?_ | refine hB.out.2.2 _ _ _ (msgIs_spec _) ?_ | refine hB.out.2 ⟨rfl, ?_⟩); clear hB C B) | (refine hB.out.2 _ ?_; clear hB C B; (try rfl)))
       | refine rwf_o ?_ | refine rwc_o .n rfl ?_ | refine rwc_o .z rfl ?_ | refine rwc_o .w rfl ?_ | refine rwc_o .b rfl ?_ | refine rwc_o _ rfl ?_)
      refine ⟨by simp [*], m - 1, by omega, k + 1, by omega, by simp, rfl, ?_⟩
      rw [List.take_add_one, List.getElem?_eq_getElem hlt]
      rw [List.all_append, hok]; simp [hmk]
    | false =>
      have hno : ¬ ms.all isMsg = true := by
        rw [List.all_eq_true]; intro h; have := h _ (List.getElem_mem hlt); rw [hmk] at this; cases this
      repeat' (first
       | (with_reducible first | refine Stp.pf ?_ | refine block_x (by decide) ?_ | refine ret_n ?_)
       | refine tri_reg [] ?_ | refine tri_regc [] [] mixed (by decide +kernel) ?_
       | (refine rwf_nilt rfl (by decide +kernel) fun B hB => ?_; (try simp [*]); refine hB.out _ fun b => ?_; clear hB B)
       | (refine Rul.pf ⟨rfl, rfl⟩ fun B C hB => ?_; (try simp [*, -List.all_eq_true, cB, Tryz.results78]); (try (simp (disch := first | assumption | omega) only [wc, ite_yes]; (try simp [*, -List.all_eq_true, cB, Tryz.results78]))); first | (first | refine hB.out.1 _ (fun hb => ?_) fun hb => ⟨rfl, ?_⟩ | refine hB.out.1 _ (fun hb => ?_) fun hb => ?_) <;> clear hB C B <;> (try simp only [Bool.not_true, Bool.not_false] at hb) <;> (first | (exfalso; simp at hb; done) | (exfalso; simp at hb; omega) | (rw [hb]; (try simp at hb)) | (try simp at hb)) | ((first | refine hB.out.1 _ _ ?_ | refine hB.out.1 _ ?_ | refine hB.out.2.1 _ _ _ (msgIs_spec _) ?_ | refine hB.out.2.2 _ _ _ (msgIs_spec _) ?_ | refine hB.out.2 ⟨rfl, ?_⟩); clear hB C B) | (refine hB.out.2 _ ?_; clear hB C B; (try rfl)))
       | refine rwf_o ?_ | refine rwc_o .n rfl ?_ | refine rwc_o .z rfl ?_ | refine rwc_o .w rfl ?_ | refine rwc_o .b rfl ?_ | refine rwc_o _ rfl ?_)
      exact out_flat rfl (by rw [withR, if_neg hno]; exact .refl _)
  · rw [List.take_of_length_le (by omega)] at hok
    have hall := List.all_eq_true.1 hok
    repeat' (first
     | (with_reducible first | refine Stp.pf ?_ | refine block_x (by decide) ?_ | refine ret_n ?_)
     | refine tri_reg [27] ?_ | refine tri_regc [27] [] mixed (by decide +kernel) ?_
     | (refine rwf_nilt rfl (by decide +kernel) fun B hB => ?_; (try simp [*]); refine hB.out _ fun b => ?_; clear hB B)
     | (refine Rul.pf ⟨rfl, rfl⟩ fun B C hB => ?_; (try simp [*, -List.all_eq_true, cB, Tryz.results78]); (try (simp (disch := first | assumption | omega) only [wc, ite_yes]; (try simp [*, -List.all_eq_true, cB, Tryz.results78]))); first | (first | refine hB.out.1 _ (fun hb => ?_) fun hb => ⟨rfl, ?_⟩ | refine hB.out.1 _ (fun hb => ?_) fun hb => ?_) <;> clear hB C B <;> (try simp only [Bool.not_true, Bool.not_false] at hb) <;> (first | (exfalso; simp at hb; done) | (exfalso; simp at hb; omega) | (rw [hb]; (try simp at hb)) | (try simp at hb)) | ((first | refine hB.out.1 _ _ ?_ | refine hB.out.1 _ ?_ | refine hB.out.2 ⟨rfl, ?_⟩); clear hB C B) | (refine hB.out.2 _ ?_; clear hB C B; (try rfl)))
     | refine rwf_o ?_ | refine rwc_o .n rfl ?_ | refine rwc_o .z rfl ?_ | refine rwc_o .w rfl ?_ | refine rwc_o .b rfl ?_ | refine rwc_o _ rfl ?_)
    refine rwf_ca rfl fun C' hC hP => ?_
    simp [*]
    refine hC.out _ _ _ (bList_row l (by omega) _) fun r s hq => ?_
    clear hC hP C'
    rcases hq.shape with rfl | ⟨i, g, off, rfl⟩
    all_goals
      skip
      repeat' (first
       | (with_reducible first | refine Stp.pf ?_ | refine block_x (by decide) ?_ | refine ret_n ?_)
       | refine tri_reg [27] ?_ | refine tri_regc [27] [] mixed (by decide +kernel) ?_
       | (refine rwf_nilt rfl (by decide +kernel) fun B hB => ?_; (try simp [*]); refine hB.out _ fun b => ?_; clear hB B)
       | (refine Rul.pf ⟨rfl, rfl⟩ fun B C hB => ?_; (try simp [*, -List.all_eq_true, Tryz.results78]); (try (simp (disch := first | assumption | omega) only [wc, ite_yes]; (try simp [*, -List.all_eq_true, Tryz.results78]))); first | (first | refine hB.out.1 _ (fun hb => ?_) fun hb => ⟨rfl, ?_⟩ | refine hB.out.1 _ (fun hb => ?_) fun hb => ?_) <;> clear hB C B <;> (try simp only [Bool.not_true, Bool.not_false] at hb) <;> (first | (exfalso; simp at hb; done) | (exfalso; simp at hb; omega) | (rw [hb]; (try simp at hb)) | (try simp at hb)) | ((first | refine hB.out.1 _ _ ?_ | refine hB.out.1 _ ?_ | refine hB.out.2 ⟨rfl, ?_⟩); clear hB C B) | (refine hB.out.2 _ ?_; clear hB C B; (try rfl)))
       | refine rwf_o ?_ | refine rwc_o .n rfl ?_ | refine rwc_o .z rfl ?_ | refine rwc_o .w rfl ?_ | refine rwc_o .b rfl ?_ | refine rwc_o _ rfl ?_)
      refine tri_loopk [8, 9, 30, 31] (fun m env σ => ∃ k : Nat, k + m = ms.length ∧ env 32 = .sc (.int .i64 k) ∧ ∃ v, σ[s.length]? = some ⟨[v, .sc (.int .i64 0)], 0, false, false⟩ ∧ RowAt 3 s.length σ v (withM l (ms.take k)).length (flatM (withM l (ms.take k)))) ms.length ⟨0, by simp, by simp, _, List.getElem?_concat_length, by simpa [withM] using hq.append _⟩ ?_
      clear hq hkm h16 hk k hlt hb
      intro m2 env2 σ2 hk2 hI2
      simp at hk2
      obtain ⟨k2, hkm2, h32, v, hσ, hrow⟩ := hI2
      obtain ⟨w1, w2, w3⟩ := withM_ok (ms.take k2) l hr hv (fun x hx => hall x (List.mem_of_mem_take hx))
      have w4 : (ms.take k2).length ≤ ms.length := by simp; omega
      by_cases hlt2 : k2 < ms.length
      · skip
        repeat' (first
         | (with_reducible first | refine Stp.pf ?_ | refine block_x (by decide) ?_ | refine ret_n ?_)
         | refine tri_reg [27] ?_ | refine tri_regc [27] [] mixed (by decide +kernel) ?_
         | (refine rwf_nilt rfl (by decide +kernel) fun B hB => ?_; (try simp [*]); refine hB.out _ fun b => ?_; clear hB B)
         | (refine Rul.pf ⟨rfl, rfl⟩ fun B C hB => ?_; (try simp [*, -List.all_eq_true, Tryz.results78]); (try (simp (disch := first | assumption | omega) only [wc, ite_yes]; (try simp [*, -List.all_eq_true, Tryz.results78]))); first | (first | refine hB.out.1 _ (fun hb => ?_) fun hb => ⟨rfl, ?_⟩ | refine hB.out.1 _ (fun hb => ?_) fun hb => ?_) <;> clear hB C B <;> (try simp only [Bool.not_true, Bool.not_false] at hb) <;> (first | (exfalso; simp at hb; done) | (exfalso; simp at hb; omega) | (rw [hb]; (try simp at hb)) | (try simp at hb)) | ((first | refine hB.out.1 _ _ ?_ | refine hB.out.1 _ ?_ | refine hB.out.2 ⟨rfl, ?_⟩); clear hB C B) | (refine hB.out.2 _ ?_; clear hB C B; (try rfl)))
         | refine rwf_o ?_ | refine rwc_o .n rfl ?_ | refine rwc_o .z rfl ?_ | refine rwc_o .w rfl ?_ | refine rwc_o .b rfl ?_ | refine rwc_o _ rfl ?_)
        refine rwf_ca rfl fun C' hC hP => ?_
        simp [*]
        refine hC.out _ _ _ (bPut_spec _ (by omega) w1 ms[k2] _ _ v _ hσ hrow) fun r s' hq' => ?_
        clear hC hP C'
        obtain ⟨rfl, v', q1, q2⟩ := hq'
        repeat' (first
         | (with_reducible first | refine Stp.pf ?_ | refine block_x (by decide) ?_ | refine ret_n ?_)
         | refine tri_reg [27] ?_ | refine tri_regc [27] [] mixed (by decide +kernel) ?_
         | (refine rwf_nilt rfl (by decide +kernel) fun B hB => ?_; (try simp [*]); refine hB.out _ fun b => ?_; clear hB B)
         | (refine Rul.pf ⟨rfl, rfl⟩ fun B C hB => ?_; (try simp [*, -List.all_eq_true, Tryz.results78]); (try (simp (disch := first | assumption | omega) only [wc, ite_yes]; (try simp [*, -List.all_eq_true, Tryz.results78]))); first | (first | refine hB.out.1 _ (fun hb => ?_) fun hb => ⟨rfl, ?_⟩ | refine hB.out.1 _ (fun hb => ?_) fun hb => ?_) <;> clear hB C B <;> (try simp only [Bool.not_true, Bool.not_false] at hb) <;> (first | (exfalso; simp at hb; done) | (exfalso; simp at hb; omega) | (rw [hb]; (try simp at hb)) | (try simp at hb)) | ((first | refine hB.out.1 _ _ ?_ | refine hB.out.1 _ ?_ | refine hB.out.2 ⟨rfl, ?_⟩); clear hB C B) | (refine hB.out.2 _ ?_; clear hB C B; (try rfl)))
         | refine rwf_o ?_ | refine rwc_o .n rfl ?_ | refine rwc_o .z rfl ?_ | refine rwc_o .w rfl ?_ | refine rwc_o .b rfl ?_ | refine rwc_o _ rfl ?_)
        exact ⟨by simp [*], m2 - 1, by omega, k2 + 1, by omega, by simp, v', q1, by rw [withM_succ l ms k2 _ (List.getElem?_eq_getElem hlt2)]; exact q2⟩
      · rw [List.take_of_length_le (by omega)] at hrow w1 w2 w3
        have hsm : MSmall (withM l ms) := fun x hx => isMsg_small (w2 x hx)
        have hmade := made_spec (withM l ms) (by omega) hsm
        rcases hrow with ⟨rfl, q1, q2⟩ | ⟨i2, g2, off2, c2, rfl, q1, q2, q3, q4⟩
        · have hnil : withM l ms = [] := List.length_eq_zero_iff.1 q1
          rw [hnil] at hmade
          repeat' (first
           | (with_reducible first | refine Stp.pf ?_ | refine block_x (by decide) ?_ | refine ret_n ?_)
           | refine tri_reg [27] ?_ | refine tri_regc [27] [] mixed (by decide +kernel) ?_
           | (refine rwf_nilt rfl (by decide +kernel) fun B hB => ?_; (try simp [*]); refine hB.out _ fun b => ?_; clear hB B)
           | (refine Rul.pf ⟨rfl, rfl⟩ fun B C hB => ?_; (try simp [*, -List.all_eq_true, Tryz.results78]); (try (simp (disch := first | assumption | omega) only [wc, ite_yes]; (try simp [*, -List.all_eq_true, Tryz.results78]))); first | (first | refine hB.out.1 _ (fun hb => ?_) fun hb => ⟨rfl, ?_⟩ | refine hB.out.1 _ (fun hb => ?_) fun hb => ?_) <;> clear hB C B <;> (try simp only [Bool.not_true, Bool.not_false] at hb) <;> (first | (exfalso; simp at hb; done) | (exfalso; simp at hb; omega) | (rw [hb]; (try simp at hb)) | (try simp at hb)) | ((first | refine hB.out.1 _ _ ?_ | refine hB.out.1 _ ?_ | refine hB.out.2.1 _ _ _ (pspec_args hmade (.cons .nil .nil)) ?_ | refine hB.out.2.2 _ _ _ (pspec_args hmade (.cons .nil .nil)) ?_ | refine hB.out.2 ⟨rfl, ?_⟩); clear hB C B) | (refine hB.out.2 _ ?_; clear hB C B; (try rfl)))
           | refine rwf_o ?_ | refine rwc_o .n rfl ?_ | refine rwc_o .z rfl ?_ | refine rwc_o .w rfl ?_ | refine rwc_o .b rfl ?_ | refine rwc_o _ rfl ?_)
          exact out_flat (by simp [AV.flat, flatL]) (by rw [withR, if_pos hok, hnil]; exact .refl _)
        · have hfz : frzL σ2 [i2] 9 [.ms i2 g2 off2 (withM l ms).length 3] = some [.fs (flatM (withM l ms)) (withM l ms).length] := by simp [frzL, frz, AV.flat, flatL, q2, q3, q4]
          repeat' (first
           | (with_reducible first | refine Stp.pf ?_ | refine block_x (by decide) ?_ | refine ret_n ?_)
           | refine tri_reg [27] ?_ | refine tri_regc [27] [] mixed (by decide +kernel) ?_
           | (refine rwf_nilt rfl (by decide +kernel) fun B hB => ?_; (try simp [*]); refine hB.out _ fun b => ?_; clear hB B)
           | (refine Rul.pf ⟨rfl, rfl⟩ fun B C hB => ?_; (try simp [*, -List.all_eq_true, Tryz.results78]); (try (simp (disch := first | assumption | omega) only [wc, ite_yes]; (try simp [*, -List.all_eq_true, Tryz.results78]))); first | (first | refine hB.out.1 _ (fun hb => ?_) fun hb => ⟨rfl, ?_⟩ | refine hB.out.1 _ (fun hb => ?_) fun hb => ?_) <;> clear hB C B <;> (try simp only [Bool.not_true, Bool.not_false] at hb) <;> (first | (exfalso; simp at hb; done) | (exfalso; simp at hb; omega) | (rw [hb]; (try simp at hb)) | (try simp at hb)) | ((first | refine hB.out.1 _ _ ?_ | refine hB.out.1 _ ?_ | refine hB.out.2 ⟨rfl, ?_⟩); clear hB C B) | (refine hB.out.2 _ ?_; clear hB C B; (try rfl)))
           | refine rwf_o ?_ | refine rwc_o .n rfl ?_ | refine rwc_o .z rfl ?_ | refine rwc_o .w rfl ?_ | refine rwc_o .b rfl ?_ | refine rwc_o _ rfl ?_)
          refine rwf_cf [i2] rfl fun C' hC => ?_
          simp [*]
          refine hC.out _ _ _ hmade ?_
          clear hC C' hmade
          repeat' (first
           | (with_reducible first | refine Stp.pf ?_ | refine block_x (by decide) ?_ | refine ret_n ?_)
           | refine tri_reg [27] ?_ | refine tri_regc [27] [] mixed (by decide +kernel) ?_
           | (refine rwf_nilt rfl (by decide +kernel) fun B hB => ?_; (try simp [*]); refine hB.out _ fun b => ?_; clear hB B)
           | (refine Rul.pf ⟨rfl, rfl⟩ fun B C hB => ?_; (try simp [*, -List.all_eq_true, Tryz.results78]); (try (simp (disch := first | assumption | omega) only [wc, ite_yes]; (try simp [*, -List.all_eq_true, Tryz.results78]))); first | (first | refine hB.out.1 _ (fun hb => ?_) fun hb => ⟨rfl, ?_⟩ | refine hB.out.1 _ (fun hb => ?_) fun hb => ?_) <;> clear hB C B <;> (try simp only [Bool.not_true, Bool.not_false] at hb) <;> (first | (exfalso; simp at hb; done) | (exfalso; simp at hb; omega) | (rw [hb]; (try simp at hb)) | (try simp at hb)) | ((first | refine hB.out.1 _ _ ?_ | refine hB.out.1 _ ?_ | refine hB.out.2 ⟨rfl, ?_⟩); clear hB C B) | (refine hB.out.2 _ ?_; clear hB C B; (try rfl)))
           | refine rwf_o ?_ | refine rwc_o .n rfl ?_ | refine rwc_o .z rfl ?_ | refine rwc_o .w rfl ?_ | refine rwc_o .b rfl ?_ | refine rwc_o _ rfl ?_)
          exact out_flat (by simp [AV.flat, flatL]) (by rw [withR, if_pos hok]; exact .refl _)
/-- What Of comes to. -/
theorem bOf_spec (ms : List Msg) (hl : ms.length ≤ 900000) : PSpec Tryz.prog 97 [.fs (flatM ms) ms.length] (withR [] ms) := by
  have h0 : Rise [] := fun i j x y _ hx _ => by simp at hx
  have hmade := pspec_args (made_spec [] (by simp) (fun x hx => by simp at hx)) (xs' := [.sc (.slice none 0 0)]) (.cons .nil .nil)
  cases hall : ms.all isMsg with
  | true =>
    have hw := bWith_spec [] ms (by simpa using hl) h0 (fun x hx => by simp at hx)
    unfold withR at *
    rw [if_pos hall] at *
    refine spec_pure (by simp) (by simp) ?_
    refine spec_intro Tryz.func97 good97 rfl (by simp [Tryz.ntmps97]) ?_
    repeat' (first
     | (with_reducible first | refine Stp.pf ?_ | refine block_x (by decide) ?_ | refine ret_n ?_)
     | refine tri_reg [] ?_ | refine tri_regc [] [] mixed (by decide +kernel) ?_
     | (refine rwf_nilt rfl (by decide +kernel) fun B hB => ?_; (try simp [*]); refine hB.out _ fun b => ?_; clear hB B)
     | (refine Rul.pf ⟨rfl, rfl⟩ fun B C hB => ?_; (try simp [*, -List.all_eq_true, Tryz.results97]); (try (simp (disch := first | assumption | omega) only [wc, ite_yes]; (try simp [*, -List.all_eq_true, Tryz.results97]))); first | (first | refine hB.out.1 _ (fun hb => ?_) fun hb => ⟨rfl, ?_⟩ | refine hB.out.1 _ (fun hb => ?_) fun hb => ?_) <;> clear hB C B <;> (try simp only [Bool.not_true, Bool.not_false] at hb) <;> (first | (exfalso; simp at hb; done) | (exfalso; simp at hb; omega) | (rw [hb]; (try simp at hb)) | (try simp at hb)) | ((first | refine hB.out.1 _ _ ?_ | refine hB.out.1 _ ?_ | refine hB.out.2.1 _ _ _ (hmade) ?_ | refine hB.out.2.2 _ _ _ (hmade) ?_ | refine hB.out.2.1 _ _ _ (hw) ?_ | refine hB.out.2.2 _ _ _ (hw) ?_ | refine hB.out.2 ⟨rfl, ?_⟩); clear hB C B) | (refine hB.out.2 _ ?_; clear hB C B; (try rfl)))
     | refine rwf_o ?_ | refine rwc_o .n rfl ?_ | refine rwc_o .z rfl ?_ | refine rwc_o .w rfl ?_ | refine rwc_o .b rfl ?_ | refine rwc_o _ rfl ?_)
  | false =>
    have hw := bWith_spec [] ms (by simpa using hl) h0 (fun x hx => by simp at hx)
    unfold withR at *
    rw [if_neg (by rw [hall]; simp)] at *
    refine spec_pure (by simp) (by simp) ?_
    refine spec_intro Tryz.func97 good97 rfl (by simp [Tryz.ntmps97]) ?_
    repeat' (first
     | (with_reducible first | refine Stp.pf ?_ | refine block_x (by decide) ?_ | refine ret_n ?_)
     | refine tri_reg [] ?_ | refine tri_regc [] [] mixed (by decide +kernel) ?_
     | (refine rwf_nilt rfl (by decide +kernel) fun B hB => ?_; (try simp [*]); refine hB.out _ fun b => ?_; clear hB B)
     | (refine Rul.pf ⟨rfl, rfl⟩ fun B C hB => ?_; (try simp [*, -List.all_eq_true, Tryz.results97]); (try (simp (disch := first | assumption | omega) only [wc, ite_yes]; (try simp [*, -List.all_eq_true, Tryz.results97]))); first | (first | refine hB.out.1 _ (fun hb => ?_) fun hb => ⟨rfl, ?_⟩ | refine hB.out.1 _ (fun hb => ?_) fun hb => ?_) <;> clear hB C B <;> (try simp only [Bool.not_true, Bool.not_false] at hb) <;> (first | (exfalso; simp at hb; done) | (exfalso; simp at hb; omega) | (rw [hb]; (try simp at hb)) | (try simp at hb)) | ((first | refine hB.out.1 _ _ ?_ | refine hB.out.1 _ ?_ | refine hB.out.2.1 _ _ _ (hmade) ?_ | refine hB.out.2.2 _ _ _ (hmade) ?_ | refine hB.out.2.1 _ _ _ (hw) ?_ | refine hB.out.2.2 _ _ _ (hw) ?_ | refine hB.out.2 ⟨rfl, ?_⟩); clear hB C B) | (refine hB.out.2 _ ?_; clear hB C B; (try rfl)))
     | refine rwf_o ?_ | refine rwc_o .n rfl ?_ | refine rwc_o .z rfl ?_ | refine rwc_o .w rfl ?_ | refine rwc_o .b rfl ?_ | refine rwc_o _ rfl ?_)
end Go.Proofs.YticpnfgiidljlaaGreat
