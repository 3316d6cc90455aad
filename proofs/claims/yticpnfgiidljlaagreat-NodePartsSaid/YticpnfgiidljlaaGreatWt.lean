/- Buffers: sort, Take, Without, Same. -/
import Derived.Test.YticpnfgiidljlaaGreatWw
import Derived.Test.YticpnfgiidljlaaGreatLc
namespace Go.Proofs.YticpnfgiidljlaaGreat
open Go.RowKit
set_option linter.unusedSimpArgs false
set_option maxRecDepth 10000
/-- One more of a row of messages, as a row's cells. -/
theorem oneM (m : Msg) : wr (zerosA [AV.sc (Value.int IntKind.i64 0), AV.sc (Value.string { data := #[] }), AV.sc (Value.string { data := #[] })] 3) 0 (List.take 3 (cM m)) = cM m := rfl
@[simp] theorem oneM2 (m : Msg) : wr (zerosA [AV.sc (Value.int IntKind.i64 0), AV.sc (Value.string { data := #[] }), AV.sc (Value.string { data := #[] })] 3) 0 (cM m) = cM m := rfl
set_option maxHeartbeats 1000000 in
theorem bSort_spec (l : List Msg) (hl : l.length ≤ 900000) (lo hi : Str) : PSpec Tryz.prog 138 [.fp (cB l) 0, .agg [.sc (.string lo), .sc (.string hi)]] (.tup [.fs (flatM (takeM l lo hi true)) (takeM l lo hi true).length, .fs (flatM (takeM l lo hi false)) (takeM l lo hi false).length]) := by
  refine spec_pureFW (by simp) ?_
  refine spec_intro Tryz.func138 good138 rfl (by simp [Tryz.ntmps138]) ?_
  repeat' (first
   | (with_reducible first | refine Stp.pf ?_ | refine block_x (by decide) ?_ | refine ret_n ?_)
   | refine tri_reg [22,26] ?_ | refine tri_regc [22,26] [] mixed (by decide +kernel) ?_
   | (refine rwf_nilt rfl (by decide +kernel) fun B hB => ?_; (try simp [*]); refine hB.out _ fun b => ?_; clear hB B)
   | (refine Rul.pf ⟨rfl, rfl⟩ fun B C hB => ?_; (try simp [*, -List.all_eq_true, Tryz.results138]); (try (simp (disch := first | assumption | omega) only [wc, ite_yes]; (try simp [*, -List.all_eq_true, Tryz.results138]))); first | (first | refine hB.out.1 _ (fun hb => ?_) fun hb => ⟨rfl, ?_⟩ | refine hB.out.1 _ (fun hb => ?_) fun hb => ?_) <;> clear hB C B <;> (try simp only [Bool.not_true, Bool.not_false] at hb) <;> (first | (exfalso; simp at hb; done) | (exfalso; simp at hb; omega) | (rw [hb]; (try simp at hb)) | (try simp at hb)) | ((first | refine hB.out.1 _ _ ?_ | refine hB.out.1 _ ?_ | refine hB.out.2.1 _ _ _ (bList_spec l (by omega)) ?_ | refine hB.out.2.2 _ _ _ (bList_spec l (by omega)) ?_ | refine hB.out.2 ⟨rfl, ?_⟩); clear hB C B) | (refine hB.out.2 _ ?_; clear hB C B; (try rfl)))
   | refine rwf_o ?_ | refine rwc_o .n rfl ?_ | refine rwc_o .z rfl ?_ | refine rwc_o .w rfl ?_ | refine rwc_o .b rfl ?_ | refine rwc_o _ rfl ?_)
  refine tri_loopk [3, 9, 10] (fun m env σ => ∃ k : Nat, k + m = l.length ∧ env 11 = .sc (.int .i64 k) ∧ ∃ v1 v2, env 4 = v1 ∧ env 5 = v2 ∧ Own 3 σ v1 (takeM (l.take k) lo hi true).length (flatM (takeM (l.take k) lo hi true)) ∧ Own 3 σ v2 (takeM (l.take k) lo hi false).length (flatM (takeM (l.take k) lo hi false)) ∧ ∀ j, isH j v1 → ¬ isH j v2) l.length ⟨0, by simp, by simp, _, _, rfl, rfl, .inl ⟨by simp, rfl, rfl⟩, .inl ⟨by simp, rfl, rfl⟩, fun j _ => by simpa using isH_nil j⟩ ?_
  intro m env' σ' hk hI
  simp at hk
  obtain ⟨k, hkm, h11, v1, v2, h4, h5, o1, o2, hd⟩ := hI
  have t1 := takeM_len (l.take k) lo hi true
  have t2 := takeM_len (l.take k) lo hi false
  have t3 : (l.take k).length ≤ l.length := by simp; omega
  by_cases hlt : k < l.length
  · have hs := fun b => takeM_succ (lo := lo) (hi := hi) (h := b) (List.getElem?_eq_getElem hlt)
    have hone := oneM l[k]
    cases hh : hasM lo hi l[k].key with
    | true =>
      repeat' (first
       | (with_reducible first | refine Stp.pf ?_ | refine block_x (by decide) ?_ | refine ret_n ?_)
       | refine tri_reg [22,26] ?_ | refine tri_regc [22,26] [] mixed (by decide +kernel) ?_
       | (refine rwf_nilt rfl (by decide +kernel) fun B hB => ?_; (try simp [*]); refine hB.out _ fun b => ?_; clear hB B)
       | (refine Rul.pf ⟨rfl, rfl⟩ fun B C hB => ?_; (try simp [*, -List.all_eq_true, Tryz.results138]); (try (simp (disch := first | assumption | omega) only [wc, ite_yes]; (try simp [*, -List.all_eq_true, Tryz.results138]))); first | (first | refine hB.out.1 _ (fun hb => ?_) fun hb => ⟨rfl, ?_⟩ | refine hB.out.1 _ (fun hb => ?_) fun hb => ?_) <;> clear hB C B <;> (try simp only [Bool.not_true, Bool.not_false] at hb) <;> (first | (exfalso; simp at hb; done) | (exfalso; simp at hb; omega) | (rw [hb]; (try simp at hb)) | (try simp at hb)) | ((first | refine hB.out.1 _ _ ?_ | refine hB.out.1 _ ?_ | refine hB.out.2.1 _ _ _ (rangeHas_spec _ _ _) ?_ | refine hB.out.2.2 _ _ _ (rangeHas_spec _ _ _) ?_ | refine hB.out.2 ⟨rfl, ?_⟩); clear hB C B) | (refine hB.out.2 _ ?_; clear hB C B; (try rfl)))
       | refine rwf_o ?_ | refine rwc_o .n rfl ?_ | refine rwc_o .z rfl ?_ | refine rwc_o .w rfl ?_ | refine rwc_o .b rfl ?_ | refine rwc_o _ rfl ?_)
      refine rwf_app rfl rfl elem25 zero73 rfl bytes73 (by decide) slc25 fun G hG => ?_
      (try simp [*, -List.all_eq_true])
      refine hG.out _ _ _ _ _ (o1) (by simp) (by simp) (by omega) fun v1' σ1 q1 q2 => ?_
      clear hG G
      obtain ⟨f1, f2⟩ := o2.frame (fun j h2 h1 => hd j h1 h2) q2
      repeat' (first
       | (with_reducible first | refine Stp.pf ?_ | refine block_x (by decide) ?_ | refine ret_n ?_)
       | refine tri_reg [22,26] ?_ | refine tri_regc [22,26] [] mixed (by decide +kernel) ?_
       | (refine rwf_nilt rfl (by decide +kernel) fun B hB => ?_; (try simp [*]); refine hB.out _ fun b => ?_; clear hB B)
       | (refine Rul.pf ⟨rfl, rfl⟩ fun B C hB => ?_; (try simp [*, -List.all_eq_true, Tryz.results138]); (try (simp (disch := first | assumption | omega) only [wc, ite_yes]; (try simp [*, -List.all_eq_true, Tryz.results138]))); first | (first | refine hB.out.1 _ (fun hb => ?_) fun hb => ⟨rfl, ?_⟩ | refine hB.out.1 _ (fun hb => ?_) fun hb => ?_) <;> clear hB C B <;> (try simp only [Bool.not_true, Bool.not_false] at hb) <;> (first | (exfalso; simp at hb; done) | (exfalso; simp at hb; omega) | (rw [hb]; (try simp at hb)) | (try simp at hb)) | ((first | refine hB.out.1 _ _ ?_ | refine hB.out.1 _ ?_ | refine hB.out.2 ⟨rfl, ?_⟩); clear hB C B) | (refine hB.out.2 _ ?_; clear hB C B; (try rfl)))
       | refine rwf_o ?_ | refine rwc_o .n rfl ?_ | refine rwc_o .z rfl ?_ | refine rwc_o .w rfl ?_ | refine rwc_o .b rfl ?_ | refine rwc_o _ rfl ?_)
      refine ⟨by simp [*], m - 1, by omega, k + 1, by omega, by simp, v1', v2, by simp, by simp [*], ?_, ?_, fun j h1 h2 => f2 j h2 h1⟩
      · rw [hs true, hh]; simpa [flatM_append, flatM, flatC] using q1
      · rw [hs false, hh]; simpa using f1
    | false =>
      repeat' (first
       | (with_reducible first | refine Stp.pf ?_ | refine block_x (by decide) ?_ | refine ret_n ?_)
       | refine tri_reg [22,26] ?_ | refine tri_regc [22,26] [] mixed (by decide +kernel) ?_
       | (refine rwf_nilt rfl (by decide +kernel) fun B hB => ?_; (try simp [*]); refine hB.out _ fun b => ?_; clear hB B)
       | (refine Rul.pf ⟨rfl, rfl⟩ fun B C hB => ?_; (try simp [*, -List.all_eq_true, Tryz.results138]); (try (simp (disch := first | assumption | omega) only [wc, ite_yes]; (try simp [*, -List.all_eq_true, Tryz.results138]))); first | (first | refine hB.out.1 _ (fun hb => ?_) fun hb => ⟨rfl, ?_⟩ | refine hB.out.1 _ (fun hb => ?_) fun hb => ?_) <;> clear hB C B <;> (try simp only [Bool.not_true, Bool.not_false] at hb) <;> (first | (exfalso; simp at hb; done) | (exfalso; simp at hb; omega) | (rw [hb]; (try simp at hb)) | (try simp at hb)) | ((first | refine hB.out.1 _ _ ?_ | refine hB.out.1 _ ?_ | refine hB.out.2.1 _ _ _ (rangeHas_spec _ _ _) ?_ | refine hB.out.2.2 _ _ _ (rangeHas_spec _ _ _) ?_ | refine hB.out.2 ⟨rfl, ?_⟩); clear hB C B) | (refine hB.out.2 _ ?_; clear hB C B; (try rfl)))
       | refine rwf_o ?_ | refine rwc_o .n rfl ?_ | refine rwc_o .z rfl ?_ | refine rwc_o .w rfl ?_ | refine rwc_o .b rfl ?_ | refine rwc_o _ rfl ?_)
      refine rwf_app rfl rfl elem25 zero73 rfl bytes73 (by decide) slc25 fun G hG => ?_
      (try simp [*, -List.all_eq_true])
      refine hG.out _ _ _ _ _ (o2) (by simp) (by simp) (by omega) fun v2' σ1 q1 q2 => ?_
      clear hG G
      obtain ⟨f1, f2⟩ := o1.frame hd q2
      repeat' (first
       | (with_reducible first | refine Stp.pf ?_ | refine block_x (by decide) ?_ | refine ret_n ?_)
       | refine tri_reg [22,26] ?_ | refine tri_regc [22,26] [] mixed (by decide +kernel) ?_
       | (refine rwf_nilt rfl (by decide +kernel) fun B hB => ?_; (try simp [*]); refine hB.out _ fun b => ?_; clear hB B)
       | (refine Rul.pf ⟨rfl, rfl⟩ fun B C hB => ?_; (try simp [*, -List.all_eq_true, Tryz.results138]); (try (simp (disch := first | assumption | omega) only [wc, ite_yes]; (try simp [*, -List.all_eq_true, Tryz.results138]))); first | (first | refine hB.out.1 _ (fun hb => ?_) fun hb => ⟨rfl, ?_⟩ | refine hB.out.1 _ (fun hb => ?_) fun hb => ?_) <;> clear hB C B <;> (try simp only [Bool.not_true, Bool.not_false] at hb) <;> (first | (exfalso; simp at hb; done) | (exfalso; simp at hb; omega) | (rw [hb]; (try simp at hb)) | (try simp at hb)) | ((first | refine hB.out.1 _ _ ?_ | refine hB.out.1 _ ?_ | refine hB.out.2 ⟨rfl, ?_⟩); clear hB C B) | (refine hB.out.2 _ ?_; clear hB C B; (try rfl)))
       | refine rwf_o ?_ | refine rwc_o .n rfl ?_ | refine rwc_o .z rfl ?_ | refine rwc_o .w rfl ?_ | refine rwc_o .b rfl ?_ | refine rwc_o _ rfl ?_)
      refine ⟨by simp [*], m - 1, by omega, k + 1, by omega, by simp, v1, v2', by simp [*], by simp, ?_, ?_, f2⟩
      · rw [hs true, hh]; simpa using f1
      · rw [hs false, hh]; simpa [flatM_append, flatM, flatC] using q1
  · skip
    repeat' (first
     | (with_reducible first | refine Stp.pf ?_ | refine block_x (by decide) ?_ | refine ret_n ?_)
     | refine tri_reg [] ?_ | refine tri_regc [] [] mixed (by decide +kernel) ?_
     | (refine rwf_nilt rfl (by decide +kernel) fun B hB => ?_; (try simp [*]); refine hB.out _ fun b => ?_; clear hB B)
     | (refine Rul.pf ⟨rfl, rfl⟩ fun B C hB => ?_; (try simp [*, -List.all_eq_true, Tryz.results138]); (try (simp (disch := first | assumption | omega) only [wc, ite_yes]; (try simp [*, -List.all_eq_true, Tryz.results138]))); first | (first | refine hB.out.1 _ (fun hb => ?_) fun hb => ⟨rfl, ?_⟩ | refine hB.out.1 _ (fun hb => ?_) fun hb => ?_) <;> clear hB C B <;> (try simp only [Bool.not_true, Bool.not_false] at hb) <;> (first | (exfalso; simp at hb; done) | (exfalso; simp at hb; omega) | (rw [hb]; (try simp at hb)) | (try simp at hb)) | ((first | refine hB.out.1 _ _ ?_ | refine hB.out.1 _ ?_ | refine hB.out.2 ⟨rfl, ?_⟩); clear hB C B) | (refine hB.out.2 _ ?_; clear hB C B; (try rfl)))
     | refine rwf_o ?_ | refine rwc_o .n rfl ?_ | refine rwc_o .z rfl ?_ | refine rwc_o .w rfl ?_ | refine rwc_o .b rfl ?_ | refine rwc_o _ rfl ?_)
    rw [List.take_of_length_le (by omega)] at o1 o2
    exact out_own2 o1 (by simp) o2 (by simp)
theorem bTake_spec (l : List Msg) (hl : l.length ≤ 900000) (lo hi : Str) : PSpec Tryz.prog 114 [.fp (cB l) 0, .agg [.sc (.string lo), .sc (.string hi)]] (.fs (flatM (takeM l lo hi true)) (takeM l lo hi true).length) := by
  refine spec_pure (by simp) (by simp) ?_
  refine spec_intro Tryz.func114 good114 rfl (by simp [Tryz.ntmps114]) ?_
  repeat' (first
   | (with_reducible first | refine Stp.pf ?_ | refine block_x (by decide) ?_ | refine ret_n ?_)
   | refine tri_reg [] ?_ | refine tri_regc [] [] mixed (by decide +kernel) ?_
   | (refine rwf_nilt rfl (by decide +kernel) fun B hB => ?_; (try simp [*]); refine hB.out _ fun b => ?_; clear hB B)
   | (refine Rul.pf ⟨rfl, rfl⟩ fun B C hB => ?_; (try simp [*, -List.all_eq_true, Tryz.results114]); (try (simp (disch := first | assumption | omega) only [wc, ite_yes]; (try simp [*, -List.all_eq_true, Tryz.results114]))); first | (first | refine hB.out.1 _ (fun hb => ?_) fun hb => ⟨rfl, ?_⟩ | refine hB.out.1 _ (fun hb => ?_) fun hb => ?_) <;> clear hB C B <;> (try simp only [Bool.not_true, Bool.not_false] at hb) <;> (first | (exfalso; simp at hb; done) | (exfalso; simp at hb; omega) | (rw [hb]; (try simp at hb)) | (try simp at hb)) | ((first | refine hB.out.1 _ _ ?_ | refine hB.out.1 _ ?_ | refine hB.out.2.1 _ _ _ (bSort_spec l hl lo hi) ?_ | refine hB.out.2.2 _ _ _ (bSort_spec l hl lo hi) ?_ | refine hB.out.2 ⟨rfl, ?_⟩); clear hB C B) | (refine hB.out.2 _ ?_; clear hB C B; (try rfl)))
   | refine rwf_o ?_ | refine rwc_o .n rfl ?_ | refine rwc_o .z rfl ?_ | refine rwc_o .w rfl ?_ | refine rwc_o .b rfl ?_ | refine rwc_o _ rfl ?_)
theorem msg_ext {a b : Msg} (h1 : a.kind = b.kind) (h2 : a.key = b.key) (h3 : a.val = b.val) : a = b := by cases a; cases b; simp_all
theorem equalM_spec (l l' : List Msg) (hl : l.length ≤ 900000) (hl' : l'.length ≤ 900000) : PSpec Tryz.prog 122 [.fs (flatM l) l.length, .fs (flatM l') l'.length] (.sc (.bool (decide (l = l')))) := by
  refine spec_pure (by simp) (by simp) ?_
  refine spec_intro Tryz.func122 good122 rfl (by simp [Tryz.ntmps122]) ?_
  by_cases hne : l.length = l'.length
  · skip
    repeat' (first
     | (with_reducible first | refine Stp.pf ?_ | refine block_x (by decide) ?_ | refine ret_n ?_)
     | refine tri_reg [] ?_ | refine tri_regc [] [] mixed (by decide +kernel) ?_
     | (refine rwf_nilt rfl (by decide +kernel) fun B hB => ?_; (try simp [*]); refine hB.out _ fun b => ?_; clear hB B)
     | (refine Rul.pf ⟨rfl, rfl⟩ fun B C hB => ?_; (try simp [*, -List.all_eq_true, Tryz.results122]); (try (simp (disch := first | assumption | omega) only [wc, ite_yes]; (try simp [*, -List.all_eq_true, Tryz.results122]))); first | (first | refine hB.out.1 _ (fun hb => ?_) fun hb => ⟨rfl, ?_⟩ | refine hB.out.1 _ (fun hb => ?_) fun hb => ?_) <;> clear hB C B <;> (try simp only [Bool.not_true, Bool.not_false] at hb) <;> (first | (exfalso; simp at hb; done) | (exfalso; simp at hb; omega) | (rw [hb]; (try simp at hb)) | (try simp at hb)) | ((first | refine hB.out.1 _ _ ?_ | refine hB.out.1 _ ?_ | refine hB.out.2 ⟨rfl, ?_⟩); clear hB C B) | (refine hB.out.2 _ ?_; clear hB C B; (try rfl)))
     | refine rwf_o ?_ | refine rwc_o .n rfl ?_ | refine rwc_o .z rfl ?_ | refine rwc_o .w rfl ?_ | refine rwc_o .b rfl ?_ | refine rwc_o _ rfl ?_)
    refine tri_loopk [0, 1, 12] (fun m env σ => σ = [] ∧ ∃ k : Nat, k + m = l.length ∧ env 13 = .sc (.int .i64 k) ∧ l.take k = l'.take k) l.length ⟨by simp, 0, by simp, by simp, by simp⟩ ?_
    intro m env' σ' hk hI
    simp at hk
    obtain ⟨rfl, k, hkm, h13, heq⟩ := hI
    by_cases hlt : k < l.length
    · have hlt' : k < l'.length := by omega
      by_cases hx : l[k] = l'[k]
      · skip
        repeat' (first
         | (with_reducible first | refine Stp.pf ?_ | refine block_x (by decide) ?_ | refine ret_n ?_)
         | refine tri_reg [] ?_ | refine tri_regc [] [] mixed (by decide +kernel) ?_
         | (refine rwf_nilt rfl (by decide +kernel) fun B hB => ?_; (try simp [*]); refine hB.out _ fun b => ?_; clear hB B)
         | (refine Rul.pf ⟨rfl, rfl⟩ fun B C hB => ?_; (try simp [*, -List.all_eq_true, cM, Tryz.results122]); (try (simp (disch := first | assumption | omega) only [wc, ite_yes]; (try simp [*, -List.all_eq_true, cM, Tryz.results122]))); first | (first | refine hB.out.1 _ (fun hb => ?_) fun hb => ⟨rfl, ?_⟩ | refine hB.out.1 _ (fun hb => ?_) fun hb => ?_) <;> clear hB C B <;> (try simp only [Bool.not_true, Bool.not_false] at hb) <;> (first | (exfalso; simp at hb; done) | (exfalso; simp at hb; omega) | (rw [hb]; (try simp at hb)) | (try simp at hb)) | ((first | refine hB.out.1 _ _ ?_ | refine hB.out.1 _ ?_ | refine hB.out.2 ⟨rfl, ?_⟩); clear hB C B) | (refine hB.out.2 _ ?_; clear hB C B; (try rfl)))
         | refine rwf_o ?_ | refine rwc_o .n rfl ?_ | refine rwc_o .z rfl ?_ | refine rwc_o .w rfl ?_ | refine rwc_o .b rfl ?_ | refine rwc_o _ rfl ?_)
        exact ⟨by simp [*], m - 1, by omega, rfl, k + 1, by omega, by simp, by rw [List.take_add_one, List.take_add_one, List.getElem?_eq_getElem hlt, List.getElem?_eq_getElem hlt', heq, hx]⟩
      · have hll : ¬ l = l' := fun e => hx (by subst e; rfl)
        repeat' (first
         | (with_reducible first | refine Stp.pf ?_ | refine block_x (by decide) ?_ | refine ret_n ?_)
         | refine tri_reg [] ?_ | refine tri_regc [] [] mixed (by decide +kernel) ?_
         | (refine rwf_nilt rfl (by decide +kernel) fun B hB => ?_; (try simp [*]); refine hB.out _ fun b => ?_; clear hB B)
         | (refine Rul.pf ⟨rfl, rfl⟩ fun B C hB => ?_; (try simp [*, -List.all_eq_true, cM, Tryz.results122]); (try (simp (disch := first | assumption | omega) only [wc, ite_yes]; (try simp [*, -List.all_eq_true, cM, Tryz.results122]))); first | (first | refine hB.out.1 _ (fun hb => ?_) fun hb => ⟨rfl, ?_⟩ | refine hB.out.1 _ (fun hb => ?_) fun hb => ?_) <;> clear hB C B <;> (try simp only [Bool.not_true, Bool.not_false] at hb) <;> (first | (exfalso; simp at hb; done) | (exfalso; simp at hb; omega) | (rw [hb]; (try simp at hb)) | (try simp at hb)) | ((first | refine hB.out.1 _ _ ?_ | refine hB.out.1 _ ?_ | refine hB.out.2 ⟨rfl, ?_⟩); clear hB C B) | (refine hB.out.2 _ ?_; clear hB C B; (try rfl)))
         | refine rwf_o ?_ | refine rwc_o .n rfl ?_ | refine rwc_o .z rfl ?_ | refine rwc_o .w rfl ?_ | refine rwc_o .b rfl ?_ | refine rwc_o _ rfl ?_)
        · simp [hll]
        · exact absurd (msg_ext hb.1 hb.2.1 hb.2.2) hx
    · rw [List.take_of_length_le (by omega), List.take_of_length_le (by omega)] at heq
      repeat' (first
       | (with_reducible first | refine Stp.pf ?_ | refine block_x (by decide) ?_ | refine ret_n ?_)
       | refine tri_reg [] ?_ | refine tri_regc [] [] mixed (by decide +kernel) ?_
       | (refine rwf_nilt rfl (by decide +kernel) fun B hB => ?_; (try simp [*]); refine hB.out _ fun b => ?_; clear hB B)
       | (refine Rul.pf ⟨rfl, rfl⟩ fun B C hB => ?_; (try simp [*, -List.all_eq_true, Tryz.results122]); (try (simp (disch := first | assumption | omega) only [wc, ite_yes]; (try simp [*, -List.all_eq_true, Tryz.results122]))); first | (first | refine hB.out.1 _ (fun hb => ?_) fun hb => ⟨rfl, ?_⟩ | refine hB.out.1 _ (fun hb => ?_) fun hb => ?_) <;> clear hB C B <;> (try simp only [Bool.not_true, Bool.not_false] at hb) <;> (first | (exfalso; simp at hb; done) | (exfalso; simp at hb; omega) | (rw [hb]; (try simp at hb)) | (try simp at hb)) | ((first | refine hB.out.1 _ _ ?_ | refine hB.out.1 _ ?_ | refine hB.out.2 ⟨rfl, ?_⟩); clear hB C B) | (refine hB.out.2 _ ?_; clear hB C B; (try rfl)))
       | refine rwf_o ?_ | refine rwc_o .n rfl ?_ | refine rwc_o .z rfl ?_ | refine rwc_o .w rfl ?_ | refine rwc_o .b rfl ?_ | refine rwc_o _ rfl ?_)
      simp [heq]
  · have hll : ¬ l = l' := fun e => hne (by rw [e])
    repeat' (first
     | (with_reducible first | refine Stp.pf ?_ | refine block_x (by decide) ?_ | refine ret_n ?_)
     | refine tri_reg [] ?_ | refine tri_regc [] [] mixed (by decide +kernel) ?_
     | (refine rwf_nilt rfl (by decide +kernel) fun B hB => ?_; (try simp [*]); refine hB.out _ fun b => ?_; clear hB B)
     | (refine Rul.pf ⟨rfl, rfl⟩ fun B C hB => ?_; (try simp [*, -List.all_eq_true, Tryz.results122]); (try (simp (disch := first | assumption | omega) only [wc, ite_yes]; (try simp [*, -List.all_eq_true, Tryz.results122]))); first | (first | refine hB.out.1 _ (fun hb => ?_) fun hb => ⟨rfl, ?_⟩ | refine hB.out.1 _ (fun hb => ?_) fun hb => ?_) <;> clear hB C B <;> (try simp only [Bool.not_true, Bool.not_false] at hb) <;> (first | (exfalso; simp at hb; done) | (exfalso; simp at hb; omega) | (rw [hb]; (try simp at hb)) | (try simp at hb)) | ((first | refine hB.out.1 _ _ ?_ | refine hB.out.1 _ ?_ | refine hB.out.2 ⟨rfl, ?_⟩); clear hB C B) | (refine hB.out.2 _ ?_; clear hB C B; (try rfl)))
     | refine rwf_o ?_ | refine rwc_o .n rfl ?_ | refine rwc_o .z rfl ?_ | refine rwc_o .w rfl ?_ | refine rwc_o .b rfl ?_ | refine rwc_o _ rfl ?_)
    simp [hll]
theorem bSame_spec (l l' : List Msg) (hl : l.length ≤ 900000) (hl' : l'.length ≤ 900000) : PSpec Tryz.prog 84 [.fp (cB l) 0, .fp (cB l') 0] (.sc (.bool (decide (l = l')))) := by
  refine spec_pure (by simp) (by simp) ?_
  refine spec_intro Tryz.func84 good84 rfl (by simp [Tryz.ntmps84]) ?_
  repeat' (first
   | (with_reducible first | refine Stp.pf ?_ | refine block_x (by decide) ?_ | refine ret_n ?_)
   | refine tri_reg [] ?_ | refine tri_regc [] [] mixed (by decide +kernel) ?_
   | (refine rwf_nilt rfl (by decide +kernel) fun B hB => ?_; (try simp [*]); refine hB.out _ fun b => ?_; clear hB B)
   | (refine Rul.pf ⟨rfl, rfl⟩ fun B C hB => ?_; (try simp [*, -List.all_eq_true, cB, Tryz.results84]); (try (simp (disch := first | assumption | omega) only [wc, ite_yes]; (try simp [*, -List.all_eq_true, cB, Tryz.results84]))); first | (first | refine hB.out.1 _ (fun hb => ?_) fun hb => ⟨rfl, ?_⟩ | refine hB.out.1 _ (fun hb => ?_) fun hb => ?_) <;> clear hB C B <;> (try simp only [Bool.not_true, Bool.not_false] at hb) <;> (first | (exfalso; simp at hb; done) | (exfalso; simp at hb; omega) | (rw [hb]; (try simp at hb)) | (try simp at hb)) | ((first | refine hB.out.1 _ _ ?_ | refine hB.out.1 _ ?_ | refine hB.out.2.1 _ _ _ (equalM_spec l l' hl hl') ?_ | refine hB.out.2.2 _ _ _ (equalM_spec l l' hl hl') ?_ | refine hB.out.2 ⟨rfl, ?_⟩); clear hB C B) | (refine hB.out.2 _ ?_; clear hB C B; (try rfl)))
   | refine rwf_o ?_ | refine rwc_o .n rfl ?_ | refine rwc_o .z rfl ?_ | refine rwc_o .w rfl ?_ | refine rwc_o .b rfl ?_ | refine rwc_o _ rfl ?_)
end Go.Proofs.YticpnfgiidljlaaGreat
