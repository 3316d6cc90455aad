/- Buffers: sort, Take, Without, Same. -/
import Derived.Test.YtemijcjgdgdhjaaGreatWw
import Derived.Test.YtemijcjgdgdhjaaGreatLc
namespace Go.Proofs.YtemijcjgdgdhjaaGreat
open Go.RowKit
set_option linter.unusedSimpArgs false
set_option maxRecDepth 10000
/-- One more of a row of messages, as a row's cells. -/
theorem oneM (m : Msg) : wr (zerosA [AV.sc (Value.int IntKind.i64 0), AV.sc (Value.string { data := #[] }), AV.sc (Value.string { data := #[] })] 3) 0 (List.take 3 (cM m)) = cM m := rfl
@[simp] theorem oneM2 (m : Msg) : wr (zerosA [AV.sc (Value.int IntKind.i64 0), AV.sc (Value.string { data := #[] }), AV.sc (Value.string { data := #[] })] 3) 0 (cM m) = cM m := rfl
set_option maxHeartbeats 1000000 in
theorem bSort_spec (l : List Msg) (hl : l.length ≤ 900000) (lo hi : Str) : PSpec Tryz.prog 137 [.fp (cB l) 0, .agg [.sc (.string lo), .sc (.string hi)]] (.tup [.fs (flatM (takeM l lo hi true)) (takeM l lo hi true).length, .fs (flatM (takeM l lo hi false)) (takeM l lo hi false).length]) := by
  refine spec_pureFW (by simp) ?_
  refine spec_intro Tryz.func137 good137 rfl (by simp [Tryz.ntmps137]) ?_
  repeat' (first
   | (with_reducible first | refine Stp.pf ?_ | refine block_x (by decide) ?_ | refine ret_n ?_)
   | refine tri_reg [22,26] ?_ | refine tri_regc [22,26] [] mixed (by decide +kernel) ?_
   | (refine rwf_nilt rfl (by decide +kernel) fun B hB => ?_; (try simp [*]); refine hB.out _ fun b => ?_; clear hB B)
   | (refine Rul.pf ⟨rfl, rfl⟩ fun B C hB => ?_; (try simp [*, -List.all_eq_true, Tryz.results137]); (try (simp (disch := first | assumption | omega) only [wc, ite_yes]; (try simp [*, -List.all_eq_true, Tryz.results137]))); first | (first | refine hB.out.1 _ (fun hb => ?_) fun hb => ⟨rfl, ?_⟩ | refine hB.out.1 _ (fun hb => ?_) fun hb => ?_) <;> clear hB C B <;> (try simp only [Bool.not_true, Bool.not_false] at hb) <;> (first | (exfalso; simp at hb; done) | (exfalso; simp at hb; omega) | (rw [hb]; (try simp at hb)) | (try simp at hb)) | ((first | refine hB.out.1 _ _ ?_ | refine hB.out.1 _ ?_ | refine hB.out.2.1 _ _ _ (bList_spec l (by omega)) ?_ | refine hB.out.2.2 _ _ _ (bList_spec l (by omega)) ?_ | refine hB.out.2 ⟨rfl, ?_⟩); clear hB C B) | (refine hB.out.2 _ ?_; clear hB C B; (try rfl)))
   | refine rwf_o ?_ | refine rwc_o .n rfl ?_ | refine rwc_o .z rfl ?_ | refine rwc_o .w rfl ?_ | refine rwc_o .b rfl ?_ | refine rwc_o _ rfl ?_)
  refine tri_loopk [3, 9, 10] (fun m env σ => ∃ k : Nat, k + m = l.length ∧ env 11 = .sc (.int .i64 k) ∧ ∃ v1 v2, env 4 = v1 ∧ env 5 = v2 ∧ Own 3 σ v1 (takeM (l.take k) lo hi true).length (flatM (takeM (l.take k) lo hi true)) ∧ Own 3 σ v2 (takeM (l.take k) lo hi false).length (flatM (takeM (l.take k) lo hi false)) ∧ ∀ j, isH j v1 → ¬ isH j v2) l.length ⟨0, by simp, by simp, _, _, rfl, rfl, .inl ⟨by simp, rfl, rfl⟩, .inl ⟨by simp, rfl, rfl⟩, fun j _ => by simpa using isH_nil j⟩ ?_
  intro m env' σ' hk hI
  simp at hk
  obtain ⟨k, hkm, h11, v1, v2, h4, h5, o1, o2, hd⟩ := hI
  have t1 := takeM_len (l.take k) lo hi true
  have t2 := takeM_len (l.take k) lo hi false
  have t3 : (l.take k).length ≤ l.length := by simp; omega
  by_cases hlt : k < l.length
  · have hs := fun b => takeM_succ (lo := lo) (hi := hi) (h := b) (List.getElem?_eq_getElem hlt)
    have hone := oneM l[k]
    cases hh : hasM lo hi l[k].key with
    | true =>
      repeat' (first
       | (with_reducible first | refine Stp.pf ?_ | refine block_x (by decide) ?_ | refine ret_n ?_)
       | refine tri_reg [22,26] ?_ | refine tri_regc [22,26] [] mixed (by decide +kernel) ?_
       | (refine rwf_nilt rfl (by decide +kernel) fun B hB => ?_; (try simp [*]); refine hB.out _ fun b => ?_; clear hB B)
       | (refine Rul.pf ⟨rfl, rfl⟩ fun B C hB => ?_; (try simp [*, -List.all_eq_true, Tryz.results137]); (try (simp (disch := first | assumption | omega) only [wc, ite_yes]; (try simp [*, -List.all_eq_true, Tryz.results137]))); first | (first | refine hB.out.1 _ (fun hb => ?_) fun hb => ⟨rfl, ?_⟩ | refine hB.out.1 _ (fun hb => ?_) fun hb => ?_) <;> clear hB C B <;> (try simp only [Bool.not_true, Bool.not_false] at hb) <;> (first | (exfalso; simp at hb; done) | (exfalso; simp at hb; omega) | (rw [hb]; (try simp at hb)) | (try simp at hb)) | ((first | refine hB.out.1 _ _ ?_ | refine hB.out.1 _ ?_ | refine hB.out.2.1 _ _ _ (rangeHas_spec _ _ _) ?_ | refine hB.out.2.2 _ _ _ (rangeHas_spec _ _ _) ?_ | refine hB.out.2 ⟨rfl, ?_⟩); clear hB C B) | (refine hB.out.2 _ ?_; clear hB C B; (try rfl)))
       | refine rwf_o ?_ | refine rwc_o .n rfl ?_ | refine rwc_o .z rfl ?_ | refine rwc_o .w rfl ?_ | refine rwc_o .b rfl ?_ | refine rwc_o _ rfl ?_)
      refine rwf_app rfl rfl elem23 zero56 rfl bytes56 (by decide) slc23 fun G hG => ?_
      (try simp [*, -List.all_eq_true])
      refine hG.out _ _ _ _ _ (o1) (by simp) (by simp) (by omega) fun v1' σ1 q1 q2 => ?_
      clear hG G
      obtain ⟨f1, f2⟩ := o2.frame (fun j h2 h1 => hd j h1 h2) q2
      repeat' (first
       | (with_reducible first | refine Stp.pf ?_ | refine block_x (by decide) ?_ | refine ret_n ?_)
       | refine tri_reg [22,26] ?_ | refine tri_regc [22,26] [] mixed (by decide +kernel) ?_
       | (refine rwf_nilt rfl (by decide +kernel) fun B hB => ?_; (try simp [*]); refine hB.out _ fun b => ?_; clear hB B)
       | (refine Rul.pf ⟨rfl, rfl⟩ fun B C hB => ?_; (try simp [*, -List.all_eq_true, Tryz.results137]); (try (simp (disch := first | assumption | omega) only [wc, ite_yes]; (try simp [*, -List.all_eq_true, Tryz.results137]))); first | (first | refine hB.out.1 _ (fun hb => ?_) fun hb => ⟨rfl, ?_⟩ | refine hB.out.1 _ (fun hb => ?_) fun hb => ?_) <;> clear hB C B <;> (try simp only [Bool.not_true, Bool.not_false] at hb) <;> (first | (exfalso; simp at hb; done) | (exfalso; simp at hb; omega) | (rw [hb]; (try simp at hb)) | (try simp at hb)) | ((first | refine hB.out.1 _ _ ?_ | refine hB.out.1 _ ?_ | refine hB.out.2 ⟨rfl, ?_⟩); clear hB C B) | (refine hB.out.2 _ ?_; clear hB C B; (try rfl)))
       | refine rwf_o ?_ | refine rwc_o .n rfl ?_ | refine rwc_o .z rfl ?_ | refine rwc_o .w rfl ?_ | refine rwc_o .b rfl ?_ | refine rwc_o _ rfl ?_)
      refine ⟨by simp [*], m - 1, by omega, k + 1, by omega, by simp, v1', v2, by simp, by simp [*], ?_, ?_, fun j h1 h2 => f2 j h2 h1⟩
      · rw [hs true, hh]; simpa [flatM_append, flatM, flatC] using q1
      · rw [hs false, hh]; simpa using f1
    | false =>
      repeat' (first
       | (with_reducible first | refine Stp.pf ?_ | refine block_x (by decide) ?_ | refine ret_n ?_)
       | refine tri_reg [22,26] ?_ | refine tri_regc [22,26] [] mixed (by decide +kernel) ?_
       | (refine rwf_nilt rfl (by decide +kernel) fun B hB => ?_; (try simp [*]); refine hB.out _ fun b => ?_; clear hB B)
       | (refine Rul.pf ⟨rfl, rfl⟩ fun B C hB => ?_; (try simp [*, -List.all_eq_true, Tryz.results137]); (try (simp (disch := first | assumption | omega) only [wc, ite_yes]; (try simp [*, -List.all_eq_true, Tryz.results137]))); first | (first | refine hB.out.1 _ (fun hb => ?_) fun hb => ⟨rfl, ?_⟩ | refine hB.out.1 _ (fun hb => ?_) fun hb => ?_) <;> clear hB C B <;> (try simp only [Bool.not_true, Bool.not_false] at hb) <;> (first | (exfalso; simp at hb; done) | (exfalso; simp at hb; omega) | (rw [hb]; (try simp at hb)) | (try simp at hb)) | ((first | refine hB.out.1 _ _ ?_ | refine hB.out.1 _ ?_ | refine hB.out.2.1 _ _ _ (rangeHas_spec _ _ _) ?_ | refine hB.out.2.2 _ _ _ (rangeHas_spec _ _ _) ?_ | refine hB.out.2 ⟨rfl, ?_⟩); clear hB C B) | (refine hB.out.2 _ ?_; clear hB C B; (try rfl)))
       | refine rwf_o ?_ | refine rwc_o .n rfl ?_ | refine rwc_o .z rfl ?_ | refine rwc_o .w rfl ?_ | refine rwc_o .b rfl ?_ | refine rwc_o _ rfl ?_)
      refine rwf_app rfl rfl elem23 zero56 rfl bytes56 (by decide) slc23 fun G hG => ?_
      (try simp [*, -List.all_eq_true])
      refine hG.out _ _ _ _ _ (o2) (by simp) (by simp) (by omega) fun v2' σ1 q1 q2 => ?_
      clear hG G
      obtain ⟨f1, f2⟩ := o1.frame hd q2
      repeat' (first
       | (with_reducible first | refine Stp.pf ?_ | refine block_x (by decide) ?_ | refine ret_n ?_)
       | refine tri_reg [22,26] ?_ | refine tri_regc [22,26] [] mixed (by decide +kernel) ?_
       | (refine rwf_nilt rfl (by decide +kernel) fun B hB => ?_; (try simp [*]); refine hB.out _ fun b => ?_; clear hB B)
       | (refine Rul.pf ⟨rfl, rfl⟩ fun B C hB => ?_; (try simp [*, -List.all_eq_true, Tryz.results137]); (try (simp (disch := first | assumption | omega) only [wc, ite_yes]; (try simp [*, -List.all_eq_true, Tryz.results137]))); first | (first | refine hB.out.1 _ (fun hb => ?_) fun hb => ⟨rfl, ?_⟩ | refine hB.out.1 _ (fun hb => ?_) fun hb => ?_) <;> clear hB C B <;> (try simp only [Bool.not_true, Bool.not_false] at hb) <;> (first | (exfalso; simp at hb; done) | (exfalso; simp at hb; omega) | (rw [hb]; (try simp at hb)) | (try simp at hb)) | ((first | refine hB.out.1 _ _ ?_ | refine hB.out.1 _ ?_ | refine hB.out.2 ⟨rfl, ?_⟩); clear hB C B) | (refine hB.out.2 _ ?_; clear hB C B; (try rfl)))
       | refine rwf_o ?_ | refine rwc_o .n rfl ?_ | refine rwc_o .z rfl ?_ | refine rwc_o .w rfl ?_ | refine rwc_o .b rfl ?_ | refine rwc_o _ rfl ?_)
      refine ⟨by simp [*], m - 1, by omega, k + 1, by omega, by simp, v1, v2', by simp [*], by simp, ?_, ?_, f2⟩
      · rw [hs true, hh]; simpa using f1
      · rw [hs false, hh]; simpa [flatM_append, flatM, flatC] using q1
  · skip
    repeat' (first
     | (with_reducible first | refine Stp.pf ?_ | refine block_x (by decide) ?_ | refine ret_n ?_)
     | refine tri_reg [] ?_ | refine tri_regc [] [] mixed (by decide +kernel) ?_
     | (refine rwf_nilt rfl (by decide +kernel) fun B hB => ?_; (try simp [*]); refine hB.out _ fun b => ?_; clear hB B)
     | (refine Rul.pf ⟨rfl, rfl⟩ fun B C hB => ?_; (try simp [*, -List.all_eq_true, Tryz.results137]); (try (simp (disch := first | assumption | omega) only [wc, ite_yes]; (try simp [*, -List.all_eq_true, Tryz.results137]))); first | (first | refine hB.out.1 _ (fun hb => ?_) fun hb => ⟨rfl, ?_⟩ | refine hB.out.1 _ (fun hb => ?_) fun hb => ?_) <;> clear hB C B <;> (try simp only [Bool.not_true, Bool.not_false] at hb) <;> (first | (exfalso; simp at hb; done) | (exfalso; simp at hb; omega) | (rw [hb]; (try simp at hb)) | (try simp at hb)) | ((first | refine hB.out.1 _ _ ?_ | refine hB.out.1 _ ?_ | refine hB.out.2 ⟨rfl, ?_⟩); clear hB C B) | (refine hB.out.2 _ ?_; clear hB C B; (try rfl)))
     | refine rwf_o ?_ | refine rwc_o .n rfl ?_ | refine rwc_o .z rfl ?_ | refine rwc_o .w rfl ?_ | refine rwc_o .b rfl ?_ | refine rwc_o _ rfl ?_)
    rw [List.take_of_length_le (by omega)] at o1 o2
    exact out_own2 o1 (by simp) o2 (by simp)
theorem bTake_spec (l : List Msg) (hl : l.length ≤ 900000) (lo hi : Str) : PSpec Tryz.prog 83 [.fp (cB l) 0, .agg [.sc (.string lo), .sc (.string hi)]] (.fs (flatM (takeM l lo hi true)) (takeM l lo hi true).length) := by
  refine spec_pure (by simp) (by simp) ?_
  refine spec_intro Tryz.func83 good83 rfl (by simp [Tryz.ntmps83]) ?_
  repeat' (first
   | (with_reducible first | refine Stp.pf ?_ | refine block_x (by decide) ?_ | refine ret_n ?_)
   | refine tri_reg [] ?_ | refine tri_regc [] [] mixed (by decide +kernel) ?_
   | (refine rwf_nilt rfl (by decide +kernel) fun B hB => ?_; (try simp [*]); refine hB.out _ fun b => ?_; clear hB B)
   | (refine Rul.pf ⟨rfl, rfl⟩ fun B C hB => ?_; (try simp [*, -List.all_eq_true, Tryz.results83]); (try (simp (disch := first | assumption | omega) only [wc, ite_yes]; (try simp [*, -List.all_eq_true, Tryz.results83]))); first | (first | refine hB.out.1 _ (fun hb => ?_) fun hb => ⟨rfl, ?_⟩ | refine hB.out.1 _ (fun hb => ?_) fun hb => ?_) <;> clear hB C B <;> (try simp only [Bool.not_true, Bool.not_false] at hb) <;> (first | (exfalso; simp at hb; done) | (exfalso; simp at hb; omega) | (rw [hb]; (try simp at hb)) | (try simp at hb)) | ((first | refine hB.out.1 _ _ ?_ | refine hB.out.1 _ ?_ | refine hB.out.2.1 _ _ _ (bSort_spec l hl lo hi) ?_ | refine hB.out.2.2 _ _ _ (bSort_spec l hl lo hi) ?_ | refine hB.out.2 ⟨rfl, ?_⟩); clear hB C B) | (refine hB.out.2 _ ?_; clear hB C B; (try rfl)))
   | refine rwf_o ?_ | refine rwc_o .n rfl ?_ | refine rwc_o .z rfl ?_ | refine rwc_o .w rfl ?_ | refine rwc_o .b rfl ?_ | refine rwc_o _ rfl ?_)
end Go.Proofs.YtemijcjgdgdhjaaGreat
