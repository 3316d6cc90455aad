/- Merging: items as puts. -/
import Derived.Test.YtemijcjgdgdhjabGreatWm7
import Derived.Test.YtemijcjgdgdhjabGreatLc
namespace Go.Proofs.YtemijcjgdgdhjabGreat
open Go.RowKit
set_option linter.unusedSimpArgs false
set_option maxRecDepth 10000
end Go.Proofs.YtemijcjgdgdhjabGreat
namespace Go.Proofs.YtemijcjgdgdhjabGreat
open Go.RowKit
set_option linter.unusedSimpArgs false
set_option maxRecDepth 10000
/-- What items come to, as runs have them. -/
def putsR (l : List Item) : AV := if l.all okI = false then .tup [.sc (.slice none 0 0), .sc (.int .i64 1)] else .tup [.fs (flatM (l.map putI)) l.length, .sc (.int .i64 (checkM (l.map putI)))]
set_option maxHeartbeats 4000000 in
theorem mPuts_spec (l : List Item) (hl : l.length ≤ 400000) : PSpec Tryz.prog 26 [.fs (flatI l) l.length] (putsR l) := by
  refine spec_pureFW (by simp) ?_
  refine spec_intro Tryz.func26 good26 rfl (by simp [Tryz.ntmps26]) ?_
  repeat' (first
   | (with_reducible first | refine Stp.pf ?_ | refine block_x (by decide) ?_ | refine ret_n ?_)
   | refine tri_reg [30] ?_ | refine tri_regc [30] [] mixed (by decide +kernel) ?_
   | (refine rwf_nilt rfl (by decide +kernel) fun B hB => ?_; (try simp [*]); refine hB.out _ fun b => ?_; clear hB B)
   | (refine Rul.pf ⟨rfl, rfl⟩ fun B C hB => ?_; (try simp [*, -List.all_eq_true, Tryz.results26]); (try (simp (disch := first | assumption | omega) only [wc, ite_yes]; (try simp [*, -List.all_eq_true, Tryz.results26]))); first | (first | refine hB.out.1 _ (fun hb => ?_) fun hb => ⟨rfl, ?_⟩ | refine hB.out.1 _ (fun hb => ?_) fun hb => ?_) <;> clear hB C B <;> (try simp only [Bool.not_true, Bool.not_false] at hb) <;> (first | (exfalso; simp at hb; done) | (exfalso; simp at hb; omega) | (rw [hb]; (try simp at hb)) | (try simp at hb)) | ((first | refine hB.out.1 _ _ ?_ | refine hB.out.1 _ ?_ | refine hB.out.2 ⟨rfl, ?_⟩); clear hB C B) | (refine hB.out.2 _ ?_; clear hB C B; (try rfl)))
   | refine rwf_o ?_ | refine rwc_o .n rfl ?_ | refine rwc_o .z rfl ?_ | refine rwc_o .w rfl ?_ | refine rwc_o .b rfl ?_ | refine rwc_o _ rfl ?_)
  refine tri_for [7, 8] l.length (fun k e σ => e 9 = .sc (.int .i64 k) ∧ (l.take k).all okI = true ∧ ∃ v, e 4 = v ∧ Own 3 σ v k (flatM ((l.map putI).take k))) ?_ (fun k env' σ' hlt hk hI => ?_) (fun env' σ' hk hI => ?_)
  · exact ⟨by simp, by simp, _, rfl, by simpa [flatM, flatC] using Own.nil _ _⟩
  · skip
    (try simp at hk)
    obtain ⟨h9, ha, v, h4, o1⟩ := hI
    have h0 := flatI_0 l k hlt
    have h1 := flatI_1 l k hlt
    have hm := flatI_seg l k hlt
    have hok := okI_is l[k]
    have htk : flatM ((l.map putI).take (k + 1)) = flatM ((l.map putI).take k) ++ cM (putI l[k]) := by
      rw [List.take_add_one, List.getElem?_map, List.getElem?_eq_getElem hlt, flatM_append]
      simp [flatM, flatC]
    cases hkk : okI l[k] with
    | true =>
      rw [hkk] at hok
      have hok1 : isKey l[k].key = true ∧ isVal l[k].val = true := by simpa using hok.symm
      obtain ⟨y1, y2⟩ := hok1
      clear hok
      repeat' (first
       | (with_reducible first | refine Stp.pf ?_ | refine block_x (by decide) ?_ | refine ret_n ?_)
       | refine tri_reg [30] ?_ | refine tri_regc [30] [] mixed (by decide +kernel) ?_
       | (refine rwf_nilt rfl (by decide +kernel) fun B hB => ?_; (try simp [*]); refine hB.out _ fun b => ?_; clear hB B)
       | (refine Rul.pf ⟨rfl, rfl⟩ fun B C hB => ?_; (try simp [*, -List.all_eq_true, Tryz.results26]); (try (simp (disch := first | assumption | omega) only [wc, ite_yes]; (try simp [*, -List.all_eq_true, Tryz.results26]))); first | (first | refine hB.out.1 _ (fun hb => ?_) fun hb => ⟨rfl, ?_⟩ | refine hB.out.1 _ (fun hb => ?_) fun hb => ?_) <;> clear hB C B <;> (try simp only [Bool.not_true, Bool.not_false] at hb) <;> (first | (exfalso; simp at hb; done) | (exfalso; simp at hb; omega) | (rw [hb]; (try simp at hb)) | (try simp at hb)) | ((first | refine hB.out.1 _ _ ?_ | refine hB.out.1 _ ?_ | refine hB.out.2.1 _ _ _ (keyIs_spec _) ?_ | refine hB.out.2.2 _ _ _ (keyIs_spec _) ?_ | refine hB.out.2.1 _ _ _ (isVal_spec _) ?_ | refine hB.out.2.2 _ _ _ (isVal_spec _) ?_ | refine hB.out.2.1 _ _ _ (ofPut_spec _ _) ?_ | refine hB.out.2.2 _ _ _ (ofPut_spec _ _) ?_ | refine hB.out.2 ⟨rfl, ?_⟩); clear hB C B) | (refine hB.out.2 _ ?_; clear hB C B; (try rfl)))
       | refine rwf_o ?_ | refine rwc_o .n rfl ?_ | refine rwc_o .z rfl ?_ | refine rwc_o .w rfl ?_ | refine rwc_o .b rfl ?_ | refine rwc_o _ rfl ?_)
      refine rwf_app rfl rfl elem34 zero38 rfl bytes38 (by decide) slc34 fun G hG => ?_
      (try simp [*, -List.all_eq_true])
      refine hG.out _ _ _ _ _ (o1) (by simp) (by simp) (by omega) fun v1 σ1 q1 q2 => ?_
      clear hG G
      repeat' (first
       | (with_reducible first | refine Stp.pf ?_ | refine block_x (by decide) ?_ | refine ret_n ?_)
       | refine tri_reg [30] ?_ | refine tri_regc [30] [] mixed (by decide +kernel) ?_
       | (refine rwf_nilt rfl (by decide +kernel) fun B hB => ?_; (try simp [*]); refine hB.out _ fun b => ?_; clear hB B)
       | (refine Rul.pf ⟨rfl, rfl⟩ fun B C hB => ?_; (try simp [*, -List.all_eq_true, Tryz.results26]); (try (simp (disch := first | assumption | omega) only [wc, ite_yes]; (try simp [*, -List.all_eq_true, Tryz.results26]))); first | (first | refine hB.out.1 _ (fun hb => ?_) fun hb => ⟨rfl, ?_⟩ | refine hB.out.1 _ (fun hb => ?_) fun hb => ?_) <;> clear hB C B <;> (try simp only [Bool.not_true, Bool.not_false] at hb) <;> (first | (exfalso; simp at hb; done) | (exfalso; simp at hb; omega) | (rw [hb]; (try simp at hb)) | (try simp at hb)) | ((first | refine hB.out.1 _ _ ?_ | refine hB.out.1 _ ?_ | refine hB.out.2 ⟨rfl, ?_⟩); clear hB C B) | (refine hB.out.2 _ ?_; clear hB C B; (try rfl)))
       | refine rwf_o ?_ | refine rwc_o .n rfl ?_ | refine rwc_o .z rfl ?_ | refine rwc_o .w rfl ?_ | refine rwc_o .b rfl ?_ | refine rwc_o _ rfl ?_)
      rw [htk]
      refine ⟨by simp [*], by simp, ?_, v1, by simp, ?_⟩
      · rw [List.take_add_one, List.getElem?_eq_getElem hlt, List.all_append, ha]; simp [hkk]
      · simpa [flatM_append, flatM, flatC, putI, cM] using q1
    | false =>
      have hno : l.all okI = false := by
        cases h : l.all okI with
        | false => rfl
        | true => rw [List.all_eq_true.1 h _ (List.getElem_mem hlt)] at hkk; cases hkk
      rw [hkk] at hok
      unfold putsR
      rw [if_pos hno]
      cases y1 : isKey l[k].key with
      | false =>
        clear hok
        repeat' (first
         | (with_reducible first | refine Stp.pf ?_ | refine block_x (by decide) ?_ | refine ret_n ?_)
         | refine tri_reg [30] ?_ | refine tri_regc [30] [] mixed (by decide +kernel) ?_
         | (refine rwf_nilt rfl (by decide +kernel) fun B hB => ?_; (try simp [*]); refine hB.out _ fun b => ?_; clear hB B)
         | (refine Rul.pf ⟨rfl, rfl⟩ fun B C hB => ?_; (try simp [*, -List.all_eq_true, Tryz.results26]); (try (simp (disch := first | assumption | omega) only [wc, ite_yes]; (try simp [*, -List.all_eq_true, Tryz.results26]))); first | (first | refine hB.out.1 _ (fun hb => ?_) fun hb => ⟨rfl, ?_⟩ | refine hB.out.1 _ (fun hb => ?_) fun hb => ?_) <;> clear hB C B <;> (try simp only [Bool.not_true, Bool.not_false] at hb) <;> (first | (exfalso; simp at hb; done) | (exfalso; simp at hb; omega) | (rw [hb]; (try simp at hb)) | (try simp at hb)) | ((first | refine hB.out.1 _ _ ?_ | refine hB.out.1 _ ?_ | refine hB.out.2.1 _ _ _ (keyIs_spec _) ?_ | refine hB.out.2.2 _ _ _ (keyIs_spec _) ?_ | refine hB.out.2.1 _ _ _ (isVal_spec _) ?_ | refine hB.out.2.2 _ _ _ (isVal_spec _) ?_ | refine hB.out.2.1 _ _ _ (ofPut_spec _ _) ?_ | refine hB.out.2.2 _ _ _ (ofPut_spec _ _) ?_ | refine hB.out.2 ⟨rfl, ?_⟩); clear hB C B) | (refine hB.out.2 _ ?_; clear hB C B; (try rfl)))
         | refine rwf_o ?_ | refine rwc_o .n rfl ?_ | refine rwc_o .z rfl ?_ | refine rwc_o .w rfl ?_ | refine rwc_o .b rfl ?_ | refine rwc_o _ rfl ?_)
        all_goals exact out_flat (by simp [AV.flat, flatL]) (.refl _)
      | true =>
        have y2 : isVal l[k].val = false := by rw [y1] at hok; simpa using hok.symm
        clear hok
        repeat' (first
         | (with_reducible first | refine Stp.pf ?_ | refine block_x (by decide) ?_ | refine ret_n ?_)
         | refine tri_reg [30] ?_ | refine tri_regc [30] [] mixed (by decide +kernel) ?_
         | (refine rwf_nilt rfl (by decide +kernel) fun B hB => ?_; (try simp [*]); refine hB.out _ fun b => ?_; clear hB B)
         | (refine Rul.pf ⟨rfl, rfl⟩ fun B C hB => ?_; (try simp [*, -List.all_eq_true, Tryz.results26]); (try (simp (disch := first | assumption | omega) only [wc, ite_yes]; (try simp [*, -List.all_eq_true, Tryz.results26]))); first | (first | refine hB.out.1 _ (fun hb => ?_) fun hb => ⟨rfl, ?_⟩ | refine hB.out.1 _ (fun hb => ?_) fun hb => ?_) <;> clear hB C B <;> (try simp only [Bool.not_true, Bool.not_false] at hb) <;> (first | (exfalso; simp at hb; done) | (exfalso; simp at hb; omega) | (rw [hb]; (try simp at hb)) | (try simp at hb)) | ((first | refine hB.out.1 _ _ ?_ | refine hB.out.1 _ ?_ | refine hB.out.2.1 _ _ _ (keyIs_spec _) ?_ | refine hB.out.2.2 _ _ _ (keyIs_spec _) ?_ | refine hB.out.2.1 _ _ _ (isVal_spec _) ?_ | refine hB.out.2.2 _ _ _ (isVal_spec _) ?_ | refine hB.out.2.1 _ _ _ (ofPut_spec _ _) ?_ | refine hB.out.2.2 _ _ _ (ofPut_spec _ _) ?_ | refine hB.out.2 ⟨rfl, ?_⟩); clear hB C B) | (refine hB.out.2 _ ?_; clear hB C B; (try rfl)))
         | refine rwf_o ?_ | refine rwc_o .n rfl ?_ | refine rwc_o .z rfl ?_ | refine rwc_o .w rfl ?_ | refine rwc_o .b rfl ?_ | refine rwc_o _ rfl ?_)
        all_goals exact out_flat (by simp [AV.flat, flatL]) (.refl _)
  · skip
    (try simp at hk)
    obtain ⟨h9, ha, v, h4, o1⟩ := hI
    rw [List.take_length] at ha
    rw [List.take_of_length_le (by simp)] at o1
    obtain ⟨u, hu, wu⟩ := frz_own o1 (by simp) 0
    rw [← h4] at hu
    clear o1
    have e7 := mCheck_spec (l.map putI) (by simp; omega)
    rw [List.length_map] at e7
    unfold putsR
    rw [if_neg (by rw [ha]; simp)]
    refine tri_frz 4 2 hu ?_
    refine tri_wk 4 (x := .fs (flatM (l.map putI)) l.length) (by simpa using wu) ?_
    clear hu wu h4
    generalize freezeL σ' (List.range σ'.length) = S at *
    repeat' (first
     | (with_reducible first | refine Stp.pf ?_ | refine block_x (by decide) ?_ | refine ret_n ?_)
     | refine tri_reg [] ?_ | refine tri_regc [] [] mixed (by decide +kernel) ?_
     | (refine rwf_nilt rfl (by decide +kernel) fun B hB => ?_; (try simp [*]); refine hB.out _ fun b => ?_; clear hB B)
     | (refine Rul.pf ⟨rfl, rfl⟩ fun B C hB => ?_; (try simp [*, -List.all_eq_true, Tryz.results26]); (try (simp (disch := first | assumption | omega) only [wc, ite_yes]; (try simp [*, -List.all_eq_true, Tryz.results26]))); first | (first | refine hB.out.1 _ (fun hb => ?_) fun hb => ⟨rfl, ?_⟩ | refine hB.out.1 _ (fun hb => ?_) fun hb => ?_) <;> clear hB C B <;> (try simp only [Bool.not_true, Bool.not_false] at hb) <;> (first | (exfalso; simp at hb; done) | (exfalso; simp at hb; omega) | (rw [hb]; (try simp at hb)) | (try simp at hb)) | ((first | refine hB.out.1 _ _ ?_ | refine hB.out.1 _ ?_ | refine hB.out.2.1 _ _ _ (e7) ?_ | refine hB.out.2.2 _ _ _ (e7) ?_ | refine hB.out.2 ⟨rfl, ?_⟩); clear hB C B) | (refine hB.out.2 _ ?_; clear hB C B; (try rfl)))
     | refine rwf_o ?_ | refine rwc_o .n rfl ?_ | refine rwc_o .z rfl ?_ | refine rwc_o .w rfl ?_ | refine rwc_o .b rfl ?_ | refine rwc_o _ rfl ?_)
    all_goals first | (refine out_flat (by simp [AV.flat, flatL]) (by simp; exact .refl _)) | (refine out_flat (u := .tup [.fs (flatM (l.map putI)) l.length, .sc (.int .i64 (checkM (l.map putI)))]) ?_ (.refl _); trace_state; simp [AV.flat, flatL])
end Go.Proofs.YtemijcjgdgdhjabGreat
