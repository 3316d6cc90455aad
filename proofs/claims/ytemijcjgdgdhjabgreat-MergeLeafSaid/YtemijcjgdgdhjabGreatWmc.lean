/- Merging: Over. -/
import Derived.Test.YtemijcjgdgdhjabGreatWmb
namespace Go.Proofs.YtemijcjgdgdhjabGreat
open Go.RowKit
set_option linter.unusedSimpArgs false
set_option maxRecDepth 10000
def overL (l : List Item) (rs : List (List Msg)) : List Item := itemsM (mergedU (l.map putI :: rs))
def overE (l : List Item) (rs : List (List Msg)) : Int := if l.all okI = false then 1 else if checkM (l.map putI) ≠ 0 then checkM (l.map putI) else errU (l.map putI :: rs)
def overR (l : List Item) (rs : List (List Msg)) : AV := if overE l rs = 0 then .tup [.fs (flatI (overL l rs)) (overL l rs).length, .sc (.int .i64 0)] else .tup [.sc (.slice none 0 0), .sc (.int .i64 (overE l rs))]
set_option maxHeartbeats 4000000 in
theorem mOver_spec (l : List Item) (rs : List (List Msg)) (hl0 : l.length ≤ 10000) (hl : rs.length ≤ 999) (hn : ∀ l ∈ rs, l.length ≤ 10000) : PSpec Tryz.prog 7 [.fs (flatI l) l.length, .fs (flatX rs) rs.length] (overR l rs) := by
  have e1 := mPuts_spec l (by omega)
  unfold putsR at e1
  unfold overR
  by_cases h1 : l.all okI = false
  · have hE : overE l rs = 1 := by unfold overE; rw [if_pos h1]
    rw [hE, if_neg (by decide)]
    rw [if_pos h1] at e1
    refine spec_pureFW (by simp) ?_
    refine spec_intro Tryz.func7 good7 rfl (by simp [Tryz.ntmps7]) ?_
    repeat' (first
     | (with_reducible first | refine Stp.pf ?_ | refine block_x (by decide) ?_ | refine ret_n ?_)
     | refine tri_reg [] ?_ | refine tri_regc [] [] mixed (by decide +kernel) ?_
     | (refine rwf_nilt rfl (by decide +kernel) fun B hB => ?_; (try simp [*]); refine hB.out _ fun b => ?_; clear hB B)
     | (refine Rul.pf ⟨rfl, rfl⟩ fun B C hB => ?_; (try simp [*, -List.all_eq_true, Tryz.results7]); (try (simp (disch := first | assumption | omega) only [wc, ite_yes]; (try simp [*, -List.all_eq_true, Tryz.results7]))); first | (first | refine hB.out.1 _ (fun hb => ?_) fun hb => ⟨rfl, ?_⟩ | refine hB.out.1 _ (fun hb => ?_) fun hb => ?_) <;> clear hB C B <;> (try simp only [Bool.not_true, Bool.not_false] at hb) <;> (first | (exfalso; simp at hb; done) | (exfalso; simp at hb; omega) | (rw [hb]; (try simp at hb)) | (try simp at hb)) | ((first | refine hB.out.1 _ _ ?_ | refine hB.out.1 _ ?_ | refine hB.out.2.1 _ _ _ (e1) ?_ | refine hB.out.2.2 _ _ _ (e1) ?_ | refine hB.out.2 ⟨rfl, ?_⟩); clear hB C B) | (refine hB.out.2 _ ?_; clear hB C B; (try rfl)))
     | refine rwf_o ?_ | refine rwc_o .n rfl ?_ | refine rwc_o .z rfl ?_ | refine rwc_o .w rfl ?_ | refine rwc_o .b rfl ?_ | refine rwc_o _ rfl ?_)
    all_goals exact out_flat (by simp [AV.flat, flatL]) (.refl _)
  · rw [if_neg h1] at e1
    by_cases h2 : checkM (l.map putI) = 0
    · have hE : overE l rs = errU (l.map putI :: rs) := by unfold overE; rw [if_neg h1, if_neg (by rw [h2]; simp)]
      rw [hE]
      rw [h2] at e1
      refine spec_pureFW (by simp) ?_
      refine spec_intro Tryz.func7 good7 rfl (by simp [Tryz.ntmps7]) ?_
      have hO : Own 1 [(⟨[.fs (flatM (l.map putI)) l.length], 0, false, false⟩ : MO)] (.ms 0 0 0 1 1) 1 [.fs (flatM (l.map putI)) l.length] := .inr ⟨0, 0, 0, _, rfl, rfl, by simp, by simp⟩
      repeat' (first
       | (with_reducible first | refine Stp.pf ?_ | refine block_x (by decide) ?_ | refine ret_n ?_)
       | refine tri_reg [20,22] ?_ | refine tri_regc [20,22] [] mixed (by decide +kernel) ?_
       | (refine rwf_nilt rfl (by decide +kernel) fun B hB => ?_; (try simp [*]); refine hB.out _ fun b => ?_; clear hB B)
       | (refine Rul.pf ⟨rfl, rfl⟩ fun B C hB => ?_; (try simp [*, -List.all_eq_true, Tryz.results7]); (try (simp (disch := first | assumption | omega) only [wc, ite_yes]; (try simp [*, -List.all_eq_true, Tryz.results7]))); first | (first | refine hB.out.1 _ (fun hb => ?_) fun hb => ⟨rfl, ?_⟩ | refine hB.out.1 _ (fun hb => ?_) fun hb => ?_) <;> clear hB C B <;> (try simp only [Bool.not_true, Bool.not_false] at hb) <;> (first | (exfalso; simp at hb; done) | (exfalso; simp at hb; omega) | (rw [hb]; (try simp at hb)) | (try simp at hb)) | ((first | refine hB.out.1 _ _ ?_ | refine hB.out.1 _ ?_ | refine hB.out.2.1 _ _ _ (e1) ?_ | refine hB.out.2.2 _ _ _ (e1) ?_ | refine hB.out.2 ⟨rfl, ?_⟩); clear hB C B) | (refine hB.out.2 _ ?_; clear hB C B; (try rfl)))
       | refine rwf_o ?_ | refine rwc_o .n rfl ?_ | refine rwc_o .z rfl ?_ | refine rwc_o .w rfl ?_ | refine rwc_o .b rfl ?_ | refine rwc_o _ rfl ?_)
      refine rwf_app rfl rfl elem23 zero34 rfl bytes34 (by decide) slc23 fun G hG => ?_
      (try simp [*, -List.all_eq_true])
      refine hG.out _ _ _ _ _ (hO) (by simp) (by simp) (by omega) fun v1 σ1 q1 q2 => ?_
      clear hG G
      have hm2 : ∀ q ∈ l.map putI :: rs, q.length ≤ 10000 := fun q h => by
        rcases List.mem_cons.1 h with rfl | h
        · simp; omega
        · exact hn q h
      have hX : [.fs (flatM (l.map putI)) l.length] ++ flatX rs = flatX (l.map putI :: rs) := by simp [flatX, flatC, cX]
      have hLn : 1 + rs.length = (l.map putI :: rs).length := by simp; omega
      rw [hX, hLn] at q1
      unfold overL
      have hR1 : (l.map putI :: rs).length ≤ 1000 := by simp; omega
      generalize l.map putI :: rs = RS at *
      have hok : OkU (runsU RS) := ⟨by have := runsU_len RS; omega, runsU_ok fun l hl => by have := hm2 l hl; omega⟩
      obtain ⟨k1, k2⟩ := heapInit_ok hok
      have hc : countU (runsU RS) ≤ 40000000 := by
        have h1 := countU_bd (l := runsU RS) (B := 10000) fun r hr => hm2 _ (runsU_mem hr).1
        have h2 := runsU_len RS
        have h3 : 10000 * (runsU RS).length ≤ 10000 * 1000 := Nat.mul_le_mul_left _ (by omega)
        omega
      have hnew := spec_own1 q1 (by simp) (mNew_spec RS (by omega) (fun l hl => by have := hm2 l hl; omega) _)
      clear q1 q2 hO hX hLn hm2
      by_cases he : errU RS = 0
      · rw [if_pos he]
        repeat' (first
         | (with_reducible first | refine Stp.pf ?_ | refine block_x (by decide) ?_ | refine ret_n ?_)
         | refine tri_reg [20,22] ?_ | refine tri_regc [20,22] [] mixed (by decide +kernel) ?_
         | (refine rwf_nilt rfl (by decide +kernel) fun B hB => ?_; (try simp [*]); refine hB.out _ fun b => ?_; clear hB B)
         | (refine Rul.pf ⟨rfl, rfl⟩ fun B C hB => ?_; (try simp [*, -List.all_eq_true, Tryz.results7]); (try (simp (disch := first | assumption | omega) only [wc, ite_yes]; (try simp [*, -List.all_eq_true, Tryz.results7]))); first | (first | refine hB.out.1 _ (fun hb => ?_) fun hb => ⟨rfl, ?_⟩ | refine hB.out.1 _ (fun hb => ?_) fun hb => ?_) <;> clear hB C B <;> (try simp only [Bool.not_true, Bool.not_false] at hb) <;> (first | (exfalso; simp at hb; done) | (exfalso; simp at hb; omega) | (rw [hb]; (try simp at hb)) | (try simp at hb)) | ((first | refine hB.out.1 _ _ ?_ | refine hB.out.1 _ ?_ | refine hB.out.2 ⟨rfl, ?_⟩); clear hB C B) | (refine hB.out.2 _ ?_; clear hB C B; (try rfl)))
         | refine rwf_o ?_ | refine rwc_o .n rfl ?_ | refine rwc_o .z rfl ?_ | refine rwc_o .w rfl ?_ | refine rwc_o .b rfl ?_ | refine rwc_o _ rfl ?_)
        refine rwf_ca rfl fun C' hC hP => ?_
        clear hP
        (try simp [*, -List.all_eq_true]); (try (simp (disch := first | assumption | omega) only [wrap_id, wrapu_id, wrapb_id, tmod_nn, tdiv_nn, ite_yes, flatM_seg, flatM_0, flatM_1, flatM_2, flatI_seg, flatI_0, flatI_1, flatS_get]; (try simp [*, -List.all_eq_true])))
        refine hC.out _ _ _ (hnew) fun r s hq => ?_
        clear hC C'
        obtain hq := hq
        obtain ⟨hq, -⟩ := hq
        obtain ⟨p, q, -, -, hql, rfl, hH0⟩ := hq he
        have hH : HeadsQ p q [] (heapInit lessU (runsU RS)) s := ⟨hH0.1, fun i o _ _ ho => by simp at ho, by simp, hH0.2.2.2⟩
        have hpl : p < s.length := by obtain ⟨_, _, _, v, fu, h1, _⟩ := hH; exact lt_of_get h1
        have hE := over_each p q s.length (heapInit lessU (runsU RS)) k1 (by omega)
        have hJ : OverJ p q s.length (iterU 0 (heapInit lessU (runsU RS))) (itemsM ((tellU (countU (heapInit lessU (runsU RS))) (heapInit lessU (runsU RS))).take 0)) [p, q, s.length] (s ++ [⟨[.sc (.slice none 0 0)], 0, false, false⟩]) := by
          refine ⟨by simp; omega, hH.append _, by omega, by omega, by simp, fun i hi => ?_, _, false, List.getElem?_concat_length, by simpa [itemsM, flatI, flatC] using Own.nil _ _, isH_nil _, isH_nil _, isH_nil _, fun j h => absurd h (isH_nil j)⟩
          simp at hi ⊢
          rcases hi with rfl | rfl | rfl <;> omega
        clear hnew hq hH0
        repeat' (first
         | (with_reducible first | refine Stp.pf ?_ | refine block_x (by decide) ?_ | refine ret_n ?_)
         | refine tri_reg [9] ?_ | refine tri_regc [9] [] mixed (by decide +kernel) ?_
         | (refine rwf_nilt rfl (by decide +kernel) fun B hB => ?_; (try simp [*]); refine hB.out _ fun b => ?_; clear hB B)
         | (refine Rul.pf ⟨rfl, rfl⟩ fun B C hB => ?_; (try simp [*, -List.all_eq_true, Tryz.results7]); (try (simp (disch := first | assumption | omega) only [wc, ite_yes]; (try simp [*, -List.all_eq_true, Tryz.results7]))); first | (first | refine hB.out.1 _ (fun hb => ?_) fun hb => ⟨rfl, ?_⟩ | refine hB.out.1 _ (fun hb => ?_) fun hb => ?_) <;> clear hB C B <;> (try simp only [Bool.not_true, Bool.not_false] at hb) <;> (first | (exfalso; simp at hb; done) | (exfalso; simp at hb; omega) | (rw [hb]; (try simp at hb)) | (try simp at hb)) | ((first | refine hB.out.1 _ _ ?_ | refine hB.out.1 _ ?_ | refine hB.out.2 ⟨rfl, ?_⟩); clear hB C B) | (refine hB.out.2 _ ?_; clear hB C B; (try rfl)))
         | refine rwf_o ?_ | refine rwc_o .n rfl ?_ | refine rwc_o .z rfl ?_ | refine rwc_o .w rfl ?_ | refine rwc_o .b rfl ?_ | refine rwc_o _ rfl ?_)
        refine rwf_ca rfl fun C' hC hP => ?_
        clear hP
        (try simp [*, -List.all_eq_true]); (try (simp (disch := first | assumption | omega) only [wrap_id, wrapu_id, wrapb_id, tmod_nn, tdiv_nn, ite_yes, flatM_seg, flatM_0, flatM_1, flatM_2, flatI_seg, flatI_0, flatI_1, flatS_get]; (try simp [*, -List.all_eq_true])))
        refine hC.out _ _ _ (mEach_spec hE _ _ hJ) fun r s2 hq => ?_
        clear hC C'
        obtain ⟨rfl, D2, hz⟩ := hq
        obtain ⟨-, -, -, -, -, -, v, fu, g1, g2, -⟩ := hz
        rw [List.take_length] at g2
        repeat' (first
         | (with_reducible first | refine Stp.pf ?_ | refine block_x (by decide) ?_ | refine ret_n ?_)
         | refine tri_reg [9] ?_ | refine tri_regc [9] [] mixed (by decide +kernel) ?_
         | (refine rwf_nilt rfl (by decide +kernel) fun B hB => ?_; (try simp [*]); refine hB.out _ fun b => ?_; clear hB B)
         | (refine Rul.pf ⟨rfl, rfl⟩ fun B C hB => ?_; (try simp [*, -List.all_eq_true, Tryz.results7]); (try (simp (disch := first | assumption | omega) only [wc, ite_yes]; (try simp [*, -List.all_eq_true, Tryz.results7]))); first | (first | refine hB.out.1 _ (fun hb => ?_) fun hb => ⟨rfl, ?_⟩ | refine hB.out.1 _ (fun hb => ?_) fun hb => ?_) <;> clear hB C B <;> (try simp only [Bool.not_true, Bool.not_false] at hb) <;> (first | (exfalso; simp at hb; done) | (exfalso; simp at hb; omega) | (rw [hb]; (try simp at hb)) | (try simp at hb)) | ((first | refine hB.out.1 _ _ ?_ | refine hB.out.1 _ ?_ | refine hB.out.2 ⟨rfl, ?_⟩); clear hB C B) | (refine hB.out.2 _ ?_; clear hB C B; (try rfl)))
         | refine rwf_o ?_ | refine rwc_o .n rfl ?_ | refine rwc_o .z rfl ?_ | refine rwc_o .w rfl ?_ | refine rwc_o .b rfl ?_ | refine rwc_o _ rfl ?_)
        exact out_own1 g2 (by simp)
      · rw [if_neg he]
        repeat' (first
         | (with_reducible first | refine Stp.pf ?_ | refine block_x (by decide) ?_ | refine ret_n ?_)
         | refine tri_reg [20,22] ?_ | refine tri_regc [20,22] [] mixed (by decide +kernel) ?_
         | (refine rwf_nilt rfl (by decide +kernel) fun B hB => ?_; (try simp [*]); refine hB.out _ fun b => ?_; clear hB B)
         | (refine Rul.pf ⟨rfl, rfl⟩ fun B C hB => ?_; (try simp [*, -List.all_eq_true, Tryz.results7]); (try (simp (disch := first | assumption | omega) only [wc, ite_yes]; (try simp [*, -List.all_eq_true, Tryz.results7]))); first | (first | refine hB.out.1 _ (fun hb => ?_) fun hb => ⟨rfl, ?_⟩ | refine hB.out.1 _ (fun hb => ?_) fun hb => ?_) <;> clear hB C B <;> (try simp only [Bool.not_true, Bool.not_false] at hb) <;> (first | (exfalso; simp at hb; done) | (exfalso; simp at hb; omega) | (rw [hb]; (try simp at hb)) | (try simp at hb)) | ((first | refine hB.out.1 _ _ ?_ | refine hB.out.1 _ ?_ | refine hB.out.2 ⟨rfl, ?_⟩); clear hB C B) | (refine hB.out.2 _ ?_; clear hB C B; (try rfl)))
         | refine rwf_o ?_ | refine rwc_o .n rfl ?_ | refine rwc_o .z rfl ?_ | refine rwc_o .w rfl ?_ | refine rwc_o .b rfl ?_ | refine rwc_o _ rfl ?_)
        refine rwf_ca rfl fun C' hC hP => ?_
        clear hP
        (try simp [*, -List.all_eq_true]); (try (simp (disch := first | assumption | omega) only [wrap_id, wrapu_id, wrapb_id, tmod_nn, tdiv_nn, ite_yes, flatM_seg, flatM_0, flatM_1, flatM_2, flatI_seg, flatI_0, flatI_1, flatS_get]; (try simp [*, -List.all_eq_true])))
        refine hC.out _ _ _ (hnew) fun r s hq => ?_
        clear hC C'
        obtain hq := hq
        obtain ⟨-, hq⟩ := hq
        obtain ⟨rfl, -⟩ := hq he
        clear hnew
        repeat' (first
         | (with_reducible first | refine Stp.pf ?_ | refine block_x (by decide) ?_ | refine ret_n ?_)
         | refine tri_reg [] ?_ | refine tri_regc [] [] mixed (by decide +kernel) ?_
         | (refine rwf_nilt rfl (by decide +kernel) fun B hB => ?_; (try simp [*]); refine hB.out _ fun b => ?_; clear hB B)
         | (refine Rul.pf ⟨rfl, rfl⟩ fun B C hB => ?_; (try simp [*, -List.all_eq_true, Tryz.results7]); (try (simp (disch := first | assumption | omega) only [wc, ite_yes]; (try simp [*, -List.all_eq_true, Tryz.results7]))); first | (first | refine hB.out.1 _ (fun hb => ?_) fun hb => ⟨rfl, ?_⟩ | refine hB.out.1 _ (fun hb => ?_) fun hb => ?_) <;> clear hB C B <;> (try simp only [Bool.not_true, Bool.not_false] at hb) <;> (first | (exfalso; simp at hb; done) | (exfalso; simp at hb; omega) | (rw [hb]; (try simp at hb)) | (try simp at hb)) | ((first | refine hB.out.1 _ _ ?_ | refine hB.out.1 _ ?_ | refine hB.out.2 ⟨rfl, ?_⟩); clear hB C B) | (refine hB.out.2 _ ?_; clear hB C B; (try rfl)))
         | refine rwf_o ?_ | refine rwc_o .n rfl ?_ | refine rwc_o .z rfl ?_ | refine rwc_o .w rfl ?_ | refine rwc_o .b rfl ?_ | refine rwc_o _ rfl ?_)
        all_goals exact out_flat (by simp [AV.flat, flatL]) (.refl _)
    · have hE : overE l rs = checkM (l.map putI) := by unfold overE; rw [if_neg h1, if_pos h2]
      rw [hE]
      generalize checkM (l.map putI) = c at *
      rw [if_neg h2]
      refine spec_pureFW (by simp) ?_
      refine spec_intro Tryz.func7 good7 rfl (by simp [Tryz.ntmps7]) ?_
      repeat' (first
       | (with_reducible first | refine Stp.pf ?_ | refine block_x (by decide) ?_ | refine ret_n ?_)
       | refine tri_reg [] ?_ | refine tri_regc [] [] mixed (by decide +kernel) ?_
       | (refine rwf_nilt rfl (by decide +kernel) fun B hB => ?_; (try simp [*]); refine hB.out _ fun b => ?_; clear hB B)
       | (refine Rul.pf ⟨rfl, rfl⟩ fun B C hB => ?_; (try simp [*, -List.all_eq_true, Tryz.results7]); (try (simp (disch := first | assumption | omega) only [wc, ite_yes]; (try simp [*, -List.all_eq_true, Tryz.results7]))); first | (first | refine hB.out.1 _ (fun hb => ?_) fun hb => ⟨rfl, ?_⟩ | refine hB.out.1 _ (fun hb => ?_) fun hb => ?_) <;> clear hB C B <;> (try simp only [Bool.not_true, Bool.not_false] at hb) <;> (first | (exfalso; simp at hb; done) | (exfalso; simp at hb; omega) | (rw [hb]; (try simp at hb)) | (try simp at hb)) | ((first | refine hB.out.1 _ _ ?_ | refine hB.out.1 _ ?_ | refine hB.out.2.1 _ _ _ (e1) ?_ | refine hB.out.2.2 _ _ _ (e1) ?_ | refine hB.out.2 ⟨rfl, ?_⟩); clear hB C B) | (refine hB.out.2 _ ?_; clear hB C B; (try rfl)))
       | refine rwf_o ?_ | refine rwc_o .n rfl ?_ | refine rwc_o .z rfl ?_ | refine rwc_o .w rfl ?_ | refine rwc_o .b rfl ?_ | refine rwc_o _ rfl ?_)
      all_goals exact out_flat (by simp [AV.flat, flatL]) (.refl _)
end Go.Proofs.YtemijcjgdgdhjabGreat
