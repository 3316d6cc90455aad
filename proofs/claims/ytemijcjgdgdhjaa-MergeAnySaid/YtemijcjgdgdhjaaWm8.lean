/- Merging: no merger at all. -/
import Derived.Test.YtemijcjgdgdhjaaWm7
namespace Go.Proofs.Ytemijcjgdgdhjaa
open Go.RowKit
set_option linter.unusedSimpArgs false
set_option maxRecDepth 10000

theorem mNext_none : PSpec Try.prog 39 [.sc (.pointer none)] (.tup [.agg (cM zeroM), .sc (.bool false)]) := by
  refine spec_pure (by simp) (by simp) ?_
  refine spec_intro Try.func39 good39 rfl (by simp [Try.ntmps39]) ?_
  repeat' (first
   | (with_reducible first | refine Stp.pf ?_ | refine block_x (by decide) ?_ | refine ret_n ?_)
   | refine tri_reg [2] ?_ | refine tri_regc [2] [] mixed (by decide +kernel) ?_
   | (refine rwf_nilt rfl (by decide +kernel) fun B hB => ?_; (try simp [*]); refine hB.out _ fun b => ?_; clear hB B)
   | (refine Rul.pf ⟨rfl, rfl⟩ fun B C hB => ?_; (try simp [*, -List.all_eq_true, cM, zeroM, Try.results39]); (try (simp (disch := first | assumption | omega) only [wc, ite_yes]; (try simp [*, -List.all_eq_true, cM, zeroM, Try.results39]))); first | (first | refine hB.out.1 _ (fun hb => ?_) fun hb => ⟨rfl, ?_⟩ | refine hB.out.1 _ (fun hb => ?_) fun hb => ?_) <;> clear hB C B <;> (try simp only [Bool.not_true, Bool.not_false] at hb) <;> (first | (exfalso; simp at hb; done) | (exfalso; simp at hb; omega) | (rw [hb]; (try simp at hb)) | (try simp at hb)) | ((first | refine hB.out.1 _ _ ?_ | refine hB.out.1 _ ?_ | refine hB.out.2 ⟨rfl, ?_⟩); clear hB C B) | (refine hB.out.2 _ ?_; clear hB C B; (try rfl)))
   | refine rwf_o ?_ | refine rwc_o .n rfl ?_ | refine rwc_o .z rfl ?_ | refine rwc_o .w rfl ?_ | refine rwc_o .b rfl ?_ | refine rwc_o _ rfl ?_)
  all_goals done
theorem mLeft_none : PSpec Try.prog 38 [.sc (.pointer none)] (.sc (.int .i64 0)) := by
  refine spec_pure (by simp) (by simp) ?_
  refine spec_intro Try.func38 good38 rfl (by simp [Try.ntmps38]) ?_
  repeat' (first
   | (with_reducible first | refine Stp.pf ?_ | refine block_x (by decide) ?_ | refine ret_n ?_)
   | refine tri_reg [] ?_ | refine tri_regc [] [] mixed (by decide +kernel) ?_
   | (refine rwf_nilt rfl (by decide +kernel) fun B hB => ?_; (try simp [*]); refine hB.out _ fun b => ?_; clear hB B)
   | (refine Rul.pf ⟨rfl, rfl⟩ fun B C hB => ?_; (try simp [*, -List.all_eq_true, Try.results38]); (try (simp (disch := first | assumption | omega) only [wc, ite_yes]; (try simp [*, -List.all_eq_true, Try.results38]))); first | (first | refine hB.out.1 _ (fun hb => ?_) fun hb => ⟨rfl, ?_⟩ | refine hB.out.1 _ (fun hb => ?_) fun hb => ?_) <;> clear hB C B <;> (try simp only [Bool.not_true, Bool.not_false] at hb) <;> (first | (exfalso; simp at hb; done) | (exfalso; simp at hb; omega) | (rw [hb]; (try simp at hb)) | (try simp at hb)) | ((first | refine hB.out.1 _ _ ?_ | refine hB.out.1 _ ?_ | refine hB.out.2 ⟨rfl, ?_⟩); clear hB C B) | (refine hB.out.2 _ ?_; clear hB C B; (try rfl)))
   | refine rwf_o ?_ | refine rwc_o .n rfl ?_ | refine rwc_o .z rfl ?_ | refine rwc_o .w rfl ?_ | refine rwc_o .b rfl ?_ | refine rwc_o _ rfl ?_)
  all_goals done
def sumK (key : Str) (rs : List (List Msg)) : Nat := (rs.map (cntK key)).sum
theorem sumK_succ {key : Str} {rs : List (List Msg)} {k : Nat} (h : k < rs.length) : sumK key (rs.take (k + 1)) = sumK key (rs.take k) + cntK key rs[k] := by
  unfold sumK
  rw [List.take_add_one, List.getElem?_eq_getElem h, List.map_append, List.sum_append]
  simp
theorem cntK_le (key : Str) (l : List Msg) : cntK key l ≤ l.length := List.length_filter_le _ _
theorem cntK_succ {key : Str} {l : List Msg} {k : Nat} (h : k < l.length) : cntK key (l.take (k + 1)) = cntK key (l.take k) + if l[k].key = key then 1 else 0 := by
  unfold cntK
  rw [List.take_add_one, List.getElem?_eq_getElem h, List.filter_append, List.length_append]
  by_cases e : l[k].key = key <;> simp [e]
theorem sumK_le {key : Str} {rs : List (List Msg)} (hn : ∀ l ∈ rs, l.length ≤ 30) : ∀ k, sumK key (rs.take k) ≤ 30 * k
  | 0 => by simp [sumK]
  | k + 1 => by
    have ih := sumK_le (key := key) hn k
    rcases Nat.lt_or_ge k rs.length with h | h
    · have := hn _ (List.getElem_mem h)
      have := cntK_le key rs[k]
      rw [sumK_succ h]; omega
    · rw [List.take_of_length_le (by omega)] at ih ⊢; omega
theorem foldR_len (rs : List (List Msg)) (h : rs.length ≤ 10) (hn : ∀ l ∈ rs, l.length ≤ 30) (hv : ∀ q ∈ rs, ∀ x ∈ q, isMsg x = true) : (foldR rs).length ≤ 900000 := by
  have key : ∀ (rs : List (List Msg)) (l : List Msg), Rise l → (∀ x ∈ l, isMsg x = true) → (∀ q ∈ rs, ∀ x ∈ q, isMsg x = true) → (rs.foldl withM l).length ≤ l.length + lenU rs := by
    intro rs
    induction rs with
    | nil => intro l _ _ _; simp [lenU]
    | cons q rs ih =>
      intro l hr hl hq
      obtain ⟨w1, w2, w3⟩ := withM_ok q l hr hl (hq q (by simp))
      have := ih (withM l q) w1 w2 fun r hx => hq r (by simp [hx])
      have e : lenU (q :: rs) = q.length + lenU rs := by simp [lenU]
      rw [List.foldl_cons]
      omega
  have h1 := key rs [] rise_nil (by simp) hv
  have h2 := lenU_le rs hn rs.length
  rw [List.take_length] at h2
  unfold foldR
  simp at h1
  omega
set_option maxHeartbeats 4000000 in
theorem mergeExact_body (haw : PSpec Try.prog 32 [] (.sc (.bool true))) (rs : List (List Msg)) (hl : rs.length ≤ 9223372036854775807) (hn : ∀ l ∈ rs, l.length ≤ 9223372036854775807) :
    PSpec Try.prog 5 [.fs (flatX rs) rs.length] (.sc (.bool true)) := by
  have e1 := great13_spec rs hl hn
  refine spec_pure (by simp) (by simp) ?_
  refine spec_intro Try.func5 good5 rfl (by simp [Try.ntmps5]) ?_
  cases hgr : greatM rs with
  | true =>
    rw [hgr] at e1
    repeat' (first
     | (with_reducible first | refine Stp.pf ?_ | refine block_x (by decide) ?_ | refine ret_n ?_)
     | refine tri_reg [] ?_ | refine tri_regc [] [] mixed (by decide +kernel) ?_
     | (refine rwf_nilt rfl (by decide +kernel) fun B hB => ?_; (try simp [*]); refine hB.out _ fun b => ?_; clear hB B)
     | (refine Rul.pf ⟨rfl, rfl⟩ fun B C hB => ?_; (try simp [*, -List.all_eq_true, Try.results5]); (try (simp (disch := first | assumption | omega) only [wc, ite_yes]; (try simp [*, -List.all_eq_true, Try.results5]))); first | (first | refine hB.out.1 _ (fun hb => ?_) fun hb => ⟨rfl, ?_⟩ | refine hB.out.1 _ (fun hb => ?_) fun hb => ?_) <;> clear hB C B <;> (try simp only [Bool.not_true, Bool.not_false] at hb) <;> (first | (exfalso; simp at hb; done) | (exfalso; simp at hb; omega) | (rw [hb]; (try simp at hb)) | (try simp at hb)) | ((first | refine hB.out.1 _ _ ?_ | refine hB.out.1 _ ?_ | refine hB.out.2.1 _ _ _ (haw) ?_ | refine hB.out.2.2 _ _ _ (haw) ?_ | refine hB.out.2.1 _ _ _ (e1) ?_ | refine hB.out.2.2 _ _ _ (e1) ?_ | refine hB.out.2 ⟨rfl, ?_⟩); clear hB C B) | (refine hB.out.2 _ ?_; clear hB C B; (try rfl)))
     | refine rwf_o ?_ | refine rwc_o .n rfl ?_ | refine rwc_o .z rfl ?_ | refine rwc_o .w rfl ?_ | refine rwc_o .b rfl ?_ | refine rwc_o _ rfl ?_)
    all_goals done
  | false =>
    rw [hgr] at e1
    obtain ⟨n1, n2⟩ := greatM_no hgr
    have n3 : ∀ l ∈ rs, l.length ≤ 30 := fun l h => (n2 l h).1
    clear hl hn n2
    have hnew := fun σ => mNew_spec rs (by omega) (fun l hl => by have := n3 l hl; omega) σ
    have e2 := mMsgs_spec rs (by omega) (fun l hl => by have := n3 l hl; omega)
    have e3 := rCheck13_spec rs (by omega) (fun l hl => by have := n3 l hl; omega)
    have hLU := lenU_le rs n3 rs.length
    rw [List.take_length] at hLU
    unfold msgsR at e2
    by_cases he : errU rs = 0
    · rw [if_pos he] at e2
      rw [he] at e3
      have hg := err_good he
      have hmf := merged_fold hg
      have e4 := rMsgs13_spec rs (by omega) n3 (fun l hl x hx => (hg l hl).2 x hx)
      rw [← hmf] at e4
      have hok : OkU (runsU rs) := ⟨by have := runsU_len rs; omega, runsU_ok fun l hl => by have := n3 l hl; omega⟩
      obtain ⟨k1, k2⟩ := heapInit_ok hok
      obtain ⟨p1, p2⟩ := heapInit_spec lessU_ahead (runsU rs)
      have hll := p1.length_eq
      have p2 : HeapOn lessU (heapInit lessU (runsU rs)) 0 (heapInit lessU (runsU rs)).length := by first | exact p2 | (rw [hll]; exact p2)
      have t1 := tell_cnt (countU (heapInit lessU (runsU rs))) _ rs p1 p2 hg (Nat.le_refl _)
      obtain ⟨t2, t3, t4⟩ := tellU_spec (countU (heapInit lessU (runsU rs))) _ k1 (Nat.le_refl _)
      have t5 := fun k => cntU_perm (k := k) p1
      have t6 : countU (heapInit lessU (runsU rs)) = lenU rs := by rw [k2, countU_runs]; rfl
      have t7 := fun k => cntU_runs k rs
      have t8 : ∀ (k : Nat) (h : k < (mergedU rs).length), countU (iterU (k + 1) (heapInit lessU (runsU rs))) + sumK (mergedU rs)[k].key rs = countU (iterU k (heapInit lessU (runsU rs))) := fun k h => by
        have := t1 k h
        rw [t5, t7] at this
        exact this
      have e5 := rSame_spec (mergedU rs) (mergedU rs) (by rw [hmf]; exact foldR_len rs n1 n3 fun q h => (hg q h).2) (by rw [hmf]; exact foldR_len rs n1 n3 fun q h => (hg q h).2)
      rw [decide_eq_true rfl] at e5
      change iterU (mergedU rs).length _ = [] at t2
      change ∀ (k : Nat) (h : k < (mergedU rs).length), _ ∧ (mergedU rs)[k] = _ at t3
      have hML : (mergedU rs).length ≤ 900000 := by rw [hmf]; exact foldR_len rs n1 n3 fun q h => (hg q h).2
      clear t1 t4 t5 t7 hll p1 p2 k2 hok hmf
      generalize heapInit lessU (runsU rs) = U at *
      generalize mergedU rs = M at *
      clear hg hgr
      replace t3 := Lib.hid t3
      replace t8 := Lib.hid t8
      replace n3 := Lib.hid n3
      repeat' (first
       | (with_reducible first | refine Stp.pf ?_ | refine block_x (by decide) ?_ | refine ret_n ?_)
       | refine tri_reg [] ?_ | refine tri_regc [] [] mixed (by decide +kernel) ?_
       | (refine rwf_nilt rfl (by decide +kernel) fun B hB => ?_; (try simp [*]); refine hB.out _ fun b => ?_; clear hB B)
       | (refine Rul.pf ⟨rfl, rfl⟩ fun B C hB => ?_; (try simp [*, -List.all_eq_true, Try.results5]); (try (simp (disch := first | assumption | omega) only [wc, ite_yes]; (try simp [*, -List.all_eq_true, Try.results5]))); first | (first | refine hB.out.1 _ (fun hb => ?_) fun hb => ⟨rfl, ?_⟩ | refine hB.out.1 _ (fun hb => ?_) fun hb => ?_) <;> clear hB C B <;> (try simp only [Bool.not_true, Bool.not_false] at hb) <;> (first | (exfalso; simp at hb; done) | (exfalso; simp at hb; omega) | (rw [hb]; (try simp at hb)) | (try simp at hb)) | ((first | refine hB.out.1 _ _ ?_ | refine hB.out.1 _ ?_ | refine hB.out.2.1 _ _ _ (haw) ?_ | refine hB.out.2.2 _ _ _ (haw) ?_ | refine hB.out.2.1 _ _ _ (e1) ?_ | refine hB.out.2.2 _ _ _ (e1) ?_ | refine hB.out.2 ⟨rfl, ?_⟩); clear hB C B) | (refine hB.out.2 _ ?_; clear hB C B; (try rfl)))
       | refine rwf_o ?_ | refine rwc_o .n rfl ?_ | refine rwc_o .z rfl ?_ | refine rwc_o .w rfl ?_ | refine rwc_o .b rfl ?_ | refine rwc_o _ rfl ?_)
      refine rwf_ca rfl fun C' hC hP => ?_
      clear hP
      (try simp [*, -List.all_eq_true]); (try (simp (disch := first | assumption | omega) only [wrap_id, wrapu_id, wrapb_id, tmod_nn, tdiv_nn, ite_yes, flatM_seg, flatM_0, flatM_1, flatM_2, flatI_seg, flatI_0, flatI_1, flatS_get]; (try simp [*, -List.all_eq_true])))
      refine hC.out _ _ _ (hnew _) fun r s hq => ?_
      clear hC C'
      obtain hq := hq
      obtain ⟨hq, -⟩ := hq
      obtain ⟨p, q, hpq1, hpq2, hql, rfl, hH⟩ := hq he
      clear hnew hql hpq1 hpq2 hq
      replace hH := Lib.hid hH
      repeat' (first
       | (with_reducible first | refine Stp.pf ?_ | refine block_x (by decide) ?_ | refine ret_n ?_)
       | refine tri_reg [] ?_ | refine tri_regc [] [] mixed (by decide +kernel) ?_
       | (refine rwf_nilt rfl (by decide +kernel) fun B hB => ?_; (try simp [*]); refine hB.out _ fun b => ?_; clear hB B)
       | (refine Rul.pf ⟨rfl, rfl⟩ fun B C hB => ?_; (try simp [*, -List.all_eq_true, Try.results5]); (try (simp (disch := first | assumption | omega) only [wc, ite_yes]; (try simp [*, -List.all_eq_true, Try.results5]))); first | (first | refine hB.out.1 _ (fun hb => ?_) fun hb => ⟨rfl, ?_⟩ | refine hB.out.1 _ (fun hb => ?_) fun hb => ?_) <;> clear hB C B <;> (try simp only [Bool.not_true, Bool.not_false] at hb) <;> (first | (exfalso; simp at hb; done) | (exfalso; simp at hb; omega) | (rw [hb]; (try simp at hb)) | (try simp at hb)) | ((first | refine hB.out.1 _ _ ?_ | refine hB.out.1 _ ?_ | refine hB.out.2.1 _ _ _ (e2) ?_ | refine hB.out.2.2 _ _ _ (e2) ?_ | refine hB.out.2.1 _ _ _ (e3) ?_ | refine hB.out.2.2 _ _ _ (e3) ?_ | refine hB.out.2.1 _ _ _ (e4) ?_ | refine hB.out.2.2 _ _ _ (e4) ?_ | refine hB.out.2.1 _ _ _ (e5) ?_ | refine hB.out.2.2 _ _ _ (e5) ?_ | refine hB.out.2 ⟨rfl, ?_⟩); clear hB C B) | (refine hB.out.2 _ ?_; clear hB C B; (try rfl)))
       | refine rwf_o ?_ | refine rwc_o .n rfl ?_ | refine rwc_o .z rfl ?_ | refine rwc_o .w rfl ?_ | refine rwc_o .b rfl ?_ | refine rwc_o _ rfl ?_)
      refine tri_for [0, 2, 3, 8] rs.length (fun k e σ => σ = s ∧ e 10 = .sc (.int .i64 k) ∧ e 9 = .sc (.int .i64 (lenU (rs.take k) : Nat))) ?_ (fun k env' σ' hlt hk hI => ?_) (fun env' σ' hk hI => ?_)
      · exact ⟨by simp, by simp, by simp [lenU]⟩
      · skip
        (try simp at hk)
        obtain ⟨rfl, h10, h9⟩ := hI
        have hx1 := flatX_at rs k (by simpa using hlt)
        have hx0 : k < (flatX rs).length := by simpa using hlt
        have hs2 := lenU_succ hlt
        have h30 := n3.out _ (List.getElem_mem hlt)
        have h31 := lenU_le rs n3.out k
        rw [hs2]
        clear hs2
        repeat' (first
         | (with_reducible first | refine Stp.pf ?_ | refine block_x (by decide) ?_ | refine ret_n ?_)
         | refine tri_reg [] ?_ | refine tri_regc [] [] mixed (by decide +kernel) ?_
         | (refine rwf_nilt rfl (by decide +kernel) fun B hB => ?_; (try simp [*]); refine hB.out _ fun b => ?_; clear hB B)
         | (refine Rul.pf ⟨rfl, rfl⟩ fun B C hB => ?_; (try simp [*, -List.all_eq_true, Try.results5]); (try (simp (disch := first | assumption | omega) only [wc, ite_yes]; (try simp [*, -List.all_eq_true, Try.results5]))); first | (first | refine hB.out.1 _ (fun hb => ?_) fun hb => ⟨rfl, ?_⟩ | refine hB.out.1 _ (fun hb => ?_) fun hb => ?_) <;> clear hB C B <;> (try simp only [Bool.not_true, Bool.not_false] at hb) <;> (first | (exfalso; simp at hb; done) | (exfalso; simp at hb; omega) | (rw [hb]; (try simp at hb)) | (try simp at hb)) | ((first | refine hB.out.1 _ _ ?_ | refine hB.out.1 _ ?_ | refine hB.out.2 ⟨rfl, ?_⟩); clear hB C B) | (refine hB.out.2 _ ?_; clear hB C B; (try rfl)))
         | refine rwf_o ?_ | refine rwc_o .n rfl ?_ | refine rwc_o .z rfl ?_ | refine rwc_o .w rfl ?_ | refine rwc_o .b rfl ?_ | refine rwc_o _ rfl ?_)
        exact ⟨by simp [*], rfl, by simp, by simp⟩
      · skip
        (try simp at hk)
        obtain ⟨rfl, h10, h9⟩ := hI
        rw [List.take_length, ← t6] at h9
        have hU3 : countU U ≤ 300 := by omega
        repeat' (first
         | (with_reducible first | refine Stp.pf ?_ | refine block_x (by decide) ?_ | refine ret_n ?_)
         | refine tri_reg [] ?_ | refine tri_regc [] [] mixed (by decide +kernel) ?_
         | (refine rwf_nilt rfl (by decide +kernel) fun B hB => ?_; (try simp [*]); refine hB.out _ fun b => ?_; clear hB B)
         | (refine Rul.pf ⟨rfl, rfl⟩ fun B C hB => ?_; (try simp [*, -List.all_eq_true, Try.results5]); (try (simp (disch := first | assumption | omega) only [wc, ite_yes]; (try simp [*, -List.all_eq_true, Try.results5]))); first | (first | refine hB.out.1 _ (fun hb => ?_) fun hb => ⟨rfl, ?_⟩ | refine hB.out.1 _ (fun hb => ?_) fun hb => ?_) <;> clear hB C B <;> (try simp only [Bool.not_true, Bool.not_false] at hb) <;> (first | (exfalso; simp at hb; done) | (exfalso; simp at hb; omega) | (rw [hb]; (try simp at hb)) | (try simp at hb)) | ((first | refine hB.out.1 _ _ ?_ | refine hB.out.1 _ ?_ | refine hB.out.2 ⟨rfl, ?_⟩); clear hB C B) | (refine hB.out.2 _ ?_; clear hB C B; (try rfl)))
         | refine rwf_o ?_ | refine rwc_o .n rfl ?_ | refine rwc_o .z rfl ?_ | refine rwc_o .w rfl ?_ | refine rwc_o .b rfl ?_ | refine rwc_o _ rfl ?_)
        refine tri_for [0, 3, 8] M.length (fun k e σ => e 11 = .sc (.int .i64 k) ∧ e 9 = .sc (.int .i64 (countU (iterU k U) : Nat)) ∧ HeadsQ p q [] (iterU k U) σ ∧ countU (iterU k U) ≤ 300) ?_ (fun k env' σ' hlt hk hI => ?_) (fun env' σ' hk hI => ?_)
        · exact ⟨by simp, by simpa [iterU] using h9, hH.out, hU3⟩
        · skip
          (try simp at hk)
          obtain ⟨h11, h9, hI, hC⟩ := hI
          obtain ⟨g1, g2⟩ := t3.out k hlt
          have g3 := t8.out k hlt
          have hLf := mLeft_spec p q _ _ _ hI
          have hNx := mNext_spec p q _ _ _ hI g1
          rw [← g2, ← iterU_succ] at hNx
          have hm := flatM_seg M k hlt
          have hm1 := flatM_1 M k hlt
          clear g1 g2
          generalize iterU (k + 1) U = V at *
          generalize iterU k U = W at *
          repeat' (first
           | (with_reducible first | refine Stp.pf ?_ | refine block_x (by decide) ?_ | refine ret_n ?_)
           | refine tri_reg [] ?_ | refine tri_regc [] [] mixed (by decide +kernel) ?_
           | (refine rwf_nilt rfl (by decide +kernel) fun B hB => ?_; (try simp [*]); refine hB.out _ fun b => ?_; clear hB B)
           | (refine Rul.pf ⟨rfl, rfl⟩ fun B C hB => ?_; (try simp [*, -List.all_eq_true, Try.results5]); (try (simp (disch := first | assumption | omega) only [wc, ite_yes]; (try simp [*, -List.all_eq_true, Try.results5]))); first | (first | refine hB.out.1 _ (fun hb => ?_) fun hb => ⟨rfl, ?_⟩ | refine hB.out.1 _ (fun hb => ?_) fun hb => ?_) <;> clear hB C B <;> (try simp only [Bool.not_true, Bool.not_false] at hb) <;> (first | (exfalso; simp at hb; done) | (exfalso; simp at hb; omega) | (rw [hb]; (try simp at hb)) | (try simp at hb)) | ((first | refine hB.out.1 _ _ ?_ | refine hB.out.1 _ ?_ | refine hB.out.2.1 _ _ _ (hLf) ?_ | refine hB.out.2.2 _ _ _ (hLf) ?_ | refine hB.out.2 ⟨rfl, ?_⟩); clear hB C B) | (refine hB.out.2 _ ?_; clear hB C B; (try rfl)))
           | refine rwf_o ?_ | refine rwc_o .n rfl ?_ | refine rwc_o .z rfl ?_ | refine rwc_o .w rfl ?_ | refine rwc_o .b rfl ?_ | refine rwc_o _ rfl ?_)
          refine rwf_ca rfl fun C' hC hP => ?_
          clear hP
          (try simp [*, -List.all_eq_true]); (try (simp (disch := first | assumption | omega) only [wrap_id, wrapu_id, wrapb_id, tmod_nn, tdiv_nn, ite_yes, flatM_seg, flatM_0, flatM_1, flatM_2, flatI_seg, flatI_0, flatI_1, flatS_get]; (try simp [*, -List.all_eq_true])))
          refine hC.out _ _ _ (hNx) fun r s2 hq => ?_
          clear hC C'
          obtain ⟨rfl, hI2⟩ := hq
          clear hNx hLf hI
          repeat' (first
           | (with_reducible first | refine Stp.pf ?_ | refine block_x (by decide) ?_ | refine ret_n ?_)
           | refine tri_reg [12] ?_ | refine tri_regc [12] [] mixed (by decide +kernel) ?_
           | (refine rwf_nilt rfl (by decide +kernel) fun B hB => ?_; (try simp [*]); refine hB.out _ fun b => ?_; clear hB B)
           | (refine Rul.pf ⟨rfl, rfl⟩ fun B C hB => ?_; (try simp [*, -List.all_eq_true, Try.results5]); (try (simp (disch := first | assumption | omega) only [wc, ite_yes]; (try simp [*, -List.all_eq_true, Try.results5]))); first | (first | refine hB.out.1 _ (fun hb => ?_) fun hb => ⟨rfl, ?_⟩ | refine hB.out.1 _ (fun hb => ?_) fun hb => ?_) <;> clear hB C B <;> (try simp only [Bool.not_true, Bool.not_false] at hb) <;> (first | (exfalso; simp at hb; done) | (exfalso; simp at hb; omega) | (rw [hb]; (try simp at hb)) | (try simp at hb)) | ((first | refine hB.out.1 _ _ ?_ | refine hB.out.1 _ ?_ | refine hB.out.2 ⟨rfl, ?_⟩); clear hB C B) | (refine hB.out.2 _ ?_; clear hB C B; (try rfl)))
           | refine rwf_o ?_ | refine rwc_o .n rfl ?_ | refine rwc_o .z rfl ?_ | refine rwc_o .w rfl ?_ | refine rwc_o .b rfl ?_ | refine rwc_o _ rfl ?_)
          have hkk : (cM M[k])[1]? = some (.sc (.string M[k].key)) := rfl
          refine tri_for [0, 3, 8, 11, 12] rs.length (fun k_ e σ => σ = s2 ∧ e 14 = .sc (.int .i64 k_) ∧ e 9 = .sc (.int .i64 ((countU W : Nat) - (sumK M[k].key (rs.take k_) : Nat)))) ?_ (fun j env' σ' hlt hk hI => ?_) (fun env' σ' hk hI => ?_)
          · exact ⟨by simp, by simp, by simp [sumK, h9]⟩
          · skip
            (try simp at hk)
            obtain ⟨rfl, h14, h9'⟩ := hI
            obtain ⟨a, rfl⟩ : ∃ a, a = j := ⟨_, rfl⟩
            have hx1 := flatX_at rs a (by simpa using hlt)
            have hx0 : a < (flatX rs).length := by simpa using hlt
            have hss := sumK_succ (key := M[k].key) hlt
            have hsl := sumK_le (key := M[k].key) n3.out a
            have h30 := n3.out _ (List.getElem_mem hlt)
            have hltj := hlt
            rw [hss]
            clear hss
            generalize sumK M[k].key (rs.take a) = T at *
            have hT : T ≤ 300 := by omega
            clear hsl
            repeat' (first
             | (with_reducible first | refine Stp.pf ?_ | refine block_x (by decide) ?_ | refine ret_n ?_)
             | refine tri_reg [] ?_ | refine tri_regc [] [] mixed (by decide +kernel) ?_
             | (refine rwf_nilt rfl (by decide +kernel) fun B hB => ?_; (try simp [*]); refine hB.out _ fun b => ?_; clear hB B)
             | (refine Rul.pf ⟨rfl, rfl⟩ fun B C hB => ?_; (try simp [*, -List.all_eq_true, Try.results5]); (try (simp (disch := first | assumption | omega) only [wc, ite_yes]; (try simp [*, -List.all_eq_true, Try.results5]))); first | (first | refine hB.out.1 _ (fun hb => ?_) fun hb => ⟨rfl, ?_⟩ | refine hB.out.1 _ (fun hb => ?_) fun hb => ?_) <;> clear hB C B <;> (try simp only [Bool.not_true, Bool.not_false] at hb) <;> (first | (exfalso; simp at hb; done) | (exfalso; simp at hb; omega) | (rw [hb]; (try simp at hb)) | (try simp at hb)) | ((first | refine hB.out.1 _ _ ?_ | refine hB.out.1 _ ?_ | refine hB.out.2 ⟨rfl, ?_⟩); clear hB C B) | (refine hB.out.2 _ ?_; clear hB C B; (try rfl)))
             | refine rwf_o ?_ | refine rwc_o .n rfl ?_ | refine rwc_o .z rfl ?_ | refine rwc_o .w rfl ?_ | refine rwc_o .b rfl ?_ | refine rwc_o _ rfl ?_)
            refine tri_for [0, 3, 8, 11, 12, 14] rs[a].length (fun k_ e σ => σ = σ' ∧ e 15 = .sc (.int .i64 k_) ∧ e 9 = .sc (.int .i64 ((countU W : Nat) - (T + cntK M[k].key (rs[a].take k_) : Nat)))) ?_ (fun j env' σ' hlt hk hI => ?_) (fun env' σ' hk hI => ?_)
            · exact ⟨by simp, by simp, by simp [cntK, h9']⟩
            · skip
              (try simp at hk)
              obtain ⟨rfl, h15, h9x⟩ := hI
              have hm2 := flatM_1 rs[a] j hlt
              have hcs := cntK_succ (key := M[k].key) hlt
              have hcl : cntK M[k].key (rs[a].take j) ≤ 30 := by have := cntK_le M[k].key (rs[a].take j); simp at this; omega
              rw [hcs]
              clear hcs
              generalize cntK M[k].key (rs[a].take j) = c at *
              by_cases hkey : rs[a][j].key = M[k].key
              · rw [if_pos hkey]
                repeat' (first
                 | (with_reducible first | refine Stp.pf ?_ | refine block_x (by decide) ?_ | refine ret_n ?_)
                 | refine tri_reg [] ?_ | refine tri_regc [] [] mixed (by decide +kernel) ?_
                 | (refine rwf_nilt rfl (by decide +kernel) fun B hB => ?_; (try simp [*]); refine hB.out _ fun b => ?_; clear hB B)
                 | (refine Rul.pf ⟨rfl, rfl⟩ fun B C hB => ?_; (try simp [*, -List.all_eq_true, Try.results5]); (try (simp (disch := first | assumption | omega) only [wc, ite_yes]; (try simp [*, -List.all_eq_true, Try.results5]))); first | (first | refine hB.out.1 _ (fun hb => ?_) fun hb => ⟨rfl, ?_⟩ | refine hB.out.1 _ (fun hb => ?_) fun hb => ?_) <;> clear hB C B <;> (try simp only [Bool.not_true, Bool.not_false] at hb) <;> (first | (exfalso; simp at hb; done) | (exfalso; simp at hb; omega) | (rw [hb]; (try simp at hb)) | (try simp at hb)) | ((first | refine hB.out.1 _ _ ?_ | refine hB.out.1 _ ?_ | refine hB.out.2 ⟨rfl, ?_⟩); clear hB C B) | (refine hB.out.2 _ ?_; clear hB C B; (try rfl)))
                 | refine rwf_o ?_ | refine rwc_o .n rfl ?_ | refine rwc_o .z rfl ?_ | refine rwc_o .w rfl ?_ | refine rwc_o .b rfl ?_ | refine rwc_o _ rfl ?_)
                exact ⟨by simp [*], rfl, by simp, by simp [*]; omega⟩
              · rw [if_neg hkey]
                repeat' (first
                 | (with_reducible first | refine Stp.pf ?_ | refine block_x (by decide) ?_ | refine ret_n ?_)
                 | refine tri_reg [] ?_ | refine tri_regc [] [] mixed (by decide +kernel) ?_
                 | (refine rwf_nilt rfl (by decide +kernel) fun B hB => ?_; (try simp [*]); refine hB.out _ fun b => ?_; clear hB B)
                 | (refine Rul.pf ⟨rfl, rfl⟩ fun B C hB => ?_; (try simp [*, -List.all_eq_true, Try.results5]); (try (simp (disch := first | assumption | omega) only [wc, ite_yes]; (try simp [*, -List.all_eq_true, Try.results5]))); first | (first | refine hB.out.1 _ (fun hb => ?_) fun hb => ⟨rfl, ?_⟩ | refine hB.out.1 _ (fun hb => ?_) fun hb => ?_) <;> clear hB C B <;> (try simp only [Bool.not_true, Bool.not_false] at hb) <;> (first | (exfalso; simp at hb; done) | (exfalso; simp at hb; omega) | (rw [hb]; (try simp at hb)) | (try simp at hb)) | ((first | refine hB.out.1 _ _ ?_ | refine hB.out.1 _ ?_ | refine hB.out.2 ⟨rfl, ?_⟩); clear hB C B) | (refine hB.out.2 _ ?_; clear hB C B; (try rfl)))
                 | refine rwf_o ?_ | refine rwc_o .n rfl ?_ | refine rwc_o .z rfl ?_ | refine rwc_o .w rfl ?_ | refine rwc_o .b rfl ?_ | refine rwc_o _ rfl ?_)
                exact ⟨by simp [*], rfl, by simp, by simp [*]⟩
            · skip
              (try simp at hk)
              obtain ⟨rfl, h15, h9x⟩ := hI
              rw [List.take_length] at h9x
              repeat' (first
               | (with_reducible first | refine Stp.pf ?_ | refine block_x (by decide) ?_ | refine ret_n ?_)
               | refine tri_reg [] ?_ | refine tri_regc [] [] mixed (by decide +kernel) ?_
               | (refine rwf_nilt rfl (by decide +kernel) fun B hB => ?_; (try simp [*]); refine hB.out _ fun b => ?_; clear hB B)
               | (refine Rul.pf ⟨rfl, rfl⟩ fun B C hB => ?_; (try simp [*, -List.all_eq_true, Try.results5]); (try (simp (disch := first | assumption | omega) only [wc, ite_yes]; (try simp [*, -List.all_eq_true, Try.results5]))); first | (first | refine hB.out.1 _ (fun hb => ?_) fun hb => ⟨rfl, ?_⟩ | refine hB.out.1 _ (fun hb => ?_) fun hb => ?_) <;> clear hB C B <;> (try simp only [Bool.not_true, Bool.not_false] at hb) <;> (first | (exfalso; simp at hb; done) | (exfalso; simp at hb; omega) | (rw [hb]; (try simp at hb)) | (try simp at hb)) | ((first | refine hB.out.1 _ _ ?_ | refine hB.out.1 _ ?_ | refine hB.out.2 ⟨rfl, ?_⟩); clear hB C B) | (refine hB.out.2 _ ?_; clear hB C B; (try rfl)))
               | refine rwf_o ?_ | refine rwc_o .n rfl ?_ | refine rwc_o .z rfl ?_ | refine rwc_o .w rfl ?_ | refine rwc_o .b rfl ?_ | refine rwc_o _ rfl ?_)
              exact ⟨by simp [*], rfl, by simp, by simp [*]⟩
          · skip
            (try simp at hk)
            obtain ⟨rfl, h14, h9'⟩ := hI
            rw [List.take_length] at h9'
            have h9'' : ((countU W : Nat) : Int) - (sumK M[k].key rs : Nat) = (countU V : Nat) := by omega
            rw [h9''] at h9'
            repeat' (first
             | (with_reducible first | refine Stp.pf ?_ | refine block_x (by decide) ?_ | refine ret_n ?_)
             | refine tri_reg [12] ?_ | refine tri_regc [12] [] mixed (by decide +kernel) ?_
             | (refine rwf_nilt rfl (by decide +kernel) fun B hB => ?_; (try simp [*]); refine hB.out _ fun b => ?_; clear hB B)
             | (refine Rul.pf ⟨rfl, rfl⟩ fun B C hB => ?_; (try simp [*, -List.all_eq_true, Try.results5]); (try (simp (disch := first | assumption | omega) only [wc, ite_yes]; (try simp [*, -List.all_eq_true, Try.results5]))); first | (first | refine hB.out.1 _ (fun hb => ?_) fun hb => ⟨rfl, ?_⟩ | refine hB.out.1 _ (fun hb => ?_) fun hb => ?_) <;> clear hB C B <;> (try simp only [Bool.not_true, Bool.not_false] at hb) <;> (first | (exfalso; simp at hb; done) | (exfalso; simp at hb; omega) | (rw [hb]; (try simp at hb)) | (try simp at hb)) | ((first | refine hB.out.1 _ _ ?_ | refine hB.out.1 _ ?_ | refine hB.out.2 ⟨rfl, ?_⟩); clear hB C B) | (refine hB.out.2 _ ?_; clear hB C B; (try rfl)))
             | refine rwf_o ?_ | refine rwc_o .n rfl ?_ | refine rwc_o .z rfl ?_ | refine rwc_o .w rfl ?_ | refine rwc_o .b rfl ?_ | refine rwc_o _ rfl ?_)
            exact ⟨by simp [*], by simp, by simp [*], hI2, by omega⟩
        · skip
          (try simp at hk)
          obtain ⟨h11, h9, hI, hC⟩ := hI
          rw [t2] at hI
          have hNn := mNext_nil p q _ _ hI
          repeat' (first
           | (with_reducible first | refine Stp.pf ?_ | refine block_x (by decide) ?_ | refine ret_n ?_)
           | refine tri_reg [] ?_ | refine tri_regc [] [] mixed (by decide +kernel) ?_
           | (refine rwf_nilt rfl (by decide +kernel) fun B hB => ?_; (try simp [*]); refine hB.out _ fun b => ?_; clear hB B)
           | (refine Rul.pf ⟨rfl, rfl⟩ fun B C hB => ?_; (try simp [*, -List.all_eq_true, Try.results5]); (try (simp (disch := first | assumption | omega) only [wc, ite_yes]; (try simp [*, -List.all_eq_true, Try.results5]))); first | (first | refine hB.out.1 _ (fun hb => ?_) fun hb => ⟨rfl, ?_⟩ | refine hB.out.1 _ (fun hb => ?_) fun hb => ?_) <;> clear hB C B <;> (try simp only [Bool.not_true, Bool.not_false] at hb) <;> (first | (exfalso; simp at hb; done) | (exfalso; simp at hb; omega) | (rw [hb]; (try simp at hb)) | (try simp at hb)) | ((first | refine hB.out.1 _ _ ?_ | refine hB.out.1 _ ?_ | refine hB.out.2 ⟨rfl, ?_⟩); clear hB C B) | (refine hB.out.2 _ ?_; clear hB C B; (try rfl)))
           | refine rwf_o ?_ | refine rwc_o .n rfl ?_ | refine rwc_o .z rfl ?_ | refine rwc_o .w rfl ?_ | refine rwc_o .b rfl ?_ | refine rwc_o _ rfl ?_)
          refine rwf_ca rfl fun C' hC hP => ?_
          clear hP
          (try simp [*, -List.all_eq_true]); (try (simp (disch := first | assumption | omega) only [wrap_id, wrapu_id, wrapb_id, tmod_nn, tdiv_nn, ite_yes, flatM_seg, flatM_0, flatM_1, flatM_2, flatI_seg, flatI_0, flatI_1, flatS_get]; (try simp [*, -List.all_eq_true])))
          refine hC.out _ _ _ (hNn) fun r s2 hq => ?_
          clear hC C'
          obtain ⟨rfl, hI2⟩ := hq
          clear hI hNn
          have hLn : Spec Try.prog 38 [.mp p 0 0] s2 (fun r s => r = .sc (.int .i64 0) ∧ s = s2) := mLeft_spec p q _ _ _ hI2
          have z1 : zeroM.kind = 0 := rfl
          have z2 : zeroM.key = ⟨#[]⟩ := rfl
          have z3 : zeroM.val = ⟨#[]⟩ := rfl
          repeat' (first
           | (with_reducible first | refine Stp.pf ?_ | refine block_x (by decide) ?_ | refine ret_n ?_)
           | refine tri_reg [] ?_ | refine tri_regc [] [] mixed (by decide +kernel) ?_
           | (refine rwf_nilt rfl (by decide +kernel) fun B hB => ?_; (try simp [*]); refine hB.out _ fun b => ?_; clear hB B)
           | (refine Rul.pf ⟨rfl, rfl⟩ fun B C hB => ?_; (try simp [*, -List.all_eq_true, Try.results5]); (try (simp (disch := first | assumption | omega) only [wc, ite_yes]; (try simp [*, -List.all_eq_true, Try.results5]))); first | (first | refine hB.out.1 _ (fun hb => ?_) fun hb => ⟨rfl, ?_⟩ | refine hB.out.1 _ (fun hb => ?_) fun hb => ?_) <;> clear hB C B <;> (try simp only [Bool.not_true, Bool.not_false] at hb) <;> (first | (exfalso; simp at hb; done) | (exfalso; simp at hb; omega) | (rw [hb]; (try simp at hb)) | (try simp at hb)) | ((first | refine hB.out.1 _ _ ?_ | refine hB.out.1 _ ?_ | refine hB.out.2.1 _ _ _ (mNext_none) ?_ | refine hB.out.2.2 _ _ _ (mNext_none) ?_ | refine hB.out.2.1 _ _ _ (hLn) ?_ | refine hB.out.2.2 _ _ _ (hLn) ?_ | refine hB.out.2.1 _ _ _ (mLeft_none) ?_ | refine hB.out.2.2 _ _ _ (mLeft_none) ?_ | refine hB.out.2 ⟨rfl, ?_⟩); clear hB C B) | (refine hB.out.2 _ ?_; clear hB C B; (try rfl)))
           | refine rwf_o ?_ | refine rwc_o .n rfl ?_ | refine rwc_o .z rfl ?_ | refine rwc_o .w rfl ?_ | refine rwc_o .b rfl ?_ | refine rwc_o _ rfl ?_)
          all_goals done
    · rw [if_neg he] at e2
      generalize errU rs = er at *
      repeat' (first
       | (with_reducible first | refine Stp.pf ?_ | refine block_x (by decide) ?_ | refine ret_n ?_)
       | refine tri_reg [] ?_ | refine tri_regc [] [] mixed (by decide +kernel) ?_
       | (refine rwf_nilt rfl (by decide +kernel) fun B hB => ?_; (try simp [*]); refine hB.out _ fun b => ?_; clear hB B)
       | (refine Rul.pf ⟨rfl, rfl⟩ fun B C hB => ?_; (try simp [*, -List.all_eq_true, Try.results5]); (try (simp (disch := first | assumption | omega) only [wc, ite_yes]; (try simp [*, -List.all_eq_true, Try.results5]))); first | (first | refine hB.out.1 _ (fun hb => ?_) fun hb => ⟨rfl, ?_⟩ | refine hB.out.1 _ (fun hb => ?_) fun hb => ?_) <;> clear hB C B <;> (try simp only [Bool.not_true, Bool.not_false] at hb) <;> (first | (exfalso; simp at hb; done) | (exfalso; simp at hb; omega) | (rw [hb]; (try simp at hb)) | (try simp at hb)) | ((first | refine hB.out.1 _ _ ?_ | refine hB.out.1 _ ?_ | refine hB.out.2.1 _ _ _ (haw) ?_ | refine hB.out.2.2 _ _ _ (haw) ?_ | refine hB.out.2.1 _ _ _ (e1) ?_ | refine hB.out.2.2 _ _ _ (e1) ?_ | refine hB.out.2 ⟨rfl, ?_⟩); clear hB C B) | (refine hB.out.2 _ ?_; clear hB C B; (try rfl)))
       | refine rwf_o ?_ | refine rwc_o .n rfl ?_ | refine rwc_o .z rfl ?_ | refine rwc_o .w rfl ?_ | refine rwc_o .b rfl ?_ | refine rwc_o _ rfl ?_)
      refine rwf_ca rfl fun C' hC hP => ?_
      clear hP
      (try simp [*, -List.all_eq_true]); (try (simp (disch := first | assumption | omega) only [wrap_id, wrapu_id, wrapb_id, tmod_nn, tdiv_nn, ite_yes, flatM_seg, flatM_0, flatM_1, flatM_2, flatI_seg, flatI_0, flatI_1, flatS_get]; (try simp [*, -List.all_eq_true])))
      refine hC.out _ _ _ (hnew _) fun r s hq => ?_
      clear hC C'
      obtain hq := hq
      obtain ⟨_, hq⟩ := hq
      obtain ⟨rfl, _⟩ := hq he
      repeat' (first
       | (with_reducible first | refine Stp.pf ?_ | refine block_x (by decide) ?_ | refine ret_n ?_)
       | refine tri_reg [] ?_ | refine tri_regc [] [] mixed (by decide +kernel) ?_
       | (refine rwf_nilt rfl (by decide +kernel) fun B hB => ?_; (try simp [*]); refine hB.out _ fun b => ?_; clear hB B)
       | (refine Rul.pf ⟨rfl, rfl⟩ fun B C hB => ?_; (try simp [*, -List.all_eq_true, Try.results5]); (try (simp (disch := first | assumption | omega) only [wc, ite_yes]; (try simp [*, -List.all_eq_true, Try.results5]))); first | (first | refine hB.out.1 _ (fun hb => ?_) fun hb => ⟨rfl, ?_⟩ | refine hB.out.1 _ (fun hb => ?_) fun hb => ?_) <;> clear hB C B <;> (try simp only [Bool.not_true, Bool.not_false] at hb) <;> (first | (exfalso; simp at hb; done) | (exfalso; simp at hb; omega) | (rw [hb]; (try simp at hb)) | (try simp at hb)) | ((first | refine hB.out.1 _ _ ?_ | refine hB.out.1 _ ?_ | refine hB.out.2.1 _ _ _ (e2) ?_ | refine hB.out.2.2 _ _ _ (e2) ?_ | refine hB.out.2.1 _ _ _ (e3) ?_ | refine hB.out.2.2 _ _ _ (e3) ?_ | refine hB.out.2 ⟨rfl, ?_⟩); clear hB C B) | (refine hB.out.2 _ ?_; clear hB C B; (try rfl)))
       | refine rwf_o ?_ | refine rwc_o .n rfl ?_ | refine rwc_o .z rfl ?_ | refine rwc_o .w rfl ?_ | refine rwc_o .b rfl ?_ | refine rwc_o _ rfl ?_)
      all_goals done
end Go.Proofs.Ytemijcjgdgdhjaa
