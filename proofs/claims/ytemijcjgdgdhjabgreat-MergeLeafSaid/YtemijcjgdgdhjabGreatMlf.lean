/- The law MergeLeaf. -/
import Derived.Test.YtemijcjgdgdhjabGreatEi
import Derived.Test.YtemijcjgdgdhjabGreatWmi
namespace Go.Proofs.YtemijcjgdgdhjabGreat
open Go.RowKit
set_option linter.unusedSimpArgs false
set_option maxRecDepth 10000
set_option maxHeartbeats 4000000 in
theorem mergeLeaf_spec (items : List Item) (rs : List (List Msg)) (hl0 : items.length ≤ 9223372036854775807) (hl : rs.length ≤ 9223372036854775807) (hn : ∀ l ∈ rs, l.length ≤ 9223372036854775807) :
    PSpec Tryz.prog 3 [.fs (flatI items) items.length, .fs (flatX rs) rs.length] (.sc (.bool true)) := by
  have e1 := great13_spec rs hl hn
  have haw := awake13_spec
  cases hgr : greatM rs with
  | true =>
    rw [hgr] at e1
    refine spec_pure (by simp) (by simp) ?_
    refine spec_intro Tryz.func3 good3 rfl (by simp [Tryz.ntmps3]) ?_
    repeat' (first
     | (with_reducible first | refine Stp.pf ?_ | refine block_x (by decide) ?_ | refine ret_n ?_)
     | refine tri_reg [] ?_ | refine tri_regc [] [] mixed (by decide +kernel) ?_
     | (refine rwf_nilt rfl (by decide +kernel) fun B hB => ?_; (try simp [*]); refine hB.out _ fun b => ?_; clear hB B)
     | (refine Rul.pf ⟨rfl, rfl⟩ fun B C hB => ?_; (try simp [*, -List.all_eq_true, Tryz.results3]); (try (simp (disch := first | assumption | omega) only [wc, ite_yes]; (try simp [*, -List.all_eq_true, Tryz.results3]))); first | (first | refine hB.out.1 _ (fun hb => ?_) fun hb => ⟨rfl, ?_⟩ | refine hB.out.1 _ (fun hb => ?_) fun hb => ?_) <;> clear hB C B <;> (try simp only [Bool.not_true, Bool.not_false] at hb) <;> (first | (exfalso; simp at hb; done) | (exfalso; simp at hb; omega) | (rw [hb]; (try simp at hb)) | (try simp at hb)) | ((first | refine hB.out.1 _ _ ?_ | refine hB.out.1 _ ?_ | refine hB.out.2.1 _ _ _ (haw) ?_ | refine hB.out.2.2 _ _ _ (haw) ?_ | refine hB.out.2.1 _ _ _ (e1) ?_ | refine hB.out.2.2 _ _ _ (e1) ?_ | refine hB.out.2 ⟨rfl, ?_⟩); clear hB C B) | (refine hB.out.2 _ ?_; clear hB C B; (try rfl)))
     | refine rwf_o ?_ | refine rwc_o .n rfl ?_ | refine rwc_o .z rfl ?_ | refine rwc_o .w rfl ?_ | refine rwc_o .b rfl ?_ | refine rwc_o _ rfl ?_)
  | false =>
    rw [hgr] at e1
    obtain ⟨n1, n2⟩ := greatM_no hgr
    have n3 : ∀ l ∈ rs, l.length ≤ 30 := fun l h => (n2 l h).1
    clear hl hn n2 hgr
    by_cases hl6 : items.length ≤ 60
    · have o1 := lOf_spec items (by omega)
      unfold leafR at o1
      cases hok : items.all okI with
      | false =>
        rw [hok, if_pos rfl] at o1
        refine spec_pure (by simp) (by simp) ?_
        refine spec_intro Tryz.func3 good3 rfl (by simp [Tryz.ntmps3]) ?_
        repeat' (first
         | (with_reducible first | refine Stp.pf ?_ | refine block_x (by decide) ?_ | refine ret_n ?_)
         | refine tri_reg [] ?_ | refine tri_regc [] [] mixed (by decide +kernel) ?_
         | (refine rwf_nilt rfl (by decide +kernel) fun B hB => ?_; (try simp [*]); refine hB.out _ fun b => ?_; clear hB B)
         | (refine Rul.pf ⟨rfl, rfl⟩ fun B C hB => ?_; (try simp [*, -List.all_eq_true, Tryz.results3]); (try (simp (disch := first | assumption | omega) only [wc, ite_yes]; (try simp [*, -List.all_eq_true, Tryz.results3]))); first | (first | refine hB.out.1 _ (fun hb => ?_) fun hb => ⟨rfl, ?_⟩ | refine hB.out.1 _ (fun hb => ?_) fun hb => ?_) <;> clear hB C B <;> (try simp only [Bool.not_true, Bool.not_false] at hb) <;> (first | (exfalso; simp at hb; done) | (exfalso; simp at hb; omega) | (rw [hb]; (try simp at hb)) | (try simp at hb)) | ((first | refine hB.out.1 _ _ ?_ | refine hB.out.1 _ ?_ | refine hB.out.2.1 _ _ _ (haw) ?_ | refine hB.out.2.2 _ _ _ (haw) ?_ | refine hB.out.2.1 _ _ _ (e1) ?_ | refine hB.out.2.2 _ _ _ (e1) ?_ | refine hB.out.2.1 _ _ _ (o1) ?_ | refine hB.out.2.2 _ _ _ (o1) ?_ | refine hB.out.2 ⟨rfl, ?_⟩); clear hB C B) | (refine hB.out.2 _ ?_; clear hB C B; (try rfl)))
         | refine rwf_o ?_ | refine rwc_o .n rfl ?_ | refine rwc_o .z rfl ?_ | refine rwc_o .w rfl ?_ | refine rwc_o .b rfl ?_ | refine rwc_o _ rfl ?_)
      | true =>
        rw [hok, if_neg (by simp)] at o1
        cases hof : ofL items with
        | none =>
          rw [hof] at o1
          refine spec_pure (by simp) (by simp) ?_
          refine spec_intro Tryz.func3 good3 rfl (by simp [Tryz.ntmps3]) ?_
          repeat' (first
           | (with_reducible first | refine Stp.pf ?_ | refine block_x (by decide) ?_ | refine ret_n ?_)
           | refine tri_reg [] ?_ | refine tri_regc [] [] mixed (by decide +kernel) ?_
           | (refine rwf_nilt rfl (by decide +kernel) fun B hB => ?_; (try simp [*]); refine hB.out _ fun b => ?_; clear hB B)
           | (refine Rul.pf ⟨rfl, rfl⟩ fun B C hB => ?_; (try simp [*, -List.all_eq_true, Tryz.results3]); (try (simp (disch := first | assumption | omega) only [wc, ite_yes]; (try simp [*, -List.all_eq_true, Tryz.results3]))); first | (first | refine hB.out.1 _ (fun hb => ?_) fun hb => ⟨rfl, ?_⟩ | refine hB.out.1 _ (fun hb => ?_) fun hb => ?_) <;> clear hB C B <;> (try simp only [Bool.not_true, Bool.not_false] at hb) <;> (first | (exfalso; simp at hb; done) | (exfalso; simp at hb; omega) | (rw [hb]; (try simp at hb)) | (try simp at hb)) | ((first | refine hB.out.1 _ _ ?_ | refine hB.out.1 _ ?_ | refine hB.out.2.1 _ _ _ (haw) ?_ | refine hB.out.2.2 _ _ _ (haw) ?_ | refine hB.out.2.1 _ _ _ (e1) ?_ | refine hB.out.2.2 _ _ _ (e1) ?_ | refine hB.out.2.1 _ _ _ (o1) ?_ | refine hB.out.2.2 _ _ _ (o1) ?_ | refine hB.out.2 ⟨rfl, ?_⟩); clear hB C B) | (refine hB.out.2 _ ?_; clear hB C B; (try rfl)))
           | refine rwf_o ?_ | refine rwc_o .n rfl ?_ | refine rwc_o .z rfl ?_ | refine rwc_o .w rfl ?_ | refine rwc_o .b rfl ?_ | refine rwc_o _ rfl ?_)
        | some u =>
          rw [hof] at o1
          obtain ⟨hr, hp⟩ := ofL_some hof
          have hlo := ofL_all hof hok
          have hll : u.length ≤ 60 := by have := hp.length_eq; omega
          have i1 := lItems_spec u (by omega)
          have e2 := mOver_spec u rs (by omega) (by omega) fun l hl => by have := n3 l hl; omega
          unfold overR at e2
          have ha : u.all okI = true := List.all_eq_true.2 hlo
          have hcp := check_puts ha
          rw [if_pos hr] at hcp
          have hE : overE u rs = errU rs := by
            unfold overE
            rw [if_neg (by rw [ha]; simp), if_neg (by rw [hcp]; simp), errU_skip hcp]
          by_cases he : overE u rs = 0
          · rw [if_pos he] at e2
            rw [hE] at he
            have hg := err_good he
            have hov : overL u rs = rs.foldl withI u := by unfold overL; exact over_fold hr hlo hg
            rw [hov] at e2
            have hlu := lenU_le rs n3 rs.length
            rw [List.take_length] at hlu
            have hst : ∀ k, k ≤ rs.length → RiseI ((rs.take k).foldl withI u) ∧ (∀ x ∈ (rs.take k).foldl withI u, okI x = true) ∧ ((rs.take k).foldl withI u).length ≤ 1000 := fun k hk => by
              have hq := foldI_ok (rs.take k) u hr hlo fun q hq => (hg q (List.mem_of_mem_take hq)).2
              have h2 := lenU_le rs n3 k
              exact ⟨hq.1, hq.2.1, by have := hq.2.2.1; have : (rs.take k).length ≤ 10 := by simp; omega
                                      omega⟩
            have hw : ∀ k (h : k < rs.length), PSpec Tryz.prog 9 [.fp (cL ((rs.take k).foldl withI u)) 0, .fs (flatM rs[k]) rs[k].length] (.tup [.fp (cL ((rs.take (k + 1)).foldl withI u)) 0, .sc (.int .i64 0)]) := fun k h => by
              obtain ⟨s1, s2, s3⟩ := hst k (by omega)
              have q := lWith_spec ((rs.take k).foldl withI u) rs[k] (by have := n3 rs[k] (List.getElem_mem h); omega) s1 s2
              unfold lwithR at q
              rw [if_pos (List.all_eq_true.2 (hg rs[k] (List.getElem_mem h)).2)] at q
              rw [foldI_succ h]
              exact q
            obtain ⟨s1, s2, s3⟩ := hst rs.length (Nat.le_refl _)
            rw [List.take_length] at s1 s2 s3
            have o2 := lOf_spec (rs.foldl withI u) (by omega)
            unfold leafR at o2
            rw [if_neg (by rw [List.all_eq_true.2 s2]; simp), ofL_rise s1] at o2
            have q1 := lSame_spec (rs.foldl withI u) (rs.foldl withI u) (by omega) (by omega)
            rw [decide_eq_true rfl] at q1
            have hfin : (rs.take rs.length).foldl withI u = rs.foldl withI u := by rw [List.take_length]
            clear hst s1 s2 hlo hr hp hof hok hg hov hE he ha hcp hlu
            replace hw := Lib.hid hw
            refine spec_pure (by simp) (by simp) ?_
            refine spec_intro Tryz.func3 good3 rfl (by simp [Tryz.ntmps3]) ?_
            repeat' (first
             | (with_reducible first | refine Stp.pf ?_ | refine block_x (by decide) ?_ | refine ret_n ?_)
             | refine tri_reg [] ?_ | refine tri_regc [] [] mixed (by decide +kernel) ?_
             | (refine rwf_nilt rfl (by decide +kernel) fun B hB => ?_; (try simp [*]); refine hB.out _ fun b => ?_; clear hB B)
             | (refine Rul.pf ⟨rfl, rfl⟩ fun B C hB => ?_; (try simp [*, -List.all_eq_true, Tryz.results3]); (try (simp (disch := first | assumption | omega) only [wc, ite_yes]; (try simp [*, -List.all_eq_true, Tryz.results3]))); first | (first | refine hB.out.1 _ (fun hb => ?_) fun hb => ⟨rfl, ?_⟩ | refine hB.out.1 _ (fun hb => ?_) fun hb => ?_) <;> clear hB C B <;> (try simp only [Bool.not_true, Bool.not_false] at hb) <;> (first | (exfalso; simp at hb; done) | (exfalso; simp at hb; omega) | (rw [hb]; (try simp at hb)) | (try simp at hb)) | ((first | refine hB.out.1 _ _ ?_ | refine hB.out.1 _ ?_ | refine hB.out.2.1 _ _ _ (haw) ?_ | refine hB.out.2.2 _ _ _ (haw) ?_ | refine hB.out.2.1 _ _ _ (e1) ?_ | refine hB.out.2.2 _ _ _ (e1) ?_ | refine hB.out.2.1 _ _ _ (o1) ?_ | refine hB.out.2.2 _ _ _ (o1) ?_ | refine hB.out.2.1 _ _ _ (i1) ?_ | refine hB.out.2.2 _ _ _ (i1) ?_ | refine hB.out.2.1 _ _ _ (e2) ?_ | refine hB.out.2.2 _ _ _ (e2) ?_ | refine hB.out.2 ⟨rfl, ?_⟩); clear hB C B) | (refine hB.out.2 _ ?_; clear hB C B; (try rfl)))
             | refine rwf_o ?_ | refine rwc_o .n rfl ?_ | refine rwc_o .z rfl ?_ | refine rwc_o .w rfl ?_ | refine rwc_o .b rfl ?_ | refine rwc_o _ rfl ?_)
            refine tri_for [1, 7] rs.length (fun k e σ => σ = [] ∧ e 9 = .sc (.int .i64 k) ∧ e 5 = .fp (cL ((rs.take k).foldl withI u)) 0) ?_ (fun k env' σ' hlt hk hI => ?_) (fun env' σ' hk hI => ?_)
            · exact ⟨by simp, by simp, by simp⟩
            · skip
              (try simp at hk)
              obtain ⟨rfl, h9, h5⟩ := hI
              have hwk := hw.out k hlt
              have hx := flatX_get rs k hlt
              have hnl := n3 rs[k] (List.getElem_mem hlt)
              generalize (rs.take (k + 1)).foldl withI u = A1 at *
              generalize (rs.take k).foldl withI u = A0 at *
              repeat' (first
               | (with_reducible first | refine Stp.pf ?_ | refine block_x (by decide) ?_ | refine ret_n ?_)
               | refine tri_reg [] ?_ | refine tri_regc [] [] mixed (by decide +kernel) ?_
               | (refine rwf_nilt rfl (by decide +kernel) fun B hB => ?_; (try simp [*]); refine hB.out _ fun b => ?_; clear hB B)
               | (refine Rul.pf ⟨rfl, rfl⟩ fun B C hB => ?_; (try simp [*, -List.all_eq_true, Tryz.results3]); (try (simp (disch := first | assumption | omega) only [wc, ite_yes]; (try simp [*, -List.all_eq_true, Tryz.results3]))); first | (first | refine hB.out.1 _ (fun hb => ?_) fun hb => ⟨rfl, ?_⟩ | refine hB.out.1 _ (fun hb => ?_) fun hb => ?_) <;> clear hB C B <;> (try simp only [Bool.not_true, Bool.not_false] at hb) <;> (first | (exfalso; simp at hb; done) | (exfalso; simp at hb; omega) | (rw [hb]; (try simp at hb)) | (try simp at hb)) | ((first | refine hB.out.1 _ _ ?_ | refine hB.out.1 _ ?_ | refine hB.out.2.1 _ _ _ (hwk) ?_ | refine hB.out.2.2 _ _ _ (hwk) ?_ | refine hB.out.2 ⟨rfl, ?_⟩); clear hB C B) | (refine hB.out.2 _ ?_; clear hB C B; (try rfl)))
               | refine rwf_o ?_ | refine rwc_o .n rfl ?_ | refine rwc_o .z rfl ?_ | refine rwc_o .w rfl ?_ | refine rwc_o .b rfl ?_ | refine rwc_o _ rfl ?_)
              exact ⟨by simp [*], rfl, by simp, by simp⟩
            · skip
              (try simp at hk)
              obtain ⟨rfl, h9, h5⟩ := hI
              rw [hfin] at h5
              generalize rs.foldl withI u = A at *
              repeat' (first
               | (with_reducible first | refine Stp.pf ?_ | refine block_x (by decide) ?_ | refine ret_n ?_)
               | refine tri_reg [] ?_ | refine tri_regc [] [] mixed (by decide +kernel) ?_
               | (refine rwf_nilt rfl (by decide +kernel) fun B hB => ?_; (try simp [*]); refine hB.out _ fun b => ?_; clear hB B)
               | (refine Rul.pf ⟨rfl, rfl⟩ fun B C hB => ?_; (try simp [*, -List.all_eq_true, Tryz.results3]); (try (simp (disch := first | assumption | omega) only [wc, ite_yes]; (try simp [*, -List.all_eq_true, Tryz.results3]))); first | (first | refine hB.out.1 _ (fun hb => ?_) fun hb => ⟨rfl, ?_⟩ | refine hB.out.1 _ (fun hb => ?_) fun hb => ?_) <;> clear hB C B <;> (try simp only [Bool.not_true, Bool.not_false] at hb) <;> (first | (exfalso; simp at hb; done) | (exfalso; simp at hb; omega) | (rw [hb]; (try simp at hb)) | (try simp at hb)) | ((first | refine hB.out.1 _ _ ?_ | refine hB.out.1 _ ?_ | refine hB.out.2.1 _ _ _ (o2) ?_ | refine hB.out.2.2 _ _ _ (o2) ?_ | refine hB.out.2.1 _ _ _ (q1) ?_ | refine hB.out.2.2 _ _ _ (q1) ?_ | refine hB.out.2 ⟨rfl, ?_⟩); clear hB C B) | (refine hB.out.2 _ ?_; clear hB C B; (try rfl)))
               | refine rwf_o ?_ | refine rwc_o .n rfl ?_ | refine rwc_o .z rfl ?_ | refine rwc_o .w rfl ?_ | refine rwc_o .b rfl ?_ | refine rwc_o _ rfl ?_)
          · rw [if_neg he] at e2
            clear hE
            generalize overE u rs = er at *
            refine spec_pure (by simp) (by simp) ?_
            refine spec_intro Tryz.func3 good3 rfl (by simp [Tryz.ntmps3]) ?_
            repeat' (first
             | (with_reducible first | refine Stp.pf ?_ | refine block_x (by decide) ?_ | refine ret_n ?_)
             | refine tri_reg [] ?_ | refine tri_regc [] [] mixed (by decide +kernel) ?_
             | (refine rwf_nilt rfl (by decide +kernel) fun B hB => ?_; (try simp [*]); refine hB.out _ fun b => ?_; clear hB B)
             | (refine Rul.pf ⟨rfl, rfl⟩ fun B C hB => ?_; (try simp [*, -List.all_eq_true, Tryz.results3]); (try (simp (disch := first | assumption | omega) only [wc, ite_yes]; (try simp [*, -List.all_eq_true, Tryz.results3]))); first | (first | refine hB.out.1 _ (fun hb => ?_) fun hb => ⟨rfl, ?_⟩ | refine hB.out.1 _ (fun hb => ?_) fun hb => ?_) <;> clear hB C B <;> (try simp only [Bool.not_true, Bool.not_false] at hb) <;> (first | (exfalso; simp at hb; done) | (exfalso; simp at hb; omega) | (rw [hb]; (try simp at hb)) | (try simp at hb)) | ((first | refine hB.out.1 _ _ ?_ | refine hB.out.1 _ ?_ | refine hB.out.2.1 _ _ _ (haw) ?_ | refine hB.out.2.2 _ _ _ (haw) ?_ | refine hB.out.2.1 _ _ _ (e1) ?_ | refine hB.out.2.2 _ _ _ (e1) ?_ | refine hB.out.2.1 _ _ _ (o1) ?_ | refine hB.out.2.2 _ _ _ (o1) ?_ | refine hB.out.2.1 _ _ _ (i1) ?_ | refine hB.out.2.2 _ _ _ (i1) ?_ | refine hB.out.2.1 _ _ _ (e2) ?_ | refine hB.out.2.2 _ _ _ (e2) ?_ | refine hB.out.2 ⟨rfl, ?_⟩); clear hB C B) | (refine hB.out.2 _ ?_; clear hB C B; (try rfl)))
             | refine rwf_o ?_ | refine rwc_o .n rfl ?_ | refine rwc_o .z rfl ?_ | refine rwc_o .w rfl ?_ | refine rwc_o .b rfl ?_ | refine rwc_o _ rfl ?_)
    · skip
      refine spec_pure (by simp) (by simp) ?_
      refine spec_intro Tryz.func3 good3 rfl (by simp [Tryz.ntmps3]) ?_
      repeat' (first
       | (with_reducible first | refine Stp.pf ?_ | refine block_x (by decide) ?_ | refine ret_n ?_)
       | refine tri_reg [] ?_ | refine tri_regc [] [] mixed (by decide +kernel) ?_
       | (refine rwf_nilt rfl (by decide +kernel) fun B hB => ?_; (try simp [*]); refine hB.out _ fun b => ?_; clear hB B)
       | (refine Rul.pf ⟨rfl, rfl⟩ fun B C hB => ?_; (try simp [*, -List.all_eq_true, Tryz.results3]); (try (simp (disch := first | assumption | omega) only [wc, ite_yes]; (try simp [*, -List.all_eq_true, Tryz.results3]))); first | (first | refine hB.out.1 _ (fun hb => ?_) fun hb => ⟨rfl, ?_⟩ | refine hB.out.1 _ (fun hb => ?_) fun hb => ?_) <;> clear hB C B <;> (try simp only [Bool.not_true, Bool.not_false] at hb) <;> (first | (exfalso; simp at hb; done) | (exfalso; simp at hb; omega) | (rw [hb]; (try simp at hb)) | (try simp at hb)) | ((first | refine hB.out.1 _ _ ?_ | refine hB.out.1 _ ?_ | refine hB.out.2.1 _ _ _ (haw) ?_ | refine hB.out.2.2 _ _ _ (haw) ?_ | refine hB.out.2.1 _ _ _ (e1) ?_ | refine hB.out.2.2 _ _ _ (e1) ?_ | refine hB.out.2 ⟨rfl, ?_⟩); clear hB C B) | (refine hB.out.2 _ ?_; clear hB C B; (try rfl)))
       | refine rwf_o ?_ | refine rwc_o .n rfl ?_ | refine rwc_o .z rfl ?_ | refine rwc_o .w rfl ?_ | refine rwc_o .b rfl ?_ | refine rwc_o _ rfl ?_)
end Go.Proofs.YtemijcjgdgdhjabGreat
