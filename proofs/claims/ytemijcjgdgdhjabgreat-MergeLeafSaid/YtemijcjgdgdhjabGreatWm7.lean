/- Merging: the reference's Check. -/
import Derived.Test.YtemijcjgdgdhjabGreatPmg3
namespace Go.Proofs.YtemijcjgdgdhjabGreat
open Go.RowKit
set_option linter.unusedSimpArgs false
set_option maxRecDepth 10000
def bigG (m : Msg) : Bool := decide (512 < m.key.size) || decide (512 < m.val.size)
/-- Whether runs are more than is asked. -/
def greatM (rs : List (List Msg)) : Bool := ((rs.take 11).any fun l => decide (30 < l.length) || l.any bigG) || decide (10 < rs.length)
theorem greatM_no {rs : List (List Msg)} (h : greatM rs = false) : rs.length ≤ 10 ∧ ∀ l ∈ rs, l.length ≤ 30 ∧ MSmall l := by
  unfold greatM at h
  simp only [Bool.or_eq_false_iff, decide_eq_false_iff_not] at h
  obtain ⟨h1, h2⟩ := h
  rw [List.take_of_length_le (by omega)] at h1
  refine ⟨by omega, fun l hl => ?_⟩
  have h3 : (decide (30 < l.length) || l.any bigG) = false := by
    cases e : (decide (30 < l.length) || l.any bigG) with
    | false => rfl
    | true => rw [List.any_eq_true.2 ⟨l, hl, e⟩] at h1; cases h1
  simp only [Bool.or_eq_false_iff, decide_eq_false_iff_not] at h3
  refine ⟨by omega, fun m hm => ?_⟩
  have h4 : bigG m = false := by
    cases e : bigG m with
    | false => rfl
    | true => rw [List.any_eq_true.2 ⟨m, hm, e⟩] at h3; cases h3.2
  simp [bigG] at h4
  omega
theorem greatM_yes {rs : List (List Msg)} {k : Nat} (h : k < rs.length) (h2 : k < 11) (h3 : 30 < rs[k].length ∨ rs[k].any bigG = true) : greatM rs = true := by
  unfold greatM
  rw [Bool.or_eq_true]; left
  rw [List.any_eq_true]
  refine ⟨rs[k], ?_, by simpa using h3⟩
  rw [List.mem_iff_getElem?]
  exact ⟨k, by rw [List.getElem?_take, if_pos h2, List.getElem?_eq_getElem h]⟩
theorem great13_spec (rs : List (List Msg)) (hl : rs.length ≤ 9223372036854775807) (hn : ∀ l ∈ rs, l.length ≤ 9223372036854775807) : PSpec Tryz.prog 5 [.fs (flatX rs) rs.length] (.sc (.bool (greatM rs))) := by
  refine spec_pure (by simp) (by simp) ?_
  refine spec_intro Tryz.func5 good5 rfl (by simp [Tryz.ntmps5]) ?_
  repeat' (first
   | (with_reducible first | refine Stp.pf ?_ | refine block_x (by decide) ?_ | refine ret_n ?_)
   | refine tri_reg [] ?_ | refine tri_regc [] [] mixed (by decide +kernel) ?_
   | (refine rwf_nilt rfl (by decide +kernel) fun B hB => ?_; (try simp [*]); refine hB.out _ fun b => ?_; clear hB B)
   | (refine Rul.pf ⟨rfl, rfl⟩ fun B C hB => ?_; (try simp [*, -List.all_eq_true, Tryz.results5]); (try (simp (disch := first | assumption | omega) only [wc, ite_yes]; (try simp [*, -List.all_eq_true, Tryz.results5]))); first | (first | refine hB.out.1 _ (fun hb => ?_) fun hb => ⟨rfl, ?_⟩ | refine hB.out.1 _ (fun hb => ?_) fun hb => ?_) <;> clear hB C B <;> (try simp only [Bool.not_true, Bool.not_false] at hb) <;> (first | (exfalso; simp at hb; done) | (exfalso; simp at hb; omega) | (rw [hb]; (try simp at hb)) | (try simp at hb)) | ((first | refine hB.out.1 _ _ ?_ | refine hB.out.1 _ ?_ | refine hB.out.2 ⟨rfl, ?_⟩); clear hB C B) | (refine hB.out.2 _ ?_; clear hB C B; (try rfl)))
   | refine rwf_o ?_ | refine rwc_o .n rfl ?_ | refine rwc_o .z rfl ?_ | refine rwc_o .w rfl ?_ | refine rwc_o .b rfl ?_ | refine rwc_o _ rfl ?_)
  refine tri_for [0] 11 (fun k e σ => σ = [] ∧ e 3 = .sc (.int .i64 k) ∧ ((rs.take k).any fun l => decide (30 < l.length) || l.any bigG) = false) ?_ (fun k env' σ' hlt hk hI => ?_) (fun env' σ' hk hI => ?_)
  · exact ⟨by simp, by simp, by simp⟩
  · skip
    (try simp at hk)
    obtain ⟨rfl, h3, ha⟩ := hI
    by_cases hl2 : k < rs.length
    · have hnk := hn _ (List.getElem_mem hl2)
      have hx1 := flatX_at rs k (by simpa using hl2)
      have hx0 : k < (flatX rs).length := by simpa using hl2
      have hy := fun h => greatM_yes hl2 hlt h
      have hs : rs[k].length ≤ 30 → rs[k].any bigG = false → ((rs.take (k + 1)).any fun l => decide (30 < l.length) || l.any bigG) = false := fun u v => by
        rw [List.take_add_one, List.getElem?_eq_getElem hl2, List.any_append, ha]
        simp only [Option.toList_some, List.any_cons, List.any_nil, v]
        simp; omega
      replace hy := Lib.hid hy
      replace hs := Lib.hid hs
      have hltk := hlt
      by_cases h30 : 30 < rs[k].length
      · rw [hy.out (.inl h30)]
        repeat' (first
         | (with_reducible first | refine Stp.pf ?_ | refine block_x (by decide) ?_ | refine ret_n ?_)
         | refine tri_reg [] ?_ | refine tri_regc [] [] mixed (by decide +kernel) ?_
         | (refine rwf_nilt rfl (by decide +kernel) fun B hB => ?_; (try simp [*]); refine hB.out _ fun b => ?_; clear hB B)
         | (refine Rul.pf ⟨rfl, rfl⟩ fun B C hB => ?_; (try simp [*, -List.all_eq_true, Tryz.results5]); (try (simp (disch := first | assumption | omega) only [wc, ite_yes]; (try simp [*, -List.all_eq_true, Tryz.results5]))); first | (first | refine hB.out.1 _ (fun hb => ?_) fun hb => ⟨rfl, ?_⟩ | refine hB.out.1 _ (fun hb => ?_) fun hb => ?_) <;> clear hB C B <;> (try simp only [Bool.not_true, Bool.not_false] at hb) <;> (first | (exfalso; simp at hb; done) | (exfalso; simp at hb; omega) | (rw [hb]; (try simp at hb)) | (try simp at hb)) | ((first | refine hB.out.1 _ _ ?_ | refine hB.out.1 _ ?_ | refine hB.out.2 ⟨rfl, ?_⟩); clear hB C B) | (refine hB.out.2 _ ?_; clear hB C B; (try rfl)))
         | refine rwf_o ?_ | refine rwc_o .n rfl ?_ | refine rwc_o .z rfl ?_ | refine rwc_o .w rfl ?_ | refine rwc_o .b rfl ?_ | refine rwc_o _ rfl ?_)
        all_goals done
      · skip
        repeat' (first
         | (with_reducible first | refine Stp.pf ?_ | refine block_x (by decide) ?_ | refine ret_n ?_)
         | refine tri_reg [] ?_ | refine tri_regc [] [] mixed (by decide +kernel) ?_
         | (refine rwf_nilt rfl (by decide +kernel) fun B hB => ?_; (try simp [*]); refine hB.out _ fun b => ?_; clear hB B)
         | (refine Rul.pf ⟨rfl, rfl⟩ fun B C hB => ?_; (try simp [*, -List.all_eq_true, Tryz.results5]); (try (simp (disch := first | assumption | omega) only [wc, ite_yes]; (try simp [*, -List.all_eq_true, Tryz.results5]))); first | (first | refine hB.out.1 _ (fun hb => ?_) fun hb => ⟨rfl, ?_⟩ | refine hB.out.1 _ (fun hb => ?_) fun hb => ?_) <;> clear hB C B <;> (try simp only [Bool.not_true, Bool.not_false] at hb) <;> (first | (exfalso; simp at hb; done) | (exfalso; simp at hb; omega) | (rw [hb]; (try simp at hb)) | (try simp at hb)) | ((first | refine hB.out.1 _ _ ?_ | refine hB.out.1 _ ?_ | refine hB.out.2 ⟨rfl, ?_⟩); clear hB C B) | (refine hB.out.2 _ ?_; clear hB C B; (try rfl)))
         | refine rwf_o ?_ | refine rwc_o .n rfl ?_ | refine rwc_o .z rfl ?_ | refine rwc_o .w rfl ?_ | refine rwc_o .b rfl ?_ | refine rwc_o _ rfl ?_)
        refine tri_for [0, 3] rs[k].length (fun k_ e σ => σ = [] ∧ e 4 = .sc (.int .i64 k_) ∧ (rs[k].take k_).any bigG = false) ?_ (fun j env' σ' hlt hk hI => ?_) (fun env' σ' hk hI => ?_)
        · exact ⟨by simp, by simp, by simp⟩
        · skip
          (try simp at hk)
          obtain ⟨rfl, h4, hc⟩ := hI
          have hm := flatM_seg rs[k] j hlt
          have h1 := flatM_1 rs[k] j hlt
          have h2 := flatM_2 rs[k] j hlt
          cases hbg : bigG rs[k][j] with
          | true =>
            rw [hy.out (.inr (List.any_eq_true.2 ⟨_, List.getElem_mem hlt, hbg⟩))]
            simp [bigG] at hbg
            by_cases hk1 : 512 < rs[k][j].key.size
            · skip
              repeat' (first
               | (with_reducible first | refine Stp.pf ?_ | refine block_x (by decide) ?_ | refine ret_n ?_)
               | refine tri_reg [] ?_ | refine tri_regc [] [] mixed (by decide +kernel) ?_
               | (refine rwf_nilt rfl (by decide +kernel) fun B hB => ?_; (try simp [*]); refine hB.out _ fun b => ?_; clear hB B)
               | (refine Rul.pf ⟨rfl, rfl⟩ fun B C hB => ?_; (try simp [*, -List.all_eq_true, Tryz.results5]); (try (simp (disch := first | assumption | omega) only [wc, ite_yes]; (try simp [*, -List.all_eq_true, Tryz.results5]))); first | (first | refine hB.out.1 _ (fun hb => ?_) fun hb => ⟨rfl, ?_⟩ | refine hB.out.1 _ (fun hb => ?_) fun hb => ?_) <;> clear hB C B <;> (try simp only [Bool.not_true, Bool.not_false] at hb) <;> (first | (exfalso; simp at hb; done) | (exfalso; simp at hb; omega) | (rw [hb]; (try simp at hb)) | (try simp at hb)) | ((first | refine hB.out.1 _ _ ?_ | refine hB.out.1 _ ?_ | refine hB.out.2 ⟨rfl, ?_⟩); clear hB C B) | (refine hB.out.2 _ ?_; clear hB C B; (try rfl)))
               | refine rwf_o ?_ | refine rwc_o .n rfl ?_ | refine rwc_o .z rfl ?_ | refine rwc_o .w rfl ?_ | refine rwc_o .b rfl ?_ | refine rwc_o _ rfl ?_)
            · have hk2 : 512 < rs[k][j].val.size := by omega
              repeat' (first
               | (with_reducible first | refine Stp.pf ?_ | refine block_x (by decide) ?_ | refine ret_n ?_)
               | refine tri_reg [] ?_ | refine tri_regc [] [] mixed (by decide +kernel) ?_
               | (refine rwf_nilt rfl (by decide +kernel) fun B hB => ?_; (try simp [*]); refine hB.out _ fun b => ?_; clear hB B)
               | (refine Rul.pf ⟨rfl, rfl⟩ fun B C hB => ?_; (try simp [*, -List.all_eq_true, Tryz.results5]); (try (simp (disch := first | assumption | omega) only [wc, ite_yes]; (try simp [*, -List.all_eq_true, Tryz.results5]))); first | (first | refine hB.out.1 _ (fun hb => ?_) fun hb => ⟨rfl, ?_⟩ | refine hB.out.1 _ (fun hb => ?_) fun hb => ?_) <;> clear hB C B <;> (try simp only [Bool.not_true, Bool.not_false] at hb) <;> (first | (exfalso; simp at hb; done) | (exfalso; simp at hb; omega) | (rw [hb]; (try simp at hb)) | (try simp at hb)) | ((first | refine hB.out.1 _ _ ?_ | refine hB.out.1 _ ?_ | refine hB.out.2 ⟨rfl, ?_⟩); clear hB C B) | (refine hB.out.2 _ ?_; clear hB C B; (try rfl)))
               | refine rwf_o ?_ | refine rwc_o .n rfl ?_ | refine rwc_o .z rfl ?_ | refine rwc_o .w rfl ?_ | refine rwc_o .b rfl ?_ | refine rwc_o _ rfl ?_)
          | false =>
            simp [bigG] at hbg
            obtain ⟨hk1, hk2⟩ := hbg
            repeat' (first
             | (with_reducible first | refine Stp.pf ?_ | refine block_x (by decide) ?_ | refine ret_n ?_)
             | refine tri_reg [] ?_ | refine tri_regc [] [] mixed (by decide +kernel) ?_
             | (refine rwf_nilt rfl (by decide +kernel) fun B hB => ?_; (try simp [*]); refine hB.out _ fun b => ?_; clear hB B)
             | (refine Rul.pf ⟨rfl, rfl⟩ fun B C hB => ?_; (try simp [*, -List.all_eq_true, Tryz.results5]); (try (simp (disch := first | assumption | omega) only [wc, ite_yes]; (try simp [*, -List.all_eq_true, Tryz.results5]))); first | (first | refine hB.out.1 _ (fun hb => ?_) fun hb => ⟨rfl, ?_⟩ | refine hB.out.1 _ (fun hb => ?_) fun hb => ?_) <;> clear hB C B <;> (try simp only [Bool.not_true, Bool.not_false] at hb) <;> (first | (exfalso; simp at hb; done) | (exfalso; simp at hb; omega) | (rw [hb]; (try simp at hb)) | (try simp at hb)) | ((first | refine hB.out.1 _ _ ?_ | refine hB.out.1 _ ?_ | refine hB.out.2 ⟨rfl, ?_⟩); clear hB C B) | (refine hB.out.2 _ ?_; clear hB C B; (try rfl)))
             | refine rwf_o ?_ | refine rwc_o .n rfl ?_ | refine rwc_o .z rfl ?_ | refine rwc_o .w rfl ?_ | refine rwc_o .b rfl ?_ | refine rwc_o _ rfl ?_)
            exact ⟨by simp [*], rfl, by simp, by rw [List.take_add_one, List.getElem?_eq_getElem hlt, List.any_append, hc]; simp [bigG]; omega⟩
        · skip
          (try simp at hk)
          obtain ⟨rfl, h4, hc⟩ := hI
          rw [List.take_length] at hc
          have hs := hs.out (by omega) hc
          repeat' (first
           | (with_reducible first | refine Stp.pf ?_ | refine block_x (by decide) ?_ | refine ret_n ?_)
           | refine tri_reg [] ?_ | refine tri_regc [] [] mixed (by decide +kernel) ?_
           | (refine rwf_nilt rfl (by decide +kernel) fun B hB => ?_; (try simp [*]); refine hB.out _ fun b => ?_; clear hB B)
           | (refine Rul.pf ⟨rfl, rfl⟩ fun B C hB => ?_; (try simp [*, -List.all_eq_true, Tryz.results5]); (try (simp (disch := first | assumption | omega) only [wc, ite_yes]; (try simp [*, -List.all_eq_true, Tryz.results5]))); first | (first | refine hB.out.1 _ (fun hb => ?_) fun hb => ⟨rfl, ?_⟩ | refine hB.out.1 _ (fun hb => ?_) fun hb => ?_) <;> clear hB C B <;> (try simp only [Bool.not_true, Bool.not_false] at hb) <;> (first | (exfalso; simp at hb; done) | (exfalso; simp at hb; omega) | (rw [hb]; (try simp at hb)) | (try simp at hb)) | ((first | refine hB.out.1 _ _ ?_ | refine hB.out.1 _ ?_ | refine hB.out.2 ⟨rfl, ?_⟩); clear hB C B) | (refine hB.out.2 _ ?_; clear hB C B; (try rfl)))
           | refine rwf_o ?_ | refine rwc_o .n rfl ?_ | refine rwc_o .z rfl ?_ | refine rwc_o .w rfl ?_ | refine rwc_o .b rfl ?_ | refine rwc_o _ rfl ?_)
          exact ⟨by simp [*], rfl, by simp, hs⟩
    · rw [List.take_of_length_le (by omega)] at ha
      repeat' (first
       | (with_reducible first | refine Stp.pf ?_ | refine block_x (by decide) ?_ | refine ret_n ?_)
       | refine tri_reg [] ?_ | refine tri_regc [] [] mixed (by decide +kernel) ?_
       | (refine rwf_nilt rfl (by decide +kernel) fun B hB => ?_; (try simp [*]); refine hB.out _ fun b => ?_; clear hB B)
       | (refine Rul.pf ⟨rfl, rfl⟩ fun B C hB => ?_; (try simp [*, -List.all_eq_true, Tryz.results5]); (try (simp (disch := first | assumption | omega) only [wc, ite_yes]; (try simp [*, -List.all_eq_true, Tryz.results5]))); first | (first | refine hB.out.1 _ (fun hb => ?_) fun hb => ⟨rfl, ?_⟩ | refine hB.out.1 _ (fun hb => ?_) fun hb => ?_) <;> clear hB C B <;> (try simp only [Bool.not_true, Bool.not_false] at hb) <;> (first | (exfalso; simp at hb; done) | (exfalso; simp at hb; omega) | (rw [hb]; (try simp at hb)) | (try simp at hb)) | ((first | refine hB.out.1 _ _ ?_ | refine hB.out.1 _ ?_ | refine hB.out.2 ⟨rfl, ?_⟩); clear hB C B) | (refine hB.out.2 _ ?_; clear hB C B; (try rfl)))
       | refine rwf_o ?_ | refine rwc_o .n rfl ?_ | refine rwc_o .z rfl ?_ | refine rwc_o .w rfl ?_ | refine rwc_o .b rfl ?_ | refine rwc_o _ rfl ?_)
      simp [greatM, List.take_of_length_le (show rs.length ≤ 11 by omega), ha]
      omega
  · skip
    (try simp at hk)
    obtain ⟨rfl, h3, ha⟩ := hI
    by_cases hl2 : 11 < rs.length
    · skip
      repeat' (first
       | (with_reducible first | refine Stp.pf ?_ | refine block_x (by decide) ?_ | refine ret_n ?_)
       | refine tri_reg [] ?_ | refine tri_regc [] [] mixed (by decide +kernel) ?_
       | (refine rwf_nilt rfl (by decide +kernel) fun B hB => ?_; (try simp [*]); refine hB.out _ fun b => ?_; clear hB B)
       | (refine Rul.pf ⟨rfl, rfl⟩ fun B C hB => ?_; (try simp [*, -List.all_eq_true, Tryz.results5]); (try (simp (disch := first | assumption | omega) only [wc, ite_yes]; (try simp [*, -List.all_eq_true, Tryz.results5]))); first | (first | refine hB.out.1 _ (fun hb => ?_) fun hb => ⟨rfl, ?_⟩ | refine hB.out.1 _ (fun hb => ?_) fun hb => ?_) <;> clear hB C B <;> (try simp only [Bool.not_true, Bool.not_false] at hb) <;> (first | (exfalso; simp at hb; done) | (exfalso; simp at hb; omega) | (rw [hb]; (try simp at hb)) | (try simp at hb)) | ((first | refine hB.out.1 _ _ ?_ | refine hB.out.1 _ ?_ | refine hB.out.2 ⟨rfl, ?_⟩); clear hB C B) | (refine hB.out.2 _ ?_; clear hB C B; (try rfl)))
       | refine rwf_o ?_ | refine rwc_o .n rfl ?_ | refine rwc_o .z rfl ?_ | refine rwc_o .w rfl ?_ | refine rwc_o .b rfl ?_ | refine rwc_o _ rfl ?_)
      simp [greatM, ha]; omega
    · skip
      repeat' (first
       | (with_reducible first | refine Stp.pf ?_ | refine block_x (by decide) ?_ | refine ret_n ?_)
       | refine tri_reg [] ?_ | refine tri_regc [] [] mixed (by decide +kernel) ?_
       | (refine rwf_nilt rfl (by decide +kernel) fun B hB => ?_; (try simp [*]); refine hB.out _ fun b => ?_; clear hB B)
       | (refine Rul.pf ⟨rfl, rfl⟩ fun B C hB => ?_; (try simp [*, -List.all_eq_true, Tryz.results5]); (try (simp (disch := first | assumption | omega) only [wc, ite_yes]; (try simp [*, -List.all_eq_true, Tryz.results5]))); first | (first | refine hB.out.1 _ (fun hb => ?_) fun hb => ⟨rfl, ?_⟩ | refine hB.out.1 _ (fun hb => ?_) fun hb => ?_) <;> clear hB C B <;> (try simp only [Bool.not_true, Bool.not_false] at hb) <;> (first | (exfalso; simp at hb; done) | (exfalso; simp at hb; omega) | (rw [hb]; (try simp at hb)) | (try simp at hb)) | ((first | refine hB.out.1 _ _ ?_ | refine hB.out.1 _ ?_ | refine hB.out.2 ⟨rfl, ?_⟩); clear hB C B) | (refine hB.out.2 _ ?_; clear hB C B; (try rfl)))
       | refine rwf_o ?_ | refine rwc_o .n rfl ?_ | refine rwc_o .z rfl ?_ | refine rwc_o .w rfl ?_ | refine rwc_o .b rfl ?_ | refine rwc_o _ rfl ?_)
      simp [greatM, ha]; omega
end Go.Proofs.YtemijcjgdgdhjabGreat
