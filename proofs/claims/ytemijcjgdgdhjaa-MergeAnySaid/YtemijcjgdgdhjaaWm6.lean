/- Merging: the reference; the law's guard. -/
import Derived.Test.YtemijcjgdgdhjaaWm5
namespace Go.Proofs.Ytemijcjgdgdhjaa
open Go.RowKit
set_option linter.unusedSimpArgs false
set_option maxRecDepth 10000

/-- All runs, as the reference has them. -/
def foldR (rs : List (List Msg)) : List Msg := rs.foldl withM []
theorem foldR_succ {rs : List (List Msg)} {k : Nat} (h : k < rs.length) : foldR (rs.take (k + 1)) = withM (foldR (rs.take k)) rs[k] := by
  unfold foldR
  rw [List.take_add_one, List.getElem?_eq_getElem h, List.foldl_append]
  rfl
def lenU (rs : List (List Msg)) : Nat := (rs.map List.length).sum
theorem lenU_succ {rs : List (List Msg)} {k : Nat} (h : k < rs.length) : lenU (rs.take (k + 1)) = lenU (rs.take k) + rs[k].length := by
  unfold lenU
  rw [List.take_add_one, List.getElem?_eq_getElem h, List.map_append, List.sum_append]
  simp
theorem lenU_le (rs : List (List Msg)) (hn : ∀ l ∈ rs, l.length ≤ 30) : ∀ k, lenU (rs.take k) ≤ 30 * k
  | 0 => by simp [lenU]
  | k + 1 => by
    have ih := lenU_le rs hn k
    rcases Nat.lt_or_ge k rs.length with h | h
    · have := hn _ (List.getElem_mem h)
      rw [lenU_succ h]; omega
    · rw [List.take_of_length_le (by omega)] at ih ⊢; omega
theorem rMsgs13_spec (rs : List (List Msg)) (hl : rs.length ≤ 1000) (hn : ∀ l ∈ rs, l.length ≤ 30) (hv : ∀ l ∈ rs, ∀ x ∈ l, isMsg x = true) : PSpec Try.prog 37 [.fs (flatX rs) rs.length] (.fs (flatM (foldR rs)) (foldR rs).length) := by
  refine spec_pure (by simp) (by simp) ?_
  refine spec_intro Try.func37 good37 rfl (by simp [Try.ntmps37]) ?_
  repeat' (first
   | (with_reducible first | refine Stp.pf ?_ | refine block_x (by decide) ?_ | refine ret_n ?_)
   | refine tri_reg [] ?_ | refine tri_regc [] [] mixed (by decide +kernel) ?_
   | (refine rwf_nilt rfl (by decide +kernel) fun B hB => ?_; (try simp [*]); refine hB.out _ fun b => ?_; clear hB B)
   | (refine Rul.pf ⟨rfl, rfl⟩ fun B C hB => ?_; (try simp [*, -List.all_eq_true, Try.results37]); (try (simp (disch := first | assumption | omega) only [wc, ite_yes]; (try simp [*, -List.all_eq_true, Try.results37]))); first | (first | refine hB.out.1 _ (fun hb => ?_) fun hb => ⟨rfl, ?_⟩ | refine hB.out.1 _ (fun hb => ?_) fun hb => ?_) <;> clear hB C B <;> (try simp only [Bool.not_true, Bool.not_false] at hb) <;> (first | (exfalso; simp at hb; done) | (exfalso; simp at hb; omega) | (rw [hb]; (try simp at hb)) | (try simp at hb)) | ((first | refine hB.out.1 _ _ ?_ | refine hB.out.1 _ ?_ | refine hB.out.2 ⟨rfl, ?_⟩); clear hB C B) | (refine hB.out.2 _ ?_; clear hB C B; (try rfl)))
   | refine rwf_o ?_ | refine rwc_o .n rfl ?_ | refine rwc_o .z rfl ?_ | refine rwc_o .w rfl ?_ | refine rwc_o .b rfl ?_ | refine rwc_o _ rfl ?_)
  refine tri_for [0, 2] rs.length (fun k e σ => σ = [] ∧ e 4 = .sc (.int .i64 k) ∧ e 3 = .fs (flatM (foldR (rs.take k))) (foldR (rs.take k)).length ∧ Rise (foldR (rs.take k)) ∧ (∀ x ∈ foldR (rs.take k), isMsg x = true) ∧ (foldR (rs.take k)).length ≤ lenU (rs.take k)) ?_ (fun k env' σ' hlt hk hI => ?_) (fun env' σ' hk hI => ?_)
  · exact ⟨by simp, by simp, by simp [foldR, flatM, flatC], rise_nil, by simp [foldR], by simp [foldR]⟩
  · skip
    (try simp at hk)
    obtain ⟨rfl, h4, h3, i1, i2, i3⟩ := hI
    have hlk := lenU_le rs hn k
    have hnk := hn _ (List.getElem_mem hlt)
    have hvk := hv _ (List.getElem_mem hlt)
    have hs1 := foldR_succ hlt
    have hs2 := lenU_succ hlt
    have hw := rWith_spec (foldR (rs.take k)) rs[k] (by omega) i1 i2
    have hall : rs[k].all isMsg = true := List.all_eq_true.2 hvk
    unfold rwithR at hw
    rw [if_pos hall, ← hs1] at hw
    obtain ⟨w1, w2, w3⟩ := withM_ok rs[k] _ i1 i2 hvk
    rw [← hs1] at w1 w2 w3
    have w4 : (foldR (rs.take (k + 1))).length ≤ lenU (rs.take (k + 1)) := by rw [hs2]; omega
    clear hs1 hs2
    repeat' (first
     | (with_reducible first | refine Stp.pf ?_ | refine block_x (by decide) ?_ | refine ret_n ?_)
     | refine tri_reg [] ?_ | refine tri_regc [] [] mixed (by decide +kernel) ?_
     | (refine rwf_nilt rfl (by decide +kernel) fun B hB => ?_; (try simp [*]); refine hB.out _ fun b => ?_; clear hB B)
     | (refine Rul.pf ⟨rfl, rfl⟩ fun B C hB => ?_; (try simp [*, -List.all_eq_true, Try.results37]); (try (simp (disch := first | assumption | omega) only [wc, ite_yes]; (try simp [*, -List.all_eq_true, Try.results37]))); first | (first | refine hB.out.1 _ (fun hb => ?_) fun hb => ⟨rfl, ?_⟩ | refine hB.out.1 _ (fun hb => ?_) fun hb => ?_) <;> clear hB C B <;> (try simp only [Bool.not_true, Bool.not_false] at hb) <;> (first | (exfalso; simp at hb; done) | (exfalso; simp at hb; omega) | (rw [hb]; (try simp at hb)) | (try simp at hb)) | ((first | refine hB.out.1 _ _ ?_ | refine hB.out.1 _ ?_ | refine hB.out.2.1 _ _ _ (hw) ?_ | refine hB.out.2.2 _ _ _ (hw) ?_ | refine hB.out.2 ⟨rfl, ?_⟩); clear hB C B) | (refine hB.out.2 _ ?_; clear hB C B; (try rfl)))
     | refine rwf_o ?_ | refine rwc_o .n rfl ?_ | refine rwc_o .z rfl ?_ | refine rwc_o .w rfl ?_ | refine rwc_o .b rfl ?_ | refine rwc_o _ rfl ?_)
    exact ⟨by simp [*], rfl, by simp, by simp, w1, w2, w4⟩
  · skip
    (try simp at hk)
    obtain ⟨rfl, h4, h3, i1, i2, i3⟩ := hI
    rw [List.take_length] at h3
    repeat' (first
     | (with_reducible first | refine Stp.pf ?_ | refine block_x (by decide) ?_ | refine ret_n ?_)
     | refine tri_reg [] ?_ | refine tri_regc [] [] mixed (by decide +kernel) ?_
     | (refine rwf_nilt rfl (by decide +kernel) fun B hB => ?_; (try simp [*]); refine hB.out _ fun b => ?_; clear hB B)
     | (refine Rul.pf ⟨rfl, rfl⟩ fun B C hB => ?_; (try simp [*, -List.all_eq_true, Try.results37]); (try (simp (disch := first | assumption | omega) only [wc, ite_yes]; (try simp [*, -List.all_eq_true, Try.results37]))); first | (first | refine hB.out.1 _ (fun hb => ?_) fun hb => ⟨rfl, ?_⟩ | refine hB.out.1 _ (fun hb => ?_) fun hb => ?_) <;> clear hB C B <;> (try simp only [Bool.not_true, Bool.not_false] at hb) <;> (first | (exfalso; simp at hb; done) | (exfalso; simp at hb; omega) | (rw [hb]; (try simp at hb)) | (try simp at hb)) | ((first | refine hB.out.1 _ _ ?_ | refine hB.out.1 _ ?_ | refine hB.out.2 ⟨rfl, ?_⟩); clear hB C B) | (refine hB.out.2 _ ?_; clear hB C B; (try rfl)))
     | refine rwf_o ?_ | refine rwc_o .n rfl ?_ | refine rwc_o .z rfl ?_ | refine rwc_o .w rfl ?_ | refine rwc_o .b rfl ?_ | refine rwc_o _ rfl ?_)
end Go.Proofs.Ytemijcjgdgdhjaa
