/- The law LeafExact. -/
import Derived.Test.YtemijcjgdgdhjaaGreatEj
import Derived.Test.YtemijcjgdgdhjaaGreatWmh
import Derived.Test.YtemijcjgdgdhjaaGreatWg
namespace Go.Proofs.YtemijcjgdgdhjaaGreat
open Go.RowKit
set_option linter.unusedSimpArgs false
set_option maxRecDepth 10000
theorem rW09_spec (l : List Item) (hl : l.length ≤ 900000) (hs : ISmall l) : PSpec Tryz.prog 18 [.fs (flatI l) l.length] (.sc (.int .i64 (iwts l))) := by
  have hw : ∀ k, 0 ≤ iwts (l.take k) ∧ iwts (l.take k) ≤ 2000002 * l.length := fun k => by
    have := iwts_bd (l.take k) fun x hx => hs x (List.mem_of_mem_take hx)
    have h2 : (l.take k).length ≤ l.length := by simp; omega
    omega
  replace hs := Lib.hid hs
  replace hw := Lib.hid hw
  refine spec_pure (by simp) (by simp) ?_
  refine spec_intro Tryz.func18 good18 rfl (by simp [Tryz.ntmps18]) ?_
  repeat' (first
   | (with_reducible first | refine Stp.pf ?_ | refine block_x (by decide) ?_ | refine ret_n ?_)
   | refine tri_reg [] ?_ | refine tri_regc [] [] mixed (by decide +kernel) ?_
   | (refine rwf_nilt rfl (by decide +kernel) fun B hB => ?_; (try simp [*]); refine hB.out _ fun b => ?_; clear hB B)
   | (refine Rul.pf ⟨rfl, rfl⟩ fun B C hB => ?_; (try simp [*, -List.all_eq_true, Tryz.results18]); (try (simp (disch := first | assumption | omega) only [wc, ite_yes]; (try simp [*, -List.all_eq_true, Tryz.results18]))); first | (first | refine hB.out.1 _ (fun hb => ?_) fun hb => ⟨rfl, ?_⟩ | refine hB.out.1 _ (fun hb => ?_) fun hb => ?_) <;> clear hB C B <;> (try simp only [Bool.not_true, Bool.not_false] at hb) <;> (first | (exfalso; simp at hb; done) | (exfalso; simp at hb; omega) | (rw [hb]; (try simp at hb)) | (try simp at hb)) | ((first | refine hB.out.1 _ _ ?_ | refine hB.out.1 _ ?_ | refine hB.out.2 ⟨rfl, ?_⟩); clear hB C B) | (refine hB.out.2 _ ?_; clear hB C B; (try rfl)))
   | refine rwf_o ?_ | refine rwc_o .n rfl ?_ | refine rwc_o .z rfl ?_ | refine rwc_o .w rfl ?_ | refine rwc_o .b rfl ?_ | refine rwc_o _ rfl ?_)
  refine tri_for [0, 2] l.length (fun k e σ => σ = [] ∧ e 4 = .sc (.int .i64 k) ∧ e 3 = .sc (.int .i64 (iwts (l.take k)))) ?_ (fun k env' σ' hlt hk hI => ?_) (fun env' σ' hk hI => ?_)
  · exact ⟨by simp, by simp, by simp [iwts]⟩
  · skip
    (try simp at hk)
    obtain ⟨rfl, h4, h3⟩ := hI
    have hm := hs.out l[k] (List.getElem_mem hlt)
    have h0 := hw.out k
    have h2 := iwts_take l k l[k] (List.getElem?_eq_getElem hlt)
    have h5 : iwt l[k] = 2 + (l[k].key.size : Int) + (l[k].val.size : Int) := rfl
    rw [h2, h5]
    generalize iwts (l.take k) = W0 at *
    repeat' (first
     | (with_reducible first | refine Stp.pf ?_ | refine block_x (by decide) ?_ | refine ret_n ?_)
     | refine tri_reg [] ?_ | refine tri_regc [] [] mixed (by decide +kernel) ?_
     | (refine rwf_nilt rfl (by decide +kernel) fun B hB => ?_; (try simp [*]); refine hB.out _ fun b => ?_; clear hB B)
     | (refine Rul.pf ⟨rfl, rfl⟩ fun B C hB => ?_; (try simp [*, -List.all_eq_true, Tryz.results18]); (try (simp (disch := first | assumption | omega) only [wc, ite_yes]; (try simp [*, -List.all_eq_true, Tryz.results18]))); first | (first | refine hB.out.1 _ (fun hb => ?_) fun hb => ⟨rfl, ?_⟩ | refine hB.out.1 _ (fun hb => ?_) fun hb => ?_) <;> clear hB C B <;> (try simp only [Bool.not_true, Bool.not_false] at hb) <;> (first | (exfalso; simp at hb; done) | (exfalso; simp at hb; omega) | (rw [hb]; (try simp at hb)) | (try simp at hb)) | ((first | refine hB.out.1 _ _ ?_ | refine hB.out.1 _ ?_ | refine hB.out.2 ⟨rfl, ?_⟩); clear hB C B) | (refine hB.out.2 _ ?_; clear hB C B; (try rfl)))
     | refine rwf_o ?_ | refine rwc_o .n rfl ?_ | refine rwc_o .z rfl ?_ | refine rwc_o .w rfl ?_ | refine rwc_o .b rfl ?_ | refine rwc_o _ rfl ?_)
    exact ⟨by simp [*], rfl, by simp, by simp; omega⟩
  · skip
    (try simp at hk)
    obtain ⟨rfl, h4, h3⟩ := hI
    repeat' (first
     | (with_reducible first | refine Stp.pf ?_ | refine block_x (by decide) ?_ | refine ret_n ?_)
     | refine tri_reg [] ?_ | refine tri_regc [] [] mixed (by decide +kernel) ?_
     | (refine rwf_nilt rfl (by decide +kernel) fun B hB => ?_; (try simp [*]); refine hB.out _ fun b => ?_; clear hB B)
     | (refine Rul.pf ⟨rfl, rfl⟩ fun B C hB => ?_; (try simp [*, -List.all_eq_true, Tryz.results18]); (try (simp (disch := first | assumption | omega) only [wc, ite_yes]; (try simp [*, -List.all_eq_true, Tryz.results18]))); first | (first | refine hB.out.1 _ (fun hb => ?_) fun hb => ⟨rfl, ?_⟩ | refine hB.out.1 _ (fun hb => ?_) fun hb => ?_) <;> clear hB C B <;> (try simp only [Bool.not_true, Bool.not_false] at hb) <;> (first | (exfalso; simp at hb; done) | (exfalso; simp at hb; omega) | (rw [hb]; (try simp at hb)) | (try simp at hb)) | ((first | refine hB.out.1 _ _ ?_ | refine hB.out.1 _ ?_ | refine hB.out.2 ⟨rfl, ?_⟩); clear hB C B) | (refine hB.out.2 _ ?_; clear hB C B; (try rfl)))
     | refine rwf_o ?_ | refine rwc_o .n rfl ?_ | refine rwc_o .z rfl ?_ | refine rwc_o .w rfl ?_ | refine rwc_o .b rfl ?_ | refine rwc_o _ rfl ?_)
theorem rWithin09_spec (l : List Item) (hl : l.length ≤ 900000) (lo hi : Str) : PSpec Tryz.prog 20 [.fs (flatI l) l.length, .agg [.sc (.string lo), .sc (.string hi)]] (.fs (flatI (withinI l lo hi)) (withinI l lo hi).length) := by
  have hlen : ∀ k, (withinI (l.take k) lo hi).length ≤ l.length := fun k => by
    have := withinI_len (l.take k) lo hi
    rw [List.length_take] at this
    omega
  replace hlen := Lib.hid hlen
  refine spec_pureFW (by simp) ?_
  refine spec_intro Tryz.func20 good20 rfl (by simp [Tryz.ntmps20]) ?_
  repeat' (first
   | (with_reducible first | refine Stp.pf ?_ | refine block_x (by decide) ?_ | refine ret_n ?_)
   | refine tri_reg [7,26,27] ?_ | refine tri_regc [7,26,27] [] mixed (by decide +kernel) ?_
   | (refine rwf_nilt rfl (by decide +kernel) fun B hB => ?_; (try simp [*]); refine hB.out _ fun b => ?_; clear hB B)
   | (refine Rul.pf ⟨rfl, rfl⟩ fun B C hB => ?_; (try simp [*, -List.all_eq_true, Tryz.results20]); (try (simp (disch := first | assumption | omega) only [wc, ite_yes]; (try simp [*, -List.all_eq_true, Tryz.results20]))); first | (first | refine hB.out.1 _ (fun hb => ?_) fun hb => ⟨rfl, ?_⟩ | refine hB.out.1 _ (fun hb => ?_) fun hb => ?_) <;> clear hB C B <;> (try simp only [Bool.not_true, Bool.not_false] at hb) <;> (first | (exfalso; simp at hb; done) | (exfalso; simp at hb; omega) | (rw [hb]; (try simp at hb)) | (try simp at hb)) | ((first | refine hB.out.1 _ _ ?_ | refine hB.out.1 _ ?_ | refine hB.out.2 ⟨rfl, ?_⟩); clear hB C B) | (refine hB.out.2 _ ?_; clear hB C B; (try rfl)))
   | refine rwf_o ?_ | refine rwc_o .n rfl ?_ | refine rwc_o .z rfl ?_ | refine rwc_o .w rfl ?_ | refine rwc_o .b rfl ?_ | refine rwc_o _ rfl ?_)
  refine tri_for [0, 3, 4] l.length (fun k e σ => e 6 = .sc (.int .i64 k) ∧ ∃ v, e 5 = v ∧ Own 2 σ v (withinI (l.take k) lo hi).length (flatI (withinI (l.take k) lo hi))) ?_ (fun k env' σ' hlt hk hI => ?_) (fun env' σ' hk hI => ?_)
  · exact ⟨by simp, _, by simp; rfl, by simpa [withinI, flatI, flatC] using Own.new 2 []⟩
  · skip
    (try simp at hk)
    obtain ⟨h6, v, h5, o1⟩ := hI
    have sg := flatI_seg l k hlt
    have hs := withinI_succ (lo := lo) (hi := hi) hlt
    have hl1 := hlen.out k
    have hh := rHas_spec lo hi l[k].key
    rw [hs]
    cases hq : hasM lo hi l[k].key with
    | false =>
      rw [hq] at hh
      rw [if_neg (by simp)]
      clear hs hq
      generalize withinI (l.take k) lo hi = W at *
      repeat' (first
       | (with_reducible first | refine Stp.pf ?_ | refine block_x (by decide) ?_ | refine ret_n ?_)
       | refine tri_reg [7,26,27] ?_ | refine tri_regc [7,26,27] [] mixed (by decide +kernel) ?_
       | (refine rwf_nilt rfl (by decide +kernel) fun B hB => ?_; (try simp [*]); refine hB.out _ fun b => ?_; clear hB B)
       | (refine Rul.pf ⟨rfl, rfl⟩ fun B C hB => ?_; (try simp [*, -List.all_eq_true, Tryz.results20]); (try (simp (disch := first | assumption | omega) only [wc, ite_yes]; (try simp [*, -List.all_eq_true, Tryz.results20]))); first | (first | refine hB.out.1 _ (fun hb => ?_) fun hb => ⟨rfl, ?_⟩ | refine hB.out.1 _ (fun hb => ?_) fun hb => ?_) <;> clear hB C B <;> (try simp only [Bool.not_true, Bool.not_false] at hb) <;> (first | (exfalso; simp at hb; done) | (exfalso; simp at hb; omega) | (rw [hb]; (try simp at hb)) | (try simp at hb)) | ((first | refine hB.out.1 _ _ ?_ | refine hB.out.1 _ ?_ | refine hB.out.2.1 _ _ _ (hh) ?_ | refine hB.out.2.2 _ _ _ (hh) ?_ | refine hB.out.2 ⟨rfl, ?_⟩); clear hB C B) | (refine hB.out.2 _ ?_; clear hB C B; (try rfl)))
       | refine rwf_o ?_ | refine rwc_o .n rfl ?_ | refine rwc_o .z rfl ?_ | refine rwc_o .w rfl ?_ | refine rwc_o .b rfl ?_ | refine rwc_o _ rfl ?_)
      exact ⟨by simp [*], by simp, v, by simp [*], o1⟩
    | true =>
      rw [hq] at hh
      rw [if_pos rfl]
      clear hs hq
      generalize withinI (l.take k) lo hi = W at *
      repeat' (first
       | (with_reducible first | refine Stp.pf ?_ | refine block_x (by decide) ?_ | refine ret_n ?_)
       | refine tri_reg [7,27] ?_ | refine tri_regc [7,27] [] mixed (by decide +kernel) ?_
       | (refine rwf_nilt rfl (by decide +kernel) fun B hB => ?_; (try simp [*]); refine hB.out _ fun b => ?_; clear hB B)
       | (refine Rul.pf ⟨rfl, rfl⟩ fun B C hB => ?_; (try simp [*, -List.all_eq_true, Tryz.results20]); (try (simp (disch := first | assumption | omega) only [wc, ite_yes]; (try simp [*, -List.all_eq_true, Tryz.results20]))); first | (first | refine hB.out.1 _ (fun hb => ?_) fun hb => ⟨rfl, ?_⟩ | refine hB.out.1 _ (fun hb => ?_) fun hb => ?_) <;> clear hB C B <;> (try simp only [Bool.not_true, Bool.not_false] at hb) <;> (first | (exfalso; simp at hb; done) | (exfalso; simp at hb; omega) | (rw [hb]; (try simp at hb)) | (try simp at hb)) | ((first | refine hB.out.1 _ _ ?_ | refine hB.out.1 _ ?_ | refine hB.out.2.1 _ _ _ (hh) ?_ | refine hB.out.2.2 _ _ _ (hh) ?_ | refine hB.out.2 ⟨rfl, ?_⟩); clear hB C B) | (refine hB.out.2 _ ?_; clear hB C B; (try rfl)))
       | refine rwf_o ?_ | refine rwc_o .n rfl ?_ | refine rwc_o .z rfl ?_ | refine rwc_o .w rfl ?_ | refine rwc_o .b rfl ?_ | refine rwc_o _ rfl ?_)
      refine rwf_app rfl rfl elem22 zero46 rfl bytes46 (by decide) slc22 fun G hG => ?_
      (try simp [*, -List.all_eq_true])
      refine hG.out _ _ _ _ _ (o1) (by simp) (by simp) (by omega) fun v1 σ1 q1 q2 => ?_
      clear hG G
      repeat' (first
       | (with_reducible first | refine Stp.pf ?_ | refine block_x (by decide) ?_ | refine ret_n ?_)
       | refine tri_reg [7,27] ?_ | refine tri_regc [7,27] [] mixed (by decide +kernel) ?_
       | (refine rwf_nilt rfl (by decide +kernel) fun B hB => ?_; (try simp [*]); refine hB.out _ fun b => ?_; clear hB B)
       | (refine Rul.pf ⟨rfl, rfl⟩ fun B C hB => ?_; (try simp [*, -List.all_eq_true, Tryz.results20]); (try (simp (disch := first | assumption | omega) only [wc, ite_yes]; (try simp [*, -List.all_eq_true, Tryz.results20]))); first | (first | refine hB.out.1 _ (fun hb => ?_) fun hb => ⟨rfl, ?_⟩ | refine hB.out.1 _ (fun hb => ?_) fun hb => ?_) <;> clear hB C B <;> (try simp only [Bool.not_true, Bool.not_false] at hb) <;> (first | (exfalso; simp at hb; done) | (exfalso; simp at hb; omega) | (rw [hb]; (try simp at hb)) | (try simp at hb)) | ((first | refine hB.out.1 _ _ ?_ | refine hB.out.1 _ ?_ | refine hB.out.2 ⟨rfl, ?_⟩); clear hB C B) | (refine hB.out.2 _ ?_; clear hB C B; (try rfl)))
       | refine rwf_o ?_ | refine rwc_o .n rfl ?_ | refine rwc_o .z rfl ?_ | refine rwc_o .w rfl ?_ | refine rwc_o .b rfl ?_ | refine rwc_o _ rfl ?_)
      exact ⟨by simp [*], by simp, v1, by simp, by simpa [flatI_append, flatI, flatC] using q1⟩
  · skip
    (try simp at hk)
    obtain ⟨h6, v, h5, o1⟩ := hI
    rw [List.take_length] at *
    repeat' (first
     | (with_reducible first | refine Stp.pf ?_ | refine block_x (by decide) ?_ | refine ret_n ?_)
     | refine tri_reg [7,27] ?_ | refine tri_regc [7,27] [] mixed (by decide +kernel) ?_
     | (refine rwf_nilt rfl (by decide +kernel) fun B hB => ?_; (try simp [*]); refine hB.out _ fun b => ?_; clear hB B)
     | (refine Rul.pf ⟨rfl, rfl⟩ fun B C hB => ?_; (try simp [*, -List.all_eq_true, Tryz.results20]); (try (simp (disch := first | assumption | omega) only [wc, ite_yes]; (try simp [*, -List.all_eq_true, Tryz.results20]))); first | (first | refine hB.out.1 _ (fun hb => ?_) fun hb => ⟨rfl, ?_⟩ | refine hB.out.1 _ (fun hb => ?_) fun hb => ?_) <;> clear hB C B <;> (try simp only [Bool.not_true, Bool.not_false] at hb) <;> (first | (exfalso; simp at hb; done) | (exfalso; simp at hb; omega) | (rw [hb]; (try simp at hb)) | (try simp at hb)) | ((first | refine hB.out.1 _ _ ?_ | refine hB.out.1 _ ?_ | refine hB.out.2 ⟨rfl, ?_⟩); clear hB C B) | (refine hB.out.2 _ ?_; clear hB C B; (try rfl)))
     | refine rwf_o ?_ | refine rwc_o .n rfl ?_ | refine rwc_o .z rfl ?_ | refine rwc_o .w rfl ?_ | refine rwc_o .b rfl ?_ | refine rwc_o _ rfl ?_)
    exact out_own o1 (by simp)
theorem lowK_at {l : List Item} (h : 0 < l.length) : lowK l = l[0].key := by cases l with
  | nil => simp at h
  | cons y b => rfl
theorem leaf_all (l : List Item) : leafR l = .tup [.sc (.pointer none), .sc (.int .i64 1)] ∧ ofR l = .tup [.sc (.slice none 0 0), .sc (.int .i64 1)] ∨ leafR l = .tup [.sc (.pointer none), .sc (.int .i64 11)] ∧ ofR l = .tup [.sc (.slice none 0 0), .sc (.int .i64 11)] ∨ ∃ u, leafR l = .tup [.fp (cL u) 0, .sc (.int .i64 0)] ∧ ofR l = .tup [.fs (flatI u) u.length, .sc (.int .i64 0)] ∧ RiseI u ∧ (∀ x ∈ u, okI x = true) ∧ u.length = l.length := by
  unfold leafR ofR
  cases hok : l.all okI with
  | false => exact .inl (by simp)
  | true =>
    cases hof : ofL l with
    | none => exact .inr (.inl (by simp))
    | some u =>
      obtain ⟨hr, hp⟩ := ofL_some hof
      exact .inr (.inr ⟨u, by simp, by simp, hr, ofL_all hof hok, hp.length_eq⟩)
set_option maxHeartbeats 4000000 in
theorem leafExact_spec (items : List Item) (list : List Msg) (k : Str) (r : Str × Str) (hi : items.length ≤ 9223372036854775807) (hm : list.length ≤ 9223372036854775807) : PSpec Tryz.prog 3 [.fs (flatI items) items.length, .fs (flatM list) list.length, .sc (.string k), .agg (cR r)] (.sc (.bool true)) := by
  obtain ⟨lo, hi'⟩ := r
  have a1 := awake09_spec
  have g1 := great09_spec items hi
  have g2 := heavy09_spec list hm
  cases hg : greatI items with
  | true =>
    rw [hg] at g1
    refine spec_pure (by simp) (by simp) ?_
    refine spec_intro Tryz.func3 good3 rfl (by simp [Tryz.ntmps3]) ?_
    repeat' (first
     | (with_reducible first | refine Stp.pf ?_ | refine block_x (by decide) ?_ | refine ret_n ?_)
     | refine tri_reg [] ?_ | refine tri_regc [] [] mixed (by decide +kernel) ?_
     | (refine rwf_nilt rfl (by decide +kernel) fun B hB => ?_; (try simp [*]); refine hB.out _ fun b => ?_; clear hB B)
     | (refine Rul.pf ⟨rfl, rfl⟩ fun B C hB => ?_; (try simp [*, -List.all_eq_true, cR, Tryz.results3]); (try (simp (disch := first | assumption | omega) only [wc, ite_yes]; (try simp [*, -List.all_eq_true, cR, Tryz.results3]))); first | (first | refine hB.out.1 _ (fun hb => ?_) fun hb => ⟨rfl, ?_⟩ | refine hB.out.1 _ (fun hb => ?_) fun hb => ?_) <;> clear hB C B <;> (try simp only [Bool.not_true, Bool.not_false] at hb) <;> (first | (exfalso; simp at hb; done) | (exfalso; simp at hb; omega) | (rw [hb]; (try simp at hb)) | (try simp at hb)) | ((first | refine hB.out.1 _ _ ?_ | refine hB.out.1 _ ?_ | refine hB.out.2.1 _ _ _ (a1) ?_ | refine hB.out.2.2 _ _ _ (a1) ?_ | refine hB.out.2.1 _ _ _ (g1) ?_ | refine hB.out.2.2 _ _ _ (g1) ?_ | refine hB.out.2 ⟨rfl, ?_⟩); clear hB C B) | (refine hB.out.2 _ ?_; clear hB C B; (try rfl)))
     | refine rwf_o ?_ | refine rwc_o .n rfl ?_ | refine rwc_o .z rfl ?_ | refine rwc_o .w rfl ?_ | refine rwc_o .b rfl ?_ | refine rwc_o _ rfl ?_)
  | false =>
    rw [hg] at g1
    cases hh : heavyM list with
    | true =>
      rw [hh] at g2
      refine spec_pure (by simp) (by simp) ?_
      refine spec_intro Tryz.func3 good3 rfl (by simp [Tryz.ntmps3]) ?_
      repeat' (first
       | (with_reducible first | refine Stp.pf ?_ | refine block_x (by decide) ?_ | refine ret_n ?_)
       | refine tri_reg [] ?_ | refine tri_regc [] [] mixed (by decide +kernel) ?_
       | (refine rwf_nilt rfl (by decide +kernel) fun B hB => ?_; (try simp [*]); refine hB.out _ fun b => ?_; clear hB B)
       | (refine Rul.pf ⟨rfl, rfl⟩ fun B C hB => ?_; (try simp [*, -List.all_eq_true, cR, Tryz.results3]); (try (simp (disch := first | assumption | omega) only [wc, ite_yes]; (try simp [*, -List.all_eq_true, cR, Tryz.results3]))); first | (first | refine hB.out.1 _ (fun hb => ?_) fun hb => ⟨rfl, ?_⟩ | refine hB.out.1 _ (fun hb => ?_) fun hb => ?_) <;> clear hB C B <;> (try simp only [Bool.not_true, Bool.not_false] at hb) <;> (first | (exfalso; simp at hb; done) | (exfalso; simp at hb; omega) | (rw [hb]; (try simp at hb)) | (try simp at hb)) | ((first | refine hB.out.1 _ _ ?_ | refine hB.out.1 _ ?_ | refine hB.out.2.1 _ _ _ (a1) ?_ | refine hB.out.2.2 _ _ _ (a1) ?_ | refine hB.out.2.1 _ _ _ (g1) ?_ | refine hB.out.2.2 _ _ _ (g1) ?_ | refine hB.out.2.1 _ _ _ (g2) ?_ | refine hB.out.2.2 _ _ _ (g2) ?_ | refine hB.out.2 ⟨rfl, ?_⟩); clear hB C B) | (refine hB.out.2 _ ?_; clear hB C B; (try rfl)))
       | refine rwf_o ?_ | refine rwc_o .n rfl ?_ | refine rwc_o .z rfl ?_ | refine rwc_o .w rfl ?_ | refine rwc_o .b rfl ?_ | refine rwc_o _ rfl ?_)
    | false =>
      rw [hh] at g2
      by_cases hk : k.size ≤ 512
      · by_cases hlo : lo.size ≤ 512
        · by_cases hhi : hi'.size ≤ 512
          · obtain ⟨y1, -⟩ := greatI_no hg
            obtain ⟨y2, -⟩ := heavyM_no hh
            have o1 := lOf_spec items (by omega)
            have r1 := rOf09_spec items (by omega)
            clear hg hh
            rcases leaf_all items with ⟨h1, h2⟩ | ⟨h1, h2⟩ | ⟨u, h1, h2, hu1, hu2, hu3⟩
            · rw [h1] at o1
              rw [h2] at r1
              refine spec_pure (by simp) (by simp) ?_
              refine spec_intro Tryz.func3 good3 rfl (by simp [Tryz.ntmps3]) ?_
              repeat' (first
               | (with_reducible first | refine Stp.pf ?_ | refine block_x (by decide) ?_ | refine ret_n ?_)
               | refine tri_reg [] ?_ | refine tri_regc [] [] mixed (by decide +kernel) ?_
               | (refine rwf_nilt rfl (by decide +kernel) fun B hB => ?_; (try simp [*]); refine hB.out _ fun b => ?_; clear hB B)
               | (refine Rul.pf ⟨rfl, rfl⟩ fun B C hB => ?_; (try simp [*, -List.all_eq_true, cR, Tryz.results3]); (try (simp (disch := first | assumption | omega) only [wc, ite_yes]; (try simp [*, -List.all_eq_true, cR, Tryz.results3]))); first | (first | refine hB.out.1 _ (fun hb => ?_) fun hb => ⟨rfl, ?_⟩ | refine hB.out.1 _ (fun hb => ?_) fun hb => ?_) <;> clear hB C B <;> (try simp only [Bool.not_true, Bool.not_false] at hb) <;> (first | (exfalso; simp at hb; done) | (exfalso; simp at hb; omega) | (rw [hb]; (try simp at hb)) | (try simp at hb)) | ((first | refine hB.out.1 _ _ ?_ | refine hB.out.1 _ ?_ | refine hB.out.2.1 _ _ _ (a1) ?_ | refine hB.out.2.2 _ _ _ (a1) ?_ | refine hB.out.2.1 _ _ _ (g1) ?_ | refine hB.out.2.2 _ _ _ (g1) ?_ | refine hB.out.2.1 _ _ _ (g2) ?_ | refine hB.out.2.2 _ _ _ (g2) ?_ | refine hB.out.2.1 _ _ _ (o1) ?_ | refine hB.out.2.2 _ _ _ (o1) ?_ | refine hB.out.2.1 _ _ _ (r1) ?_ | refine hB.out.2.2 _ _ _ (r1) ?_ | refine hB.out.2 ⟨rfl, ?_⟩); clear hB C B) | (refine hB.out.2 _ ?_; clear hB C B; (try rfl)))
               | refine rwf_o ?_ | refine rwc_o .n rfl ?_ | refine rwc_o .z rfl ?_ | refine rwc_o .w rfl ?_ | refine rwc_o .b rfl ?_ | refine rwc_o _ rfl ?_)
            · rw [h1] at o1
              rw [h2] at r1
              refine spec_pure (by simp) (by simp) ?_
              refine spec_intro Tryz.func3 good3 rfl (by simp [Tryz.ntmps3]) ?_
              repeat' (first
               | (with_reducible first | refine Stp.pf ?_ | refine block_x (by decide) ?_ | refine ret_n ?_)
               | refine tri_reg [] ?_ | refine tri_regc [] [] mixed (by decide +kernel) ?_
               | (refine rwf_nilt rfl (by decide +kernel) fun B hB => ?_; (try simp [*]); refine hB.out _ fun b => ?_; clear hB B)
               | (refine Rul.pf ⟨rfl, rfl⟩ fun B C hB => ?_; (try simp [*, -List.all_eq_true, cR, Tryz.results3]); (try (simp (disch := first | assumption | omega) only [wc, ite_yes]; (try simp [*, -List.all_eq_true, cR, Tryz.results3]))); first | (first | refine hB.out.1 _ (fun hb => ?_) fun hb => ⟨rfl, ?_⟩ | refine hB.out.1 _ (fun hb => ?_) fun hb => ?_) <;> clear hB C B <;> (try simp only [Bool.not_true, Bool.not_false] at hb) <;> (first | (exfalso; simp at hb; done) | (exfalso; simp at hb; omega) | (rw [hb]; (try simp at hb)) | (try simp at hb)) | ((first | refine hB.out.1 _ _ ?_ | refine hB.out.1 _ ?_ | refine hB.out.2.1 _ _ _ (a1) ?_ | refine hB.out.2.2 _ _ _ (a1) ?_ | refine hB.out.2.1 _ _ _ (g1) ?_ | refine hB.out.2.2 _ _ _ (g1) ?_ | refine hB.out.2.1 _ _ _ (g2) ?_ | refine hB.out.2.2 _ _ _ (g2) ?_ | refine hB.out.2.1 _ _ _ (o1) ?_ | refine hB.out.2.2 _ _ _ (o1) ?_ | refine hB.out.2.1 _ _ _ (r1) ?_ | refine hB.out.2.2 _ _ _ (r1) ?_ | refine hB.out.2 ⟨rfl, ?_⟩); clear hB C B) | (refine hB.out.2 _ ?_; clear hB C B; (try rfl)))
               | refine rwf_o ?_ | refine rwc_o .n rfl ?_ | refine rwc_o .z rfl ?_ | refine rwc_o .w rfl ?_ | refine rwc_o .b rfl ?_ | refine rwc_o _ rfl ?_)
            · rw [h1] at o1
              rw [h2] at r1
              have y3 : u.length ≤ 60 := by omega
              clear hu3 h1 h2
              have hsm := ok_small hu2
              have i1 := lItems_spec u (by omega)
              have s1 := rSame09_spec u u (by omega) (by omega)
              rw [decide_eq_true rfl] at s1
              have l1 := lLen_spec u
              have w1 := lWeight_spec u
              have v1 := rW09_spec u (by omega) hsm
              have t1 := lWithin_spec u (by omega) hsm lo hi'
              have t2 := rWithin09_spec u (by omega) lo hi'
              have n1 := withinI_len u lo hi'
              have i2 := lItems_spec (withinI u lo hi') (by omega)
              have s2 := rSame09_spec (withinI u lo hi') (withinI u lo hi') (by omega) (by omega)
              rw [decide_eq_true rfl] at s2
              have p1 := lWith_spec u list (by omega) hu1 hu2
              have p2 := rWith09_spec u list (by omega) hu1 hu2
              unfold lwithR at p1
              unfold rwithI at p2
              cases hv : list.all isMsg with
              | false =>
                rw [hv, if_neg (by simp)] at p1 p2
                clear hu1 hu2 hsm
                generalize withinI u lo hi' = W at *
                refine spec_pure (by simp) (by simp) ?_
                refine spec_intro Tryz.func3 good3 rfl (by simp [Tryz.ntmps3]) ?_
                repeat' (first
                 | (with_reducible first | refine Stp.pf ?_ | refine block_x (by decide) ?_ | refine ret_n ?_)
                 | refine tri_reg [] ?_ | refine tri_regc [] [] mixed (by decide +kernel) ?_
                 | (refine rwf_nilt rfl (by decide +kernel) fun B hB => ?_; (try simp [*]); refine hB.out _ fun b => ?_; clear hB B)
                 | (refine Rul.pf ⟨rfl, rfl⟩ fun B C hB => ?_; (try simp [*, -List.all_eq_true, cR, Tryz.results3]); (try (simp (disch := first | assumption | omega) only [wc, ite_yes]; (try simp [*, -List.all_eq_true, cR, Tryz.results3]))); first | (first | refine hB.out.1 _ (fun hb => ?_) fun hb => ⟨rfl, ?_⟩ | refine hB.out.1 _ (fun hb => ?_) fun hb => ?_) <;> clear hB C B <;> (try simp only [Bool.not_true, Bool.not_false] at hb) <;> (first | (exfalso; simp at hb; done) | (exfalso; simp at hb; omega) | (rw [hb]; (try simp at hb)) | (try simp at hb)) | ((first | refine hB.out.1 _ _ ?_ | refine hB.out.1 _ ?_ | refine hB.out.2.1 _ _ _ (a1) ?_ | refine hB.out.2.2 _ _ _ (a1) ?_ | refine hB.out.2.1 _ _ _ (g1) ?_ | refine hB.out.2.2 _ _ _ (g1) ?_ | refine hB.out.2.1 _ _ _ (g2) ?_ | refine hB.out.2.2 _ _ _ (g2) ?_ | refine hB.out.2.1 _ _ _ (o1) ?_ | refine hB.out.2.2 _ _ _ (o1) ?_ | refine hB.out.2.1 _ _ _ (r1) ?_ | refine hB.out.2.2 _ _ _ (r1) ?_ | refine hB.out.2.1 _ _ _ (i1) ?_ | refine hB.out.2.2 _ _ _ (i1) ?_ | refine hB.out.2.1 _ _ _ (s1) ?_ | refine hB.out.2.2 _ _ _ (s1) ?_ | refine hB.out.2.1 _ _ _ (l1) ?_ | refine hB.out.2.2 _ _ _ (l1) ?_ | refine hB.out.2.1 _ _ _ (w1) ?_ | refine hB.out.2.2 _ _ _ (w1) ?_ | refine hB.out.2.1 _ _ _ (v1) ?_ | refine hB.out.2.2 _ _ _ (v1) ?_ | refine hB.out.2.1 _ _ _ (t1) ?_ | refine hB.out.2.2 _ _ _ (t1) ?_ | refine hB.out.2.1 _ _ _ (t2) ?_ | refine hB.out.2.2 _ _ _ (t2) ?_ | refine hB.out.2.1 _ _ _ (i2) ?_ | refine hB.out.2.2 _ _ _ (i2) ?_ | refine hB.out.2.1 _ _ _ (s2) ?_ | refine hB.out.2.2 _ _ _ (s2) ?_ | refine hB.out.2.1 _ _ _ (p1) ?_ | refine hB.out.2.2 _ _ _ (p1) ?_ | refine hB.out.2.1 _ _ _ (p2) ?_ | refine hB.out.2.2 _ _ _ (p2) ?_ | refine hB.out.2 ⟨rfl, ?_⟩); clear hB C B) | (refine hB.out.2 _ ?_; clear hB C B; (try rfl)))
                 | refine rwf_o ?_ | refine rwc_o .n rfl ?_ | refine rwc_o .z rfl ?_ | refine rwc_o .w rfl ?_ | refine rwc_o .b rfl ?_ | refine rwc_o _ rfl ?_)
              | true =>
                rw [hv, if_pos rfl] at p1 p2
                have hv2 := List.all_eq_true.1 hv
                obtain ⟨w3, w4, w5, -⟩ := withI_ok list u hu1 hu2 hv2
                have i3 := lItems_spec (withI u list) (by omega)
                have s3 := rSame09_spec (withI u list) (withI u list) (by omega) (by omega)
                rw [decide_eq_true rfl] at s3
                have w6 := lWeight_spec (withI u list)
                have v6 := rW09_spec (withI u list) (by omega) (ok_small w4)
                have f1 := lFind_spec (withI u list) (by omega) w3 k
                have b1 := lLow_spec (withI u list)
                have c1 := lSame_spec u (withI u list) (by omega) (by omega)
                have c2 := rSame09_spec u (withI u list) (by omega) (by omega)
                clear hu1 hu2 hsm hv hv2 w3 w4
                generalize decide (u = withI u list) = E at *
                have hl0 : ∀ h : 0 < (withI u list).length, lowK (withI u list) = (withI u list)[0].key := fun h => lowK_at h
                have hnn : (withI u list).length = 0 → lowK (withI u list) = ⟨#[]⟩ := fun h => by rw [List.length_eq_zero_iff.1 h]; rfl
                generalize withinI u lo hi' = W at *
                generalize withI u list = L at *
                have hL0 : ∀ h : 0 < (flatI L).length, (flatI L)[0] = .sc (.string (L[0]'(by simpa using h)).key) := fun h => by have := gI_at0 L 0 (by simpa using h); simpa using this
                replace hl0 := Lib.hid hl0
                refine spec_pure (by simp) (by simp) ?_
                refine spec_intro Tryz.func3 good3 rfl (by simp [Tryz.ntmps3]) ?_
                repeat' (first
                 | (with_reducible first | refine Stp.pf ?_ | refine block_x (by decide) ?_ | refine ret_n ?_)
                 | refine tri_reg [] ?_ | refine tri_regc [] [] mixed (by decide +kernel) ?_
                 | (refine rwf_nilt rfl (by decide +kernel) fun B hB => ?_; (try simp [*]); refine hB.out _ fun b => ?_; clear hB B)
                 | (refine Rul.pf ⟨rfl, rfl⟩ fun B C hB => ?_; (try simp [*, -List.all_eq_true, cR, Tryz.results3]); (try (simp (disch := first | assumption | omega) only [wc, ite_yes]; (try simp [*, -List.all_eq_true, cR, Tryz.results3]))); first | (first | refine hB.out.1 _ (fun hb => ?_) fun hb => ⟨rfl, ?_⟩ | refine hB.out.1 _ (fun hb => ?_) fun hb => ?_) <;> clear hB C B <;> (try simp only [Bool.not_true, Bool.not_false] at hb) <;> (first | (exfalso; simp at hb; done) | (exfalso; simp at hb; omega) | (rw [hb]; (try simp at hb)) | (try simp at hb)) | ((first | refine hB.out.1 _ _ ?_ | refine hB.out.1 _ ?_ | refine hB.out.2.1 _ _ _ (a1) ?_ | refine hB.out.2.2 _ _ _ (a1) ?_ | refine hB.out.2.1 _ _ _ (g1) ?_ | refine hB.out.2.2 _ _ _ (g1) ?_ | refine hB.out.2.1 _ _ _ (g2) ?_ | refine hB.out.2.2 _ _ _ (g2) ?_ | refine hB.out.2.1 _ _ _ (o1) ?_ | refine hB.out.2.2 _ _ _ (o1) ?_ | refine hB.out.2.1 _ _ _ (r1) ?_ | refine hB.out.2.2 _ _ _ (r1) ?_ | refine hB.out.2.1 _ _ _ (i1) ?_ | refine hB.out.2.2 _ _ _ (i1) ?_ | refine hB.out.2.1 _ _ _ (s1) ?_ | refine hB.out.2.2 _ _ _ (s1) ?_ | refine hB.out.2.1 _ _ _ (l1) ?_ | refine hB.out.2.2 _ _ _ (l1) ?_ | refine hB.out.2.1 _ _ _ (w1) ?_ | refine hB.out.2.2 _ _ _ (w1) ?_ | refine hB.out.2.1 _ _ _ (v1) ?_ | refine hB.out.2.2 _ _ _ (v1) ?_ | refine hB.out.2.1 _ _ _ (t1) ?_ | refine hB.out.2.2 _ _ _ (t1) ?_ | refine hB.out.2.1 _ _ _ (t2) ?_ | refine hB.out.2.2 _ _ _ (t2) ?_ | refine hB.out.2.1 _ _ _ (i2) ?_ | refine hB.out.2.2 _ _ _ (i2) ?_ | refine hB.out.2.1 _ _ _ (s2) ?_ | refine hB.out.2.2 _ _ _ (s2) ?_ | refine hB.out.2.1 _ _ _ (p1) ?_ | refine hB.out.2.2 _ _ _ (p1) ?_ | refine hB.out.2.1 _ _ _ (p2) ?_ | refine hB.out.2.2 _ _ _ (p2) ?_ | refine hB.out.2.1 _ _ _ (i3) ?_ | refine hB.out.2.2 _ _ _ (i3) ?_ | refine hB.out.2.1 _ _ _ (s3) ?_ | refine hB.out.2.2 _ _ _ (s3) ?_ | refine hB.out.2.1 _ _ _ (w6) ?_ | refine hB.out.2.2 _ _ _ (w6) ?_ | refine hB.out.2.1 _ _ _ (v6) ?_ | refine hB.out.2.2 _ _ _ (v6) ?_ | refine hB.out.2 ⟨rfl, ?_⟩); clear hB C B) | (refine hB.out.2 _ ?_; clear hB C B; (try rfl)))
                 | refine rwf_o ?_ | refine rwc_o .n rfl ?_ | refine rwc_o .z rfl ?_ | refine rwc_o .w rfl ?_ | refine rwc_o .b rfl ?_ | refine rwc_o _ rfl ?_)
                refine tri_for [2, 8, 9, 11, 14, 16] L.length (fun k_ e σ => σ = [] ∧ e 21 = .sc (.int .i64 k_) ∧ e 18 = .sc (.string (if k_ = 0 then ⟨#[]⟩ else lowK L)) ∧ e 19 = .sc (.string ((lookI k (L.take k_)).getD ⟨#[]⟩)) ∧ e 20 = .sc (.bool (lookI k (L.take k_)).isSome)) ?_ (fun j env' σ' hlt hk hI => ?_) (fun env' σ' hk hI => ?_)
                · exact ⟨by simp, by simp, by simp, by simp [lookI], by simp [lookI]⟩
                · skip
                  (try simp at hk)
                  obtain ⟨rfl, h21, h18, h19, h20⟩ := hI
                  have hs := lookI_succ k hlt
                  rw [hs]
                  clear hs
                  have sg := flatI_seg L j hlt
                  by_cases hj : j = 0
                  · subst hj
                    rw [if_pos rfl] at h18
                    have hl1 := hl0.out hlt
                    have hL1 : (flatI L)[1]? = some (.sc (.string L[0].val)) := flatI_1 L 0 hlt
                    by_cases hkey : L[0].key = k
                    · rw [if_pos hkey]
                      repeat' (first
                       | (with_reducible first | refine Stp.pf ?_ | refine block_x (by decide) ?_ | refine ret_n ?_)
                       | refine tri_reg [] ?_ | refine tri_regc [] [] mixed (by decide +kernel) ?_
                       | (refine rwf_nilt rfl (by decide +kernel) fun B hB => ?_; (try simp [*]); refine hB.out _ fun b => ?_; clear hB B)
                       | (refine Rul.pf ⟨rfl, rfl⟩ fun B C hB => ?_; (try simp [*, -List.all_eq_true, Tryz.results3]); (try (simp (disch := first | assumption | omega) only [wc, ite_yes]; (try simp [*, -List.all_eq_true, Tryz.results3]))); first | (first | refine hB.out.1 _ (fun hb => ?_) fun hb => ⟨rfl, ?_⟩ | refine hB.out.1 _ (fun hb => ?_) fun hb => ?_) <;> clear hB C B <;> (try simp only [Bool.not_true, Bool.not_false] at hb) <;> (first | (exfalso; simp at hb; done) | (exfalso; simp at hb; omega) | (rw [hb]; (try simp at hb)) | (try simp at hb)) | ((first | refine hB.out.1 _ _ ?_ | refine hB.out.1 _ ?_ | refine hB.out.2 ⟨rfl, ?_⟩); clear hB C B) | (refine hB.out.2 _ ?_; clear hB C B; (try rfl)))
                       | refine rwf_o ?_ | refine rwc_o .n rfl ?_ | refine rwc_o .z rfl ?_ | refine rwc_o .w rfl ?_ | refine rwc_o .b rfl ?_ | refine rwc_o _ rfl ?_)
                      exact ⟨by simp [*], rfl, by simp, by simp [*], by simp [*], by simp [*]⟩
                    · rw [if_neg hkey]
                      repeat' (first
                       | (with_reducible first | refine Stp.pf ?_ | refine block_x (by decide) ?_ | refine ret_n ?_)
                       | refine tri_reg [] ?_ | refine tri_regc [] [] mixed (by decide +kernel) ?_
                       | (refine rwf_nilt rfl (by decide +kernel) fun B hB => ?_; (try simp [*]); refine hB.out _ fun b => ?_; clear hB B)
                       | (refine Rul.pf ⟨rfl, rfl⟩ fun B C hB => ?_; (try simp [*, -List.all_eq_true, Tryz.results3]); (try (simp (disch := first | assumption | omega) only [wc, ite_yes]; (try simp [*, -List.all_eq_true, Tryz.results3]))); first | (first | refine hB.out.1 _ (fun hb => ?_) fun hb => ⟨rfl, ?_⟩ | refine hB.out.1 _ (fun hb => ?_) fun hb => ?_) <;> clear hB C B <;> (try simp only [Bool.not_true, Bool.not_false] at hb) <;> (first | (exfalso; simp at hb; done) | (exfalso; simp at hb; omega) | (rw [hb]; (try simp at hb)) | (try simp at hb)) | ((first | refine hB.out.1 _ _ ?_ | refine hB.out.1 _ ?_ | refine hB.out.2 ⟨rfl, ?_⟩); clear hB C B) | (refine hB.out.2 _ ?_; clear hB C B; (try rfl)))
                       | refine rwf_o ?_ | refine rwc_o .n rfl ?_ | refine rwc_o .z rfl ?_ | refine rwc_o .w rfl ?_ | refine rwc_o .b rfl ?_ | refine rwc_o _ rfl ?_)
                      exact ⟨by simp [*], rfl, by simp, by simp [*], by simp [*], by simp [*]⟩
                  · rw [if_neg hj] at h18
                    by_cases hkey : L[j].key = k
                    · rw [if_pos hkey]
                      repeat' (first
                       | (with_reducible first | refine Stp.pf ?_ | refine block_x (by decide) ?_ | refine ret_n ?_)
                       | refine tri_reg [] ?_ | refine tri_regc [] [] mixed (by decide +kernel) ?_
                       | (refine rwf_nilt rfl (by decide +kernel) fun B hB => ?_; (try simp [*]); refine hB.out _ fun b => ?_; clear hB B)
                       | (refine Rul.pf ⟨rfl, rfl⟩ fun B C hB => ?_; (try simp [*, -List.all_eq_true, Tryz.results3]); (try (simp (disch := first | assumption | omega) only [wc, ite_yes]; (try simp [*, -List.all_eq_true, Tryz.results3]))); first | (first | refine hB.out.1 _ (fun hb => ?_) fun hb => ⟨rfl, ?_⟩ | refine hB.out.1 _ (fun hb => ?_) fun hb => ?_) <;> clear hB C B <;> (try simp only [Bool.not_true, Bool.not_false] at hb) <;> (first | (exfalso; simp at hb; done) | (exfalso; simp at hb; omega) | (rw [hb]; (try simp at hb)) | (try simp at hb)) | ((first | refine hB.out.1 _ _ ?_ | refine hB.out.1 _ ?_ | refine hB.out.2 ⟨rfl, ?_⟩); clear hB C B) | (refine hB.out.2 _ ?_; clear hB C B; (try rfl)))
                       | refine rwf_o ?_ | refine rwc_o .n rfl ?_ | refine rwc_o .z rfl ?_ | refine rwc_o .w rfl ?_ | refine rwc_o .b rfl ?_ | refine rwc_o _ rfl ?_)
                      exact ⟨by simp [*], rfl, by simp, by simp [*], by simp [*], by simp [*]⟩
                    · rw [if_neg hkey]
                      repeat' (first
                       | (with_reducible first | refine Stp.pf ?_ | refine block_x (by decide) ?_ | refine ret_n ?_)
                       | refine tri_reg [] ?_ | refine tri_regc [] [] mixed (by decide +kernel) ?_
                       | (refine rwf_nilt rfl (by decide +kernel) fun B hB => ?_; (try simp [*]); refine hB.out _ fun b => ?_; clear hB B)
                       | (refine Rul.pf ⟨rfl, rfl⟩ fun B C hB => ?_; (try simp [*, -List.all_eq_true, Tryz.results3]); (try (simp (disch := first | assumption | omega) only [wc, ite_yes]; (try simp [*, -List.all_eq_true, Tryz.results3]))); first | (first | refine hB.out.1 _ (fun hb => ?_) fun hb => ⟨rfl, ?_⟩ | refine hB.out.1 _ (fun hb => ?_) fun hb => ?_) <;> clear hB C B <;> (try simp only [Bool.not_true, Bool.not_false] at hb) <;> (first | (exfalso; simp at hb; done) | (exfalso; simp at hb; omega) | (rw [hb]; (try simp at hb)) | (try simp at hb)) | ((first | refine hB.out.1 _ _ ?_ | refine hB.out.1 _ ?_ | refine hB.out.2 ⟨rfl, ?_⟩); clear hB C B) | (refine hB.out.2 _ ?_; clear hB C B; (try rfl)))
                       | refine rwf_o ?_ | refine rwc_o .n rfl ?_ | refine rwc_o .z rfl ?_ | refine rwc_o .w rfl ?_ | refine rwc_o .b rfl ?_ | refine rwc_o _ rfl ?_)
                      exact ⟨by simp [*], rfl, by simp, by simp [*], by simp [*], by simp [*]⟩
                · skip
                  (try simp at hk)
                  obtain ⟨rfl, h21, h18, h19, h20⟩ := hI
                  rw [List.take_length] at h19 h20
                  have hlow : (if L.length = 0 then (⟨#[]⟩ : Str) else lowK L) = lowK L := by
                    split
                    · rename_i h; rw [hnn h]
                    · rfl
                  rw [hlow] at h18
                  repeat' (first
                   | (with_reducible first | refine Stp.pf ?_ | refine block_x (by decide) ?_ | refine ret_n ?_)
                   | refine tri_reg [] ?_ | refine tri_regc [] [] mixed (by decide +kernel) ?_
                   | (refine rwf_nilt rfl (by decide +kernel) fun B hB => ?_; (try simp [*]); refine hB.out _ fun b => ?_; clear hB B)
                   | (refine Rul.pf ⟨rfl, rfl⟩ fun B C hB => ?_; (try simp [*, -List.all_eq_true, Tryz.results3]); (try (simp (disch := first | assumption | omega) only [wc, ite_yes]; (try simp [*, -List.all_eq_true, Tryz.results3]))); first | (first | refine hB.out.1 _ (fun hb => ?_) fun hb => ⟨rfl, ?_⟩ | refine hB.out.1 _ (fun hb => ?_) fun hb => ?_) <;> clear hB C B <;> (try simp only [Bool.not_true, Bool.not_false] at hb) <;> (first | (exfalso; simp at hb; done) | (exfalso; simp at hb; omega) | (rw [hb]; (try simp at hb)) | (try simp at hb)) | ((first | refine hB.out.1 _ _ ?_ | refine hB.out.1 _ ?_ | refine hB.out.2.1 _ _ _ (f1) ?_ | refine hB.out.2.2 _ _ _ (f1) ?_ | refine hB.out.2.1 _ _ _ (b1) ?_ | refine hB.out.2.2 _ _ _ (b1) ?_ | refine hB.out.2.1 _ _ _ (c1) ?_ | refine hB.out.2.2 _ _ _ (c1) ?_ | refine hB.out.2.1 _ _ _ (c2) ?_ | refine hB.out.2.2 _ _ _ (c2) ?_ | refine hB.out.2 ⟨rfl, ?_⟩); clear hB C B) | (refine hB.out.2 _ ?_; clear hB C B; (try rfl)))
                   | refine rwf_o ?_ | refine rwc_o .n rfl ?_ | refine rwc_o .z rfl ?_ | refine rwc_o .w rfl ?_ | refine rwc_o .b rfl ?_ | refine rwc_o _ rfl ?_)
          · skip
            refine spec_pure (by simp) (by simp) ?_
            refine spec_intro Tryz.func3 good3 rfl (by simp [Tryz.ntmps3]) ?_
            repeat' (first
             | (with_reducible first | refine Stp.pf ?_ | refine block_x (by decide) ?_ | refine ret_n ?_)
             | refine tri_reg [] ?_ | refine tri_regc [] [] mixed (by decide +kernel) ?_
             | (refine rwf_nilt rfl (by decide +kernel) fun B hB => ?_; (try simp [*]); refine hB.out _ fun b => ?_; clear hB B)
             | (refine Rul.pf ⟨rfl, rfl⟩ fun B C hB => ?_; (try simp [*, -List.all_eq_true, cR, Tryz.results3]); (try (simp (disch := first | assumption | omega) only [wc, ite_yes]; (try simp [*, -List.all_eq_true, cR, Tryz.results3]))); first | (first | refine hB.out.1 _ (fun hb => ?_) fun hb => ⟨rfl, ?_⟩ | refine hB.out.1 _ (fun hb => ?_) fun hb => ?_) <;> clear hB C B <;> (try simp only [Bool.not_true, Bool.not_false] at hb) <;> (first | (exfalso; simp at hb; done) | (exfalso; simp at hb; omega) | (rw [hb]; (try simp at hb)) | (try simp at hb)) | ((first | refine hB.out.1 _ _ ?_ | refine hB.out.1 _ ?_ | refine hB.out.2.1 _ _ _ (a1) ?_ | refine hB.out.2.2 _ _ _ (a1) ?_ | refine hB.out.2.1 _ _ _ (g1) ?_ | refine hB.out.2.2 _ _ _ (g1) ?_ | refine hB.out.2.1 _ _ _ (g2) ?_ | refine hB.out.2.2 _ _ _ (g2) ?_ | refine hB.out.2 ⟨rfl, ?_⟩); clear hB C B) | (refine hB.out.2 _ ?_; clear hB C B; (try rfl)))
             | refine rwf_o ?_ | refine rwc_o .n rfl ?_ | refine rwc_o .z rfl ?_ | refine rwc_o .w rfl ?_ | refine rwc_o .b rfl ?_ | refine rwc_o _ rfl ?_)
        · skip
          refine spec_pure (by simp) (by simp) ?_
          refine spec_intro Tryz.func3 good3 rfl (by simp [Tryz.ntmps3]) ?_
          repeat' (first
           | (with_reducible first | refine Stp.pf ?_ | refine block_x (by decide) ?_ | refine ret_n ?_)
           | refine tri_reg [] ?_ | refine tri_regc [] [] mixed (by decide +kernel) ?_
           | (refine rwf_nilt rfl (by decide +kernel) fun B hB => ?_; (try simp [*]); refine hB.out _ fun b => ?_; clear hB B)
           | (refine Rul.pf ⟨rfl, rfl⟩ fun B C hB => ?_; (try simp [*, -List.all_eq_true, cR, Tryz.results3]); (try (simp (disch := first | assumption | omega) only [wc, ite_yes]; (try simp [*, -List.all_eq_true, cR, Tryz.results3]))); first | (first | refine hB.out.1 _ (fun hb => ?_) fun hb => ⟨rfl, ?_⟩ | refine hB.out.1 _ (fun hb => ?_) fun hb => ?_) <;> clear hB C B <;> (try simp only [Bool.not_true, Bool.not_false] at hb) <;> (first | (exfalso; simp at hb; done) | (exfalso; simp at hb; omega) | (rw [hb]; (try simp at hb)) | (try simp at hb)) | ((first | refine hB.out.1 _ _ ?_ | refine hB.out.1 _ ?_ | refine hB.out.2.1 _ _ _ (a1) ?_ | refine hB.out.2.2 _ _ _ (a1) ?_ | refine hB.out.2.1 _ _ _ (g1) ?_ | refine hB.out.2.2 _ _ _ (g1) ?_ | refine hB.out.2.1 _ _ _ (g2) ?_ | refine hB.out.2.2 _ _ _ (g2) ?_ | refine hB.out.2 ⟨rfl, ?_⟩); clear hB C B) | (refine hB.out.2 _ ?_; clear hB C B; (try rfl)))
           | refine rwf_o ?_ | refine rwc_o .n rfl ?_ | refine rwc_o .z rfl ?_ | refine rwc_o .w rfl ?_ | refine rwc_o .b rfl ?_ | refine rwc_o _ rfl ?_)
      · skip
        refine spec_pure (by simp) (by simp) ?_
        refine spec_intro Tryz.func3 good3 rfl (by simp [Tryz.ntmps3]) ?_
        repeat' (first
         | (with_reducible first | refine Stp.pf ?_ | refine block_x (by decide) ?_ | refine ret_n ?_)
         | refine tri_reg [] ?_ | refine tri_regc [] [] mixed (by decide +kernel) ?_
         | (refine rwf_nilt rfl (by decide +kernel) fun B hB => ?_; (try simp [*]); refine hB.out _ fun b => ?_; clear hB B)
         | (refine Rul.pf ⟨rfl, rfl⟩ fun B C hB => ?_; (try simp [*, -List.all_eq_true, cR, Tryz.results3]); (try (simp (disch := first | assumption | omega) only [wc, ite_yes]; (try simp [*, -List.all_eq_true, cR, Tryz.results3]))); first | (first | refine hB.out.1 _ (fun hb => ?_) fun hb => ⟨rfl, ?_⟩ | refine hB.out.1 _ (fun hb => ?_) fun hb => ?_) <;> clear hB C B <;> (try simp only [Bool.not_true, Bool.not_false] at hb) <;> (first | (exfalso; simp at hb; done) | (exfalso; simp at hb; omega) | (rw [hb]; (try simp at hb)) | (try simp at hb)) | ((first | refine hB.out.1 _ _ ?_ | refine hB.out.1 _ ?_ | refine hB.out.2.1 _ _ _ (a1) ?_ | refine hB.out.2.2 _ _ _ (a1) ?_ | refine hB.out.2.1 _ _ _ (g1) ?_ | refine hB.out.2.2 _ _ _ (g1) ?_ | refine hB.out.2.1 _ _ _ (g2) ?_ | refine hB.out.2.2 _ _ _ (g2) ?_ | refine hB.out.2 ⟨rfl, ?_⟩); clear hB C B) | (refine hB.out.2 _ ?_; clear hB C B; (try rfl)))
         | refine rwf_o ?_ | refine rwc_o .n rfl ?_ | refine rwc_o .z rfl ?_ | refine rwc_o .w rfl ?_ | refine rwc_o .b rfl ?_ | refine rwc_o _ rfl ?_)
end Go.Proofs.YtemijcjgdgdhjaaGreat
