/- Spaces in the store: what they tell; awake. -/
import Derived.Test.YtgdefllblcmgpaaYk
import Derived.Test.YtgdefllblcmgpaaLr
namespace Go.Proofs.Ytgdefllblcmgpaa
open Go.RowKit
set_option linter.unusedSimpArgs false
set_option maxRecDepth 10000
theorem cloneM (l : List Ext) (hl : l.length ≤ 1000000) (S : Sto) (i g off : Nat) (c : List AV) (h1 : S[i]? = some ⟨c, g, false, false⟩) (h2 : off + l.length * 2 ≤ c.length) (h3 : (c.drop off).take (l.length * 2) = flatE l) : Spec Try.prog 32 [.ms i g off l.length 2] S (fun r s => r = .fs (flatE l) l.length ∧ s = S) := by
  refine spec_new ?_ (by simp [AV.flat])
  have hX : ∀ X : Sto, (S ++ X)[i]? = some ⟨c, g, false, false⟩ := fun X => by rw [List.getElem?_append_left (lt_of_get h1)]; exact h1
  refine spec_intro Try.func32 good32 rfl (by simp [Try.ntmps32]) ?_
  rcases Nat.eq_zero_or_pos l.length with h0 | h0
  · obtain rfl := List.length_eq_zero_iff.1 h0
    simp only [List.length_nil] at *
    refine go1 [5,7] [] (cns Try.results32 trivial) ?_
    exact ⟨[⟨[], 0, false, false⟩], 2, .fs [] 0, by simp [flatE, flatC], by simp [frz, AV.flat, flatL, flatE, flatC], .refl _⟩
  have h00 : ¬ l.length * 2 = 0 := by omega
  refine go1 [5,7] [] (cns Try.results32 trivial) ?_
  exact ⟨[⟨flatE l, 1, false, false⟩], 2, .fs (flatE l) l.length, rfl, by simp [frz, AV.flat, List.take_of_length_le], .refl _⟩
theorem qRow {p : Nat} {n : Int} {v : AV} {es : List Ext} {σ : Sto} (h : SpV p n v es σ) (hl : es.length ≤ 1000000) (X : Sto) : Spec Try.prog 15 [.mp p 0 0] (σ ++ X) (fun r s => r = .fs (flatE es) es.length ∧ s = σ ++ X) := by
  have h := h.app X
  generalize σ ++ X = S at *
  obtain ⟨h1, h2⟩ := h
  rcases h2 with ⟨rfl, k1, k2⟩ | ⟨i, g, off, c, rfl, hip, k2, k3, k4⟩
  · obtain rfl := List.length_eq_zero_iff.1 k1
    have hc : PSpec Try.prog 32 [.sc (.slice none 0 0)] (.fs (flatE []) 0) := pspec_args (cloneI_spec [] (by simp)) (.cons .nil .nil)
    refine spec_intro Try.func15 good15 rfl (by simp [Try.ntmps15]) ?_
    refine go1 [] [] (cns hc (cns Try.results15 trivial)) ?_
    exact ⟨rfl, rfl⟩
  · have hc := cloneM es hl S i g off c k2 k3 k4
    refine spec_intro Try.func15 good15 rfl (by simp [Try.ntmps15]) ?_
    refine go1 [] [] (cns hc (cns Try.results15 trivial)) ?_
    exact ⟨rfl, rfl⟩
theorem qFree {p : Nat} {n : Int} {v : AV} {es : List Ext} {σ : Sto} (h : SpV p n v es σ) (hn : Norm n es) (h0 : 0 ≤ n ∧ n ≤ 512) (X : Sto) : Spec Try.prog 14 [.mp p 0 0] (σ ++ X) (fun r s => r = .sc (.int .i64 (freeX es)) ∧ s = σ ++ X) :=
  lendS0 (h.app X).at_ rfl (sFree_spec n es (by have := norm_len hn h0.1; omega) (norm_room hn h0.2))
theorem qLargest {p : Nat} {n : Int} {v : AV} {es : List Ext} {σ : Sto} (h : SpV p n v es σ) (hn : Norm n es) (h0 : 0 ≤ n ∧ n ≤ 512) (X : Sto) : Spec Try.prog 11 [.mp p 0 0] (σ ++ X) (fun r s => r = .sc (.int .i64 (largeX es)) ∧ s = σ ++ X) :=
  lendS0 (h.app X).at_ rfl (sLargest_spec n es (by have := norm_len hn h0.1; omega))
theorem qLen {p : Nat} {n : Int} {v : AV} {es : List Ext} {σ : Sto} (h : SpV p n v es σ) (X : Sto) : Spec Try.prog 21 [.mp p 0 0] (σ ++ X) (fun r s => r = .sc (.int .i64 n) ∧ s = σ ++ X) :=
  lendS0 (h.app X).at_ rfl (sLen_spec n es)
theorem qText {p : Nat} {n : Int} {v : AV} {es : List Ext} {σ : Sto} (h : SpV p n v es σ) (hn : Norm n es) (h0 : 0 ≤ n ∧ n ≤ 512) {m : Nat} (hm : (n + 7) / 8 = m) (X : Sto) : Spec Try.prog 22 [.mp p 0 0] (σ ++ X) (fun r s => r = .sc (.string ⟨(textF (fun i : Nat => hasX es i) m).toArray⟩) ∧ s = σ ++ X) :=
  lendS0 (h.app X).at_ rfl (sText_spec n es h0 hn m hm)
theorem qHas {p : Nat} {n : Int} {v : AV} {es : List Ext} {σ : Sto} (h : SpV p n v es σ) (hn : Norm n es) (h0 : 0 ≤ n ∧ n ≤ 512) (i : Int) (X : Sto) : Spec Try.prog 13 [.mp p 0 0, .sc (.int .i64 i)] (σ ++ X) (fun r s => r = .sc (.bool (hasX es i)) ∧ s = σ ++ X) :=
  lendS1 (y := .sc (.int .i64 i)) (h.app X).at_ rfl rfl (sHas_spec n es i (by have := norm_len hn h0.1; omega) (norm_ends hn h0.2) hn)
theorem ext_spec (a b : Int) : PSpec Try.prog 10 [.sc (.int .i64 a), .sc (.int .i64 b)] (.agg (cE ⟨a, b⟩)) := by
  refine spec_pure (by simp) (by simp) ?_
  refine spec_intro Try.func10 good10 rfl (by simp [Try.ntmps10]) ?_
  exact go0 [4] [] (cns Try.results10 trivial)
theorem same_spec (l l' : List Ext) (hl : l.length ≤ 900000) (hl' : l'.length ≤ 900000) : PSpec Try.prog 20 [.fs (flatE l) l.length, .fs (flatE l') l'.length] (.sc (.bool (decide (l = l')))) := by
  refine spec_pure (by simp) (by simp) ?_
  refine spec_intro Try.func20 good20 rfl (by simp [Try.ntmps20]) ?_
  by_cases hne : l.length = l'.length
  · skip
    refine go1 [] [] (cns Try.results20 trivial) ?_
    refine tri_for [0, 1] l.length (fun k e σ => σ = [] ∧ e 5 = .sc (.int .i64 k) ∧ l.take k = l'.take k) ?_ (fun k env' σ' hlt hk hI => ?_) (fun env' σ' hk hI => ?_)
    · exact ⟨by simp, by simp, by simp⟩
    · skip
      (try simp at hk)
      obtain ⟨rfl, h13, heq⟩ := hI
      have hlt' : k < l'.length := by omega
      have a0 := flatE_seg l k hlt
      have b0 := flatE_seg l' k hlt'
      by_cases hx : l[k] = l'[k]
      · rw [hx] at a0
        refine go1 [] [] (cns Try.results20 (cns cE.eq_1 trivial)) ?_
        exact ⟨by simp [*], rfl, by simp, by rw [List.take_add_one, List.take_add_one, List.getElem?_eq_getElem hlt, List.getElem?_eq_getElem hlt', heq, hx]⟩
      · have hll : ¬ l = l' := fun e => hx (by subst e; rfl)
        repeat' (first
         | (with_reducible first | refine Stp.pf ?_ | refine block_x (by decide) ?_ | refine ret_n ?_)
         | refine tri_reg [] ?_ | refine tri_regc [] [] mixed (by decide +kernel) ?_
         | (refine rwf_nilt rfl (by decide +kernel) fun B hB => ?_; (try simp [*]); refine hB.out _ fun b => ?_; clear hB B)
         | (refine Rul.pf ⟨rfl, rfl⟩ fun B C hB => ?_; (try simp [*, -List.all_eq_true, cE, Try.results20]); (try (simp (disch := first | assumption | omega) only [wc, ite_yes]; (try simp [*, -List.all_eq_true, cE, Try.results20]))); first | (first | refine hB.out.1 _ (fun hb => ?_) fun hb => ⟨rfl, ?_⟩ | refine hB.out.1 _ (fun hb => ?_) fun hb => ?_) <;> clear hB C B <;> (try simp only [Bool.not_true, Bool.not_false] at hb) <;> (first | (exfalso; simp at hb; done) | (exfalso; simp at hb; omega) | (rw [hb]; (try simp at hb)) | (try simp at hb)) | ((first | refine hB.out.1 _ _ ?_ | refine hB.out.1 _ ?_ | refine hB.out.2 ⟨rfl, ?_⟩); clear hB C B) | (refine hB.out.2 _ ?_; clear hB C B; (try rfl)))
         | refine rwf_o ?_ | refine rwc_o .n rfl ?_ | refine rwc_o .z rfl ?_ | refine rwc_o .w rfl ?_ | refine rwc_o .b rfl ?_ | refine rwc_o _ rfl ?_)
        · simp [hll]
        · exact absurd (item_ext2 hb.1 hb.2) hx
    · skip
      (try simp at hk)
      obtain ⟨rfl, h13, heq⟩ := hI
      rw [List.take_of_length_le (by omega), List.take_of_length_le (by omega)] at heq
      refine go1 [] [] (cns Try.results20 trivial) ?_
      simp [heq]
  · have hll : ¬ l = l' := fun e => hne (by rw [e])
    repeat' (first
     | (with_reducible first | refine Stp.pf ?_ | refine block_x (by decide) ?_ | refine ret_n ?_)
     | refine tri_reg [] ?_ | refine tri_regc [] [] mixed (by decide +kernel) ?_
     | (refine rwf_nilt rfl (by decide +kernel) fun B hB => ?_; (try simp [*]); refine hB.out _ fun b => ?_; clear hB B)
     | (refine Rul.pf ⟨rfl, rfl⟩ fun B C hB => ?_; (try simp [*, -List.all_eq_true, Try.results20]); (try (simp (disch := first | assumption | omega) only [wc, ite_yes]; (try simp [*, -List.all_eq_true, Try.results20]))); first | (first | refine hB.out.1 _ (fun hb => ?_) fun hb => ⟨rfl, ?_⟩ | refine hB.out.1 _ (fun hb => ?_) fun hb => ?_) <;> clear hB C B <;> (try simp only [Bool.not_true, Bool.not_false] at hb) <;> (first | (exfalso; simp at hb; done) | (exfalso; simp at hb; omega) | (rw [hb]; (try simp at hb)) | (try simp at hb)) | ((first | refine hB.out.1 _ _ ?_ | refine hB.out.1 _ ?_ | refine hB.out.2 ⟨rfl, ?_⟩); clear hB C B) | (refine hB.out.2 _ ?_; clear hB C B; (try rfl)))
     | refine rwf_o ?_ | refine rwc_o .n rfl ?_ | refine rwc_o .z rfl ?_ | refine rwc_o .w rfl ?_ | refine rwc_o .b rfl ?_ | refine rwc_o _ rfl ?_)
    simp [hll]
end Go.Proofs.Ytgdefllblcmgpaa
