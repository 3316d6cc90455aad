/- Merging: Left, New. -/
import Derived.Test.YtemijcjgdgdhjabGreatWm2
namespace Go.Proofs.YtemijcjgdgdhjabGreat
open Go.RowKit
set_option linter.unusedSimpArgs false
set_option maxRecDepth 10000
@[simp] theorem flatU_gets (l : List Run) (k : Nat) (h : k < l.length) : List.take 2 (List.drop (k * 2) (flatU l)) = cU l[k] := flatC_seg cU_length l k h
theorem countU_succ {l : List Run} {k : Nat} (h : k < l.length) : countU (l.take (k + 1)) = countU (l.take k) + l[k].1.length := by
  unfold countU
  rw [List.take_add_one, List.getElem?_eq_getElem h, List.map_append, List.sum_append]
  simp
theorem countU_le {l : List Run} (hn : ∀ r ∈ l, r.1.length ≤ 500000) : ∀ k, countU (l.take k) ≤ 500000 * k
  | 0 => by simp [countU]
  | k + 1 => by
    have ih := countU_le hn k
    rcases Nat.lt_or_ge k l.length with h | h
    · have := hn _ (List.getElem_mem h)
      rw [countU_succ h]
      omega
    · rw [List.take_of_length_le (by omega)] at ih ⊢; omega
theorem mLeft_pure (l : List Run) (hl : l.length ≤ 500000) (hn : ∀ r ∈ l, r.1.length ≤ 500000) : PSpec Tryz.prog 15 [.fp [.fs (flatU l) l.length] 0] (.sc (.int .i64 (countU l : Nat))) := by
  refine spec_pure (by simp) (by simp) ?_
  refine spec_intro Tryz.func15 good15 rfl (by simp [Tryz.ntmps15]) ?_
  repeat' (first
   | (with_reducible first | refine Stp.pf ?_ | refine block_x (by decide) ?_ | refine ret_n ?_)
   | refine tri_reg [] ?_ | refine tri_regc [] [] mixed (by decide +kernel) ?_
   | (refine rwf_nilt rfl (by decide +kernel) fun B hB => ?_; (try simp [*]); refine hB.out _ fun b => ?_; clear hB B)
   | (refine Rul.pf ⟨rfl, rfl⟩ fun B C hB => ?_; (try simp [*, -List.all_eq_true, Tryz.results15]); (try (simp (disch := first | assumption | omega) only [wc, ite_yes]; (try simp [*, -List.all_eq_true, Tryz.results15]))); first | (first | refine hB.out.1 _ (fun hb => ?_) fun hb => ⟨rfl, ?_⟩ | refine hB.out.1 _ (fun hb => ?_) fun hb => ?_) <;> clear hB C B <;> (try simp only [Bool.not_true, Bool.not_false] at hb) <;> (first | (exfalso; simp at hb; done) | (exfalso; simp at hb; omega) | (rw [hb]; (try simp at hb)) | (try simp at hb)) | ((first | refine hB.out.1 _ _ ?_ | refine hB.out.1 _ ?_ | refine hB.out.2 ⟨rfl, ?_⟩); clear hB C B) | (refine hB.out.2 _ ?_; clear hB C B; (try rfl)))
   | refine rwf_o ?_ | refine rwc_o .n rfl ?_ | refine rwc_o .z rfl ?_ | refine rwc_o .w rfl ?_ | refine rwc_o .b rfl ?_ | refine rwc_o _ rfl ?_)
  refine tri_for [2, 11, 12] l.length (fun k e σ => σ = [] ∧ e 13 = .sc (.int .i64 k) ∧ e 3 = .sc (.int .i64 (countU (l.take k) : Nat))) ?_ (fun k env' σ' hlt hk hI => ?_) (fun env' σ' hk hI => ?_)
  · exact ⟨by simp, by simp, by simp [countU]⟩
  · skip
    (try simp at hk)
    obtain ⟨rfl, h13, h3⟩ := hI
    have a1 := countU_le hn k
    have a2 := hn _ (List.getElem_mem hlt)
    have hs := countU_succ hlt
    have hbd : 500000 * k ≤ 500000 * 500000 := Nat.mul_le_mul_left _ (by omega)
    have hc : cU l[k] = [.fs (flatM l[k].1) l[k].1.length, .sc (.int .i64 l[k].2)] := rfl
    repeat' (first
     | (with_reducible first | refine Stp.pf ?_ | refine block_x (by decide) ?_ | refine ret_n ?_)
     | refine tri_reg [] ?_ | refine tri_regc [] [] mixed (by decide +kernel) ?_
     | (refine rwf_nilt rfl (by decide +kernel) fun B hB => ?_; (try simp [*]); refine hB.out _ fun b => ?_; clear hB B)
     | (refine Rul.pf ⟨rfl, rfl⟩ fun B C hB => ?_; (try simp [*, -List.all_eq_true, Tryz.results15]); (try (simp (disch := first | assumption | omega) only [wc, ite_yes]; (try simp [*, -List.all_eq_true, Tryz.results15]))); first | (first | refine hB.out.1 _ (fun hb => ?_) fun hb => ⟨rfl, ?_⟩ | refine hB.out.1 _ (fun hb => ?_) fun hb => ?_) <;> clear hB C B <;> (try simp only [Bool.not_true, Bool.not_false] at hb) <;> (first | (exfalso; simp at hb; done) | (exfalso; simp at hb; omega) | (rw [hb]; (try simp at hb)) | (try simp at hb)) | ((first | refine hB.out.1 _ _ ?_ | refine hB.out.1 _ ?_ | refine hB.out.2 ⟨rfl, ?_⟩); clear hB C B) | (refine hB.out.2 _ ?_; clear hB C B; (try rfl)))
     | refine rwf_o ?_ | refine rwc_o .n rfl ?_ | refine rwc_o .z rfl ?_ | refine rwc_o .w rfl ?_ | refine rwc_o .b rfl ?_ | refine rwc_o _ rfl ?_)
    exact ⟨by simp [*], rfl, by simp, by simp [hs]⟩
  · skip
    (try simp at hk)
    obtain ⟨rfl, h13, h3⟩ := hI
    rw [List.take_length] at h3
    repeat' (first
     | (with_reducible first | refine Stp.pf ?_ | refine block_x (by decide) ?_ | refine ret_n ?_)
     | refine tri_reg [] ?_ | refine tri_regc [] [] mixed (by decide +kernel) ?_
     | (refine rwf_nilt rfl (by decide +kernel) fun B hB => ?_; (try simp [*]); refine hB.out _ fun b => ?_; clear hB B)
     | (refine Rul.pf ⟨rfl, rfl⟩ fun B C hB => ?_; (try simp [*, -List.all_eq_true, Tryz.results15]); (try (simp (disch := first | assumption | omega) only [wc, ite_yes]; (try simp [*, -List.all_eq_true, Tryz.results15]))); first | (first | refine hB.out.1 _ (fun hb => ?_) fun hb => ⟨rfl, ?_⟩ | refine hB.out.1 _ (fun hb => ?_) fun hb => ?_) <;> clear hB C B <;> (try simp only [Bool.not_true, Bool.not_false] at hb) <;> (first | (exfalso; simp at hb; done) | (exfalso; simp at hb; omega) | (rw [hb]; (try simp at hb)) | (try simp at hb)) | ((first | refine hB.out.1 _ _ ?_ | refine hB.out.1 _ ?_ | refine hB.out.2 ⟨rfl, ?_⟩); clear hB C B) | (refine hB.out.2 _ ?_; clear hB C B; (try rfl)))
     | refine rwf_o ?_ | refine rwc_o .n rfl ?_ | refine rwc_o .z rfl ?_ | refine rwc_o .w rfl ?_ | refine rwc_o .b rfl ?_ | refine rwc_o _ rfl ?_)
theorem mLeft_spec (p q : Nat) (σ0 : Sto) (l : List Run) (σ : Sto) (h : HeadsQ p q σ0 l σ) : Spec Tryz.prog 15 [.mp p 0 0] σ (fun r s => r = .sc (.int .i64 (countU l : Nat)) ∧ s = σ) := by
  obtain ⟨⟨hl, hn⟩, hf, hs, v, fu, h1, h2⟩ := h
  have hp := mLeft_pure l hl fun r hr => (hn r hr).2
  rcases h2 with ⟨rfl, rfl⟩ | ⟨g, off, c, rfl, h3, h4, h5, h6⟩
  · refine lend [p] 9 (xs' := [.fp [.sc (.slice none 0 0)] 0]) (by simp [frzL, frz, AV.flat, flatL, h1]) rfl ?_
    exact pspec_args hp (.cons (.fpL (.cons .nil .nil)) .nil)
  · exact lend [p, q] 9 (xs' := [.fp [.fs (flatU l) l.length] 0]) (by simp [frzL, frz, AV.flat, flatL, h1, h4, h5, h6]) rfl hp
/-- Rows of messages, as cells. -/
def cX (l : List Msg) : List AV := [.fs (flatM l) l.length]
def flatX (l : List (List Msg)) : List AV := flatC cX l
@[simp] theorem cX_length (l : List Msg) : (cX l).length = 1 := rfl
@[simp] theorem cX_flat (r : List Msg) : flatL (cX r) = true := by simp [cX, flatL, AV.flat]
@[simp] theorem cX_one (r : List Msg) : (cX r).all AV.one = true := by simp [cX, AV.one]
@[simp] theorem flatX_length (l : List (List Msg)) : (flatX l).length = l.length := by have := flatC_length cX_length l; rw [Nat.mul_one] at this; exact this
@[simp] theorem flatX_flat (l : List (List Msg)) : flatL (flatX l) = true := flatC_flat cX_flat l
@[simp] theorem flatX_one (l : List (List Msg)) : (flatX l).all AV.one = true := flatC_one' cX_one l
theorem flatX_get (l : List (List Msg)) (k : Nat) (h : k < l.length) : (flatX l)[k]? = some (.fs (flatM l[k]) l[k].length) := by have := flatC_get cX_length l k 0 h (by omega); rw [Nat.mul_one] at this; exact this
@[simp] theorem flatX_at (l : List (List Msg)) (k : Nat) (h : k < (flatX l).length) : (flatX l)[k] = .fs (flatM (l[k]'(by simpa using h))) (l[k]'(by simpa using h)).length := by
  have h' : k < l.length := by simpa using h
  have := flatX_get l k h'
  rw [List.getElem?_eq_getElem h] at this
  exact Option.some.inj this
/-- The runs that have something, with their ages. -/
def runsU (rs : List (List Msg)) : List Run := (rs.zipIdx.filter fun p => decide (0 < p.1.length)).map fun p => (p.1, (p.2 : Int))
def errU (rs : List (List Msg)) : Int := rs.foldl (fun e l => worstE e (checkM l)) 0
theorem runsU_succ {rs : List (List Msg)} {k : Nat} (h : k < rs.length) : runsU (rs.take (k + 1)) = if 0 < rs[k].length then runsU (rs.take k) ++ [(rs[k], (k : Int))] else runsU (rs.take k) := by
  unfold runsU
  rw [List.take_add_one, List.getElem?_eq_getElem h]
  rw [Option.toList_some, List.zipIdx_append, List.filter_append, List.map_append]
  split
  · rename_i hp; simp [hp, Nat.min_eq_left (Nat.le_of_lt h)]
  · rename_i hp; simp at hp; simp [hp]
theorem errU_succ {rs : List (List Msg)} {k : Nat} (h : k < rs.length) : errU (rs.take (k + 1)) = worstE (errU (rs.take k)) (checkM rs[k]) := by
  unfold errU
  rw [List.take_add_one, List.getElem?_eq_getElem h, List.foldl_append]
  rfl
theorem runsU_len (rs : List (List Msg)) : (runsU rs).length ≤ rs.length := by
  unfold runsU
  rw [List.length_map]
  refine Nat.le_trans (List.length_filter_le _ _) (by simp)
theorem runsU_ok {rs : List (List Msg)} (hn : ∀ l ∈ rs, l.length ≤ 500000) : ∀ r ∈ runsU rs, 0 < r.1.length ∧ r.1.length ≤ 500000 := by
  intro r hr
  unfold runsU at hr
  simp at hr
  obtain ⟨a, b, ⟨h1, h2⟩, rfl⟩ := hr
  exact ⟨h2, hn a (by
    have := List.mem_zipIdx h1
    obtain ⟨_, _, h⟩ := this
    rw [h]; exact List.getElem_mem _)⟩
theorem set_same {α : Type} {l : List α} {i : Nat} {x : α} (h : l[i]? = some x) : l.set i x = l := by
  apply List.ext_getElem?
  intro j
  rw [List.getElem?_set]
  split
  · rename_i e; subst e; rw [h, if_pos (List.getElem?_eq_some_iff.1 h).1]
  · rfl
/-- Where a new merger's heads stand while they are laid. -/
def LayU (σ0 : Sto) (p : Nat) (l : List Run) (σ : Sto) : Prop := ∃ v fu, σ[p]? = some ⟨[v], 0, false, fu⟩ ∧ Own 2 σ v l.length (flatU l) ∧ ¬ isH p v ∧ (∀ j, isH j v → σ0.length ≤ j) ∧ (∀ (i : Nat) (o : MO), σ0[i]? = some o → σ[i]? = some o) ∧ σ0.length ≤ p ∧ p < σ.length
theorem LayU.heads {σ0 : Sto} {p : Nat} {l : List Run} {σ : Sto} (h : LayU σ0 p l σ) (hl : l.length ≤ 500000) (hn : ∀ r ∈ l, 0 < r.1.length ∧ r.1.length ≤ 500000) : ∃ q, σ0.length ≤ q ∧ q < σ.length ∧ HeadsQ p q σ0 l σ := by
  obtain ⟨v, fu, h1, h2, h3, h4, h5, h6, h7⟩ := h
  rcases h2 with ⟨rfl, e, _⟩ | ⟨i, g, off, c, rfl, e1, e2, e3⟩
  · exact ⟨σ0.length, Nat.le_refl _, by omega, ⟨hl, hn⟩, fun i o _ _ h => h5 i o h, by omega, _, fu, h1, .inl ⟨rfl, List.length_eq_zero_iff.1 e⟩⟩
  · have hip : i ≠ p := fun e => h3 (e ▸ ⟨_, _, _, _, rfl⟩)
    exact ⟨i, h4 i ⟨_, _, _, _, rfl⟩, lt_of_get e1, ⟨hl, hn⟩, fun i o _ _ h => h5 i o h, by omega, _, fu, h1, .inr ⟨g, off, c, rfl, hip, e1, e2, e3⟩⟩
set_option maxHeartbeats 4000000 in
theorem mNew_spec (rs : List (List Msg)) (hl : rs.length ≤ 500000) (hn : ∀ l ∈ rs, l.length ≤ 500000) (τ : Sto) :
    Spec Tryz.prog 14 [.fs (flatX rs) rs.length] τ (fun r s => (errU rs = 0 → ∃ p q, τ.length ≤ p ∧ τ.length ≤ q ∧ q < s.length ∧ r = .tup [.mp p 0 0, .sc (.int .i64 0)] ∧ HeadsQ p q τ (heapInit lessU (runsU rs)) s) ∧ (errU rs ≠ 0 → r = .tup [.sc (.pointer none), .sc (.int .i64 (errU rs))] ∧ (∀ (i : Nat) (o : MO), τ[i]? = some o → s[i]? = some o) ∧ τ.length ≤ s.length)) := by
  refine spec_intro Tryz.func14 good14 rfl (by simp [Tryz.ntmps14]) ?_
  repeat' (first
   | (with_reducible first | refine Stp.pf ?_ | refine block_x (by decide) ?_ | refine ret_n ?_)
   | refine tri_reg [10] ?_ | refine tri_regc [10] [] mixed (by decide +kernel) ?_
   | (refine rwf_nilt rfl (by decide +kernel) fun B hB => ?_; (try simp [*]); refine hB.out _ fun b => ?_; clear hB B)
   | (refine Rul.pf ⟨rfl, rfl⟩ fun B C hB => ?_; (try simp [*, -List.all_eq_true, Tryz.results14]); (try (simp (disch := first | assumption | omega) only [wc, ite_yes]; (try simp [*, -List.all_eq_true, Tryz.results14]))); first | (first | refine hB.out.1 _ (fun hb => ?_) fun hb => ⟨rfl, ?_⟩ | refine hB.out.1 _ (fun hb => ?_) fun hb => ?_) <;> clear hB C B <;> (try simp only [Bool.not_true, Bool.not_false] at hb) <;> (first | (exfalso; simp at hb; done) | (exfalso; simp at hb; omega) | (rw [hb]; (try simp at hb)) | (try simp at hb)) | ((first | refine hB.out.1 _ _ ?_ | refine hB.out.1 _ ?_ | refine hB.out.2 ⟨rfl, ?_⟩); clear hB C B) | (refine hB.out.2 _ ?_; clear hB C B; (try rfl)))
   | refine rwf_o ?_ | refine rwc_o .n rfl ?_ | refine rwc_o .z rfl ?_ | refine rwc_o .w rfl ?_ | refine rwc_o .b rfl ?_ | refine rwc_o _ rfl ?_)
  refine tri_for [2, 3, 5, 11, 12] rs.length (fun k e σ => e 13 = .sc (.int .i64 k) ∧ e 4 = .sc (.int .i64 (errU (rs.take k))) ∧ LayU τ τ.length (runsU (rs.take k)) σ) ?_ (fun k env' σ' hlt hk hI => ?_) (fun env' σ' hk hI => ?_)
  · refine ⟨by simp, by simp [errU], _, false, List.getElem?_concat_length, ?_, isH_nil _, fun j h => absurd h (isH_nil j), fun i o h => get_app h, Nat.le_refl _, by simp⟩
    simp [runsU, flatU, flatC]
    exact .nil _ _
  · skip
    (try simp at hk)
    obtain ⟨h13, h4, hL⟩ := hI
    have hnk := hn _ (List.getElem_mem hlt)
    have hr := runsU_len (rs.take k)
    have ht : (rs.take k).length ≤ rs.length := by simp; omega
    have hs1 := errU_succ hlt
    have hs2 := runsU_succ hlt
    by_cases hpos : 0 < rs[k].length
    · rw [if_pos hpos] at hs2
      obtain ⟨v, fu, g1, g2, g3, g4, g5, g6, g7⟩ := hL
      have G5 := Lib.hid g5
      have G4 := Lib.hid g4
      clear g5 g7 g4
      repeat' (first
       | (with_reducible first | refine Stp.pf ?_ | refine block_x (by decide) ?_ | refine ret_n ?_)
       | refine tri_reg [34] ?_ | refine tri_regc [34] [] mixed (by decide +kernel) ?_
       | (refine rwf_nilt rfl (by decide +kernel) fun B hB => ?_; (try simp [*]); refine hB.out _ fun b => ?_; clear hB B)
       | (refine Rul.pf ⟨rfl, rfl⟩ fun B C hB => ?_; (try simp [*, -List.all_eq_true, Tryz.results14]); (try (simp (disch := first | assumption | omega) only [wc, ite_yes]; (try simp [*, -List.all_eq_true, Tryz.results14]))); first | (first | refine hB.out.1 _ (fun hb => ?_) fun hb => ⟨rfl, ?_⟩ | refine hB.out.1 _ (fun hb => ?_) fun hb => ?_) <;> clear hB C B <;> (try simp only [Bool.not_true, Bool.not_false] at hb) <;> (first | (exfalso; simp at hb; done) | (exfalso; simp at hb; omega) | (rw [hb]; (try simp at hb)) | (try simp at hb)) | ((first | refine hB.out.1 _ _ ?_ | refine hB.out.1 _ ?_ | refine hB.out.2.1 _ _ _ (mCheck_spec _ hnk) ?_ | refine hB.out.2.2 _ _ _ (mCheck_spec _ hnk) ?_ | refine hB.out.2.1 _ _ _ (mWorst_spec _ _) ?_ | refine hB.out.2.2 _ _ _ (mWorst_spec _ _) ?_ | refine hB.out.2 ⟨rfl, ?_⟩); clear hB C B) | (refine hB.out.2 _ ?_; clear hB C B; (try rfl)))
       | refine rwf_o ?_ | refine rwc_o .n rfl ?_ | refine rwc_o .z rfl ?_ | refine rwc_o .w rfl ?_ | refine rwc_o .b rfl ?_ | refine rwc_o _ rfl ?_)
      refine rwf_app rfl rfl elem75 zero81 rfl bytes81 (by decide) slc75 fun G hG => ?_
      (try simp [*, -List.all_eq_true])
      refine hG.out _ _ _ _ _ (g2) (by simp) (by simp) (by omega) fun v1 σ1 q1 q2 => ?_
      clear hG G
      have w1 := q2.1 _ _ g1 g3
      have w3 : ¬ isH τ.length v1 := fun h => by
        rcases q2.2.1 _ h with h | h
        · exact g3 h
        · have := lt_of_get g1; omega
      have w4 : ∀ j, isH j v1 → τ.length ≤ j := fun j h => by
        rcases q2.2.1 _ h with h | h
        · exact G4.out j h
        · have := lt_of_get g1; omega
      have w5 : ∀ (i : Nat) (o : MO), τ[i]? = some o → σ1[i]? = some o := fun i o h => q2.1 i o (G5.out i o h) fun hh => by have := G4.out i hh; have := lt_of_get h; omega
      have q3 := q1
      have W5 := Lib.hid w5
      have W4 := Lib.hid w4
      clear w5 w4
      rcases q1 with ⟨rfl, q4, _⟩ | ⟨i1, gg1, off1, c1, rfl, _⟩
      · omega
      clear g1
      repeat' (first
       | (with_reducible first | refine Stp.pf ?_ | refine block_x (by decide) ?_ | refine ret_n ?_)
       | refine tri_reg [] ?_ | refine tri_regc [] [] mixed (by decide +kernel) ?_
       | (refine rwf_nilt rfl (by decide +kernel) fun B hB => ?_; (try simp [*]); refine hB.out _ fun b => ?_; clear hB B)
       | (refine Rul.pf ⟨rfl, rfl⟩ fun B C hB => ?_; (try simp [*, -List.all_eq_true, Tryz.results14]); (try (simp (disch := first | assumption | omega) only [wc, ite_yes]; (try simp [*, -List.all_eq_true, Tryz.results14]))); first | (first | refine hB.out.1 _ (fun hb => ?_) fun hb => ⟨rfl, ?_⟩ | refine hB.out.1 _ (fun hb => ?_) fun hb => ?_) <;> clear hB C B <;> (try simp only [Bool.not_true, Bool.not_false] at hb) <;> (first | (exfalso; simp at hb; done) | (exfalso; simp at hb; omega) | (rw [hb]; (try simp at hb)) | (try simp at hb)) | ((first | refine hB.out.1 _ _ ?_ | refine hB.out.1 _ ?_ | refine hB.out.2 ⟨rfl, ?_⟩); clear hB C B) | (refine hB.out.2 _ ?_; clear hB C B; (try rfl)))
       | refine rwf_o ?_ | refine rwc_o .n rfl ?_ | refine rwc_o .z rfl ?_ | refine rwc_o .w rfl ?_ | refine rwc_o .b rfl ?_ | refine rwc_o _ rfl ?_)
      rw [hs1, hs2]
      refine ⟨by simp [*], by simp, by simp, _, false, by rw [List.getElem?_set_self (lt_of_get w1)], ?_, w3, W4.out, fun i o h => ?_, Nat.le_refl _, by rw [List.length_set]; exact lt_of_get w1⟩
      · rw [show (runsU (rs.take k) ++ [(rs[k], (k : Int))]).length = (runsU (rs.take k)).length + 1 by simp, show flatU (runsU (rs.take k) ++ [(rs[k], (k : Int))]) = flatU (runsU (rs.take k)) ++ cU (rs[k], (k : Int)) by simp [flatU_append, flatU, flatC]]
        exact own_set q3 w3 _
      · rw [List.getElem?_set_ne (by have := lt_of_get h; omega)]; exact W5.out i o h
    · rw [if_neg hpos] at hs2
      repeat' (first
       | (with_reducible first | refine Stp.pf ?_ | refine block_x (by decide) ?_ | refine ret_n ?_)
       | refine tri_reg [] ?_ | refine tri_regc [] [] mixed (by decide +kernel) ?_
       | (refine rwf_nilt rfl (by decide +kernel) fun B hB => ?_; (try simp [*]); refine hB.out _ fun b => ?_; clear hB B)
       | (refine Rul.pf ⟨rfl, rfl⟩ fun B C hB => ?_; (try simp [*, -List.all_eq_true, Tryz.results14]); (try (simp (disch := first | assumption | omega) only [wc, ite_yes]; (try simp [*, -List.all_eq_true, Tryz.results14]))); first | (first | refine hB.out.1 _ (fun hb => ?_) fun hb => ⟨rfl, ?_⟩ | refine hB.out.1 _ (fun hb => ?_) fun hb => ?_) <;> clear hB C B <;> (try simp only [Bool.not_true, Bool.not_false] at hb) <;> (first | (exfalso; simp at hb; done) | (exfalso; simp at hb; omega) | (rw [hb]; (try simp at hb)) | (try simp at hb)) | ((first | refine hB.out.1 _ _ ?_ | refine hB.out.1 _ ?_ | refine hB.out.2.1 _ _ _ (mCheck_spec _ hnk) ?_ | refine hB.out.2.2 _ _ _ (mCheck_spec _ hnk) ?_ | refine hB.out.2.1 _ _ _ (mWorst_spec _ _) ?_ | refine hB.out.2.2 _ _ _ (mWorst_spec _ _) ?_ | refine hB.out.2 ⟨rfl, ?_⟩); clear hB C B) | (refine hB.out.2 _ ?_; clear hB C B; (try rfl)))
       | refine rwf_o ?_ | refine rwc_o .n rfl ?_ | refine rwc_o .z rfl ?_ | refine rwc_o .w rfl ?_ | refine rwc_o .b rfl ?_ | refine rwc_o _ rfl ?_)
      rw [hs1, hs2]
      exact ⟨by simp [*], by simp, by simp, hL⟩
  · skip
    (try simp at hk)
    obtain ⟨h13, h4, hL⟩ := hI
    rw [List.take_length] at *
    by_cases he : errU rs = 0
    · rw [he] at h4
      have hok := runsU_ok hn
      have hrl := runsU_len rs
      obtain ⟨q, hq1, hq0, hq2⟩ := hL.heads (by omega) hok
      have hq3 := hq2
      obtain ⟨_, hf, hs, v, fu, g1, g2⟩ := hq2
      clear hf hL
      have HQ0 := Lib.hid hq0
      clear hq0
      have hvl : ∃ n, n = (runsU rs).length ∧ (v = .sc (.slice none 0 0) ∧ n = 0 ∨ ∃ g off, v = .ms q g off n 2) := by
        rcases g2 with ⟨h, e⟩ | ⟨g, off, c, h, _⟩
        · exact ⟨0, by rw [e]; rfl, .inl ⟨h, rfl⟩⟩
        · exact ⟨_, rfl, .inr ⟨g, off, h⟩⟩
      clear hvl
      generalize runsU rs = U at *
      generalize σ' = S at *
      by_cases hnil : U = []
      · subst hnil
        have hv : v = .sc (.slice none 0 0) ∨ ∃ g off, v = .ms q g off 0 2 := by
          rcases g2 with ⟨h, _⟩ | ⟨g, off, c, h, _⟩
          · exact .inl h
          · exact .inr ⟨g, off, h⟩
        have hI := hInit_spec (HeadsQ.heap τ.length q S) [] (by simp) _ hq3.self
        rcases hv with rfl | ⟨g, off, rfl⟩
        all_goals
          skip
          repeat' (first
           | (with_reducible first | refine Stp.pf ?_ | refine block_x (by decide) ?_ | refine ret_n ?_)
           | refine tri_reg [] ?_ | refine tri_regc [] [] mixed (by decide +kernel) ?_
           | (refine rwf_nilt rfl (by decide +kernel) fun B hB => ?_; (try simp [*]); refine hB.out _ fun b => ?_; clear hB B)
           | (refine Rul.pf ⟨rfl, rfl⟩ fun B C hB => ?_; (try simp [*, -List.all_eq_true, Tryz.results14]); (try (simp (disch := first | assumption | omega) only [wc, ite_yes]; (try simp [*, -List.all_eq_true, Tryz.results14]))); first | (first | refine hB.out.1 _ (fun hb => ?_) fun hb => ⟨rfl, ?_⟩ | refine hB.out.1 _ (fun hb => ?_) fun hb => ?_) <;> clear hB C B <;> (try simp only [Bool.not_true, Bool.not_false] at hb) <;> (first | (exfalso; simp at hb; done) | (exfalso; simp at hb; omega) | (rw [hb]; (try simp at hb)) | (try simp at hb)) | ((first | refine hB.out.1 _ _ ?_ | refine hB.out.1 _ ?_ | refine hB.out.2 ⟨rfl, ?_⟩); clear hB C B) | (refine hB.out.2 _ ?_; clear hB C B; (try rfl)))
           | refine rwf_o ?_ | refine rwc_o .n rfl ?_ | refine rwc_o .z rfl ?_ | refine rwc_o .w rfl ?_ | refine rwc_o .b rfl ?_ | refine rwc_o _ rfl ?_)
          refine tri_for [2, 3, 5, 45] 0 (fun k e σ => e 46 = .sc (.int .i64 0) ∧ σ = S) ?_ (fun k env' σ' hlt hk hI => ?_) (fun env' σ' hk hI => ?_)
          · exact ⟨by simp, rfl⟩
          · omega
          · skip
            (try simp at hk)
            obtain ⟨h46, rfl⟩ := hI
            repeat' (first
             | (with_reducible first | refine Stp.pf ?_ | refine block_x (by decide) ?_ | refine ret_n ?_)
             | refine tri_reg [] ?_ | refine tri_regc [] [] mixed (by decide +kernel) ?_
             | (refine rwf_nilt rfl (by decide +kernel) fun B hB => ?_; (try simp [*]); refine hB.out _ fun b => ?_; clear hB B)
             | (refine Rul.pf ⟨rfl, rfl⟩ fun B C hB => ?_; (try simp [*, -List.all_eq_true, Tryz.results14]); (try (simp (disch := first | assumption | omega) only [wc, ite_yes]; (try simp [*, -List.all_eq_true, Tryz.results14]))); first | (first | refine hB.out.1 _ (fun hb => ?_) fun hb => ⟨rfl, ?_⟩ | refine hB.out.1 _ (fun hb => ?_) fun hb => ?_) <;> clear hB C B <;> (try simp only [Bool.not_true, Bool.not_false] at hb) <;> (first | (exfalso; simp at hb; done) | (exfalso; simp at hb; omega) | (rw [hb]; (try simp at hb)) | (try simp at hb)) | ((first | refine hB.out.1 _ _ ?_ | refine hB.out.1 _ ?_ | refine hB.out.2 ⟨rfl, ?_⟩); clear hB C B) | (refine hB.out.2 _ ?_; clear hB C B; (try rfl)))
             | refine rwf_o ?_ | refine rwc_o .n rfl ?_ | refine rwc_o .z rfl ?_ | refine rwc_o .w rfl ?_ | refine rwc_o .b rfl ?_ | refine rwc_o _ rfl ?_)
            refine rwf_ca rfl fun C' hC hP => ?_
            clear hP
            (try simp [*, -List.all_eq_true]); (try (simp (disch := first | assumption | omega) only [wrap_id, wrapu_id, wrapb_id, tmod_nn, tdiv_nn, ite_yes, flatM_seg, flatM_0, flatM_1, flatM_2, flatI_seg, flatI_0, flatI_1, flatS_get]; (try simp [*, -List.all_eq_true])))
            refine hC.out _ _ _ (hI) fun r s hq => ?_
            clear hC C'
            obtain ⟨rfl, hz⟩ := hq
            repeat' (first
             | (with_reducible first | refine Stp.pf ?_ | refine block_x (by decide) ?_ | refine ret_n ?_)
             | refine tri_reg [] ?_ | refine tri_regc [] [] mixed (by decide +kernel) ?_
             | (refine rwf_nilt rfl (by decide +kernel) fun B hB => ?_; (try simp [*]); refine hB.out _ fun b => ?_; clear hB B)
             | (refine Rul.pf ⟨rfl, rfl⟩ fun B C hB => ?_; (try simp [*, -List.all_eq_true, Tryz.results14]); (try (simp (disch := first | assumption | omega) only [wc, ite_yes]; (try simp [*, -List.all_eq_true, Tryz.results14]))); first | (first | refine hB.out.1 _ (fun hb => ?_) fun hb => ⟨rfl, ?_⟩ | refine hB.out.1 _ (fun hb => ?_) fun hb => ?_) <;> clear hB C B <;> (try simp only [Bool.not_true, Bool.not_false] at hb) <;> (first | (exfalso; simp at hb; done) | (exfalso; simp at hb; omega) | (rw [hb]; (try simp at hb)) | (try simp at hb)) | ((first | refine hB.out.1 _ _ ?_ | refine hB.out.1 _ ?_ | refine hB.out.2 ⟨rfl, ?_⟩); clear hB C B) | (refine hB.out.2 _ ?_; clear hB C B; (try rfl)))
             | refine rwf_o ?_ | refine rwc_o .n rfl ?_ | refine rwc_o .z rfl ?_ | refine rwc_o .w rfl ?_ | refine rwc_o .b rfl ?_ | refine rwc_o _ rfl ?_)
            exact ⟨fun _ => ⟨τ.length, q, Nat.le_refl _, hq1, Nat.lt_of_lt_of_le HQ0.out hz.2.2.1, rfl, hq3.trans hz⟩, fun h => absurd he h⟩
      · rcases g2 with ⟨_, h⟩ | ⟨g, off, c, rfl, g3, g4, g5, g6⟩
        · exact absurd h hnil
        have hI := hInit_spec (HeadsQ.heap τ.length q S) U (by omega) _ hq3.self
        repeat' (first
         | (with_reducible first | refine Stp.pf ?_ | refine block_x (by decide) ?_ | refine ret_n ?_)
         | refine tri_reg [] ?_ | refine tri_regc [] [] mixed (by decide +kernel) ?_
         | (refine rwf_nilt rfl (by decide +kernel) fun B hB => ?_; (try simp [*]); refine hB.out _ fun b => ?_; clear hB B)
         | (refine Rul.pf ⟨rfl, rfl⟩ fun B C hB => ?_; (try simp [*, -List.all_eq_true, Tryz.results14]); (try (simp (disch := first | assumption | omega) only [wc, ite_yes]; (try simp [*, -List.all_eq_true, Tryz.results14]))); first | (first | refine hB.out.1 _ (fun hb => ?_) fun hb => ⟨rfl, ?_⟩ | refine hB.out.1 _ (fun hb => ?_) fun hb => ?_) <;> clear hB C B <;> (try simp only [Bool.not_true, Bool.not_false] at hb) <;> (first | (exfalso; simp at hb; done) | (exfalso; simp at hb; omega) | (rw [hb]; (try simp at hb)) | (try simp at hb)) | ((first | refine hB.out.1 _ _ ?_ | refine hB.out.1 _ ?_ | refine hB.out.2 ⟨rfl, ?_⟩); clear hB C B) | (refine hB.out.2 _ ?_; clear hB C B; (try rfl)))
         | refine rwf_o ?_ | refine rwc_o .n rfl ?_ | refine rwc_o .z rfl ?_ | refine rwc_o .w rfl ?_ | refine rwc_o .b rfl ?_ | refine rwc_o _ rfl ?_)
        refine tri_for [2, 3, 5, 45] U.length (fun k e σ => e 46 = .sc (.int .i64 k) ∧ σ = S) ?_ (fun k env' σ' hlt hk hI => ?_) (fun env' σ' hk hI => ?_)
        · exact ⟨by simp, rfl⟩
        · skip
          (try simp at hk)
          obtain ⟨h46, rfl⟩ := hI
          obtain ⟨n1, n2⟩ := hok _ (List.getElem_mem hlt)
          have c1 : c[off + k * 2]? = some (.fs (flatM U[k].1) U[k].1.length) := by
            have a0 := flatU_0 U k hlt
            rw [← g6, List.getElem?_take_of_lt (by omega), List.getElem?_drop] at a0
            exact a0
          have hsc := set_same c1
          have hss := set_same g4
          have hne : ¬ U[k].1 = [] := fun h => by rw [h] at n1; simp at n1
          have b1 : U[k].1.length * 40 ≤ 140737488355328 := by omega
          have b2 : U[k].1.length ≤ 140737488355328 := by omega
          repeat' (first
           | (with_reducible first | refine Stp.pf ?_ | refine block_x (by decide) ?_ | refine ret_n ?_)
           | refine tri_reg [] ?_ | refine tri_regc (id := 15) [] [(13, .n)] mixed (by decide +kernel) ?_ | refine tri_regc [] [] mixed (by decide +kernel) ?_
           | (refine rwf_nilt rfl (by decide +kernel) fun B hB => ?_; (try simp [*]); refine hB.out _ fun b => ?_; clear hB B)
           | (refine Rul.pf ⟨rfl, rfl⟩ fun B C hB => ?_; (try simp [*, -List.all_eq_true, Tryz.results14]); (try (simp (disch := first | assumption | omega) only [wc, ite_yes]; (try simp [*, -List.all_eq_true, Tryz.results14]))); first | (first | refine hB.out.1 _ (fun hb => ?_) fun hb => ⟨rfl, ?_⟩ | refine hB.out.1 _ (fun hb => ?_) fun hb => ?_) <;> clear hB C B <;> (try simp only [Bool.not_true, Bool.not_false] at hb) <;> (first | (exfalso; simp at hb; done) | (exfalso; simp at hb; omega) | (rw [hb]; (try simp at hb)) | (try simp at hb)) | ((first | refine hB.out.1 _ _ ?_ | refine hB.out.1 _ ?_ | refine hB.out.2 ⟨rfl, ?_⟩); clear hB C B) | (refine hB.out.2 _ ?_; clear hB C B; (try rfl)))
           | refine rwf_o ?_ | refine rwc_o .n rfl ?_ | refine rwc_o .z rfl ?_ | refine rwc_o .w rfl ?_ | refine rwc_o .b rfl ?_ | refine rwc_o _ rfl ?_)
          exact ⟨by simp [*], by simp, rfl⟩
        · skip
          (try simp at hk)
          obtain ⟨h46, rfl⟩ := hI
          repeat' (first
           | (with_reducible first | refine Stp.pf ?_ | refine block_x (by decide) ?_ | refine ret_n ?_)
           | refine tri_reg [] ?_ | refine tri_regc [] [] mixed (by decide +kernel) ?_
           | (refine rwf_nilt rfl (by decide +kernel) fun B hB => ?_; (try simp [*]); refine hB.out _ fun b => ?_; clear hB B)
           | (refine Rul.pf ⟨rfl, rfl⟩ fun B C hB => ?_; (try simp [*, -List.all_eq_true, Tryz.results14]); (try (simp (disch := first | assumption | omega) only [wc, ite_yes]; (try simp [*, -List.all_eq_true, Tryz.results14]))); first | (first | refine hB.out.1 _ (fun hb => ?_) fun hb => ⟨rfl, ?_⟩ | refine hB.out.1 _ (fun hb => ?_) fun hb => ?_) <;> clear hB C B <;> (try simp only [Bool.not_true, Bool.not_false] at hb) <;> (first | (exfalso; simp at hb; done) | (exfalso; simp at hb; omega) | (rw [hb]; (try simp at hb)) | (try simp at hb)) | ((first | refine hB.out.1 _ _ ?_ | refine hB.out.1 _ ?_ | refine hB.out.2 ⟨rfl, ?_⟩); clear hB C B) | (refine hB.out.2 _ ?_; clear hB C B; (try rfl)))
           | refine rwf_o ?_ | refine rwc_o .n rfl ?_ | refine rwc_o .z rfl ?_ | refine rwc_o .w rfl ?_ | refine rwc_o .b rfl ?_ | refine rwc_o _ rfl ?_)
          refine rwf_ca rfl fun C' hC hP => ?_
          clear hP
          (try simp [*, -List.all_eq_true]); (try (simp (disch := first | assumption | omega) only [wrap_id, wrapu_id, wrapb_id, tmod_nn, tdiv_nn, ite_yes, flatM_seg, flatM_0, flatM_1, flatM_2, flatI_seg, flatI_0, flatI_1, flatS_get]; (try simp [*, -List.all_eq_true])))
          refine hC.out _ _ _ (hI) fun r s hq => ?_
          clear hC C'
          obtain ⟨rfl, hz⟩ := hq
          repeat' (first
           | (with_reducible first | refine Stp.pf ?_ | refine block_x (by decide) ?_ | refine ret_n ?_)
           | refine tri_reg [] ?_ | refine tri_regc [] [] mixed (by decide +kernel) ?_
           | (refine rwf_nilt rfl (by decide +kernel) fun B hB => ?_; (try simp [*]); refine hB.out _ fun b => ?_; clear hB B)
           | (refine Rul.pf ⟨rfl, rfl⟩ fun B C hB => ?_; (try simp [*, -List.all_eq_true, Tryz.results14]); (try (simp (disch := first | assumption | omega) only [wc, ite_yes]; (try simp [*, -List.all_eq_true, Tryz.results14]))); first | (first | refine hB.out.1 _ (fun hb => ?_) fun hb => ⟨rfl, ?_⟩ | refine hB.out.1 _ (fun hb => ?_) fun hb => ?_) <;> clear hB C B <;> (try simp only [Bool.not_true, Bool.not_false] at hb) <;> (first | (exfalso; simp at hb; done) | (exfalso; simp at hb; omega) | (rw [hb]; (try simp at hb)) | (try simp at hb)) | ((first | refine hB.out.1 _ _ ?_ | refine hB.out.1 _ ?_ | refine hB.out.2 ⟨rfl, ?_⟩); clear hB C B) | (refine hB.out.2 _ ?_; clear hB C B; (try rfl)))
           | refine rwf_o ?_ | refine rwc_o .n rfl ?_ | refine rwc_o .z rfl ?_ | refine rwc_o .w rfl ?_ | refine rwc_o .b rfl ?_ | refine rwc_o _ rfl ?_)
          exact ⟨fun _ => ⟨τ.length, q, Nat.le_refl _, hq1, Nat.lt_of_lt_of_le HQ0.out hz.2.2.1, rfl, hq3.trans hz⟩, fun h => absurd he h⟩
    · skip
      repeat' (first
       | (with_reducible first | refine Stp.pf ?_ | refine block_x (by decide) ?_ | refine ret_n ?_)
       | refine tri_reg [] ?_ | refine tri_regc [] [] mixed (by decide +kernel) ?_
       | (refine rwf_nilt rfl (by decide +kernel) fun B hB => ?_; (try simp [*]); refine hB.out _ fun b => ?_; clear hB B)
       | (refine Rul.pf ⟨rfl, rfl⟩ fun B C hB => ?_; (try simp [*, -List.all_eq_true, Tryz.results14]); (try (simp (disch := first | assumption | omega) only [wc, ite_yes]; (try simp [*, -List.all_eq_true, Tryz.results14]))); first | (first | refine hB.out.1 _ (fun hb => ?_) fun hb => ⟨rfl, ?_⟩ | refine hB.out.1 _ (fun hb => ?_) fun hb => ?_) <;> clear hB C B <;> (try simp only [Bool.not_true, Bool.not_false] at hb) <;> (first | (exfalso; simp at hb; done) | (exfalso; simp at hb; omega) | (rw [hb]; (try simp at hb)) | (try simp at hb)) | ((first | refine hB.out.1 _ _ ?_ | refine hB.out.1 _ ?_ | refine hB.out.2 ⟨rfl, ?_⟩); clear hB C B) | (refine hB.out.2 _ ?_; clear hB C B; (try rfl)))
       | refine rwf_o ?_ | refine rwc_o .n rfl ?_ | refine rwc_o .z rfl ?_ | refine rwc_o .w rfl ?_ | refine rwc_o .b rfl ?_ | refine rwc_o _ rfl ?_)
      obtain ⟨v, fu, g1, g2, g3, g4, g5, g6, g7⟩ := hL
      exact ⟨fun h => absurd h he, fun _ => ⟨rfl, g5, by omega⟩⟩
end Go.Proofs.YtemijcjgdgdhjabGreat
