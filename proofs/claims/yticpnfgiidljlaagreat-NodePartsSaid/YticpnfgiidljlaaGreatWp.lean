/- A message put into a buffer that is still made. -/
import Derived.Test.YticpnfgiidljlaaGreatWi
namespace Go.Proofs.YticpnfgiidljlaaGreat
open Go.RowKit
set_option linter.unusedSimpArgs false
set_option maxRecDepth 10000
theorem place_row (l : List Msg) (hl : l.length ≤ 1000000) (hr : Rise l) (k : Str) (σ : Sto) (p : Nat) (v : AV) (x : Value) (fu : Bool) (hσ : σ[p]? = some ⟨[v, .sc x], 0, false, fu⟩) (hv : RowAt 3 p σ v l.length (flatM l)) :
    Spec Tryz.prog 139 [.mp p 0 0, .sc (.string k)] σ (fun r s => r = .tup [.sc (.int .i64 (low l k)), .sc (.bool (hit l k))] ∧ s = σ) := by
  rcases hv with ⟨rfl, h1, h2⟩ | ⟨i, g, off, c, rfl, h1, h2, h3, h4⟩
  · obtain rfl := List.length_eq_zero_iff.1 h1
    refine lend [p] 9 (xs' := [.fp [.sc (.slice none 0 0), .sc x] 0, .sc (.string k)]) (by simp [frz, frzL, hσ, AV.flat, flatL]) rfl ?_
    exact pspec_args (place_spec [] hl hr k x) (.cons (.fpL (.cons .nil (.cons (.refl _) .nil))) (.cons (.refl _) .nil))
  · refine lend [p, i] 9 (xs' := [.fp [.fs (flatM l) l.length, .sc x] 0, .sc (.string k)]) (by simp [frz, frzL, hσ, h2, h3, h4, AV.flat, flatL]) rfl ?_
    exact place_spec l hl hr k x
theorem wr_setM {c : List AV} {l : List Msg} {off : Nat} (y : Msg) (k : Nat) (hk : k < l.length) (h3 : off + l.length * 3 ≤ c.length) (h4 : (c.drop off).take (l.length * 3) = flatM l) : ((wr c (off + k * 3) (cM y)).drop off).take ((l.set k y).length * 3) = flatM (l.set k y) := by
  have := wr_mid c (cM y) off (k * 3) 3 ((l.length - k - 1) * 3) rfl (by omega)
  rw [show k * 3 + 3 + (l.length - k - 1) * 3 = (l.set k y).length * 3 by simp; omega] at this
  rw [this, List.set_eq_take_append_cons_drop, if_pos hk, flatM_append, show y :: l.drop (k + 1) = [y] ++ l.drop (k + 1) from rfl, flatM_append, show flatM [y] = cM y by simp [flatM, flatC]]
  rw [← flatM_take, ← flatM_drop, ← h4, List.take_take, List.append_assoc]
  congr 2
  · congr 1; omega
  · rw [List.drop_take, Nat.succ_mul]; congr 1; omega
set_option maxHeartbeats 1000000 in
theorem bPut_spec (l : List Msg) (hl : l.length < 1000000) (hr : Rise l) (m : Msg) (σ : Sto) (p : Nat) (v : AV) (x : Value) (hσ : σ[p]? = some ⟨[v, .sc x], 0, false, false⟩) (hv : RowAt 3 p σ v l.length (flatM l)) :
    Spec Tryz.prog 116 [.mp p 0 0, .agg (cM m)] σ (fun r s => r = .tup [] ∧ ∃ v', s[p]? = some ⟨[v', .sc x], 0, false, false⟩ ∧ RowAt 3 p s v' (putM l m).length (flatM (putM l m))) := by
  refine spec_intro Tryz.func116 good116 rfl (by simp [Tryz.ntmps116]) ?_
  cases hh : hit l m.key with
  | false =>
    have hz : wr (zerosA [AV.sc (Value.int IntKind.i64 0), AV.sc (Value.string { data := #[] }), AV.sc (Value.string { data := #[] })] 3) 0 (List.take 3 (cM m)) = cM m := rfl
    rw [putM_no hh]
    have hp := lt_of_get hσ
    have hpl : (l.take (low l m.key) ++ m :: l.drop (low l m.key)).length = l.length + 1 := by simp; have := low_le l m.key; omega
    rw [hpl]
    have hcall := insM_spec l (by omega) m (low l m.key) (low_le _ _) (σ ++ [⟨cM m, 0, false, false⟩]) v p σ.length (by simp; omega) (hv.append _) (by simp) hv.fresh
    clear hpl hp
    repeat' (first
     | (with_reducible first | refine Stp.pf ?_ | refine block_x (by decide) ?_ | refine ret_n ?_)
     | refine tri_reg [22] ?_ | refine tri_regc [22] [(7, .b), (8, .w)] mixed (by decide +kernel) ?_
     | (refine rwf_nilt rfl (by decide +kernel) fun B hB => ?_; (try simp [*]); refine hB.out _ fun b => ?_; clear hB B)
     | (refine Rul.pf ⟨rfl, rfl⟩ fun B C hB => ?_; (try simp [*, -List.all_eq_true, Tryz.results116]); (try (simp (disch := first | assumption | omega) only [wc, ite_yes]; (try simp [*, -List.all_eq_true, Tryz.results116]))); first | (first | refine hB.out.1 _ (fun hb => ?_) fun hb => ⟨rfl, ?_⟩ | refine hB.out.1 _ (fun hb => ?_) fun hb => ?_) <;> clear hB C B <;> (try simp only [Bool.not_true, Bool.not_false] at hb) <;> (first | (exfalso; simp at hb; done) | (exfalso; simp at hb; omega) | (rw [hb]; (try simp at hb)) | (try simp at hb)) | ((first | refine hB.out.1 _ _ ?_ | refine hB.out.1 _ ?_ | refine hB.out.2.1 _ _ _ (place_row l (by omega) hr m.key _ p v x _ hσ hv) ?_ | refine hB.out.2.2 _ _ _ (place_row l (by omega) hr m.key _ p v x _ hσ hv) ?_ | refine hB.out.2 ⟨rfl, ?_⟩); clear hB C B) | (refine hB.out.2 _ ?_; clear hB C B; (try rfl)))
     | refine rwf_o ?_ | refine rwc_o .n rfl ?_ | refine rwc_o .z rfl ?_ | refine rwc_o .w rfl ?_ | refine rwc_o .b rfl ?_ | refine rwc_o _ rfl ?_)
    refine rwc_cw rfl fun C' hC => ?_
    simp
    refine hC.out _ _ _ hcall ?_ fun r s hq => ?_
    · exact ⟨_, _, rowAt_new (by simp; have := lt_of_get hσ; omega) (Nat.le_of_eq (by simp; have := low_le l m.key; omega)) (List.take_of_length_le (by simp; have := low_le l m.key; omega))⟩
    clear hC C' hcall hz
    obtain ⟨q1, q2⟩ := hq
    rw [get_app hσ] at q2
    rcases q1 with ⟨rfl, q3, _⟩ | ⟨i', g', off', c', rfl, q3, q4, q5, q6⟩
    · omega
    repeat' (first
     | (with_reducible first | refine Stp.pf ?_ | refine block_x (by decide) ?_ | refine ret_n ?_)
     | refine tri_reg [22] ?_ | refine tri_regc [22] [(7, .b), (8, .w)] mixed (by decide +kernel) ?_
     | (refine rwf_nilt rfl (by decide +kernel) fun B hB => ?_; (try simp [*]); refine hB.out _ fun b => ?_; clear hB B)
     | (refine Rul.pf ⟨rfl, rfl⟩ fun B C hB => ?_; (try simp [*, -List.all_eq_true, Tryz.results116]); (try (simp (disch := first | assumption | omega) only [wc, ite_yes]; (try simp [*, -List.all_eq_true, Tryz.results116]))); first | (first | refine hB.out.1 _ (fun hb => ?_) fun hb => ⟨rfl, ?_⟩ | refine hB.out.1 _ (fun hb => ?_) fun hb => ?_) <;> clear hB C B <;> (try simp only [Bool.not_true, Bool.not_false] at hb) <;> (first | (exfalso; simp at hb; done) | (exfalso; simp at hb; omega) | (rw [hb]; (try simp at hb)) | (try simp at hb)) | ((first | refine hB.out.1 _ _ ?_ | refine hB.out.1 _ ?_ | refine hB.out.2 ⟨rfl, ?_⟩); clear hB C B) | (refine hB.out.2 _ ?_; clear hB C B; (try rfl)))
     | refine rwf_o ?_ | refine rwc_o .n rfl ?_ | refine rwc_o .z rfl ?_ | refine rwc_o .w rfl ?_ | refine rwc_o .b rfl ?_ | refine rwc_o _ rfl ?_)
    exact ⟨rfl, _, List.getElem?_set_self (lt_of_get q2), .inr ⟨i', g', off', c', rfl, q3, by rw [List.getElem?_set_ne (Ne.symm q3)]; exact q4, q5, q6⟩⟩
  | true =>
    obtain ⟨hlow, hkey, _⟩ := hit_low hh
    obtain ⟨y, hy1, hy2, hy3⟩ := putM_yes hh
    rw [hy3]
    obtain rfl : l[low l m.key] = y := by rw [List.getElem?_eq_getElem hlow] at hy1; cases hy1; rfl
    rcases hv with ⟨rfl, h1, h2⟩ | ⟨i, g, off, c, rfl, h1, h2, h3, h4⟩
    · omega
    have hseg : List.take 3 (List.drop (off + low l m.key * 3) c) = cM l[low l m.key] := by
      rw [← flatM_seg l _ hlow, ← h4, List.drop_take, List.take_take, List.drop_drop]
      congr 1; omega
    repeat' (first
     | (with_reducible first | refine Stp.pf ?_ | refine block_x (by decide) ?_ | refine ret_n ?_)
     | refine tri_reg [] ?_ | refine tri_regc [] [] mixed (by decide +kernel) ?_
     | (refine rwf_nilt rfl (by decide +kernel) fun B hB => ?_; (try simp [*]); refine hB.out _ fun b => ?_; clear hB B)
     | (refine Rul.pf ⟨rfl, rfl⟩ fun B C hB => ?_; (try simp [*, -List.all_eq_true, Tryz.results116]); (try (simp (disch := first | assumption | omega) only [wc, ite_yes]; (try simp [*, -List.all_eq_true, Tryz.results116]))); first | (first | refine hB.out.1 _ (fun hb => ?_) fun hb => ⟨rfl, ?_⟩ | refine hB.out.1 _ (fun hb => ?_) fun hb => ?_) <;> clear hB C B <;> (try simp only [Bool.not_true, Bool.not_false] at hb) <;> (first | (exfalso; simp at hb; done) | (exfalso; simp at hb; omega) | (rw [hb]; (try simp at hb)) | (try simp at hb)) | ((first | refine hB.out.1 _ _ ?_ | refine hB.out.1 _ ?_ | refine hB.out.2.1 _ _ _ (place_row l (by omega) hr m.key _ p _ x _ hσ (.inr ⟨i, g, off, c, rfl, h1, h2, h3, h4⟩)) ?_ | refine hB.out.2.2 _ _ _ (place_row l (by omega) hr m.key _ p _ x _ hσ (.inr ⟨i, g, off, c, rfl, h1, h2, h3, h4⟩)) ?_ | refine hB.out.2.1 _ _ _ (mThen_spec _ _) ?_ | refine hB.out.2.2 _ _ _ (mThen_spec _ _) ?_ | refine hB.out.2 ⟨rfl, ?_⟩); clear hB C B) | (refine hB.out.2 _ ?_; clear hB C B; (try rfl)))
     | refine rwf_o ?_ | refine rwc_o .n rfl ?_ | refine rwc_o .z rfl ?_ | refine rwc_o .w rfl ?_ | refine rwc_o .b rfl ?_ | refine rwc_o _ rfl ?_)
    refine ⟨rfl, _, by rw [List.getElem?_set_ne h1]; exact hσ, ?_⟩
    exact .inr ⟨i, g, off, _, by simp, h1, List.getElem?_set_self (lt_of_get h2), by rw [wr_length _ _ _ (by simp; omega)]; simpa using h3, wr_setM _ _ hlow h3 h4⟩
end Go.Proofs.YticpnfgiidljlaaGreat
