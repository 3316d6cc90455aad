/- Spaces in the store: cut. -/
import Derived.Test.YtgdefllblcmgpaaYd
namespace Go.Proofs.Ytgdefllblcmgpaa
open Go.RowKit
set_option linter.unusedSimpArgs false
set_option maxRecDepth 10000
theorem cover_lt {e : List Ext} {x : Ext} (h : coverX e x = true) : findX e x.lo < e.length := by
  unfold coverX at h
  rcases Nat.lt_or_ge (findX e x.lo) e.length with q | q
  · exact q
  · rw [List.getElem?_eq_none q] at h; cases h
theorem cutX_is {e : List Ext} {x : Ext} (h : findX e x.lo < e.length) : cutX e x = e.take (findX e x.lo) ++ ((if 0 < x.lo - e[findX e x.lo].lo then [⟨e[findX e x.lo].lo, x.lo - e[findX e x.lo].lo⟩] else []) ++ ((if 0 < xe e[findX e x.lo] - xe x then [⟨xe x, xe e[findX e x.lo] - xe x⟩] else []) ++ e.drop (findX e x.lo + 1))) := by
  unfold cutX
  rw [List.getElem?_eq_getElem h]
/-- What holds midway. -/
def CutM (p : Nat) (n : Int) (i : Nat) (e : List Ext) (x o : Ext) (v : AV) (σ : Sto) (E : Env) (s : Sto) : Prop :=
  E 0 = .mp p 0 0 ∧ E 3 = .fp (cE x) 0 ∧ E 5 = .fp (cE o) 0 ∧ E 4 = .sc (.int .i64 i) ∧ ∃ v', s[p]? = some ⟨[.sc (.int .i64 n), v'], 0, false, false⟩ ∧ RowAt 2 p s v' e.length (flatE e) ∧ FrR p v σ s v'
theorem row_fin {p : Nat} {n : Int} {v v' : AV} {σ S : Sto} {R : List Ext} {l : Nat} (hSp : S[p]? = some ⟨[.sc (.int .i64 n), v'], 0, false, false⟩) (hSF : FrR p v σ S v') (hl : 0 < l) (s : Sto) (r : AV) (h : RowAt 2 p s r l (flatE R) ∧ s[p]? = S[p]? ∧ FrR p v' S s r) : s[p]? = some ⟨[.sc (.int .i64 n), v'], 0, false, false⟩ ∧ (∃ i g off, r = .ms i g off l 2) ∧ Hid (∃ v', (List.set s p ⟨[.sc (.int .i64 n), r], 0, false, false⟩)[p]? = some ⟨[.sc (.int .i64 n), v'], 0, false, false⟩ ∧ RowAt 2 p (List.set s p ⟨[.sc (.int .i64 n), r], 0, false, false⟩) v' l (flatE R) ∧ FrR p v σ (List.set s p ⟨[.sc (.int .i64 n), r], 0, false, false⟩) v') := by
  obtain ⟨k1, k2, k3⟩ := h
  rw [hSp] at k2
  refine ⟨k2, ?_, Lib.hid ⟨_, List.getElem?_set_self (lt_of_get k2), k1.set_p _, (hSF.trans k3).set_p _⟩⟩
  rcases k1 with ⟨_, q, _⟩ | ⟨i, g, off, _, q, _⟩
  · omega
  · exact ⟨i, g, off, q⟩
set_option maxHeartbeats 1000000 in
theorem sCut_spec (p : Nat) (n : Int) (e : List Ext) (x : Ext) (σ : Sto) (v : AV) (hσ : σ[p]? = some ⟨[.sc (.int .i64 n), v], 0, false, false⟩) (hv : RowAt 2 p σ v e.length (flatE e)) (hn : Norm n e) (h0 : 0 ≤ n ∧ n ≤ 512) (hx : 0 ≤ x.lo ∧ 1 ≤ x.sz ∧ xe x ≤ n) (ht : coverX e x = true) :
    Spec Try.prog 30 [.mp p 0 0, .agg (cE x)] σ (fun r s => r = .tup [] ∧ ∃ v', s[p]? = some ⟨[.sc (.int .i64 n), v'], 0, false, false⟩ ∧ RowAt 2 p s v' (cutX e x).length (flatE (cutX e x)) ∧ FrR p v σ s v') := by
  have hlt := cover_lt ht
  have hel := norm_len hn h0.1
  have hxr : Room x := ⟨hx.1, hx.2.1, by omega⟩
  have hoR := norm_room hn h0.2 _ (List.getElem_mem hlt)
  have hend := sEnd_spec x hxr.ends.1 hxr.ends.2
  have hendo := sEnd_spec _ hoR.ends.1 hoR.ends.2
  have hfd := lendS1 (y := .sc (.int .i64 x.lo)) ⟨v, hσ, hv⟩ rfl rfl (sFind_spec n e x.lo (by omega) (norm_ends hn h0.2))
  unfold findR at hfd
  rw [if_pos hlt] at hfd
  rw [cutX_is hlt]
  clear ht hn
  obtain ⟨i, g, off, c, rfl, hip, h2, h3, h4⟩ := row_ms hv (by omega)
  have hdel := delI_spec e (by omega) (findX e x.lo) hlt σ i g off c false h2 h3 h4
  have sg := segE h4 _ hlt
  have hF0 : FrR p (.ms i g off e.length 2) σ σ (.ms i g off e.length 2) := ⟨fun _ _ _ _ h => h, fun _ h => .inl h, Nat.le_refl _⟩
  have hF1 : e.length - 1 + 1 = e.length := by omega
  have hl1 : ∀ A : List Ext, (e.take (findX e x.lo) ++ (A ++ e.drop (findX e x.lo + 1))).length = e.length - 1 + A.length := fun A => by simp; omega
  generalize e[findX e x.lo] = o at *
  generalize findX e x.lo = F at *
  rw [show ((F + 1 : Nat) : Int) = (F : Int) + 1 by omega] at hdel
  have hiX : ∀ X : Sto, (σ ++ X)[i]? = some ⟨c, g, false, false⟩ := fun X => by rw [List.getElem?_append_left (lt_of_get h2)]; exact h2
  have hpX : ∀ X : Sto, (σ ++ X)[p]? = some ⟨[.sc (.int .i64 n), .ms i g off e.length 2], 0, false, false⟩ := fun X => by rw [List.getElem?_append_left (lt_of_get hσ)]; exact hσ
  have hd1 : -9223372036854775808 ≤ xe o - xe x ∧ xe o - xe x ≤ 9223372036854775807 := by unfold Room xe at *; omega
  have hd2 : -9223372036854775808 ≤ x.lo - o.lo ∧ x.lo - o.lo ≤ 9223372036854775807 := by unfold Room xe at *; omega
  clear hxr hoR hx hv h4
  refine spec_intro Try.func30 good30 rfl (by simp [Try.ntmps30]) ?_
  refine tri_seq_k fun K0 hK0 => ?_
  repeat' (first
   | (with_reducible first | refine Stp.pf ?_ | refine block_x (by decide) ?_ | refine ret_n ?_)
   | refine tri_reg [47,68] ?_ | refine tri_regc [47,68] [] mixed (by decide +kernel) ?_
   | (refine rwf_nilt rfl (by decide +kernel) fun B hB => ?_; (try simp [*]); refine hB.out _ fun b => ?_; clear hB B)
   | (refine Rul.pf ⟨rfl, rfl⟩ fun B C hB => ?_; (try simp [*, -List.all_eq_true, Try.results30]); (try (simp (disch := first | assumption | omega) only [wc, ite_yes]; (try simp [*, -List.all_eq_true, Try.results30]))); first | (first | refine hB.out.1 _ (fun hb => ?_) fun hb => ⟨rfl, ?_⟩ | refine hB.out.1 _ (fun hb => ?_) fun hb => ?_) <;> clear hB C B <;> (try simp only [Bool.not_true, Bool.not_false] at hb) <;> (first | (exfalso; simp at hb; done) | (exfalso; simp at hb; omega) | (rw [hb]; (try simp at hb)) | (try simp at hb)) | ((first | refine hB.out.1 _ _ ?_ | refine hB.out.1 _ ?_ | refine hB.out.2 ⟨rfl, ?_⟩); clear hB C B) | (refine hB.out.2 _ ?_; clear hB C B; (try rfl)))
   | refine rwf_o ?_ | refine rwc_o .n rfl ?_ | refine rwc_o .z rfl ?_ | refine rwc_o .w rfl ?_ | refine rwc_o .b rfl ?_ | refine rwc_o _ rfl ?_)
  refine hK0 _ _ ?_
  clear hK0 K0
  refine tri_seq_k fun K0 hK0 => ?_
  repeat' (first
   | (with_reducible first | refine Stp.pf ?_ | refine block_x (by decide) ?_ | refine ret_n ?_)
   | refine tri_reg [47,68] ?_ | refine tri_regc [47,68] [] mixed (by decide +kernel) ?_
   | (refine rwf_nilt rfl (by decide +kernel) fun B hB => ?_; (try simp [*]); refine hB.out _ fun b => ?_; clear hB B)
   | (refine Rul.pf ⟨rfl, rfl⟩ fun B C hB => ?_; (try simp [*, -List.all_eq_true, cE.eq_1, Try.results30]); (try (simp (disch := first | assumption | omega) only [wc, ite_yes]; (try simp [*, -List.all_eq_true, cE.eq_1, Try.results30]))); first | (first | refine hB.out.1 _ (fun hb => ?_) fun hb => ⟨rfl, ?_⟩ | refine hB.out.1 _ (fun hb => ?_) fun hb => ?_) <;> clear hB C B <;> (try simp only [Bool.not_true, Bool.not_false] at hb) <;> (first | (exfalso; simp at hb; done) | (exfalso; simp at hb; omega) | (rw [hb]; (try simp at hb)) | (try simp at hb)) | ((first | refine hB.out.1 _ _ ?_ | refine hB.out.1 _ ?_ | refine hB.out.2.1 _ _ _ (hfd) ?_ | refine hB.out.2.2 _ _ _ (hfd) ?_ | refine hB.out.2 ⟨rfl, ?_⟩); clear hB C B) | (refine hB.out.2 _ ?_; clear hB C B; (try rfl)))
   | refine rwf_o ?_ | refine rwc_o .n rfl ?_ | refine rwc_o .z rfl ?_ | refine rwc_o .w rfl ?_ | refine rwc_o .b rfl ?_ | refine rwc_o _ rfl ?_)
  refine hK0 _ _ ?_
  clear hK0 K0
  refine tri_seq_k fun K0 hK0 => ?_
  repeat' (first
   | (with_reducible first | refine Stp.pf ?_ | refine block_x (by decide) ?_ | refine ret_n ?_)
   | refine tri_reg [47,68] ?_ | refine tri_regc [47,68] [] mixed (by decide +kernel) ?_
   | (refine rwf_nilt rfl (by decide +kernel) fun B hB => ?_; (try simp [*]); refine hB.out _ fun b => ?_; clear hB B)
   | (refine Rul.pf ⟨rfl, rfl⟩ fun B C hB => ?_; (try simp [*, -List.all_eq_true, cE.eq_1, Try.results30]); (try (simp (disch := first | assumption | omega) only [wc, ite_yes]; (try simp [*, -List.all_eq_true, cE.eq_1, Try.results30]))); first | (first | refine hB.out.1 _ (fun hb => ?_) fun hb => ⟨rfl, ?_⟩ | refine hB.out.1 _ (fun hb => ?_) fun hb => ?_) <;> clear hB C B <;> (try simp only [Bool.not_true, Bool.not_false] at hb) <;> (first | (exfalso; simp at hb; done) | (exfalso; simp at hb; omega) | (rw [hb]; (try simp at hb)) | (try simp at hb)) | ((first | refine hB.out.1 _ _ ?_ | refine hB.out.1 _ ?_ | refine hB.out.2 ⟨rfl, ?_⟩); clear hB C B) | (refine hB.out.2 _ ?_; clear hB C B; (try rfl)))
   | refine rwf_o ?_ | refine rwc_o .n rfl ?_ | refine rwc_o .z rfl ?_ | refine rwc_o .w rfl ?_ | refine rwc_o .b rfl ?_ | refine rwc_o _ rfl ?_)
  refine hK0 _ _ ?_
  clear hK0 K0
  refine tri_seq_k fun K0 hK0 => ?_
  repeat' (first
   | (with_reducible first | refine Stp.pf ?_ | refine block_x (by decide) ?_ | refine ret_n ?_)
   | refine tri_reg [47,68] ?_ | refine tri_regc [47,68] [] mixed (by decide +kernel) ?_
   | (refine rwf_nilt rfl (by decide +kernel) fun B hB => ?_; (try simp [*]); refine hB.out _ fun b => ?_; clear hB B)
   | (refine Rul.pf ⟨rfl, rfl⟩ fun B C hB => ?_; (try simp [*, -List.all_eq_true, cE.eq_1, Try.results30]); (try (simp (disch := first | assumption | omega) only [wc, ite_yes]; (try simp [*, -List.all_eq_true, cE.eq_1, Try.results30]))); first | (first | refine hB.out.1 _ (fun hb => ?_) fun hb => ⟨rfl, ?_⟩ | refine hB.out.1 _ (fun hb => ?_) fun hb => ?_) <;> clear hB C B <;> (try simp only [Bool.not_true, Bool.not_false] at hb) <;> (first | (exfalso; simp at hb; done) | (exfalso; simp at hb; omega) | (rw [hb]; (try simp at hb)) | (try simp at hb)) | ((first | refine hB.out.1 _ _ ?_ | refine hB.out.1 _ ?_ | refine hB.out.2 ⟨rfl, ?_⟩); clear hB C B) | (refine hB.out.2 _ ?_; clear hB C B; (try rfl)))
   | refine rwf_o ?_ | refine rwc_o .n rfl ?_ | refine rwc_o .z rfl ?_ | refine rwc_o .w rfl ?_ | refine rwc_o .b rfl ?_ | refine rwc_o _ rfl ?_)
  refine rwf_ca rfl fun C' hC hP => ?_
  clear hP
  (try simp [*, -List.all_eq_true, cE.eq_1]); (try (simp (disch := first | assumption | omega) only [wrap_id, wrapu_id, wrapb_id, tmod_nn, tdiv_nn, ite_yes, flatM_seg, flatM_0, flatM_1, flatM_2, flatI_seg, flatI_0, flatI_1, flatS_get]; (try simp [*, -List.all_eq_true, cE.eq_1])))
  refine hC.out _ _ _ (hdel) fun r s hq => ?_
  clear hC C'
  obtain ⟨c', rfl, rfl, q5, q6⟩ := hq
  clear hdel
  obtain ⟨S, hS⟩ : ∃ S, S = List.set σ i ⟨c', g, false, false⟩ := ⟨_, rfl⟩
  have p2 : S[p]? = some ⟨[.sc (.int .i64 n), .ms i g off e.length 2], 0, false, false⟩ := by rw [hS, List.getElem?_set_ne hip]; exact hσ
  have i2 : S[i]? = some ⟨c', g, false, false⟩ := by rw [hS]; exact List.getElem?_set_self (lt_of_get h2)
  have f2 : FrR p (.ms i g off e.length 2) σ S (.ms i g off (e.length - 1) 2) := by
    rw [hS]
    exact (hF0.set_h (.inl (isH_self ..)) _).re fun k hk => .inl (by rw [isH_ms hk]; exact isH_self ..)
  rw [← hS]
  clear hS hF0 hσ h2 hiX hpX hfd
  have fin : ∃ v', (List.set S p ⟨[.sc (.int .i64 n), .ms i g off (e.length - 1) 2], 0, false, false⟩)[p]? = some ⟨[.sc (.int .i64 n), v'], 0, false, false⟩ ∧ RowAt 2 p (List.set S p ⟨[.sc (.int .i64 n), .ms i g off (e.length - 1) 2], 0, false, false⟩) v' (e.take F ++ e.drop (F + 1)).length (flatE (e.take F ++ e.drop (F + 1))) ∧ FrR p (.ms i g off e.length 2) σ (List.set S p ⟨[.sc (.int .i64 n), .ms i g off (e.length - 1) 2], 0, false, false⟩) v' := by
    refine ⟨_, List.getElem?_set_self (lt_of_get p2), ?_, f2.set_p _⟩
    rw [show (e.take F ++ e.drop (F + 1)).length = e.length - 1 by simpa using hl1 []]
    exact .inr ⟨i, g, off, c', rfl, hip, by rw [List.getElem?_set_ne (Ne.symm hip)]; exact i2, q5, q6⟩
  replace fin := Lib.hid fin
  replace q6 := Lib.hid q6
  clear f2 i2
  repeat' (first
   | (with_reducible first | refine Stp.pf ?_ | refine block_x (by decide) ?_ | refine ret_n ?_)
   | refine tri_reg [47,68] ?_ | refine tri_regc [47,68] [] mixed (by decide +kernel) ?_
   | (refine rwf_nilt rfl (by decide +kernel) fun B hB => ?_; (try simp [*]); refine hB.out _ fun b => ?_; clear hB B)
   | (refine Rul.pf ⟨rfl, rfl⟩ fun B C hB => ?_; (try simp [*, -List.all_eq_true, cE.eq_1, Try.results30]); (try (simp (disch := first | assumption | omega) only [wc, ite_yes]; (try simp [*, -List.all_eq_true, cE.eq_1, Try.results30]))); first | (first | refine hB.out.1 _ (fun hb => ?_) fun hb => ⟨rfl, ?_⟩ | refine hB.out.1 _ (fun hb => ?_) fun hb => ?_) <;> clear hB C B <;> (try simp only [Bool.not_true, Bool.not_false] at hb) <;> (first | (exfalso; simp at hb; done) | (exfalso; simp at hb; omega) | (rw [hb]; (try simp at hb)) | (try simp at hb)) | ((first | refine hB.out.1 _ _ ?_ | refine hB.out.1 _ ?_ | refine hB.out.2 ⟨rfl, ?_⟩); clear hB C B) | (refine hB.out.2 _ ?_; clear hB C B; (try rfl)))
   | refine rwf_o ?_ | refine rwc_o .n rfl ?_ | refine rwc_o .z rfl ?_ | refine rwc_o .w rfl ?_ | refine rwc_o .b rfl ?_ | refine rwc_o _ rfl ?_)
  refine hK0 _ _ ?_
  clear hK0 K0
  generalize List.set S p _ = S2 at *
  clear p2 q6 q5 h3
  obtain ⟨v', p3, r3, f3⟩ := fin.out
  have hl0 := lt_of_get p3
  have hFe : F ≤ e.length := by omega
  have hdl : (e.drop (F + 1)).length = e.length - 1 - F := by simp; omega
  have hle : (e.take F).length = F := by simp; omega
  clear fin hl1
  generalize e.take F = A at *
  generalize e.drop (F + 1) = D at *
  refine tri_cut (CutM p n F (A ++ ((if 0 < xe o - xe x then [⟨xe x, xe o - xe x⟩] else []) ++ D)) x o (.ms i g off e.length 2) σ) ?_ ?_
  · have hlAD : (A ++ D).length ≤ 512 := by simp; omega
    obtain ⟨hins, hex⟩ := ins_call (e := A ++ D) (by omega) ⟨xe x, xe o - xe x⟩ F (by simp; omega) hl0 r3
    rw [List.take_left' hle, List.drop_left' hle] at hins hex
    have hv1 : AV.one v' = true := by rcases rowAt_shape r3 with rfl | ⟨_, _, _, rfl⟩ <;> rfl
    have hpX : ∀ X : Sto, (S2 ++ X)[p]? = some ⟨[.sc (.int .i64 n), v'], 0, false, false⟩ := fun X => by rw [List.getElem?_append_left (lt_of_get p3)]; exact p3
    by_cases hd : 0 < xe o - xe x
    · rw [if_pos hd]
      obtain ⟨L, hL⟩ : ∃ L, L = (A ++ D).length + 1 := ⟨_, rfl⟩
      rw [← hL] at hins hex
      have hL0 : 0 < L := by omega
      replace hL := Lib.hid hL
      have fin := row_fin (R := A ++ ⟨xe x, xe o - xe x⟩ :: D) p3 f3 hL0
      replace fin := Lib.hid fin
      replace hex := Lib.hid hex
      clear r3 f3 hle hdl hl0
      repeat' (first
       | (with_reducible first | refine Stp.pf ?_ | refine block_x (by decide) ?_ | refine ret_n ?_)
       | refine tri_reg [47,68] ?_ | refine tri_regc (id := 6) [47,68] [(10, .b), (11, .w)] mixed (by decide +kernel) ?_ | refine tri_regc [47,68] [] mixed (by decide +kernel) ?_
       | (refine rwf_nilt rfl (by decide +kernel) fun B hB => ?_; (try simp [*]); refine hB.out _ fun b => ?_; clear hB B)
       | (refine Rul.pf ⟨rfl, rfl⟩ fun B C hB => ?_; (try simp [*, -List.all_eq_true, Try.results30]); (try (simp (disch := first | assumption | omega) only [wc, ite_yes]; (try simp [*, -List.all_eq_true, Try.results30]))); first | (first | refine hB.out.1 _ (fun hb => ?_) fun hb => ⟨rfl, ?_⟩ | refine hB.out.1 _ (fun hb => ?_) fun hb => ?_) <;> clear hB C B <;> (try simp only [Bool.not_true, Bool.not_false] at hb) <;> (first | (exfalso; simp at hb; done) | (exfalso; simp at hb; omega) | (rw [hb]; (try simp at hb)) | (try simp at hb)) | ((first | refine hB.out.1 _ _ ?_ | refine hB.out.1 _ ?_ | refine hB.out.2.1 _ _ _ (hend) ?_ | refine hB.out.2.2 _ _ _ (hend) ?_ | refine hB.out.2.1 _ _ _ (hendo) ?_ | refine hB.out.2.2 _ _ _ (hendo) ?_ | refine hB.out.2 ⟨rfl, ?_⟩); clear hB C B) | (refine hB.out.2 _ ?_; clear hB C B; (try rfl)))
       | refine rwf_o ?_ | refine rwc_o .n rfl ?_ | refine rwc_o .z rfl ?_ | refine rwc_o .w rfl ?_ | refine rwc_o .b rfl ?_ | refine rwc_o _ rfl ?_)
      refine rwc_cw rfl fun C' hC => ?_
      simp [hpX, -List.append_assoc]
      refine hC.out _ _ _ hins hex.out fun r s hq => ?_
      clear hC C' hins hex
      obtain ⟨k2, ⟨i2, g2, off2, rfl⟩, fin⟩ := fin.out _ _ hq
      clear hpX hq p3
      repeat' (first
       | (with_reducible first | refine Stp.pf ?_ | refine block_x (by decide) ?_ | refine ret_n ?_)
       | refine tri_reg [47,68] ?_ | refine tri_regc (id := 6) [47,68] [(10, .b), (11, .w)] mixed (by decide +kernel) ?_ | refine tri_regc [47,68] [] mixed (by decide +kernel) ?_
       | (refine rwf_nilt rfl (by decide +kernel) fun B hB => ?_; (try simp [*]); refine hB.out _ fun b => ?_; clear hB B)
       | (refine Rul.pf ⟨rfl, rfl⟩ fun B C hB => ?_; (try simp [*, -List.all_eq_true, Try.results30]); (try (simp (disch := first | assumption | omega) only [wc, ite_yes]; (try simp [*, -List.all_eq_true, Try.results30]))); first | (first | refine hB.out.1 _ (fun hb => ?_) fun hb => ⟨rfl, ?_⟩ | refine hB.out.1 _ (fun hb => ?_) fun hb => ?_) <;> clear hB C B <;> (try simp only [Bool.not_true, Bool.not_false] at hb) <;> (first | (exfalso; simp at hb; done) | (exfalso; simp at hb; omega) | (rw [hb]; (try simp at hb)) | (try simp at hb)) | ((first | refine hB.out.1 _ _ ?_ | refine hB.out.1 _ ?_ | refine hB.out.2 ⟨rfl, ?_⟩); clear hB C B) | (refine hB.out.2 _ ?_; clear hB C B; (try rfl)))
       | refine rwf_o ?_ | refine rwc_o .n rfl ?_ | refine rwc_o .z rfl ?_ | refine rwc_o .w rfl ?_ | refine rwc_o .b rfl ?_ | refine rwc_o _ rfl ?_)
      obtain ⟨v4, k3, k4, k5⟩ := fin.out
      refine ⟨by simp, by simp, by simp; rfl, by simp, v4, k3, ?_, k5⟩
      rw [show (A ++ ([(⟨xe x, xe o - xe x⟩ : Ext)] ++ D)).length = L by rw [hL.out]; simp; omega]
      exact k4
    · rw [if_neg hd]
      have fin : ∀ E : Env, E 0 = .mp p 0 0 → E 3 = .fp (cE x) 0 → E 5 = .fp (cE o) 0 → E 4 = .sc (.int .i64 F) → CutM p n F (A ++ D) x o (.ms i g off e.length 2) σ E S2 := fun E e0 e3 e5 e4 => ⟨e0, e3, e5, e4, v', p3, r3, f3⟩
      replace fin := Lib.hid fin
      clear r3 f3 hle hdl hl0 hins hex
      repeat' (first
       | (with_reducible first | refine Stp.pf ?_ | refine block_x (by decide) ?_ | refine ret_n ?_)
       | refine tri_reg [47,68] ?_ | refine tri_regc (id := 6) [47,68] [(10, .b), (11, .w)] mixed (by decide +kernel) ?_ | refine tri_regc [47,68] [] mixed (by decide +kernel) ?_
       | (refine rwf_nilt rfl (by decide +kernel) fun B hB => ?_; (try simp [*]); refine hB.out _ fun b => ?_; clear hB B)
       | (refine Rul.pf ⟨rfl, rfl⟩ fun B C hB => ?_; (try simp [*, -List.all_eq_true, Try.results30]); (try (simp (disch := first | assumption | omega) only [wc, ite_yes]; (try simp [*, -List.all_eq_true, Try.results30]))); first | (first | refine hB.out.1 _ (fun hb => ?_) fun hb => ⟨rfl, ?_⟩ | refine hB.out.1 _ (fun hb => ?_) fun hb => ?_) <;> clear hB C B <;> (try simp only [Bool.not_true, Bool.not_false] at hb) <;> (first | (exfalso; simp at hb; done) | (exfalso; simp at hb; omega) | (rw [hb]; (try simp at hb)) | (try simp at hb)) | ((first | refine hB.out.1 _ _ ?_ | refine hB.out.1 _ ?_ | refine hB.out.2.1 _ _ _ (hend) ?_ | refine hB.out.2.2 _ _ _ (hend) ?_ | refine hB.out.2.1 _ _ _ (hendo) ?_ | refine hB.out.2.2 _ _ _ (hendo) ?_ | refine hB.out.2 ⟨rfl, ?_⟩); clear hB C B) | (refine hB.out.2 _ ?_; clear hB C B; (try rfl)))
       | refine rwf_o ?_ | refine rwc_o .n rfl ?_ | refine rwc_o .z rfl ?_ | refine rwc_o .w rfl ?_ | refine rwc_o .b rfl ?_ | refine rwc_o _ rfl ?_)
      exact fin.out _ (by simp) (by simp) (by simp; rfl) (by simp)
  · clear p3 r3 f3 hl0
    generalize hD2 : (if 0 < xe o - xe x then [⟨xe x, xe o - xe x⟩] else []) ++ D = D2 at *
    have hdl2 : D2.length ≤ e.length - F := by rw [← hD2]; split <;> simp <;> omega
    clear hD2 hdl D
    rintro E S ⟨h0', h3', h5', h4', v', hSp, hSv, hSF⟩
    have hpX : ∀ X : Sto, (S ++ X)[p]? = some ⟨[.sc (.int .i64 n), v'], 0, false, false⟩ := fun X => by rw [List.getElem?_append_left (lt_of_get hSp)]; exact hSp
    have hlAD : (A ++ D2).length ≤ 513 := by simp; omega
    obtain ⟨hins, hex⟩ := ins_call (e := A ++ D2) (by omega) ⟨o.lo, x.lo - o.lo⟩ F (by simp; omega) (lt_of_get hSp) hSv
    rw [List.take_left' hle, List.drop_left' hle] at hins hex
    have hv1 : AV.one v' = true := by rcases rowAt_shape hSv with rfl | ⟨_, _, _, rfl⟩ <;> rfl
    by_cases hd : 0 < x.lo - o.lo
    · rw [if_pos hd]
      obtain ⟨L, hL⟩ : ∃ L, L = (A ++ D2).length + 1 := ⟨_, rfl⟩
      rw [← hL] at hins hex
      have hL0 : 0 < L := by omega
      replace hL := Lib.hid hL
      have fin := row_fin (R := A ++ ⟨o.lo, x.lo - o.lo⟩ :: D2) hSp hSF hL0
      replace fin := Lib.hid fin
      replace hex := Lib.hid hex
      clear hSv hSF hle
      simp only [cE.eq_1] at hins
      repeat' (first
       | (with_reducible first | refine Stp.pf ?_ | refine block_x (by decide) ?_ | refine ret_n ?_)
       | refine tri_reg [47,68] ?_ | refine tri_regc (id := 9) [47,68] [(10, .b), (11, .w)] mixed (by decide +kernel) ?_ | refine tri_regc [47,68] [] mixed (by decide +kernel) ?_
       | (refine rwf_nilt rfl (by decide +kernel) fun B hB => ?_; (try simp [*]); refine hB.out _ fun b => ?_; clear hB B)
       | (refine Rul.pf ⟨rfl, rfl⟩ fun B C hB => ?_; (try simp [*, -List.all_eq_true, cE.eq_1, Try.results30]); (try (simp (disch := first | assumption | omega) only [wc, ite_yes]; (try simp [*, -List.all_eq_true, cE.eq_1, Try.results30]))); first | (first | refine hB.out.1 _ (fun hb => ?_) fun hb => ⟨rfl, ?_⟩ | refine hB.out.1 _ (fun hb => ?_) fun hb => ?_) <;> clear hB C B <;> (try simp only [Bool.not_true, Bool.not_false] at hb) <;> (first | (exfalso; simp at hb; done) | (exfalso; simp at hb; omega) | (rw [hb]; (try simp at hb)) | (try simp at hb)) | ((first | refine hB.out.1 _ _ ?_ | refine hB.out.1 _ ?_ | refine hB.out.2 ⟨rfl, ?_⟩); clear hB C B) | (refine hB.out.2 _ ?_; clear hB C B; (try rfl)))
       | refine rwf_o ?_ | refine rwc_o .n rfl ?_ | refine rwc_o .z rfl ?_ | refine rwc_o .w rfl ?_ | refine rwc_o .b rfl ?_ | refine rwc_o _ rfl ?_)
      refine rwc_cw rfl fun C' hC => ?_
      simp [hpX, h4', -List.append_assoc]
      refine hC.out _ _ _ hins hex.out fun r s hq => ?_
      clear hC C' hins hex
      obtain ⟨k2, ⟨i2, g2, off2, rfl⟩, fin⟩ := fin.out _ _ hq
      clear hpX hq hSp
      repeat' (first
       | (with_reducible first | refine Stp.pf ?_ | refine block_x (by decide) ?_ | refine ret_n ?_)
       | refine tri_reg [47,68] ?_ | refine tri_regc (id := 9) [47,68] [(10, .b), (11, .w)] mixed (by decide +kernel) ?_ | refine tri_regc [47,68] [] mixed (by decide +kernel) ?_
       | (refine rwf_nilt rfl (by decide +kernel) fun B hB => ?_; (try simp [*]); refine hB.out _ fun b => ?_; clear hB B)
       | (refine Rul.pf ⟨rfl, rfl⟩ fun B C hB => ?_; (try simp [*, -List.all_eq_true, Try.results30]); (try (simp (disch := first | assumption | omega) only [wc, ite_yes]; (try simp [*, -List.all_eq_true, Try.results30]))); first | (first | refine hB.out.1 _ (fun hb => ?_) fun hb => ⟨rfl, ?_⟩ | refine hB.out.1 _ (fun hb => ?_) fun hb => ?_) <;> clear hB C B <;> (try simp only [Bool.not_true, Bool.not_false] at hb) <;> (first | (exfalso; simp at hb; done) | (exfalso; simp at hb; omega) | (rw [hb]; (try simp at hb)) | (try simp at hb)) | ((first | refine hB.out.1 _ _ ?_ | refine hB.out.1 _ ?_ | refine hB.out.2 ⟨rfl, ?_⟩); clear hB C B) | (refine hB.out.2 _ ?_; clear hB C B; (try rfl)))
       | refine rwf_o ?_ | refine rwc_o .n rfl ?_ | refine rwc_o .z rfl ?_ | refine rwc_o .w rfl ?_ | refine rwc_o .b rfl ?_ | refine rwc_o _ rfl ?_)
      rw [show (A ++ ([(⟨o.lo, x.lo - o.lo⟩ : Ext)] ++ D2)).length = L by rw [hL.out]; simp; omega]
      exact ⟨rfl, fin.out⟩
    · rw [if_neg hd]
      have fin : ∃ v', S[p]? = some ⟨[.sc (.int .i64 n), v'], 0, false, false⟩ ∧ RowAt 2 p S v' (A ++ D2).length (flatE (A ++ D2)) ∧ FrR p (.ms i g off e.length 2) σ S v' := ⟨v', hSp, hSv, hSF⟩
      replace fin := Lib.hid fin
      clear hSv hSF hle hins hex
      repeat' (first
       | (with_reducible first | refine Stp.pf ?_ | refine block_x (by decide) ?_ | refine ret_n ?_)
       | refine tri_reg [47,68] ?_ | refine tri_regc [47,68] [] mixed (by decide +kernel) ?_
       | (refine rwf_nilt rfl (by decide +kernel) fun B hB => ?_; (try simp [*]); refine hB.out _ fun b => ?_; clear hB B)
       | (refine Rul.pf ⟨rfl, rfl⟩ fun B C hB => ?_; (try simp [*, -List.all_eq_true, cE.eq_1, Try.results30]); (try (simp (disch := first | assumption | omega) only [wc, ite_yes]; (try simp [*, -List.all_eq_true, cE.eq_1, Try.results30]))); first | (first | refine hB.out.1 _ (fun hb => ?_) fun hb => ⟨rfl, ?_⟩ | refine hB.out.1 _ (fun hb => ?_) fun hb => ?_) <;> clear hB C B <;> (try simp only [Bool.not_true, Bool.not_false] at hb) <;> (first | (exfalso; simp at hb; done) | (exfalso; simp at hb; omega) | (rw [hb]; (try simp at hb)) | (try simp at hb)) | ((first | refine hB.out.1 _ _ ?_ | refine hB.out.1 _ ?_ | refine hB.out.2 ⟨rfl, ?_⟩); clear hB C B) | (refine hB.out.2 _ ?_; clear hB C B; (try rfl)))
       | refine rwf_o ?_ | refine rwc_o .n rfl ?_ | refine rwc_o .z rfl ?_ | refine rwc_o .w rfl ?_ | refine rwc_o .b rfl ?_ | refine rwc_o _ rfl ?_)
      exact ⟨rfl, fin.out⟩
end Go.Proofs.Ytgdefllblcmgpaa
