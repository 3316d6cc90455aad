/- Spaces in the store: give. -/
import Derived.Test.YtgdefllblcmgpaaYc
namespace Go.Proofs.Ytgdefllblcmgpaa
open Go.RowKit
set_option linter.unusedSimpArgs false
set_option maxRecDepth 10000
theorem FrR.trans {p : Nat} {v v' v'' : AV} {σ s t : Sto} (h : FrR p v σ s v') (k : FrR p v' s t v'') : FrR p v σ t v'' :=
  ⟨fun q o h1 h2 h3 => k.1 q o h1 (fun h4 => (h.2.1 q h4).elim h2 fun h5 => by have := lt_of_get h3; omega) (h.1 q o h1 h2 h3),
   fun q hq => (k.2.1 q hq).elim (fun h4 => h.2.1 q h4) fun h4 => .inr (Nat.le_trans h.2.2 h4), Nat.le_trans h.2.2 k.2.2⟩
theorem FrR.app {p : Nat} (σ X : Sto) (v : AV) : FrR p v σ (σ ++ X) v := ⟨fun q o _ _ h => by rw [List.getElem?_append_left (lt_of_get h)]; exact h, fun q h => .inl h, by simp⟩
theorem FrR.set_p {p : Nat} {v v' : AV} {σ s : Sto} (h : FrR p v σ s v') (X : MO) : FrR p v σ (s.set p X) v' := ⟨fun q o h1 h2 h3 => by rw [List.getElem?_set_ne (Ne.symm h1)]; exact h.1 q o h1 h2 h3, h.2.1, by simpa using h.2.2⟩
theorem FrR.set_h {p i : Nat} {v r : AV} {σ s : Sto} (h : FrR p v σ s r) (hi : isH i v ∨ σ.length ≤ i) (X : MO) : FrR p v σ (s.set i X) r :=
  ⟨fun q o h1 h2 h3 => by rw [List.getElem?_set_ne (fun e : i = q => hi.elim (fun k => h2 (e ▸ k)) fun k => by have := lt_of_get h3; omega)]; exact h.1 q o h1 h2 h3, h.2.1, by simpa using h.2.2⟩
theorem FrR.re {p : Nat} {v r r' : AV} {σ s : Sto} (h : FrR p v σ s r) (hr : ∀ k, isH k r' → isH k v ∨ σ.length ≤ k) : FrR p v σ s r' := ⟨h.1, hr, h.2.2⟩
theorem FrR.refl (p : Nat) (v : AV) (σ : Sto) : FrR p v σ σ v := ⟨fun _ _ _ _ h => h, fun _ h => .inl h, Nat.le_refl _⟩
theorem norm_lo {n : Int} {e : List Ext} (hn : Norm n e) : e.Pairwise fun x y => x.lo < y.lo := hn.1.imp_of_mem fun {x y} hx _ h => by
  have := (hn.2 x hx).2.1
  unfold xe at h
  omega
theorem norm_ends {n : Int} {e : List Ext} (hn : Norm n e) (h : n ≤ 512) : Ends e := fun x hx => by
  have := hn.2 x hx
  unfold xe at *
  omega
theorem search_row {p : Nat} {σ : Sto} {v : AV} {e : List Ext} (hv : RowAt 2 p σ v e.length (flatE e)) (hl : e.length ≤ 1000000) (hr : e.Pairwise fun x y => x.lo < y.lo) (x : Ext) : Spec Try.prog 39 [v, .agg (cE x), fGive] σ (fun r s => r = .tup [.sc (.int .i64 (lowX e x)), .sc (.bool (hitX e x))] ∧ s = σ) := by
  have hs := searchI_spec e hl hr x
  unfold fGive at *
  rcases hv with ⟨rfl, h1, h2⟩ | ⟨i, g, off, c, rfl, h1, h2, h3, h4⟩
  · obtain rfl : e = [] := List.length_eq_zero_iff.1 h1
    refine lend [] 9 (xs' := [.sc (.slice none 0 0), .agg (cE x), .fn (.func 40) [] []]) (by simp [frz, frzL, AV.flat, flatL]) rfl ?_
    exact pspec_args hs (.cons .nil (.cons (.refl _) (.cons (.refl _) .nil)))
  · exact lend [i] 9 (xs' := [.fs (flatE e) e.length, .agg (cE x), .fn (.func 40) [] []]) (by simp [frz, frzL, h2, h3, h4, AV.flat, flatL]) rfl hs
theorem segE_at0 {c : List AV} {l : List Ext} {off : Nat} (h3 : (c.drop off).take (l.length * 2) = flatE l) (k : Nat) (h : k < l.length) : c[off + k * 2]? = some (.sc (.int .i64 l[k].lo)) := by
  have := congrArg (fun q => q[k * 2]?) h3
  simp only [flatE_0 l k h, List.getElem?_take, List.getElem?_drop] at this
  rwa [if_pos (by omega)] at this
theorem segE_at1 {c : List AV} {l : List Ext} {off : Nat} (h3 : (c.drop off).take (l.length * 2) = flatE l) (k : Nat) (h : k < l.length) : c[off + k * 2 + 1]? = some (.sc (.int .i64 l[k].sz)) := by
  have := congrArg (fun q => q[k * 2 + 1]?) h3
  simp only [flatE_1 l k h, List.getElem?_take, List.getElem?_drop] at this
  rwa [if_pos (by omega), ← Nat.add_assoc] at this
def Room (y : Ext) : Prop := 0 ≤ y.lo ∧ 1 ≤ y.sz ∧ xe y ≤ 512
theorem Room.ends {y : Ext} (h : Room y) : -9223372036854775808 ≤ xe y ∧ xe y ≤ 9223372036854775807 := by
  unfold Room xe at *
  omega
theorem norm_room {n : Int} {e : List Ext} (hn : Norm n e) (h : n ≤ 512) : ∀ y ∈ e, Room y := fun x hx => by
  have := hn.2 x hx
  unfold Room xe at *
  omega
/-- A row's cells, lent out of the store. -/
theorem row_ms {p : Nat} {σ : Sto} {v : AV} {e : List Ext} (h : RowAt 2 p σ v e.length (flatE e)) (he : 0 < e.length) : ∃ i g off c, v = .ms i g off e.length 2 ∧ i ≠ p ∧ σ[i]? = some ⟨c, g, false, false⟩ ∧ off + e.length * 2 ≤ c.length ∧ (c.drop off).take (e.length * 2) = flatE e := by
  rcases h with ⟨_, h, _⟩ | h
  · omega
  · exact h
/-- Insert of one place that is laid into a row of its own. -/
theorem ins_call {e : List Ext} (he : e.length ≤ 1000000) (m : Ext) (at_ : Nat) (ha : at_ ≤ e.length) {S : Sto} {v : AV} {p : Nat} (hp : p < S.length) (hv : RowAt 2 p S v e.length (flatE e)) :
    Spec Try.prog 43 [v, .sc (.int .i64 at_), .ms S.length 0 0 1 2] (S ++ [⟨cE m, 0, false, false⟩]) (fun r s => RowAt 2 p s r (e.length + 1) (flatE (e.take at_ ++ m :: e.drop at_)) ∧ s[p]? = S[p]? ∧ FrR p v S s r) ∧ ∃ r s, RowAt 2 p s r (e.length + 1) (flatE (e.take at_ ++ m :: e.drop at_)) ∧ s[p]? = S[p]? ∧ FrR p v S s r := by
  have hlen : (e.take at_ ++ m :: e.drop at_).length = e.length + 1 := by simp; omega
  have hap : (S ++ [(⟨cE m, 0, false, false⟩ : MO)])[p]? = S[p]? := List.getElem?_append_left hp
  have hs := insI_spec e he m at_ ha (S ++ [(⟨cE m, 0, false, false⟩ : MO)]) v p S.length (by simp; omega) (hv.append _) (by simp) (fun g off n k => hv.fresh g off n k)
  refine ⟨hs.mono fun r s h => ⟨h.1, h.2.1.trans hap, (FrR.app S _ v).trans h.2.2⟩, _, _, rowFr_new (v := v) (c := flatE (e.take at_ ++ m :: e.drop at_)) hp (by rw [flatE_length, hlen]; omega) (List.take_of_length_le (by rw [flatE_length, hlen]; omega))⟩
theorem row_set1 {c : List AV} {l : List Ext} {off k : Nat} (hk : k < l.length) (h3 : off + l.length * 2 ≤ c.length) (h4 : (c.drop off).take (l.length * 2) = flatE l) (z : Int) :
    ((c.set (off + k * 2 + 1) (.sc (.int .i64 z))).drop off).take (l.length * 2) = flatE (l.set k ⟨l[k].lo, z⟩) := by
  have h := wr_setC (c := cE) cE_length (⟨l[k].lo, z⟩ : Ext) k hk h3 h4
  have ha := segE_at0 h4 k hk
  rw [show flatE (l.set k ⟨l[k].lo, z⟩) = flatC cE (l.set k ⟨l[k].lo, z⟩) from rfl, ← h]
  congr 2
  apply List.ext_getElem?
  intro i
  rw [wr_eq _ _ _ (by simp; omega)]
  rcases Nat.lt_trichotomy i (off + k * 2) with q | q | q
  · rw [List.getElem?_set_ne (by omega), List.getElem?_append_left (by simp; omega), List.getElem?_append_left (by simp; omega), List.getElem?_take, if_pos q]
  · subst q
    rw [List.getElem?_set_ne (by omega), ha, List.getElem?_append_left (by simp; omega), List.getElem?_append_right (by simp; omega)]
    simp [cE, Nat.min_eq_left (show off + k * 2 ≤ c.length by omega)]
  · rcases Nat.eq_or_lt_of_le q with q | q
    · rw [← q, List.getElem?_set_self (by omega), List.getElem?_append_left (by simp; omega), List.getElem?_append_right (by simp; omega)]
      simp [cE, Nat.min_eq_left (show off + k * 2 ≤ c.length by omega)]
    · rw [List.getElem?_set_ne (by omega), List.getElem?_append_right (by simp; omega), List.getElem?_drop]
      congr 1
      simp; omega
def tailX (e : List Ext) (i : Nat) (x : Ext) : List Ext :=
  match e[i - 1]? with
  | some y => if 0 < i ∧ xe y = x.lo then e.set (i - 1) ⟨y.lo, y.sz + x.sz⟩ else e.take i ++ x :: e.drop i
  | none => e.take i ++ x :: e.drop i
theorem giveX_tail (e : List Ext) (x : Ext) : giveX e x = tailX (growR e x).2 (lowX e x) (growR e x).1 := rfl
theorem tailX_set {e : List Ext} {k : Nat} {x : Ext} (h : k < e.length) (hx : xe e[k] = x.lo) : tailX e (k + 1) x = e.set k ⟨e[k].lo, e[k].sz + x.sz⟩ := by
  unfold tailX
  rw [show k + 1 - 1 = k from rfl, List.getElem?_eq_getElem h]
  dsimp only
  rw [if_pos ⟨by omega, hx⟩]
theorem tailX_ins {e : List Ext} {i : Nat} {x : Ext} (h : ∀ k (h : k < e.length), i = k + 1 → xe e[k] ≠ x.lo) : tailX e i x = e.take i ++ x :: e.drop i := by
  unfold tailX
  cases i with
  | zero => cases e[0 - 1]? <;> simp
  | succ k =>
    rcases Nat.lt_or_ge k e.length with q | q
    · rw [show k + 1 - 1 = k from rfl, List.getElem?_eq_getElem q]
      dsimp only
      rw [if_neg fun r => h k q rfl r.2]
    · rw [show k + 1 - 1 = k from rfl, List.getElem?_eq_none q]
theorem growR_yes {e : List Ext} {x : Ext} (h : lowX e x < e.length) (hx : e[lowX e x].lo = xe x) : growR e x = (⟨x.lo, x.sz + e[lowX e x].sz⟩, e.take (lowX e x) ++ e.drop (lowX e x + 1)) := by
  unfold growR
  rw [List.getElem?_eq_getElem h]
  dsimp only
  rw [if_pos hx]
theorem growR_no {e : List Ext} {x : Ext} (hx : ∀ h : lowX e x < e.length, e[lowX e x].lo ≠ xe x) : growR e x = (x, e) := by
  unfold growR
  rcases Nat.lt_or_ge (lowX e x) e.length with hlt | hge
  · rw [List.getElem?_eq_getElem hlt]
    dsimp only
    rw [if_neg (hx hlt)]
  · rw [List.getElem?_eq_none hge]
theorem growR_ok {e : List Ext} {x : Ext} (hr : ∀ y ∈ e, Room y) (hx : Room x) : lowX e x ≤ (growR e x).2.length ∧ (growR e x).2.length ≤ e.length ∧ (∀ y ∈ (growR e x).2, Room y) ∧ Room (growR e x).1 := by
  by_cases h : ∃ h : lowX e x < e.length, e[lowX e x].lo = xe x
  · obtain ⟨h1, h2⟩ := h
    have hy := hr _ (List.getElem_mem h1)
    rw [growR_yes h1 h2]
    refine ⟨by simp; omega, by simp; omega, fun y hy => ?_, ?_⟩
    · rcases List.mem_append.1 hy with q | q
      · exact hr y (List.mem_of_mem_take q)
      · exact hr y (List.mem_of_mem_drop q)
    · unfold Room xe at *
      dsimp only
      omega
  · rw [growR_no fun h1 h2 => h ⟨h1, h2⟩]
    exact ⟨lowX_le e x, Nat.le_refl _, hr, hx⟩
/-- What holds midway. -/
def GiveM (p b : Nat) (n : Int) (i : Nat) (e : List Ext) (x : Ext) (v : AV) (σ : Sto) (E : Env) (s : Sto) : Prop :=
  E 0 = .mp p 0 0 ∧ E 3 = .mp b 0 0 ∧ E 4 = .sc (.int .i64 i) ∧ ∃ v', s[p]? = some ⟨[.sc (.int .i64 n), v'], 0, false, false⟩ ∧ s[b]? = some ⟨cE x, 0, false, false⟩ ∧ RowAt 2 p s v' e.length (flatE e) ∧ (∀ g off n k, v' ≠ .ms b g off n k) ∧ FrR p v σ s v'
set_option maxHeartbeats 1000000 in
theorem sGive_spec (p : Nat) (n : Int) (e : List Ext) (x : Ext) (σ : Sto) (v : AV) (hσ : σ[p]? = some ⟨[.sc (.int .i64 n), v], 0, false, false⟩) (hv : RowAt 2 p σ v e.length (flatE e)) (hn : Norm n e) (h0 : 0 ≤ n ∧ n ≤ 512) (hx : isInX n x = true) (ht : touchX e x = false) :
    Spec Try.prog 29 [.mp p 0 0, .agg (cE x)] σ (fun r s => r = .tup [] ∧ ∃ v', s[p]? = some ⟨[.sc (.int .i64 n), v'], 0, false, false⟩ ∧ RowAt 2 p s v' (giveX e x).length (flatE (giveX e x)) ∧ FrR p v σ s v') := by
  have hp := lt_of_get hσ
  have hx1 := isInX_iff.1 hx
  have hxr : Room x := ⟨hx1.1, hx1.2.1, by omega⟩
  have hle := lowX_le e x
  have hel := norm_len hn h0.1
  have hend := sEnd_spec x hxr.ends.1 hxr.ends.2
  have hroom := norm_room hn h0.2
  refine spec_intro Try.func29 good29 rfl (by simp [Try.ntmps29]) ?_
  refine tri_seq_k fun K0 hK0 => ?_
  repeat' (first
   | (with_reducible first | refine Stp.pf ?_ | refine block_x (by decide) ?_ | refine ret_n ?_)
   | refine tri_reg [3,95] ?_ | refine tri_regc [3,95] [] mixed (by decide +kernel) ?_
   | (refine rwf_nilt rfl (by decide +kernel) fun B hB => ?_; (try simp [*]); refine hB.out _ fun b => ?_; clear hB B)
   | (refine Rul.pf ⟨rfl, rfl⟩ fun B C hB => ?_; (try simp [*, -List.all_eq_true, Try.results29]); (try (simp (disch := first | assumption | omega) only [wc, ite_yes]; (try simp [*, -List.all_eq_true, Try.results29]))); first | (first | refine hB.out.1 _ (fun hb => ?_) fun hb => ⟨rfl, ?_⟩ | refine hB.out.1 _ (fun hb => ?_) fun hb => ?_) <;> clear hB C B <;> (try simp only [Bool.not_true, Bool.not_false] at hb) <;> (first | (exfalso; simp at hb; done) | (exfalso; simp at hb; omega) | (rw [hb]; (try simp at hb)) | (try simp at hb)) | ((first | refine hB.out.1 _ _ ?_ | refine hB.out.1 _ ?_ | refine hB.out.2 ⟨rfl, ?_⟩); clear hB C B) | (refine hB.out.2 _ ?_; clear hB C B; (try rfl)))
   | refine rwf_o ?_ | refine rwc_o .n rfl ?_ | refine rwc_o .z rfl ?_ | refine rwc_o .w rfl ?_ | refine rwc_o .b rfl ?_ | refine rwc_o _ rfl ?_)
  refine hK0 _ _ ?_
  clear hK0 K0
  obtain ⟨S, hS⟩ : ∃ S : Sto, S = σ ++ [(⟨cE x, 0, false, false⟩ : MO)] := ⟨_, rfl⟩
  have hSp : S[p]? = some ⟨[.sc (.int .i64 n), v], 0, false, false⟩ := by rw [hS, List.getElem?_append_left hp]; exact hσ
  have hSb : S[σ.length]? = some ⟨cE x, 0, false, false⟩ := by rw [hS]; exact List.getElem?_concat_length
  have hSv : RowAt 2 p S v e.length (flatE e) := by rw [hS]; exact hv.append _
  have hSF : FrR p v σ S v := ⟨fun q o _ _ h => by rw [hS, List.getElem?_append_left (lt_of_get h)]; exact h, fun q h => .inl h, by rw [hS]; simp⟩
  have hvb : ∀ g off n k, v ≠ .ms σ.length g off n k := fun g off n k => hv.fresh g off n k
  have hbp : σ.length ≠ p := by omega
  rw [← hS]
  clear hS hσ hv hp
  have hsr := fun X => search_row (hSv.append X) (by omega) (norm_lo hn) x
  unfold fGive at hsr
  have hv1 : AV.one v = true := by rcases rowAt_shape hSv with rfl | ⟨_, _, _, rfl⟩ <;> rfl
  refine tri_seq_k fun K0 hK0 => ?_
  replace hSv := Lib.hid hSv
  replace hSF := Lib.hid hSF
  replace hroom := Lib.hid hroom
  replace hvb := Lib.hid hvb
  clear hn hx hx1 ht
  repeat' (first
   | (with_reducible first | refine Stp.pf ?_ | refine block_x (by decide) ?_ | refine ret_n ?_)
   | refine tri_reg [3,95] ?_ | refine tri_regc [3,95] [] mixed (by decide +kernel) ?_
   | (refine rwf_nilt rfl (by decide +kernel) fun B hB => ?_; (try simp [*]); refine hB.out _ fun b => ?_; clear hB B)
   | (refine Rul.pf ⟨rfl, rfl⟩ fun B C hB => ?_; (try simp [*, -List.all_eq_true, Try.results29]); (try (simp (disch := first | assumption | omega) only [wc, ite_yes]; (try simp [*, -List.all_eq_true, Try.results29]))); first | (first | refine hB.out.1 _ (fun hb => ?_) fun hb => ⟨rfl, ?_⟩ | refine hB.out.1 _ (fun hb => ?_) fun hb => ?_) <;> clear hB C B <;> (try simp only [Bool.not_true, Bool.not_false] at hb) <;> (first | (exfalso; simp at hb; done) | (exfalso; simp at hb; omega) | (rw [hb]; (try simp at hb)) | (try simp at hb)) | ((first | refine hB.out.1 _ _ ?_ | refine hB.out.1 _ ?_ | refine hB.out.2.1 _ _ _ (hsr) ?_ | refine hB.out.2.2 _ _ _ (hsr) ?_ | refine hB.out.2 ⟨rfl, ?_⟩); clear hB C B) | (refine hB.out.2 _ ?_; clear hB C B; (try rfl)))
   | refine rwf_o ?_ | refine rwc_o .n rfl ?_ | refine rwc_o .z rfl ?_ | refine rwc_o .w rfl ?_ | refine rwc_o .b rfl ?_ | refine rwc_o _ rfl ?_)
  refine hK0 _ _ ?_
  clear hK0 K0
  refine tri_cut (GiveM p σ.length n (lowX e x) (growR e x).2 (growR e x).1 v σ) ?_ ?_
  · by_cases hcA : ∃ h : lowX e x < e.length, e[lowX e x].lo = xe x
    · obtain ⟨hlt, hlo⟩ := hcA
      obtain ⟨i, g, off, c, rfl, hip, h2, h3, h4⟩ := row_ms hSv.out (by omega)
      have a0 := segE_at0 h4 _ hlt
      have a1 := segE_at1 h4 _ hlt
      have hyr : Room e[lowX e x] := hroom.out _ (List.getElem_mem hlt)
      have hdel := delI_spec e (by omega) (lowX e x) hlt (S.set σ.length ⟨cE ⟨x.lo, x.sz + e[lowX e x].sz⟩, 0, false, false⟩) i g off c false (by
        rw [List.getElem?_set_ne (fun q => hvb.out g off e.length 2 (by rw [q]))]; exact h2) h3 h4
      rw [growR_yes hlt hlo]
      have hiX : ∀ X : Sto, (S ++ X)[i]? = some ⟨c, g, false, false⟩ := fun X => by rw [List.getElem?_append_left (lt_of_get h2)]; exact h2
      have hpX : ∀ X : Sto, (S ++ X)[p]? = some ⟨[.sc (.int .i64 n), .ms i g off e.length 2], 0, false, false⟩ := fun X => by rw [List.getElem?_append_left (lt_of_get hSp)]; exact hSp
      have hbX : ∀ X : Sto, (S ++ X)[σ.length]? = some ⟨cE x, 0, false, false⟩ := fun X => by rw [List.getElem?_append_left (lt_of_get hSb)]; exact hSb
      have hs1 : -9223372036854775808 ≤ x.sz + e[lowX e x].sz ∧ x.sz + e[lowX e x].sz ≤ 9223372036854775807 := by unfold Room xe at *; omega
      clear hxr hyr hsr h4 hroom
      generalize e[lowX e x] = y at *
      generalize lowX e x = F at *
      rw [show ((F + 1 : Nat) : Int) = (F : Int) + 1 by omega] at hdel
      repeat' (first
       | (with_reducible first | refine Stp.pf ?_ | refine block_x (by decide) ?_ | refine ret_n ?_)
       | refine tri_reg [3,95] ?_ | refine tri_regc [3,95] [] mixed (by decide +kernel) ?_
       | (refine rwf_nilt rfl (by decide +kernel) fun B hB => ?_; (try simp [*]); refine hB.out _ fun b => ?_; clear hB B)
       | (refine Rul.pf ⟨rfl, rfl⟩ fun B C hB => ?_; (try simp [*, -List.all_eq_true, cE.eq_1, Try.results29]); (try (simp (disch := first | assumption | omega) only [wc, ite_yes]; (try simp [*, -List.all_eq_true, cE.eq_1, Try.results29]))); first | (first | refine hB.out.1 _ (fun hb => ?_) fun hb => ⟨rfl, ?_⟩ | refine hB.out.1 _ (fun hb => ?_) fun hb => ?_) <;> clear hB C B <;> (try simp only [Bool.not_true, Bool.not_false] at hb) <;> (first | (exfalso; simp at hb; done) | (exfalso; simp at hb; omega) | (rw [hb]; (try simp at hb)) | (try simp at hb)) | ((first | refine hB.out.1 _ _ ?_ | refine hB.out.1 _ ?_ | refine hB.out.2.1 _ _ _ (hend) ?_ | refine hB.out.2.2 _ _ _ (hend) ?_ | refine hB.out.2 ⟨rfl, ?_⟩); clear hB C B) | (refine hB.out.2 _ ?_; clear hB C B; (try rfl)))
       | refine rwf_o ?_ | refine rwc_o .n rfl ?_ | refine rwc_o .z rfl ?_ | refine rwc_o .w rfl ?_ | refine rwc_o .b rfl ?_ | refine rwc_o _ rfl ?_)
      refine rwf_ca rfl fun C' hC hP => ?_
      clear hP
      (try simp [*, -List.all_eq_true, cE.eq_1]); (try (simp (disch := first | assumption | omega) only [wrap_id, wrapu_id, wrapb_id, tmod_nn, tdiv_nn, ite_yes, flatM_seg, flatM_0, flatM_1, flatM_2, flatI_seg, flatI_0, flatI_1, flatS_get]; (try simp [*, -List.all_eq_true, cE.eq_1])))
      refine hC.out _ _ _ (hdel) fun r s hq => ?_
      clear hC C'
      obtain ⟨c', rfl, rfl, q5, q6⟩ := hq
      clear hdel
      have hib : i ≠ σ.length := fun q => hvb.out g off e.length 2 (by rw [q])
      obtain ⟨S2, hS2⟩ : ∃ S2, S2 = ((List.set S σ.length ⟨cE ⟨x.lo, x.sz + y.sz⟩, 0, false, false⟩).set i ⟨c', g, false, false⟩) := ⟨_, rfl⟩
      have p2 : S2[p]? = some ⟨[.sc (.int .i64 n), .ms i g off e.length 2], 0, false, false⟩ := by rw [hS2, List.getElem?_set_ne hip, List.getElem?_set_ne hbp]; exact hSp
      have b2 : S2[σ.length]? = some ⟨cE ⟨x.lo, x.sz + y.sz⟩, 0, false, false⟩ := by rw [hS2, List.getElem?_set_ne hib]; exact List.getElem?_set_self (lt_of_get hSb)
      have i2 : S2[i]? = some ⟨c', g, false, false⟩ := by rw [hS2]; exact List.getElem?_set_self (by simpa using lt_of_get h2)
      have f2 : FrR p (.ms i g off e.length 2) σ S2 (.ms i g off (e.length - 1) 2) := by
        rw [hS2]
        exact ((hSF.out.set_h (.inr (Nat.le_refl _)) _).set_h (.inl (isH_self ..)) _).re fun k hk => .inl (by rw [isH_ms hk]; exact isH_self ..)
      rw [← hS2]
      clear hS2 hSF hSp hSb h2 hiX hpX hbX
      replace f2 := Lib.hid f2
      replace q6 := Lib.hid q6
      repeat' (first
       | (with_reducible first | refine Stp.pf ?_ | refine block_x (by decide) ?_ | refine ret_n ?_)
       | refine tri_reg [3,95] ?_ | refine tri_regc [3,95] [] mixed (by decide +kernel) ?_
       | (refine rwf_nilt rfl (by decide +kernel) fun B hB => ?_; (try simp [*]); refine hB.out _ fun b => ?_; clear hB B)
       | (refine Rul.pf ⟨rfl, rfl⟩ fun B C hB => ?_; (try simp [*, -List.all_eq_true, Try.results29]); (try (simp (disch := first | assumption | omega) only [wc, ite_yes]; (try simp [*, -List.all_eq_true, Try.results29]))); first | (first | refine hB.out.1 _ (fun hb => ?_) fun hb => ⟨rfl, ?_⟩ | refine hB.out.1 _ (fun hb => ?_) fun hb => ?_) <;> clear hB C B <;> (try simp only [Bool.not_true, Bool.not_false] at hb) <;> (first | (exfalso; simp at hb; done) | (exfalso; simp at hb; omega) | (rw [hb]; (try simp at hb)) | (try simp at hb)) | ((first | refine hB.out.1 _ _ ?_ | refine hB.out.1 _ ?_ | refine hB.out.2 ⟨rfl, ?_⟩); clear hB C B) | (refine hB.out.2 _ ?_; clear hB C B; (try rfl)))
       | refine rwf_o ?_ | refine rwc_o .n rfl ?_ | refine rwc_o .z rfl ?_ | refine rwc_o .w rfl ?_ | refine rwc_o .b rfl ?_ | refine rwc_o _ rfl ?_)
      have hl1 : (e.take F ++ e.drop (F + 1)).length = e.length - 1 := by simp; omega
      refine ⟨by simp, by simp, by simp, _, List.getElem?_set_self (lt_of_get p2), by rw [List.getElem?_set_ne (Ne.symm hbp)]; exact b2, ?_, ?_, f2.out.set_p _⟩
      · rw [hl1]
        exact .inr ⟨i, g, off, c', rfl, hip, by rw [List.getElem?_set_ne (Ne.symm hip)]; exact i2, q5, q6.out⟩
      · rintro g' off' n' k' hq
        cases hq
        exact hib rfl
    · have hne : ∀ h : lowX e x < e.length, e[lowX e x].lo ≠ xe x := fun h q => hcA ⟨h, q⟩
      rw [growR_no hne]
      have fin : ∀ E : Env, E 0 = .mp p 0 0 → E 3 = .mp σ.length 0 0 → E 4 = .sc (.int .i64 (lowX e x)) → GiveM p σ.length n (lowX e x) e x v σ E S := fun E e0 e3 e4 => ⟨e0, e3, e4, v, hSp, hSb, hSv.out, hvb.out, hSF.out⟩
      have hpX : ∀ X : Sto, (S ++ X)[p]? = some ⟨[.sc (.int .i64 n), v], 0, false, false⟩ := fun X => by rw [List.getElem?_append_left (lt_of_get hSp)]; exact hSp
      have hbX : ∀ X : Sto, (S ++ X)[σ.length]? = some ⟨cE x, 0, false, false⟩ := fun X => by rw [List.getElem?_append_left (lt_of_get hSb)]; exact hSb
      replace fin := Lib.hid fin
      rcases rowAt_shape hSv.out with rfl | ⟨i, g, off, rfl⟩
      · have he0 : e = [] := by
          rcases hSv.out with ⟨_, q, _⟩ | ⟨_, _, _, _, q, _⟩
          · exact List.length_eq_zero_iff.1 q
          · cases q
        have hF0 : lowX e x = 0 := by rw [he0]; rfl
        rw [hF0] at fin hsr ⊢
        clear hSv hSF hroom hvb hne hcA hle hel he0 hF0
        repeat' (first
         | (with_reducible first | refine Stp.pf ?_ | refine block_x (by decide) ?_ | refine ret_n ?_)
         | refine tri_reg [3,95] ?_ | refine tri_regc [3,95] [] mixed (by decide +kernel) ?_
         | (refine rwf_nilt rfl (by decide +kernel) fun B hB => ?_; (try simp [*]); refine hB.out _ fun b => ?_; clear hB B)
         | (refine Rul.pf ⟨rfl, rfl⟩ fun B C hB => ?_; (try simp [*, -List.all_eq_true, Try.results29]); (try (simp (disch := first | assumption | omega) only [wc, ite_yes]; (try simp [*, -List.all_eq_true, Try.results29]))); first | (first | refine hB.out.1 _ (fun hb => ?_) fun hb => ⟨rfl, ?_⟩ | refine hB.out.1 _ (fun hb => ?_) fun hb => ?_) <;> clear hB C B <;> (try simp only [Bool.not_true, Bool.not_false] at hb) <;> (first | (exfalso; simp at hb; done) | (exfalso; simp at hb; omega) | (rw [hb]; (try simp at hb)) | (try simp at hb)) | ((first | refine hB.out.1 _ _ ?_ | refine hB.out.1 _ ?_ | refine hB.out.2 ⟨rfl, ?_⟩); clear hB C B) | (refine hB.out.2 _ ?_; clear hB C B; (try rfl)))
         | refine rwf_o ?_ | refine rwc_o .n rfl ?_ | refine rwc_o .z rfl ?_ | refine rwc_o .w rfl ?_ | refine rwc_o .b rfl ?_ | refine rwc_o _ rfl ?_)
        exact fin.out _ (by simp) (by simp) (by simp)
      · rcases Nat.lt_or_ge (lowX e x) e.length with hlt | hge
        · obtain ⟨i', g', off', c, hq, hip, h2, h3, h4⟩ := row_ms hSv.out (by omega)
          cases hq
          have hiX : ∀ X : Sto, (S ++ X)[i]? = some ⟨c, g, false, false⟩ := fun X => by rw [List.getElem?_append_left (lt_of_get h2)]; exact h2
          have a0 := segE_at0 h4 _ hlt
          have hn := hne hlt
          clear hSv hSF hroom hvb hne hcA hel h4 hsr
          generalize e[lowX e x] = y at *
          generalize lowX e x = F at *
          repeat' (first
           | (with_reducible first | refine Stp.pf ?_ | refine block_x (by decide) ?_ | refine ret_n ?_)
           | refine tri_reg [3,95] ?_ | refine tri_regc [3,95] [] mixed (by decide +kernel) ?_
           | (refine rwf_nilt rfl (by decide +kernel) fun B hB => ?_; (try simp [*]); refine hB.out _ fun b => ?_; clear hB B)
           | (refine Rul.pf ⟨rfl, rfl⟩ fun B C hB => ?_; (try simp [*, -List.all_eq_true, Try.results29]); (try (simp (disch := first | assumption | omega) only [wc, ite_yes]; (try simp [*, -List.all_eq_true, Try.results29]))); first | (first | refine hB.out.1 _ (fun hb => ?_) fun hb => ⟨rfl, ?_⟩ | refine hB.out.1 _ (fun hb => ?_) fun hb => ?_) <;> clear hB C B <;> (try simp only [Bool.not_true, Bool.not_false] at hb) <;> (first | (exfalso; simp at hb; done) | (exfalso; simp at hb; omega) | (rw [hb]; (try simp at hb)) | (try simp at hb)) | ((first | refine hB.out.1 _ _ ?_ | refine hB.out.1 _ ?_ | refine hB.out.2.1 _ _ _ (hend) ?_ | refine hB.out.2.2 _ _ _ (hend) ?_ | refine hB.out.2 ⟨rfl, ?_⟩); clear hB C B) | (refine hB.out.2 _ ?_; clear hB C B; (try rfl)))
           | refine rwf_o ?_ | refine rwc_o .n rfl ?_ | refine rwc_o .z rfl ?_ | refine rwc_o .w rfl ?_ | refine rwc_o .b rfl ?_ | refine rwc_o _ rfl ?_)
          exact fin.out _ (by simp) (by simp) (by simp)
        · have hnl : ¬ lowX e x < e.length := by omega
          clear hSv hSF hroom hvb hne hcA hel hsr hge hle
          generalize lowX e x = F at *
          repeat' (first
           | (with_reducible first | refine Stp.pf ?_ | refine block_x (by decide) ?_ | refine ret_n ?_)
           | refine tri_reg [3,95] ?_ | refine tri_regc [3,95] [] mixed (by decide +kernel) ?_
           | (refine rwf_nilt rfl (by decide +kernel) fun B hB => ?_; (try simp [*]); refine hB.out _ fun b => ?_; clear hB B)
           | (refine Rul.pf ⟨rfl, rfl⟩ fun B C hB => ?_; (try simp [*, -List.all_eq_true, Try.results29]); (try (simp (disch := first | assumption | omega) only [wc, ite_yes]; (try simp [*, -List.all_eq_true, Try.results29]))); first | (first | refine hB.out.1 _ (fun hb => ?_) fun hb => ⟨rfl, ?_⟩ | refine hB.out.1 _ (fun hb => ?_) fun hb => ?_) <;> clear hB C B <;> (try simp only [Bool.not_true, Bool.not_false] at hb) <;> (first | (exfalso; simp at hb; done) | (exfalso; simp at hb; omega) | (rw [hb]; (try simp at hb)) | (try simp at hb)) | ((first | refine hB.out.1 _ _ ?_ | refine hB.out.1 _ ?_ | refine hB.out.2.1 _ _ _ (hend) ?_ | refine hB.out.2.2 _ _ _ (hend) ?_ | refine hB.out.2 ⟨rfl, ?_⟩); clear hB C B) | (refine hB.out.2 _ ?_; clear hB C B; (try rfl)))
           | refine rwf_o ?_ | refine rwc_o .n rfl ?_ | refine rwc_o .z rfl ?_ | refine rwc_o .w rfl ?_ | refine rwc_o .b rfl ?_ | refine rwc_o _ rfl ?_)
          exact fin.out _ (by simp) (by simp) (by simp)
  · clear hSp hSb hsr hv1 hSv hSF hvb
    have hgr := growR_ok hroom.out hxr
    rw [giveX_tail]
    obtain ⟨b, hb⟩ : ∃ b, b = σ.length := ⟨_, rfl⟩
    rw [← hb] at hbp ⊢
    clear hb hroom hxr hle hend S
    generalize growR e x = ge at *
    obtain ⟨x, e'⟩ := ge
    dsimp only at hgr ⊢
    generalize lowX _ _ = F at *
    obtain ⟨g1, g2, g3, g4⟩ := hgr
    rintro E S ⟨h0', h3', h4', v', hSp, hSb, hSv, hvb, hSF⟩
    have hend := sEnd_spec x g4.ends.1 g4.ends.2
    have hpX : ∀ X : Sto, (S ++ X)[p]? = some ⟨[.sc (.int .i64 n), v'], 0, false, false⟩ := fun X => by rw [List.getElem?_append_left (lt_of_get hSp)]; exact hSp
    have hbX : ∀ X : Sto, (S ++ X)[b]? = some ⟨cE x, 0, false, false⟩ := fun X => by rw [List.getElem?_append_left (lt_of_get hSb)]; exact hSb
    have hhd : List.take 2 (cE x) = cE x := rfl
    replace hSF := Lib.hid hSF
    replace hvb := Lib.hid hvb
    replace g3 := Lib.hid g3
    by_cases hcB : ∃ (k : Nat) (h : k < e'.length), F = k + 1 ∧ xe e'[k] = x.lo
    · obtain ⟨k, hk, rfl, hx2⟩ := hcB
      obtain ⟨i, g, off, c, rfl, hip, h2, h3, h4⟩ := row_ms hSv (by omega)
      have hiX : ∀ X : Sto, (S ++ X)[i]? = some ⟨c, g, false, false⟩ := fun X => by rw [List.getElem?_append_left (lt_of_get h2)]; exact h2
      rw [tailX_set hk hx2, List.length_set]
      have a1 := segE_at1 h4 _ hk
      have sg := segE h4 _ hk
      have hyr := g3.out _ (List.getElem_mem hk)
      have hy := sEnd_spec _ hyr.ends.1 hyr.ends.2
      have hrs := row_set1 hk h3 h4 (e'[k].sz + x.sz)
      have hs1 : -9223372036854775808 ≤ e'[k].sz + x.sz ∧ e'[k].sz + x.sz ≤ 9223372036854775807 := by unfold Room xe at *; omega
      replace hrs := Lib.hid hrs
      clear hyr g4 h4 hSv
      generalize e'[k] = y at *
      repeat' (first
       | (with_reducible first | refine Stp.pf ?_ | refine block_x (by decide) ?_ | refine ret_n ?_)
       | refine tri_reg [3,95] ?_ | refine tri_regc [3,95] [] mixed (by decide +kernel) ?_
       | (refine rwf_nilt rfl (by decide +kernel) fun B hB => ?_; (try simp [*]); refine hB.out _ fun b => ?_; clear hB B)
       | (refine Rul.pf ⟨rfl, rfl⟩ fun B C hB => ?_; (try simp [*, -List.all_eq_true, cE.eq_1, Try.results29]); (try (simp (disch := first | assumption | omega) only [wc, ite_yes]; (try simp [*, -List.all_eq_true, cE.eq_1, Try.results29]))); first | (first | refine hB.out.1 _ (fun hb => ?_) fun hb => ⟨rfl, ?_⟩ | refine hB.out.1 _ (fun hb => ?_) fun hb => ?_) <;> clear hB C B <;> (try simp only [Bool.not_true, Bool.not_false] at hb) <;> (first | (exfalso; simp at hb; done) | (exfalso; simp at hb; omega) | (rw [hb]; (try simp at hb)) | (try simp at hb)) | ((first | refine hB.out.1 _ _ ?_ | refine hB.out.1 _ ?_ | refine hB.out.2.1 _ _ _ (hend) ?_ | refine hB.out.2.2 _ _ _ (hend) ?_ | refine hB.out.2.1 _ _ _ (hy) ?_ | refine hB.out.2.2 _ _ _ (hy) ?_ | refine hB.out.2 ⟨rfl, ?_⟩); clear hB C B) | (refine hB.out.2 _ ?_; clear hB C B; (try rfl)))
       | refine rwf_o ?_ | refine rwc_o .n rfl ?_ | refine rwc_o .z rfl ?_ | refine rwc_o .w rfl ?_ | refine rwc_o .b rfl ?_ | refine rwc_o _ rfl ?_)
      exact ⟨rfl, _, by rw [List.getElem?_set_ne hip]; exact hSp, .inr ⟨i, g, off, _, rfl, hip, List.getElem?_set_self (lt_of_get h2), by simpa using h3, hrs.out⟩, hSF.out.set_h (hSF.out.2.1 i (isH_self ..)) _⟩
    · have hF : ∀ k (h : k < e'.length), F = k + 1 → xe e'[k] ≠ x.lo := fun k h h1 h2 => hcB ⟨k, h, h1, h2⟩
      have hlen : (e'.take F ++ x :: e'.drop F).length = e'.length + 1 := by simp; omega
      obtain ⟨hins, hex⟩ := ins_call (by omega) x F g1 (lt_of_get hSp) hSv
      rw [tailX_ins hF, hlen]
      have hR1 : ¬ e'.length + 1 = 0 := by omega
      replace hex := Lib.hid hex
      have hk : F = 0 ∨ ∃ (k : Nat) (h : k < e'.length), F = k + 1 ∧ xe e'[k] ≠ x.lo ∧ Room e'[k] := by
        cases F with
        | zero => exact .inl rfl
        | succ k => exact .inr ⟨k, by omega, rfl, hF k (by omega) rfl, g3.out _ (List.getElem_mem _)⟩
      clear hF hcB hlen
      generalize e'.take F ++ x :: e'.drop F = R at *
      have fin : ∀ (s : Sto) (r : AV), RowAt 2 p s r (e'.length + 1) (flatE R) ∧ s[p]? = S[p]? ∧ FrR p v' S s r → s[p]? = some ⟨[.sc (.int .i64 n), v'], 0, false, false⟩ ∧ (∃ i g off, r = .ms i g off (e'.length + 1) 2) ∧ Hid (AV.tup [] = AV.tup [] ∧ ∃ v', (List.set s p ⟨[.sc (.int .i64 n), r], 0, false, false⟩)[p]? = some ⟨[.sc (.int .i64 n), v'], 0, false, false⟩ ∧ RowAt 2 p (List.set s p ⟨[.sc (.int .i64 n), r], 0, false, false⟩) v' (e'.length + 1) (flatE R) ∧ FrR p v σ (List.set s p ⟨[.sc (.int .i64 n), r], 0, false, false⟩) v') := by
        rintro s r ⟨k1, k2, k3⟩
        rw [hSp] at k2
        refine ⟨k2, ?_, Lib.hid ⟨rfl, _, List.getElem?_set_self (lt_of_get k2), k1.set_p _, (hSF.out.trans k3).set_p _⟩⟩
        rcases k1 with ⟨_, q, _⟩ | ⟨i, g, off, _, q, _⟩
        · omega
        · exact ⟨i, g, off, q⟩
      replace fin := Lib.hid fin
      have hv1 : AV.one v' = true := by rcases rowAt_shape hSv with rfl | ⟨_, _, _, rfl⟩ <;> rfl
      rcases hk with rfl | ⟨k, hk1, rfl, hk2, hk3⟩
      · clear hSv g3 hvb
        repeat' (first
         | (with_reducible first | refine Stp.pf ?_ | refine block_x (by decide) ?_ | refine ret_n ?_)
         | refine tri_reg [3,95] ?_ | refine tri_regc (id := 7) [3,95] [(7, .b), (8, .w)] mixed (by decide +kernel) ?_ | refine tri_regc [3,95] [] mixed (by decide +kernel) ?_
         | (refine rwf_nilt rfl (by decide +kernel) fun B hB => ?_; (try simp [*]); refine hB.out _ fun b => ?_; clear hB B)
         | (refine Rul.pf ⟨rfl, rfl⟩ fun B C hB => ?_; (try simp [*, -List.all_eq_true, Try.results29]); (try (simp (disch := first | assumption | omega) only [wc, ite_yes]; (try simp [*, -List.all_eq_true, Try.results29]))); first | (first | refine hB.out.1 _ (fun hb => ?_) fun hb => ⟨rfl, ?_⟩ | refine hB.out.1 _ (fun hb => ?_) fun hb => ?_) <;> clear hB C B <;> (try simp only [Bool.not_true, Bool.not_false] at hb) <;> (first | (exfalso; simp at hb; done) | (exfalso; simp at hb; omega) | (rw [hb]; (try simp at hb)) | (try simp at hb)) | ((first | refine hB.out.1 _ _ ?_ | refine hB.out.1 _ ?_ | refine hB.out.2 ⟨rfl, ?_⟩); clear hB C B) | (refine hB.out.2 _ ?_; clear hB C B; (try rfl)))
         | refine rwf_o ?_ | refine rwc_o .n rfl ?_ | refine rwc_o .z rfl ?_ | refine rwc_o .w rfl ?_ | refine rwc_o .b rfl ?_ | refine rwc_o _ rfl ?_)
        refine rwc_cw rfl fun C' hC => ?_
        simp [hpX, hbX, h4', -List.append_assoc]
        refine hC.out _ _ _ hins hex.out fun r s hq => ?_
        clear hC C' hins hex
        obtain ⟨k2, ⟨i, g, off, rfl⟩, fin⟩ := fin.out _ _ hq
        clear hpX hbX hSF hSp hSb hq
        repeat' (first
         | (with_reducible first | refine Stp.pf ?_ | refine block_x (by decide) ?_ | refine ret_n ?_)
         | refine tri_reg [3,95] ?_ | refine tri_regc (id := 7) [3,95] [(7, .b), (8, .w)] mixed (by decide +kernel) ?_ | refine tri_regc [3,95] [] mixed (by decide +kernel) ?_
         | (refine rwf_nilt rfl (by decide +kernel) fun B hB => ?_; (try simp [*]); refine hB.out _ fun b => ?_; clear hB B)
         | (refine Rul.pf ⟨rfl, rfl⟩ fun B C hB => ?_; (try simp [*, -List.all_eq_true, Try.results29]); (try (simp (disch := first | assumption | omega) only [wc, ite_yes]; (try simp [*, -List.all_eq_true, Try.results29]))); first | (first | refine hB.out.1 _ (fun hb => ?_) fun hb => ⟨rfl, ?_⟩ | refine hB.out.1 _ (fun hb => ?_) fun hb => ?_) <;> clear hB C B <;> (try simp only [Bool.not_true, Bool.not_false] at hb) <;> (first | (exfalso; simp at hb; done) | (exfalso; simp at hb; omega) | (rw [hb]; (try simp at hb)) | (try simp at hb)) | ((first | refine hB.out.1 _ _ ?_ | refine hB.out.1 _ ?_ | refine hB.out.2 ⟨rfl, ?_⟩); clear hB C B) | (refine hB.out.2 _ ?_; clear hB C B; (try rfl)))
         | refine rwf_o ?_ | refine rwc_o .n rfl ?_ | refine rwc_o .z rfl ?_ | refine rwc_o .w rfl ?_ | refine rwc_o .b rfl ?_ | refine rwc_o _ rfl ?_)
        exact fin.out
      · obtain ⟨i, g, off, c, rfl, hip, h2, h3, h4⟩ := row_ms hSv (by omega)
        have hiX : ∀ X : Sto, (S ++ X)[i]? = some ⟨c, g, false, false⟩ := fun X => by rw [List.getElem?_append_left (lt_of_get h2)]; exact h2
        have sg := segE h4 _ hk1
        have hy := sEnd_spec _ hk3.ends.1 hk3.ends.2
        clear hSv g3 hvb h4 hk3
        generalize e'[k] = y at *
        rw [show ((k + 1 : Nat) : Int) = (k : Int) + 1 by omega] at hins
        simp only [cE.eq_1] at hins
        repeat' (first
         | (with_reducible first | refine Stp.pf ?_ | refine block_x (by decide) ?_ | refine ret_n ?_)
         | refine tri_reg [3,95] ?_ | refine tri_regc (id := 7) [3,95] [(7, .b), (8, .w)] mixed (by decide +kernel) ?_ | refine tri_regc [3,95] [] mixed (by decide +kernel) ?_
         | (refine rwf_nilt rfl (by decide +kernel) fun B hB => ?_; (try simp [*]); refine hB.out _ fun b => ?_; clear hB B)
         | (refine Rul.pf ⟨rfl, rfl⟩ fun B C hB => ?_; (try simp [*, -List.all_eq_true, cE.eq_1, Try.results29]); (try (simp (disch := first | assumption | omega) only [wc, ite_yes]; (try simp [*, -List.all_eq_true, cE.eq_1, Try.results29]))); first | (first | refine hB.out.1 _ (fun hb => ?_) fun hb => ⟨rfl, ?_⟩ | refine hB.out.1 _ (fun hb => ?_) fun hb => ?_) <;> clear hB C B <;> (try simp only [Bool.not_true, Bool.not_false] at hb) <;> (first | (exfalso; simp at hb; done) | (exfalso; simp at hb; omega) | (rw [hb]; (try simp at hb)) | (try simp at hb)) | ((first | refine hB.out.1 _ _ ?_ | refine hB.out.1 _ ?_ | refine hB.out.2.1 _ _ _ (hend) ?_ | refine hB.out.2.2 _ _ _ (hend) ?_ | refine hB.out.2.1 _ _ _ (hy) ?_ | refine hB.out.2.2 _ _ _ (hy) ?_ | refine hB.out.2 ⟨rfl, ?_⟩); clear hB C B) | (refine hB.out.2 _ ?_; clear hB C B; (try rfl)))
         | refine rwf_o ?_ | refine rwc_o .n rfl ?_ | refine rwc_o .z rfl ?_ | refine rwc_o .w rfl ?_ | refine rwc_o .b rfl ?_ | refine rwc_o _ rfl ?_)
        refine rwc_cw rfl fun C' hC => ?_
        simp [hpX, hbX, h4', -List.append_assoc]
        refine hC.out _ _ _ hins hex.out fun r s hq => ?_
        clear hC C' hins hex
        obtain ⟨k2, ⟨i2, g2, off2, rfl⟩, fin⟩ := fin.out _ _ hq
        clear hpX hbX hSF hSp hSb hq hiX h2
        repeat' (first
         | (with_reducible first | refine Stp.pf ?_ | refine block_x (by decide) ?_ | refine ret_n ?_)
         | refine tri_reg [3,95] ?_ | refine tri_regc (id := 7) [3,95] [(7, .b), (8, .w)] mixed (by decide +kernel) ?_ | refine tri_regc [3,95] [] mixed (by decide +kernel) ?_
         | (refine rwf_nilt rfl (by decide +kernel) fun B hB => ?_; (try simp [*]); refine hB.out _ fun b => ?_; clear hB B)
         | (refine Rul.pf ⟨rfl, rfl⟩ fun B C hB => ?_; (try simp [*, -List.all_eq_true, Try.results29]); (try (simp (disch := first | assumption | omega) only [wc, ite_yes]; (try simp [*, -List.all_eq_true, Try.results29]))); first | (first | refine hB.out.1 _ (fun hb => ?_) fun hb => ⟨rfl, ?_⟩ | refine hB.out.1 _ (fun hb => ?_) fun hb => ?_) <;> clear hB C B <;> (try simp only [Bool.not_true, Bool.not_false] at hb) <;> (first | (exfalso; simp at hb; done) | (exfalso; simp at hb; omega) | (rw [hb]; (try simp at hb)) | (try simp at hb)) | ((first | refine hB.out.1 _ _ ?_ | refine hB.out.1 _ ?_ | refine hB.out.2 ⟨rfl, ?_⟩); clear hB C B) | (refine hB.out.2 _ ?_; clear hB C B; (try rfl)))
         | refine rwf_o ?_ | refine rwc_o .n rfl ?_ | refine rwc_o .z rfl ?_ | refine rwc_o .w rfl ?_ | refine rwc_o .b rfl ?_ | refine rwc_o _ rfl ?_)
        exact fin.out
end Go.Proofs.Ytgdefllblcmgpaa
