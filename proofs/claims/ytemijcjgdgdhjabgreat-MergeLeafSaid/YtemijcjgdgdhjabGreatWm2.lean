/- Merging: pop, Next, Left. -/
import Derived.Test.YtemijcjgdgdhjabGreatWm
import Derived.Test.YtemijcjgdgdhjabGreatWh2
namespace Go.Proofs.YtemijcjgdgdhjabGreat
open Go.RowKit
set_option linter.unusedSimpArgs false
set_option maxRecDepth 10000
/-- Heads stand at object p, their row at object q; what is neither is as in σ0. -/
def HeadsQ (p q : Nat) (σ0 : Sto) (l : List Run) (σ : Sto) : Prop :=
  (l.length ≤ 500000 ∧ (∀ r ∈ l, 0 < r.1.length ∧ r.1.length ≤ 500000)) ∧ (∀ i o, i ≠ p → i ≠ q → σ0[i]? = some o → σ[i]? = some o) ∧ σ0.length ≤ σ.length ∧
  ∃ v fu, σ[p]? = some ⟨[v], 0, false, fu⟩ ∧ ((v = .sc (.slice none 0 0) ∧ l = []) ∨ ∃ g off c, v = .ms q g off l.length 2 ∧ q ≠ p ∧ σ[q]? = some ⟨c, g, false, false⟩ ∧ off + l.length * 2 ≤ c.length ∧ (c.drop off).take (l.length * 2) = flatU l)
theorem HeadsQ.at {p q : Nat} {σ0 : Sto} {l : List Run} {σ : Sto} (h : HeadsQ p q σ0 l σ) : HeadsAt p l σ := by
  obtain ⟨⟨h1, h2⟩, _, _, v, fu, h3, h4⟩ := h
  refine ⟨h1, h2, v, fu, h3, ?_⟩
  rcases h4 with ⟨rfl, rfl⟩ | ⟨g, off, c, rfl, h5, h6, h7, h8⟩
  · exact .inl ⟨rfl, rfl, rfl⟩
  · exact .inr ⟨q, g, off, c, rfl, h5, h6, h7, h8⟩
theorem HeadsQ.heap (p q : Nat) (σ0 : Sto) : HeapM Tryz.prog (.iface 83 (.mp p 0 0)) lessU (HeadsQ p q σ0) where
  len := fun l σ h => (HeadsAt.heap p).len l σ h.at
  less := fun l σ i j h hi hj => (HeadsAt.heap p).less l σ i j h.at hi hj
  swap := fun l σ i j h hi hj => by
    obtain ⟨⟨hl, hn⟩, hf, hs, v, fu, h1, h2⟩ := h
    rcases h2 with ⟨_, rfl⟩ | ⟨g, off, c, rfl, h3, h4, h5, h6⟩
    · simp at hi
    refine ⟨118, [.ms q g off l.length 2, .sc (.int .i64 i), .sc (.int .i64 j)], by simp [invokeA, mHSwap, recvA, h1], ?_⟩
    refine (hdSwap_spec l i j hi hj σ q g off c h4 h5 h6).mono fun r s ⟨e1, c', e2, e3, e4⟩ => ⟨e1, ?_⟩
    subst e2
    refine ⟨⟨by simpa using hl, fun r hr => hn r (swapG_mem hi hj hr)⟩, fun i o hp hq ho => by rw [List.getElem?_set_ne (Ne.symm hq)]; exact hf i o hp hq ho, by simpa using hs, _, fu, by rw [List.getElem?_set_ne h3]; exact h1, .inr ⟨g, off, c', by simp, h3, List.getElem?_set_self (lt_of_get h4), by simp; omega, by simpa using e4⟩⟩
def headM (r : Run) : Msg := r.1.headD zeroM
/-- What is left behind the first message. -/
def popU (l : List Run) : List Run := if 1 < (at_ l 0).1.length then (heapDown lessU (l.set 0 ((at_ l 0).1.tail, (at_ l 0).2)) 0 l.length).1 else (heapPop lessU l).1
theorem flatM_first (l : List Msg) (h : 0 < l.length) : List.take 3 (flatM l) = cM (l.headD zeroM) := by
  cases l with
  | nil => simp at h
  | cons x l => simp [flatM, flatC, cM]
theorem flatM_tail (l : List Msg) : List.drop 3 (flatM l) = flatM l.tail := by
  have := flatM_drop l 1
  rw [Nat.one_mul] at this
  rw [this]; simp
theorem set_head {l : List Run} {c : List AV} {off : Nat} (t : List Msg) (h0 : 0 < l.length) (h6 : (c.drop off).take (l.length * 2) = flatU l) : ((c.set off (.fs (flatM t) t.length)).drop off).take (l.length * 2) = flatU (l.set 0 (t, (at_ l 0).2)) := by
  cases l with
  | nil => simp at h0
  | cons r l =>
    have e : (c.set off (.fs (flatM t) t.length)).drop off = (c.drop off).set 0 (.fs (flatM t) t.length) := by rw [List.drop_set]; simp
    rw [e, List.take_set, h6]
    simp [flatU, flatC, cU]
theorem HeadsQ.set_head {p q : Nat} {σ0 : Sto} {l : List Run} {σ : Sto} {fu : Bool} {g off : Nat} {c : List AV} (t : List Msg) (ht : 0 < t.length ∧ t.length ≤ 500000) (h0 : 0 < l.length) (hl : l.length ≤ 500000) (hn : ∀ r ∈ l, 0 < r.1.length ∧ r.1.length ≤ 500000) (hf : ∀ (i : Nat) (o : MO), i ≠ p → i ≠ q → σ0[i]? = some o → σ[i]? = some o) (hs : σ0.length ≤ σ.length)
    (h1 : σ[p]? = some ⟨[.ms q g off l.length 2], 0, false, fu⟩) (h3 : q ≠ p) (h4 : σ[q]? = some ⟨c, g, false, false⟩) (h5 : off + l.length * 2 ≤ c.length) (h6 : (c.drop off).take (l.length * 2) = flatU l) (X : Sto) :
    HeadsQ p q σ0 (l.set 0 (t, (at_ l 0).2)) (List.set (σ ++ X) q ⟨c.set off (.fs (flatM t) t.length), g, false, false⟩) := by
  refine ⟨⟨by simpa using hl, fun r hr => ?_⟩, fun i o hp hq ho => ?_, by simp; omega, .ms q g off l.length 2, fu, by rw [List.getElem?_set_ne h3]; exact get_app h1, .inr ⟨g, off, c.set off (.fs (flatM t) t.length), by simp, h3, List.getElem?_set_self (by simp; have := lt_of_get h4; omega), by simp; omega, ?_⟩⟩
  · rcases List.mem_or_eq_of_mem_set hr with h | rfl
    · exact hn r h
    · exact ht
  · rw [List.getElem?_set_ne (Ne.symm hq)]; exact get_app (hf i o hp hq ho)
  · rw [List.length_set]; exact Go.Proofs.YtemijcjgdgdhjabGreat.set_head t h0 h6
theorem HeadsQ.append {p q : Nat} {σ0 : Sto} {l : List Run} {σ : Sto} (h : HeadsQ p q σ0 l σ) (X : Sto) : HeadsQ p q σ0 l (σ ++ X) := by
  obtain ⟨h0, hf, hs, v, fu, h1, h2⟩ := h
  refine ⟨h0, fun i o hp hq ho => get_app (hf i o hp hq ho), by simp; omega, v, fu, get_app h1, ?_⟩
  rcases h2 with h2 | ⟨g, off, c, h3, h4, h5, h6, h7⟩
  · exact .inl h2
  · exact .inr ⟨g, off, c, h3, h4, get_app h5, h6, h7⟩
theorem HeadsQ.self {p q : Nat} {σ0 : Sto} {l : List Run} {σ : Sto} (h : HeadsQ p q σ0 l σ) : HeadsQ p q σ l σ := ⟨h.1, fun _ _ _ _ h => h, Nat.le_refl _, h.2.2.2⟩
theorem HeadsQ.trans {p q : Nat} {σ0 σ1 : Sto} {l l' : List Run} {s : Sto} (h : HeadsQ p q σ0 l σ1) (k : HeadsQ p q σ1 l' s) : HeadsQ p q σ0 l' s :=
  ⟨k.1, fun i o hp hq ho => k.2.1 i o hp hq (h.2.1 i o hp hq ho), Nat.le_trans h.2.2.1 k.2.2.1, k.2.2.2⟩
theorem HeadsQ.set_other {p q : Nat} {σ0 : Sto} {l : List Run} {σ : Sto} (h : HeadsQ p q σ0 l σ) {i : Nat} (hp : i ≠ p) (hq : i ≠ q) (hi : σ0.length ≤ i) (X : MO) : HeadsQ p q σ0 l (List.set σ i X) := by
  obtain ⟨h0, hf, hs, v, fu, h1, h2⟩ := h
  refine ⟨h0, fun j o h3 h4 ho => ?_, by simpa using hs, v, fu, by rw [List.getElem?_set_ne hp]; exact h1, ?_⟩
  · rw [List.getElem?_set_ne (by have := lt_of_get ho; omega)]; exact hf j o h3 h4 ho
  · rcases h2 with h2 | ⟨g, off, c, h3, h4, h5, h6, h7⟩
    · exact .inl h2
    · exact .inr ⟨g, off, c, h3, h4, by rw [List.getElem?_set_ne hq]; exact h5, h6, h7⟩
theorem hdPopQ_spec (p q : Nat) (σ0 : Sto) (l : List Run) (h0 : 0 < l.length) (σ : Sto) (h : HeadsQ p q σ0 l σ) :
    Spec Tryz.prog 119 [.mp p 0 0] σ (fun r s => r = .iface 81 (.agg (cU (at_ l (l.length - 1)))) ∧ HeadsQ p q σ0 l.dropLast s) := by
  obtain ⟨⟨hl, hn⟩, hf, hs, v, fu, h1, h2⟩ := h
  rcases h2 with ⟨_, rfl⟩ | ⟨g, off, c, rfl, h3, h4, h5, h6⟩
  · simp at h0
  have hc : ((l.length : Nat) : Int) - 1 = ((l.length - 1 : Nat) : Int) := by omega
  have hn1 : l.length - 1 < l.length := by omega
  have seg : List.take 2 (List.drop (off + (l.length - 1) * 2) c) = cU (at_ l (l.length - 1)) := by
    rw [at_lt hn1, ← flatC_seg cU_length l (l.length - 1) hn1, show flatC cU l = flatU l from rfl, ← h6, List.drop_take, List.take_take, List.drop_drop]
    congr 1; omega
  have hlen : off + (l.length - 1) * 2 + 2 ≤ c.length := by omega
  refine spec_intro Tryz.func119 good119 rfl (by simp [Tryz.ntmps119]) ?_
  repeat' (first
   | (with_reducible first | refine Stp.pf ?_ | refine block_x (by decide) ?_ | refine ret_n ?_)
   | refine tri_reg [] ?_ | refine tri_regc [] [] mixed (by decide +kernel) ?_
   | (refine rwf_nilt rfl (by decide +kernel) fun B hB => ?_; (try simp [*]); refine hB.out _ fun b => ?_; clear hB B)
   | (refine Rul.pf ⟨rfl, rfl⟩ fun B C hB => ?_; (try simp [*, -List.all_eq_true, Tryz.results119]); (try (simp (disch := first | assumption | omega) only [wc, ite_yes]; (try simp [*, -List.all_eq_true, Tryz.results119]))); first | (first | refine hB.out.1 _ (fun hb => ?_) fun hb => ⟨rfl, ?_⟩ | refine hB.out.1 _ (fun hb => ?_) fun hb => ?_) <;> clear hB C B <;> (try simp only [Bool.not_true, Bool.not_false] at hb) <;> (first | (exfalso; simp at hb; done) | (exfalso; simp at hb; omega) | (rw [hb]; (try simp at hb)) | (try simp at hb)) | ((first | refine hB.out.1 _ _ ?_ | refine hB.out.1 _ ?_ | refine hB.out.2 ⟨rfl, ?_⟩); clear hB C B) | (refine hB.out.2 _ ?_; clear hB C B; (try rfl)))
   | refine rwf_o ?_ | refine rwc_o .n rfl ?_ | refine rwc_o .z rfl ?_ | refine rwc_o .w rfl ?_ | refine rwc_o .b rfl ?_ | refine rwc_o _ rfl ?_)
  refine ⟨by rw [at_lt hn1], ⟨by simp; omega, fun r hr => hn r (List.dropLast_subset l hr)⟩, fun i o hp hq ho => by rw [List.getElem?_set_ne (Ne.symm hp)]; exact hf i o hp hq ho, by simpa using hs, .ms q g off (l.length - 1) 2, false, by rw [List.getElem?_set_self (lt_of_get h1)], .inr ⟨g, off, c, by simp, h3, by rw [List.getElem?_set_ne (Ne.symm h3)]; exact h4, by simp; omega, ?_⟩⟩
  rw [List.length_dropLast, List.dropLast_eq_take, show flatU (l.take (l.length - 1)) = (flatU l).take ((l.length - 1) * 2) from (flatC_take cU_length l _).symm, ← h6, List.take_take]
  congr 1; omega
set_option maxHeartbeats 1000000 in
theorem mPop_spec (p q : Nat) (σ0 : Sto) (l : List Run) (h0 : 0 < l.length) (σ : Sto) (h : HeadsQ p q σ0 l σ) :
    Spec Tryz.prog 38 [.mp p 0 0] σ (fun r s => r = .agg (cM (headM (at_ l 0))) ∧ HeadsQ p q σ0 (popU l) s) := by
  have hq := h
  obtain ⟨⟨hl, hn⟩, hf, hs, v, fu, h1, h2⟩ := h
  rcases h2 with ⟨_, rfl⟩ | ⟨g, off, c, rfl, h3, h4, h5, h6⟩
  · simp at h0
  have e0 : at_ l 0 = l[0] := at_lt h0
  obtain ⟨n1, n2⟩ := hn _ (List.getElem_mem h0)
  have c1 : c[off]? = some (.fs (flatM l[0].1) l[0].1.length) := by
    have a0 := flatU_0 l 0 h0
    rw [← h6, List.getElem?_take_of_lt (by omega), List.getElem?_drop] at a0
    simpa using a0
  have c2 := flatM_first l[0].1 n1
  have c3 := flatM_tail l[0].1
  have c4 : (flatM l[0].1).length = l[0].1.length * 3 := by simp
  have hln : l.length ≠ 0 := by omega
  have g1 : ∀ X : Sto, (σ ++ X)[p]? = some ⟨[.ms q g off l.length 2], 0, false, fu⟩ := fun X => get_app h1
  have g4 : ∀ X : Sto, (σ ++ X)[q]? = some ⟨c, g, false, false⟩ := fun X => get_app h4
  refine spec_intro Tryz.func38 good38 rfl (by simp [Tryz.ntmps38]) ?_
  have c5 : List.take ((l[0].1.length - 1) * 3) (flatM l[0].1.tail) = flatM l[0].1.tail := List.take_of_length_le (by simp)
  by_cases hbig : 1 < l[0].1.length
  · have hset := HeadsQ.set_head l[0].1.tail (by simp; omega) h0 hl hn hf hs h1 h3 h4 h5 h6
    have hpop : popU l = (heapDown lessU (l.set 0 (l[0].1.tail, (at_ l 0).2)) 0 (l.set 0 (l[0].1.tail, (at_ l 0).2)).length).1 := by unfold popU; rw [e0, if_pos hbig]; simp
    have hp1 := lt_of_get h1
    have hq1 := lt_of_get h4
    have z1 : σ.length ≠ p := by omega
    have z2 : σ.length ≠ q := by omega
    clear hp1 hq1
    repeat' (first
     | (with_reducible first | refine Stp.pf ?_ | refine block_x (by decide) ?_ | refine ret_n ?_)
     | refine tri_reg [2] ?_ | refine tri_regc [2] [] mixed (by decide +kernel) ?_
     | (refine rwf_nilt rfl (by decide +kernel) fun B hB => ?_; (try simp [*]); refine hB.out _ fun b => ?_; clear hB B)
     | (refine Rul.pf ⟨rfl, rfl⟩ fun B C hB => ?_; (try simp [*, -List.all_eq_true, Tryz.results38]); (try (simp (disch := first | assumption | omega) only [wc, ite_yes]; (try simp [*, -List.all_eq_true, Tryz.results38]))); first | (first | refine hB.out.1 _ (fun hb => ?_) fun hb => ⟨rfl, ?_⟩ | refine hB.out.1 _ (fun hb => ?_) fun hb => ?_) <;> clear hB C B <;> (try simp only [Bool.not_true, Bool.not_false] at hb) <;> (first | (exfalso; simp at hb; done) | (exfalso; simp at hb; omega) | (rw [hb]; (try simp at hb)) | (try simp at hb)) | ((first | refine hB.out.1 _ _ ?_ | refine hB.out.1 _ ?_ | refine hB.out.2 ⟨rfl, ?_⟩); clear hB C B) | (refine hB.out.2 _ ?_; clear hB C B; (try rfl)))
     | refine rwf_o ?_ | refine rwc_o .n rfl ?_ | refine rwc_o .z rfl ?_ | refine rwc_o .w rfl ?_ | refine rwc_o .b rfl ?_ | refine rwc_o _ rfl ?_)
    have hset1 := hset [⟨[.sc (.int .i64 0), .sc (.string ⟨#[]⟩), .sc (.string ⟨#[]⟩)], 0, false, false⟩]
    rw [show l[0].1.tail.length = l[0].1.length - 1 by simp] at hset1
    refine rwf_ca rfl fun C' hC hP => ?_
    clear hP
    (try simp [*, -List.all_eq_true]); (try (simp (disch := first | assumption | omega) only [wrap_id, wrapu_id, wrapb_id, tmod_nn, tdiv_nn, ite_yes, flatM_seg, flatM_0, flatM_1, flatM_2, flatI_seg, flatI_0, flatI_1, flatS_get]; (try simp [*, -List.all_eq_true])))
    refine hC.out _ _ _ (hFix_spec (HeadsQ.heap p q _) _ (by simp; omega) (by simp; omega) _ hset1.self) fun r s hq => ?_
    clear hC C'
    obtain ⟨rfl, hq2⟩ := hq
    have z3 := hq2.2.1 σ.length _ z1 z2 (by rw [List.getElem?_set_ne (Ne.symm z2)]; exact List.getElem?_concat_length)
    repeat' (first
     | (with_reducible first | refine Stp.pf ?_ | refine block_x (by decide) ?_ | refine ret_n ?_)
     | refine tri_reg [2] ?_ | refine tri_regc [2] [] mixed (by decide +kernel) ?_
     | (refine rwf_nilt rfl (by decide +kernel) fun B hB => ?_; (try simp [*]); refine hB.out _ fun b => ?_; clear hB B)
     | (refine Rul.pf ⟨rfl, rfl⟩ fun B C hB => ?_; (try simp [*, -List.all_eq_true, Tryz.results38]); (try (simp (disch := first | assumption | omega) only [wc, ite_yes]; (try simp [*, -List.all_eq_true, Tryz.results38]))); first | (first | refine hB.out.1 _ (fun hb => ?_) fun hb => ⟨rfl, ?_⟩ | refine hB.out.1 _ (fun hb => ?_) fun hb => ?_) <;> clear hB C B <;> (try simp only [Bool.not_true, Bool.not_false] at hb) <;> (first | (exfalso; simp at hb; done) | (exfalso; simp at hb; omega) | (rw [hb]; (try simp at hb)) | (try simp at hb)) | ((first | refine hB.out.1 _ _ ?_ | refine hB.out.1 _ ?_ | refine hB.out.2 ⟨rfl, ?_⟩); clear hB C B) | (refine hB.out.2 _ ?_; clear hB C B; (try rfl)))
     | refine rwf_o ?_ | refine rwc_o .n rfl ?_ | refine rwc_o .z rfl ?_ | refine rwc_o .w rfl ?_ | refine rwc_o .b rfl ?_ | refine rwc_o _ rfl ?_)
    refine ⟨by rw [e0]; simp [headM], ?_⟩
    rw [hpop]
    exact (hset1.trans hq2).set_other z1 z2 hs _
  · have hp1 := lt_of_get h1
    have hq1 := lt_of_get h4
    have z1 : σ.length ≠ p := by omega
    have z2 : σ.length ≠ q := by omega
    clear hp1 hq1
    repeat' (first
     | (with_reducible first | refine Stp.pf ?_ | refine block_x (by decide) ?_ | refine ret_n ?_)
     | refine tri_reg [2] ?_ | refine tri_regc [2] [] mixed (by decide +kernel) ?_
     | (refine rwf_nilt rfl (by decide +kernel) fun B hB => ?_; (try simp [*]); refine hB.out _ fun b => ?_; clear hB B)
     | (refine Rul.pf ⟨rfl, rfl⟩ fun B C hB => ?_; (try simp [*, -List.all_eq_true, Tryz.results38]); (try (simp (disch := first | assumption | omega) only [wc, ite_yes]; (try simp [*, -List.all_eq_true, Tryz.results38]))); first | (first | refine hB.out.1 _ (fun hb => ?_) fun hb => ⟨rfl, ?_⟩ | refine hB.out.1 _ (fun hb => ?_) fun hb => ?_) <;> clear hB C B <;> (try simp only [Bool.not_true, Bool.not_false] at hb) <;> (first | (exfalso; simp at hb; done) | (exfalso; simp at hb; omega) | (rw [hb]; (try simp at hb)) | (try simp at hb)) | ((first | refine hB.out.1 _ _ ?_ | refine hB.out.1 _ ?_ | refine hB.out.2 ⟨rfl, ?_⟩); clear hB C B) | (refine hB.out.2 _ ?_; clear hB C B; (try rfl)))
     | refine rwf_o ?_ | refine rwc_o .n rfl ?_ | refine rwc_o .z rfl ?_ | refine rwc_o .w rfl ?_ | refine rwc_o .b rfl ?_ | refine rwc_o _ rfl ?_)
    have ha := hq.append [⟨[.sc (.int .i64 0), .sc (.string ⟨#[]⟩), .sc (.string ⟨#[]⟩)], 0, false, false⟩]
    have hpop : popU l = (heapDown lessU (swapG l 0 (l.length - 1)) 0 (l.length - 1)).1.dropLast := by unfold popU; rw [e0, if_neg hbig]; rfl
    have hdl : (heapDown lessU (swapG l 0 (l.length - 1)) 0 (l.length - 1)).1.length = l.length := by unfold heapDown; rw [downG_len]; simp
    refine rwf_ca rfl fun C' hC hP => ?_
    clear hP
    (try simp [*, -List.all_eq_true]); (try (simp (disch := first | assumption | omega) only [wrap_id, wrapu_id, wrapb_id, tmod_nn, tdiv_nn, ite_yes, flatM_seg, flatM_0, flatM_1, flatM_2, flatI_seg, flatI_0, flatI_1, flatS_get]; (try simp [*, -List.all_eq_true])))
    refine hC.out _ _ _ (hPop_spec (HeadsQ.heap p q _) l (by omega) h0 _ ha.self _ (fun s hs => ⟨119, _, by simp [invokeA, mHPop, recvA], hdPopQ_spec p q _ _ (by rw [hdl]; exact h0) s hs⟩)) fun r s hq => ?_
    clear hC C'
    obtain ⟨rfl, hq2⟩ := hq
    have z3 := hq2.2.1 σ.length _ z1 z2 List.getElem?_concat_length
    repeat' (first
     | (with_reducible first | refine Stp.pf ?_ | refine block_x (by decide) ?_ | refine ret_n ?_)
     | refine tri_reg [2] ?_ | refine tri_regc [2] [] mixed (by decide +kernel) ?_
     | (refine rwf_nilt rfl (by decide +kernel) fun B hB => ?_; (try simp [*]); refine hB.out _ fun b => ?_; clear hB B)
     | (refine Rul.pf ⟨rfl, rfl⟩ fun B C hB => ?_; (try simp [*, -List.all_eq_true, Tryz.results38]); (try (simp (disch := first | assumption | omega) only [wc, ite_yes]; (try simp [*, -List.all_eq_true, Tryz.results38]))); first | (first | refine hB.out.1 _ (fun hb => ?_) fun hb => ⟨rfl, ?_⟩ | refine hB.out.1 _ (fun hb => ?_) fun hb => ?_) <;> clear hB C B <;> (try simp only [Bool.not_true, Bool.not_false] at hb) <;> (first | (exfalso; simp at hb; done) | (exfalso; simp at hb; omega) | (rw [hb]; (try simp at hb)) | (try simp at hb)) | ((first | refine hB.out.1 _ _ ?_ | refine hB.out.1 _ ?_ | refine hB.out.2 ⟨rfl, ?_⟩); clear hB C B) | (refine hB.out.2 _ ?_; clear hB C B; (try rfl)))
     | refine rwf_o ?_ | refine rwc_o .n rfl ?_ | refine rwc_o .z rfl ?_ | refine rwc_o .w rfl ?_ | refine rwc_o .b rfl ?_ | refine rwc_o _ rfl ?_)
    refine ⟨by rw [e0]; simp [headM], ?_⟩
    rw [hpop]
    exact (ha.trans hq2).set_other z1 z2 hs _
/-- Those of one key, as one. -/
def gatherU : Nat → Msg → List Run → Msg × List Run
  | 0, x, l => (x, l)
  | f + 1, x, l => if l ≠ [] ∧ headK (at_ l 0) = x.key then gatherU f (combM x (headM (at_ l 0))) (popU l) else (x, l)
def countU (l : List Run) : Nat := (l.map fun r => r.1.length).sum
theorem lessU_ahead : Ahead lessU where
  asym := fun a b h => by
    unfold lessU at *
    simp only [Bool.or_eq_true, Bool.and_eq_true, decide_eq_true_eq, Bool.or_eq_false_iff, Bool.and_eq_false_iff, decide_eq_false_iff_not] at *
    rcases h with h | ⟨h1, h2⟩
    · exact ⟨slt_asymm h, .inl fun e => slt_ne h e.symm⟩
    · exact ⟨by rw [h1]; exact slt_irrefl _, .inr (by omega)⟩
  trans := fun a b c h k => by
    unfold lessU at *
    simp only [Bool.or_eq_true, Bool.and_eq_true, decide_eq_true_eq] at *
    rcases h with h | ⟨h1, h2⟩ <;> rcases k with k | ⟨k1, k2⟩
    · exact .inl (slt_trans h k)
    · exact .inl (by rw [← k1]; exact h)
    · exact .inl (by rw [h1]; exact k)
    · exact .inr ⟨h1.trans k1, by omega⟩
  neg := fun a b c h k => by
    unfold lessU at *
    simp only [Bool.or_eq_false_iff, Bool.and_eq_false_iff, decide_eq_false_iff_not] at *
    refine ⟨slt_neg h.1 k.1, ?_⟩
    by_cases e : headK a = headK c
    · right
      have e1 : headK a = headK b := by
        cases e2 : slt (headK b) (headK a) with
        | true => rw [e] at e2; rw [k.1] at e2; cases e2
        | false => exact slt_tri h.1 e2
      have h2 := h.2.resolve_left (fun hn => hn e1)
      have k2 := k.2.resolve_left (fun hn => hn (e1 ▸ e))
      omega
    · exact .inl e
theorem countU_perm {l m : List Run} (h : l.Perm m) : countU l = countU m := (h.map _).sum_nat
theorem countU_pop {l : List Run} (h0 : 0 < l.length) (hn : ∀ r ∈ l, 0 < r.1.length) : countU (popU l) + 1 = countU l := by
  have e0 : at_ l 0 = l[0] := at_lt h0
  have n1 := hn _ (List.getElem_mem h0)
  unfold popU
  rw [e0]
  split
  · rename_i hb
    obtain ⟨r1, _⟩ := downG_spec lessU_ahead l.length (l.set 0 (l[0].1.tail, l[0].2)) 0 l.length (by omega) (by simp)
    unfold heapDown
    rw [countU_perm r1]
    cases l with
    | nil => simp at h0
    | cons r l => simp [countU] at *; omega
  · rename_i hb
    obtain ⟨p1, p2, _⟩ := heapPop_spec lessU_ahead l h0
    rw [← countU_perm p2, p1, e0]
    simp [countU]
    omega
theorem popU_ok {l : List Run} (h0 : 0 < l.length) (hl : l.length ≤ 500000) (hn : ∀ r ∈ l, 0 < r.1.length ∧ r.1.length ≤ 500000) : (popU l).length ≤ 500000 ∧ ∀ r ∈ popU l, 0 < r.1.length ∧ r.1.length ≤ 500000 := by
  have e0 : at_ l 0 = l[0] := at_lt h0
  have n1 := hn _ (List.getElem_mem h0)
  unfold popU
  rw [e0]
  split
  · rename_i hb
    obtain ⟨r1, _⟩ := downG_spec lessU_ahead l.length (l.set 0 (l[0].1.tail, l[0].2)) 0 l.length (by omega) (by simp)
    unfold heapDown
    refine ⟨by rw [r1.length_eq]; simpa using hl, fun r hr => ?_⟩
    rcases List.mem_or_eq_of_mem_set (r1.mem_iff.1 hr) with h | rfl
    · exact hn r h
    · simp; omega
  · obtain ⟨p1, p2, _⟩ := heapPop_spec lessU_ahead l h0
    have hle := p2.length_eq
    simp at hle
    exact ⟨by omega, fun r hr => hn r (p2.mem_iff.1 (List.mem_cons_of_mem _ hr))⟩
theorem HeadsQ.exists {p q : Nat} {σ0 : Sto} {l : List Run} {σ : Sto} (h : HeadsQ p q σ0 l σ) (h0 : 0 < l.length) {l' : List Run} (h1 : l'.length ≤ 500000 ∧ ∀ r ∈ l', 0 < r.1.length ∧ r.1.length ≤ 500000) : ∃ s, HeadsQ p q σ l' s := by
  obtain ⟨_, _, _, v, fu, h2, h3⟩ := h
  rcases h3 with ⟨_, rfl⟩ | ⟨g, off, c, rfl, h4, h5, h6, h7⟩
  · simp at h0
  refine ⟨List.set (List.set σ q ⟨flatU l', 0, false, false⟩) p ⟨[.ms q 0 0 l'.length 2], 0, false, false⟩, h1, fun i o hp hq ho => by rw [List.getElem?_set_ne (Ne.symm hp), List.getElem?_set_ne (Ne.symm hq)]; exact ho, by simp, _, false, List.getElem?_set_self (by simp; exact lt_of_get h2), .inr ⟨0, 0, flatU l', rfl, h4, by rw [List.getElem?_set_ne (Ne.symm h4)]; exact List.getElem?_set_self (lt_of_get h5), by simp, List.take_of_length_le (by simp)⟩⟩
/-- What Next does: the message, and what is left. -/
def nextU (l : List Run) : Msg × List Run := gatherU (countU (popU l) + 1) (headM (at_ l 0)) (popU l)
set_option maxHeartbeats 4000000 in
theorem mNext_nil (p q : Nat) (σ0 : Sto) (σ : Sto) (h : HeadsQ p q σ0 [] σ) : Spec Tryz.prog 16 [.mp p 0 0] σ (fun r s => r = .tup [.agg (cM zeroM), .sc (.bool false)] ∧ HeadsQ p q σ0 [] s) := by
  have hQ := h
  obtain ⟨⟨hl, hn⟩, hf, hs, v, fu, h1, h2⟩ := h
  have g1 : ∀ X : Sto, (σ ++ X)[p]? = some ⟨[v], 0, false, fu⟩ := fun X => get_app h1
  refine spec_intro Tryz.func16 good16 rfl (by simp [Tryz.ntmps16]) ?_
  have hv : v = .sc (.slice none 0 0) ∨ ∃ g off, v = .ms q g off 0 2 := by
    rcases h2 with ⟨h, _⟩ | ⟨g, off, c, h, _⟩
    · exact .inl h
    · exact .inr ⟨g, off, h⟩
  rcases hv with rfl | ⟨g, off, rfl⟩
  all_goals
    skip
    repeat' (first
     | (with_reducible first | refine Stp.pf ?_ | refine block_x (by decide) ?_ | refine ret_n ?_)
     | refine tri_reg [2,4] ?_ | refine tri_regc [2,4] [] mixed (by decide +kernel) ?_
     | (refine rwf_nilt rfl (by decide +kernel) fun B hB => ?_; (try simp [*]); refine hB.out _ fun b => ?_; clear hB B)
     | (refine Rul.pf ⟨rfl, rfl⟩ fun B C hB => ?_; (try simp [*, -List.all_eq_true, Tryz.results16]); (try (simp (disch := first | assumption | omega) only [wc, ite_yes]; (try simp [*, -List.all_eq_true, Tryz.results16]))); first | (first | refine hB.out.1 _ (fun hb => ?_) fun hb => ⟨rfl, ?_⟩ | refine hB.out.1 _ (fun hb => ?_) fun hb => ?_) <;> clear hB C B <;> (try simp only [Bool.not_true, Bool.not_false] at hb) <;> (first | (exfalso; simp at hb; done) | (exfalso; simp at hb; omega) | (rw [hb]; (try simp at hb)) | (try simp at hb)) | ((first | refine hB.out.1 _ _ ?_ | refine hB.out.1 _ ?_ | refine hB.out.2 ⟨rfl, ?_⟩); clear hB C B) | (refine hB.out.2 _ ?_; clear hB C B; (try rfl)))
     | refine rwf_o ?_ | refine rwc_o .n rfl ?_ | refine rwc_o .z rfl ?_ | refine rwc_o .w rfl ?_ | refine rwc_o .b rfl ?_ | refine rwc_o _ rfl ?_)
    exact ⟨rfl, hQ.append _⟩
set_option maxHeartbeats 4000000 in
theorem mNext_spec (p q : Nat) (σ0 : Sto) (l : List Run) (σ : Sto) (h : HeadsQ p q σ0 l σ) (h0 : 0 < l.length) :
    Spec Tryz.prog 16 [.mp p 0 0] σ (fun r s => r = .tup [.agg (cM (nextU l).1), .sc (.bool true)] ∧ HeadsQ p q σ0 (nextU l).2 s) := by
  have hQ := h
  obtain ⟨⟨hl, hn⟩, hf, hs, v, fu, h1, h2⟩ := h
  rcases h2 with ⟨_, rfl⟩ | ⟨g, off, c, rfl, h3, h4, h5, h6⟩
  · simp at h0
  have z1 : σ.length ≠ p := by have := lt_of_get h1; omega
  have z2 : σ.length ≠ q := by have := lt_of_get h4; omega
  have hp0 : p ≤ σ.length := by have := lt_of_get h1; omega
  have hq0 : q ≤ σ.length := by have := lt_of_get h4; omega
  have g1 : ∀ X : Sto, (σ ++ X)[p]? = some ⟨[.ms q g off l.length 2], 0, false, fu⟩ := fun X => get_app h1
  have hln : l.length ≠ 0 := by omega
  refine spec_intro Tryz.func16 good16 rfl (by simp [Tryz.ntmps16]) ?_
  repeat' (first
   | (with_reducible first | refine Stp.pf ?_ | refine block_x (by decide) ?_ | refine ret_n ?_)
   | refine tri_reg [2,4] ?_ | refine tri_regc [2,4] [] mixed (by decide +kernel) ?_
   | (refine rwf_nilt rfl (by decide +kernel) fun B hB => ?_; (try simp [*]); refine hB.out _ fun b => ?_; clear hB B)
   | (refine Rul.pf ⟨rfl, rfl⟩ fun B C hB => ?_; (try simp [*, -List.all_eq_true, Tryz.results16]); (try (simp (disch := first | assumption | omega) only [wc, ite_yes]; (try simp [*, -List.all_eq_true, Tryz.results16]))); first | (first | refine hB.out.1 _ (fun hb => ?_) fun hb => ⟨rfl, ?_⟩ | refine hB.out.1 _ (fun hb => ?_) fun hb => ?_) <;> clear hB C B <;> (try simp only [Bool.not_true, Bool.not_false] at hb) <;> (first | (exfalso; simp at hb; done) | (exfalso; simp at hb; omega) | (rw [hb]; (try simp at hb)) | (try simp at hb)) | ((first | refine hB.out.1 _ _ ?_ | refine hB.out.1 _ ?_ | refine hB.out.2 ⟨rfl, ?_⟩); clear hB C B) | (refine hB.out.2 _ ?_; clear hB C B; (try rfl)))
   | refine rwf_o ?_ | refine rwc_o .n rfl ?_ | refine rwc_o .z rfl ?_ | refine rwc_o .w rfl ?_ | refine rwc_o .b rfl ?_ | refine rwc_o _ rfl ?_)
  have ha := hQ.append [⟨[.sc (.int .i64 0), .sc (.string ⟨#[]⟩), .sc (.string ⟨#[]⟩)], 0, false, false⟩]
  refine rwf_ca rfl fun C' hC hP => ?_
  clear hP
  (try simp [*, -List.all_eq_true]); (try (simp (disch := first | assumption | omega) only [wrap_id, wrapu_id, wrapb_id, tmod_nn, tdiv_nn, ite_yes, flatM_seg, flatM_0, flatM_1, flatM_2, flatI_seg, flatI_0, flatI_1, flatS_get]; (try simp [*, -List.all_eq_true])))
  refine hC.out _ _ _ (mPop_spec p q _ l h0 _ ha.self) fun r s hq => ?_
  clear hC C'
  obtain ⟨rfl, hq1⟩ := hq
  have hpo := popU_ok h0 hl hn
  have hne : nextU l = gatherU (countU (popU l) + 1) (headM (at_ l 0)) (popU l) := rfl
  obtain ⟨o2, ho2⟩ : ∃ o2 : MO, o2 = ⟨[.sc (.int .i64 0), .sc (.string ⟨#[]⟩), .sc (.string ⟨#[]⟩)], 0, false, false⟩ := ⟨_, rfl⟩
  rw [← ho2] at ha hq1
  have hB2 : (σ ++ [o2])[σ.length]? = some o2 := List.getElem?_concat_length
  have hBl : (σ ++ [o2]).length = σ.length + 1 := by simp
  have hs1 : (σ ++ [o2]).length ≤ s.length := hq1.2.2.1
  have y1 : s.length ≠ p := by omega
  have y2 : s.length ≠ q := by omega
  have y3 : s.length ≠ σ.length := by omega
  generalize popU l = l1 at *
  generalize headM (at_ l 0) = x0 at *
  generalize nextU l = N at *
  repeat' (first
   | (with_reducible first | refine Stp.pf ?_ | refine block_x (by decide) ?_ | refine ret_n ?_)
   | refine tri_reg [2,4] ?_ | refine tri_regc [2,4] [] mixed (by decide +kernel) ?_
   | (refine rwf_nilt rfl (by decide +kernel) fun B hB => ?_; (try simp [*]); refine hB.out _ fun b => ?_; clear hB B)
   | (refine Rul.pf ⟨rfl, rfl⟩ fun B C hB => ?_; (try simp [*, -List.all_eq_true, Tryz.results16]); (try (simp (disch := first | assumption | omega) only [wc, ite_yes]; (try simp [*, -List.all_eq_true, Tryz.results16]))); first | (first | refine hB.out.1 _ (fun hb => ?_) fun hb => ⟨rfl, ?_⟩ | refine hB.out.1 _ (fun hb => ?_) fun hb => ?_) <;> clear hB C B <;> (try simp only [Bool.not_true, Bool.not_false] at hb) <;> (first | (exfalso; simp at hb; done) | (exfalso; simp at hb; omega) | (rw [hb]; (try simp at hb)) | (try simp at hb)) | ((first | refine hB.out.1 _ _ ?_ | refine hB.out.1 _ ?_ | refine hB.out.2 ⟨rfl, ?_⟩); clear hB C B) | (refine hB.out.2 _ ?_; clear hB C B; (try rfl)))
   | refine rwf_o ?_ | refine rwc_o .n rfl ?_ | refine rwc_o .z rfl ?_ | refine rwc_o .w rfl ?_ | refine rwc_o .b rfl ?_ | refine rwc_o _ rfl ?_)
  clear g1 h1 h4 h5 h6 hQ hf hl hn
  generalize σ ++ [o2] = B at *
  generalize σ.length = i2 at *
  clear σ
  refine tri_whl [0, 2, 3, 4] (countU l1) (fun m e σ => ∃ (x : Msg) (m1 : List Run), m = countU m1 ∧ HeadsQ p q B m1 σ ∧ σ[s.length]? = some ⟨cM x, 0, false, false⟩ ∧ gatherU (countU m1 + 1) x m1 = N) ?_ (fun m env' σ' hm hk hI => ?_)
  · refine ⟨countU l1, Nat.le_refl _, x0, l1, rfl, hq1.append _, ?_, hne.symm⟩
    simp
  · skip
    (try simp at hk)
    obtain ⟨x, m1, rfl, hH, hX, hG⟩ := hI
    have hH0 := hH
    obtain ⟨⟨hl, hn⟩, hf, hs2, v, fu1, h1, h2⟩ := hH
    have hX2 := hf i2 _ z1 z2 hB2
    clear hf
    by_cases hm1 : m1 = []
    · subst hm1
      have hG' : N = (x, []) := by rw [← hG]; simp [gatherU]
      have hv : v = .sc (.slice none 0 0) ∨ ∃ g off, v = .ms q g off 0 2 := by
        rcases h2 with ⟨h, _⟩ | ⟨g, off, c, h, _⟩
        · exact .inl h
        · exact .inr ⟨g, off, h⟩
      subst ho2
      rcases hv with rfl | ⟨g, off, rfl⟩
      all_goals
        skip
        repeat' (first
         | (with_reducible first | refine Stp.pf ?_ | refine block_x (by decide) ?_ | refine ret_n ?_)
         | refine tri_reg [2,4] ?_ | refine tri_regc [2,4] [] mixed (by decide +kernel) ?_
         | (refine rwf_nilt rfl (by decide +kernel) fun B hB => ?_; (try simp [*]); refine hB.out _ fun b => ?_; clear hB B)
         | (refine Rul.pf ⟨rfl, rfl⟩ fun B C hB => ?_; (try simp [*, -List.all_eq_true, cM, Tryz.results16]); (try (simp (disch := first | assumption | omega) only [wc, ite_yes]; (try simp [*, -List.all_eq_true, cM, Tryz.results16]))); first | (first | refine hB.out.1 _ (fun hb => ?_) fun hb => ⟨rfl, ?_⟩ | refine hB.out.1 _ (fun hb => ?_) fun hb => ?_) <;> clear hB C B <;> (try simp only [Bool.not_true, Bool.not_false] at hb) <;> (first | (exfalso; simp at hb; done) | (exfalso; simp at hb; omega) | (rw [hb]; (try simp at hb)) | (try simp at hb)) | ((first | refine hB.out.1 _ _ ?_ | refine hB.out.1 _ ?_ | refine hB.out.2 ⟨rfl, ?_⟩); clear hB C B) | (refine hB.out.2 _ ?_; clear hB C B; (try rfl)))
         | refine rwf_o ?_ | refine rwc_o .n rfl ?_ | refine rwc_o .z rfl ?_ | refine rwc_o .w rfl ?_ | refine rwc_o .b rfl ?_ | refine rwc_o _ rfl ?_)
        rw [hG']
        exact ⟨rfl, (ha.trans hH0).set_other z1 z2 hs _⟩
    · have hpos : 0 < m1.length := List.length_pos_iff.2 hm1
      rcases h2 with ⟨_, h⟩ | ⟨g, off, c, rfl, h3, h4, h5, h6⟩
      · exact absurd h hm1
      have e0 : at_ m1 0 = m1[0] := at_lt hpos
      obtain ⟨n1, n2⟩ := hn _ (List.getElem_mem hpos)
      have c1 : c[off]? = some (.fs (flatM m1[0].1) m1[0].1.length) := by
        have a0 := flatU_0 m1 0 hpos
        rw [← h6, List.getElem?_take_of_lt (by omega), List.getElem?_drop] at a0
        simpa using a0
      have c2 : (flatM m1[0].1)[1]? = some (.sc (.string (headK m1[0]))) := flatM_head _ n1
      have hcp := countU_pop hpos (fun r hr => (hn r hr).1)
      have hml : ¬ m1.length = 0 := by omega
      rw [gatherU, e0] at hG
      by_cases hkey : headK m1[0] = x.key
      · rw [if_pos ⟨hm1, hkey⟩] at hG
        obtain ⟨sw, hsw⟩ := hH0.exists hpos (popU_ok hpos hl hn)
        repeat' (first
         | (with_reducible first | refine Stp.pf ?_ | refine block_x (by decide) ?_ | refine ret_n ?_)
         | refine tri_reg [2,4] ?_ | refine tri_regc (id := 5) [2,4] [(2, .k 4)] mixed (by decide +kernel) ?_ | refine tri_regc [2,4] [] mixed (by decide +kernel) ?_
         | (refine rwf_nilt rfl (by decide +kernel) fun B hB => ?_; (try simp [*]); refine hB.out _ fun b => ?_; clear hB B)
         | (refine Rul.pf ⟨rfl, rfl⟩ fun B C hB => ?_; (try simp [*, -List.all_eq_true, Tryz.results16]); (try (simp (disch := first | assumption | omega) only [wc, ite_yes]; (try simp [*, -List.all_eq_true, Tryz.results16]))); first | (first | refine hB.out.1 _ (fun hb => ?_) fun hb => ⟨rfl, ?_⟩ | refine hB.out.1 _ (fun hb => ?_) fun hb => ?_) <;> clear hB C B <;> (try simp only [Bool.not_true, Bool.not_false] at hb) <;> (first | (exfalso; simp at hb; done) | (exfalso; simp at hb; omega) | (rw [hb]; (try simp at hb)) | (try simp at hb)) | ((first | refine hB.out.1 _ _ ?_ | refine hB.out.1 _ ?_ | refine hB.out.2 ⟨rfl, ?_⟩); clear hB C B) | (refine hB.out.2 _ ?_; clear hB C B; (try rfl)))
         | refine rwf_o ?_ | refine rwc_o .n rfl ?_ | refine rwc_o .z rfl ?_ | refine rwc_o .w rfl ?_ | refine rwc_o .b rfl ?_ | refine rwc_o _ rfl ?_)
        refine rwc_ck rfl s.length 0 0 (by simp [*]) fun C' hC => ?_
        (try simp [*, -List.all_eq_true])
        refine hC.out _ _ _ (mPop_spec p q _ m1 hpos _ hH0.self) ⟨_, sw, rfl, hsw⟩ fun r s' hq => ?_
        clear hC C'
        obtain ⟨rfl, hq⟩ := hq
        have hX3 := hq.2.1 _ _ y1 y2 hX
        have hX4 := hq.2.1 _ _ z1 z2 hX2
        refine ⟨hX3.trans hX.symm, ?_⟩
        rw [e0]
        clear hX h1 h4 hsw hX2
        repeat' (first
         | (with_reducible first | refine Stp.pf ?_ | refine block_x (by decide) ?_ | refine ret_n ?_)
         | refine tri_reg [2,4] ?_ | refine tri_regc [2,4] [] mixed (by decide +kernel) ?_
         | (refine rwf_nilt rfl (by decide +kernel) fun B hB => ?_; (try simp [*]); refine hB.out _ fun b => ?_; clear hB B)
         | (refine Rul.pf ⟨rfl, rfl⟩ fun B C hB => ?_; (try simp [*, -List.all_eq_true, Tryz.results16]); (try (simp (disch := first | assumption | omega) only [wc, ite_yes]; (try simp [*, -List.all_eq_true, Tryz.results16]))); first | (first | refine hB.out.1 _ (fun hb => ?_) fun hb => ⟨rfl, ?_⟩ | refine hB.out.1 _ (fun hb => ?_) fun hb => ?_) <;> clear hB C B <;> (try simp only [Bool.not_true, Bool.not_false] at hb) <;> (first | (exfalso; simp at hb; done) | (exfalso; simp at hb; omega) | (rw [hb]; (try simp at hb)) | (try simp at hb)) | ((first | refine hB.out.1 _ _ ?_ | refine hB.out.1 _ ?_ | refine hB.out.2.1 _ _ _ (mThen_spec _ _) ?_ | refine hB.out.2.2 _ _ _ (mThen_spec _ _) ?_ | refine hB.out.2 ⟨rfl, ?_⟩); clear hB C B) | (refine hB.out.2 _ ?_; clear hB C B; (try rfl)))
         | refine rwf_o ?_ | refine rwc_o .n rfl ?_ | refine rwc_o .z rfl ?_ | refine rwc_o .w rfl ?_ | refine rwc_o .b rfl ?_ | refine rwc_o _ rfl ?_)
        refine ⟨by simp [*], countU (popU m1), by omega, combM x (headM m1[0]), popU m1, rfl, (hH0.trans hq).set_other y1 y2 (by omega) _, ?_, ?_⟩
        · simp [hX3, combM, zeroM]
          rfl
        · rw [hcp]; exact hG
      · rw [if_neg (fun h => hkey h.2)] at hG
        subst ho2
        repeat' (first
         | (with_reducible first | refine Stp.pf ?_ | refine block_x (by decide) ?_ | refine ret_n ?_)
         | refine tri_reg [2,4] ?_ | refine tri_regc [2,4] [] mixed (by decide +kernel) ?_
         | (refine rwf_nilt rfl (by decide +kernel) fun B hB => ?_; (try simp [*]); refine hB.out _ fun b => ?_; clear hB B)
         | (refine Rul.pf ⟨rfl, rfl⟩ fun B C hB => ?_; (try simp [*, -List.all_eq_true, cM, Tryz.results16]); (try (simp (disch := first | assumption | omega) only [wc, ite_yes]; (try simp [*, -List.all_eq_true, cM, Tryz.results16]))); first | (first | refine hB.out.1 _ (fun hb => ?_) fun hb => ⟨rfl, ?_⟩ | refine hB.out.1 _ (fun hb => ?_) fun hb => ?_) <;> clear hB C B <;> (try simp only [Bool.not_true, Bool.not_false] at hb) <;> (first | (exfalso; simp at hb; done) | (exfalso; simp at hb; omega) | (rw [hb]; (try simp at hb)) | (try simp at hb)) | ((first | refine hB.out.1 _ _ ?_ | refine hB.out.1 _ ?_ | refine hB.out.2 ⟨rfl, ?_⟩); clear hB C B) | (refine hB.out.2 _ ?_; clear hB C B; (try rfl)))
         | refine rwf_o ?_ | refine rwc_o .n rfl ?_ | refine rwc_o .z rfl ?_ | refine rwc_o .w rfl ?_ | refine rwc_o .b rfl ?_ | refine rwc_o _ rfl ?_)
        rw [← hG]
        exact ⟨rfl, (ha.trans hH0).set_other z1 z2 hs _⟩
end Go.Proofs.YtemijcjgdgdhjabGreat
