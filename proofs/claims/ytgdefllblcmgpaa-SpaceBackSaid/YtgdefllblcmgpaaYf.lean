/- Spaces in the store: Give, TakeAt. -/
import Derived.Test.YtgdefllblcmgpaaYe
namespace Go.Proofs.Ytgdefllblcmgpaa
open Go.RowKit
set_option linter.unusedSimpArgs false
set_option maxRecDepth 10000
/-- A space in the store, its row's value told. -/
def SpV (p : Nat) (n : Int) (v : AV) (e : List Ext) (σ : Sto) : Prop := σ[p]? = some ⟨[.sc (.int .i64 n), v], 0, false, false⟩ ∧ RowAt 2 p σ v e.length (flatE e)
theorem SpV.at_ {p : Nat} {n : Int} {v : AV} {e : List Ext} {σ : Sto} (h : SpV p n v e σ) : SpAt p n e σ := ⟨v, h⟩
theorem SpV.app {p : Nat} {n : Int} {v : AV} {e : List Ext} {σ : Sto} (h : SpV p n v e σ) (X : Sto) : SpV p n v e (σ ++ X) := ⟨by rw [List.getElem?_append_left (lt_of_get h.1)]; exact h.1, h.2.append X⟩
theorem apart_get {l : List Ext} (h : Apart l) {j : Nat} (hj : j < l.length) {y : Ext} (hy : y ∈ l.take j) : xe y ≤ l[j].lo ∨ xe l[j] ≤ y.lo := by
  obtain ⟨i, hi, rfl⟩ := List.getElem_of_mem hy
  have hij : i < j := by simp at hi; omega
  rw [List.getElem_take]
  exact (List.pairwise_iff_getElem.1 h) i j (by omega) hj hij
theorem give_step {n : Int} {e l : List Ext} (hn : Norm n e) (h1 : ∀ x ∈ l, isInX n x = true) (h2 : ∀ x ∈ l, touchX e x = false) (h3 : Apart l) {j : Nat} (hj : j < l.length) :
    Norm n ((l.take j).foldl giveX e) ∧ touchX ((l.take j).foldl giveX e) l[j] = false := by
  obtain ⟨k1, k2⟩ := give_all (l.take j) e hn (fun x hx => h1 x (List.mem_of_mem_take hx)) (fun x hx => h2 x (List.mem_of_mem_take hx)) (apart_take h3 j)
  have hx := isInX_iff.1 (h1 _ (List.getElem_mem hj))
  refine ⟨k1, ?_⟩
  cases ht : touchX ((l.take j).foldl giveX e) l[j] with
  | false => rfl
  | true =>
    obtain ⟨i, ⟨i1, i2⟩, hm⟩ := (touch_iff k1 hx.2.1).1 ht
    rcases (k2 i).1 hm with q | ⟨y, hy, y1, y2⟩
    · have := (touch_iff hn hx.2.1).2 ⟨i, ⟨i1, i2⟩, q⟩
      rw [h2 _ (List.getElem_mem hj)] at this; cases this
    · rcases apart_get h3 hj hy with q | q <;> omega
theorem cut_step {n : Int} {e l : List Ext} (hn : Norm n e) (h1 : ∀ x ∈ l, isInX n x = true) (h2 : ∀ x ∈ l, coverX e x = true) (h3 : Apart l) {j : Nat} (hj : j < l.length) :
    Norm n ((l.take j).foldl cutX e) ∧ coverX ((l.take j).foldl cutX e) l[j] = true := by
  obtain ⟨k1, k2⟩ := cut_all (l.take j) e hn (fun x hx => h1 x (List.mem_of_mem_take hx)) (fun x hx => h2 x (List.mem_of_mem_take hx)) (apart_take h3 j)
  have hx := isInX_iff.1 (h1 _ (List.getElem_mem hj))
  refine ⟨k1, (cover_iff k1 hx.2.1).2 fun i i1 i2 => (k2 i).2 ⟨(cover_iff hn hx.2.1).1 (h2 _ (List.getElem_mem hj)) i i1 i2, ?_⟩⟩
  rintro ⟨y, hy, y1, y2⟩
  rcases apart_get h3 hj hy with q | q <;> omega
theorem foldX_succ {f : List Ext → Ext → List Ext} {e l : List Ext} {j : Nat} (hj : j < l.length) : (l.take (j + 1)).foldl f e = f ((l.take j).foldl f e) l[j] := by
  rw [List.take_add_one, List.getElem?_eq_getElem hj, List.foldl_append]
  rfl
theorem chk_zero {n : Int} {l : List Ext} {f : Ext → Bool} (h : chkR n l f = 0) : (∀ x ∈ l, isInX n x = true) ∧ (∀ x ∈ l, f x = true) ∧ Apart l := by
  unfold chkR at h
  split at h
  · cases h
  · split at h
    · cases h
    · split at h
      · cases h
      · rename_i a b c
        exact ⟨List.all_eq_true.1 (by simpa using a), List.all_eq_true.1 (by simpa using b), apartX_iff.1 (by simpa using c)⟩
theorem sGive1_spec {p : Nat} {n : Int} {v : AV} {e : List Ext} {σ : Sto} (h : SpV p n v e σ) (hn : Norm n e) (h0 : 0 ≤ n ∧ n ≤ 512) (x : Ext) (hx : isInX n x = true) : Spec Try.prog 27 [.agg (cE x), .fp [.mp p 0 0] 0] σ (fun r s => r = .sc (.bool (!touchX e x)) ∧ s = σ) := by
  have hx1 := isInX_iff.1 hx
  have hel := norm_len hn h0.1
  have ht := lendS1 (y := .agg (cE x)) h.at_ (by simp [AV.flat]) rfl (sTouches_spec n e x (by omega) (norm_ends hn h0.2) (by unfold xe at *; omega) (by unfold xe at *; omega))
  refine spec_intro Try.func27 good27 rfl (by simp [Try.ntmps27]) ?_
  generalize touchX e x = b at *
  clear hx1 hx h hel hn
  refine go1 [] [] (cns ht (cns Try.results27 trivial)) ?_
  exact ⟨rfl, rfl⟩
/-- What a row of places does: every one of them is given, or none. -/
def foldR (c : Int) (e e' : List Ext) : List Ext := if c = 0 then e' else e
def StepP (p : Nat) (n : Int) (v : AV) (e : List Ext) (σ s : Sto) : Prop := ∃ v', SpV p n v' e s ∧ FrR p v σ s v'
set_option maxHeartbeats 1000000 in
theorem sGiveA_spec (p : Nat) (n : Int) (es list : List Ext) (σ : Sto) (v : AV) (h : SpV p n v es σ) (hn : Norm n es) (h0 : 0 ≤ n ∧ n ≤ 512) (hl : list.length ≤ 1000000) :
    Spec Try.prog 9 [.mp p 0 0, .fs (flatE list) list.length] σ (fun r s => r = .sc (.int .i64 (chkR n list fun x => !touchX es x)) ∧ StepP p n v (foldR (chkR n list fun x => !touchX es x) es (list.foldl giveX es)) σ s) := by
  have hck := sCheck_spec p n es list σ 27 [] [.fp [.mp p 0 0] 0] (fun x => !touchX es x) h.at_ h0 hl fun x _ hi => sGive1_spec h hn h0 x hi
  unfold foldR
  by_cases hc : chkR n list (fun x => !touchX es x) = 0
  · rw [if_pos hc]
    obtain ⟨c1, c2, c3⟩ := chk_zero hc
    have c2 : ∀ x ∈ list, touchX es x = false := fun x hx => by simpa using c2 x hx
    rw [hc] at hck ⊢
    have hst := fun j hj => give_step hn c1 c2 c3 (j := j) hj
    have h1 : StepP p n v es σ σ := ⟨v, h, FrR.refl ..⟩
    clear hc c2 c3 h
    obtain ⟨S, rfl⟩ : ∃ S, S = σ := ⟨_, rfl⟩
    refine spec_intro Try.func9 good9 rfl (by simp [Try.ntmps9]) ?_
    replace h1 := Lib.hid h1
    replace c1 := Lib.hid c1
    replace hst := Lib.hid hst
    refine go1 [] [] (cns hck (cns Try.results9 trivial)) ?_
    refine tri_for [2, 4, 15, 16] list.length (fun k_ e σ => e 17 = .sc (.int .i64 k_) ∧ StepP p n v ((list.take k_).foldl giveX es) S σ) ?_ (fun j env' σ' hlt hk hI => ?_) (fun env' σ' hk hI => ?_)
    · exact ⟨by simp, h1.out⟩
    · skip
      (try simp at hk)
      obtain ⟨h17, v', ⟨k1, k2⟩, k3⟩ := hI
      obtain ⟨m1, m2⟩ := hst.out j hlt
      have hg := sGive_spec p n _ list[j] σ' v' k1 k2 m1 h0 (c1.out _ (List.getElem_mem hlt)) m2
      have sg := flatE_seg list j hlt
      rw [← foldX_succ (f := giveX) hlt] at hg
      clear c1 hst m1 m2 hn k1 k2 h1
      replace k3 := Lib.hid k3
      refine go1 [] [] (cns Try.results9 trivial) ?_
      refine rwf_ca rfl fun C' hC hP => ?_
      clear hP
      (try simp [*, -List.all_eq_true]); (try (simp (disch := first | assumption | omega) only [wrap_id, wrapu_id, wrapb_id, tmod_nn, tdiv_nn, ite_yes, flatM_seg, flatM_0, flatM_1, flatM_2, flatI_seg, flatI_0, flatI_1, flatS_get]; (try simp [*, -List.all_eq_true])))
      refine hC.out _ _ _ (hg) fun r s hq => ?_
      clear hC C'
      obtain ⟨rfl, v2, q1, q2, q3⟩ := hq
      clear hg
      have hI : StepP p n v ((list.take (j + 1)).foldl giveX es) S s := ⟨v2, ⟨q1, q2⟩, k3.out.trans q3⟩
      clear q1 q2 q3 k3
      replace hI := Lib.hid hI
      refine go1 [] [] (cns Try.results9 trivial) ?_
      exact ⟨by simp [*], by simp, hI.out⟩
    · skip
      (try simp at hk)
      obtain ⟨h17, hI⟩ := hI
      rw [List.take_length] at hI
      clear hn h1 c1 hst hck
      replace hI := Lib.hid hI
      refine go1 [] [] (cns Try.results9 trivial) ?_
      exact ⟨rfl, hI.out⟩
  · rw [if_neg hc]
    have h1 : StepP p n v es σ σ := ⟨v, h, FrR.refl ..⟩
    replace h1 := Lib.hid h1
    clear h
    refine spec_intro Try.func9 good9 rfl (by simp [Try.ntmps9]) ?_
    generalize chkR n list _ = c at *
    refine go1 [] [] (cns hck (cns Try.results9 trivial)) ?_
    exact ⟨rfl, h1.out⟩
theorem sCovers1_spec {p : Nat} {n : Int} {v : AV} {e : List Ext} {σ : Sto} (h : SpV p n v e σ) (hn : Norm n e) (h0 : 0 ≤ n ∧ n ≤ 512) (x : Ext) (hx : isInX n x = true) : Spec Try.prog 34 [.mp p 0 0, .agg (cE x)] σ (fun r s => r = .sc (.bool (coverX e x)) ∧ s = σ) := by
  have hx1 := isInX_iff.1 hx
  have hel := norm_len hn h0.1
  exact lendS1 (y := .agg (cE x)) h.at_ (by simp [AV.flat]) rfl (sCovers_spec n e x (by omega) (norm_ends hn h0.2) (by unfold xe at *; omega) (by unfold xe at *; omega))
set_option maxHeartbeats 1000000 in
theorem sTakeA_spec (p : Nat) (n : Int) (es list : List Ext) (σ : Sto) (v : AV) (h : SpV p n v es σ) (hn : Norm n es) (h0 : 0 ≤ n ∧ n ≤ 512) (hl : list.length ≤ 1000000) :
    Spec Try.prog 18 [.mp p 0 0, .fs (flatE list) list.length] σ (fun r s => r = .sc (.int .i64 (chkR n list fun x => coverX es x)) ∧ StepP p n v (foldR (chkR n list fun x => coverX es x) es (list.foldl cutX es)) σ s) := by
  have hck := sCheck_spec p n es list σ 34 [.mp p 0 0] [] (fun x => coverX es x) h.at_ h0 hl fun x _ hi => sCovers1_spec h hn h0 x hi
  unfold foldR
  by_cases hc : chkR n list (fun x => coverX es x) = 0
  · rw [if_pos hc]
    obtain ⟨c1, c2, c3⟩ := chk_zero hc
    rw [hc] at hck ⊢
    have hst := fun j hj => cut_step hn c1 c2 c3 (j := j) hj
    have h1 : StepP p n v es σ σ := ⟨v, h, FrR.refl ..⟩
    clear hc c2 c3 h
    obtain ⟨S, rfl⟩ : ∃ S, S = σ := ⟨_, rfl⟩
    refine spec_intro Try.func18 good18 rfl (by simp [Try.ntmps18]) ?_
    replace h1 := Lib.hid h1
    replace c1 := Lib.hid c1
    replace hst := Lib.hid hst
    refine go1 [] [] (cns hck (cns Try.results18 trivial)) ?_
    refine tri_for [0, 4, 16, 17] list.length (fun k_ e σ => e 18 = .sc (.int .i64 k_) ∧ StepP p n v ((list.take k_).foldl cutX es) S σ) ?_ (fun j env' σ' hlt hk hI => ?_) (fun env' σ' hk hI => ?_)
    · exact ⟨by simp, h1.out⟩
    · skip
      (try simp at hk)
      obtain ⟨h18, v', ⟨k1, k2⟩, k3⟩ := hI
      obtain ⟨m1, m2⟩ := hst.out j hlt
      have hxx := isInX_iff.1 (c1.out _ (List.getElem_mem hlt))
      have hg := sCut_spec p n _ list[j] σ' v' k1 k2 m1 h0 hxx m2
      clear hxx
      have sg := flatE_seg list j hlt
      rw [← foldX_succ (f := cutX) hlt] at hg
      clear c1 hst m1 m2 hn k1 k2 h1
      replace k3 := Lib.hid k3
      refine go1 [] [] (cns Try.results18 trivial) ?_
      refine rwf_ca rfl fun C' hC hP => ?_
      clear hP
      (try simp [*, -List.all_eq_true]); (try (simp (disch := first | assumption | omega) only [wrap_id, wrapu_id, wrapb_id, tmod_nn, tdiv_nn, ite_yes, flatM_seg, flatM_0, flatM_1, flatM_2, flatI_seg, flatI_0, flatI_1, flatS_get]; (try simp [*, -List.all_eq_true])))
      refine hC.out _ _ _ (hg) fun r s hq => ?_
      clear hC C'
      obtain ⟨rfl, v2, q1, q2, q3⟩ := hq
      clear hg
      have hI : StepP p n v ((list.take (j + 1)).foldl cutX es) S s := ⟨v2, ⟨q1, q2⟩, k3.out.trans q3⟩
      clear q1 q2 q3 k3
      replace hI := Lib.hid hI
      refine go1 [] [] (cns Try.results18 trivial) ?_
      exact ⟨by simp [*], by simp, hI.out⟩
    · skip
      (try simp at hk)
      obtain ⟨h18, hI⟩ := hI
      rw [List.take_length] at hI
      clear hn h1 c1 hst hck
      replace hI := Lib.hid hI
      refine go1 [] [] (cns Try.results18 trivial) ?_
      exact ⟨rfl, hI.out⟩
  · rw [if_neg hc]
    have h1 : StepP p n v es σ σ := ⟨v, h, FrR.refl ..⟩
    replace h1 := Lib.hid h1
    clear h
    refine spec_intro Try.func18 good18 rfl (by simp [Try.ntmps18]) ?_
    generalize chkR n list _ = c at *
    refine go1 [] [] (cns hck (cns Try.results18 trivial)) ?_
    exact ⟨rfl, h1.out⟩
end Go.Proofs.Ytgdefllblcmgpaa
