/- slices.SortedFunc over slices.Values of items: the items, sorted, in a row of its own. -/
import Derived.Test.YtejgopcicenbeaaGreatRc
import Derived.Test.YtejgopcicenbeaaGreatLw
namespace Go.Proofs.YtejgopcicenbeaaGreat
open Go.RowKit Go.Sort
set_option linter.unusedSimpArgs false
set_option maxRecDepth 10000
theorem vals_spec (l : List Item) : PSpec Tryz.prog 58 [.fs (flatI l) l.length] (seqI l) := by
  unfold seqI
  refine spec_pure (by simp) (by simp) ?_
  refine spec_intro Tryz.func58 good58 rfl (by simp [Tryz.ntmps58]) ?_
  exact go0 [] [] (cns Tryz.results58 trivial)
theorem sIns0_spec : PSpec Tryz.prog 117 [.fs [] 0, .sc (.int .i64 0), .sc (.int .i64 0), fCmp] (.tup []) := by
  unfold fCmp
  refine spec_pure (by simp) (by simp) ?_
  refine spec_intro Tryz.func117 good117 rfl (by simp [Tryz.ntmps117]) ?_
  refine go1 [] [] (cns Tryz.results117 trivial) ?_
  refine tri_for [0, 1, 2, 3] 0 (fun k e σ => σ = [] ∧ e 8 = .sc (.int .i64 1)) ?_ (fun k env' σ' hlt hk hI => ?_) (fun env' σ' hk hI => ?_)
  · exact ⟨by simp, by simp⟩
  · omega
  · skip
    (try simp at hk)
    obtain ⟨rfl, h8⟩ := hI
    exact go0 [] [] (cns Tryz.results117 trivial)
theorem sPdq0_spec (lim : Int) : PSpec Tryz.prog 99 [.fs [] 0, .sc (.int .i64 0), .sc (.int .i64 0), .sc (.int .i64 lim), fCmp] (.tup []) := by
  have h := sIns0_spec
  unfold fCmp at *
  refine spec_pure (by simp) (by simp) ?_
  refine spec_intro Tryz.func99 good99 rfl (by simp [Tryz.ntmps99]) ?_
  refine go1 [] [] (cns Tryz.results99 trivial) ?_
  refine tri_for [0, 4] 0 (fun k e σ => σ = [] ∧ e 1 = .sc (.int .i64 0) ∧ e 2 = .sc (.int .i64 0)) ?_ (fun k env' σ' hlt hk hI => ?_) (fun env' σ' hk hI => ?_)
  · exact ⟨by simp, by simp, by simp⟩
  · omega
  · skip
    (try simp at hk)
    obtain ⟨rfl, h1, h2⟩ := hI
    exact go0 [] [] (cns h (cns Tryz.results99 trivial))
theorem sSort0_spec : PSpec Tryz.prog 81 [.fs [] 0, fCmp] (.tup []) := by
  have h := lenB_spec 0 (by omega)
  have h2 := sPdq0_spec
  generalize bitsLen 0 = L at *
  unfold fCmp at *
  refine spec_pure (by simp) (by simp) ?_
  refine spec_intro Tryz.func81 good81 rfl (by simp [Tryz.ntmps81]) ?_
  exact go0 [] [] (cns h (cns (fun x1 => h2 x1) (cns Tryz.results81 trivial)))
theorem sSort_spec (i g off N : Nat) (hN : N ≤ 100000000) (σ0 : Sto) (d : Array Item) (σ : Sto) (h : AtD σ0 i g off N d σ) :
    Spec Tryz.prog 81 [.ms i g off d.size 2, fCmp] σ (fun r s => r = .tup [] ∧ ∃ (X : Sto) (d' : Array Item), AtD (σ0 ++ X) i g off N d' s ∧ PermIn 0 d.size d d' ∧ SortedIn ltI 0 d.size d') := by
  have hdN : d.size ≤ N := by obtain ⟨_, _, _, _, h2, _⟩ := h; omega
  have hL := lenB_spec d.size (by omega)
  have hp := sPdq_spec i g off N hN d.size σ0 d 0 d.size (bitsLen d.size : Nat) σ (by omega) (by omega) (Nat.le_refl _) (.inl rfl) h
  generalize bitsLen d.size = L at *
  refine spec_intro Tryz.func81 good81 rfl (by simp [Tryz.ntmps81]) ?_
  refine go1 [] [] (cns hL (cns Tryz.results81 trivial)) ?_
  refine rwf_ca rfl fun C' hC hP => ?_
  clear hP
  (try simp [*, -List.all_eq_true]); (try (simp (disch := first | assumption | omega) only [wrap_id, wrapu_id, wrapb_id, tmod_nn, tdiv_nn, ite_yes, flatM_seg, flatM_0, flatM_1, flatM_2, flatI_seg, flatI_0, flatI_1, flatS_get]; (try simp [*, -List.all_eq_true])))
  refine hC.out _ _ _ (hp) fun r s hq => ?_
  clear hC C'
  obtain ⟨rfl, X, d', hA, h1, h2⟩ := hq
  refine go1 [] [] (cns Tryz.results81 trivial) ?_
  exact ⟨rfl, X, d', hA, h1, h2⟩
/-- No later one is less than an earlier one. -/
def SortedL (l : List Item) : Prop := l.Pairwise fun x y => ltI y x = false
theorem sorted_of {d d' : Array Item} (h1 : PermIn 0 d.size d d') (h2 : SortedIn ltI 0 d.size d') : d'.toList.Perm d.toList ∧ SortedL d'.toList := by
  obtain ⟨k1, _, k3⟩ := h1
  constructor
  · have e1 : d'.extract 0 d.size = d' := by rw [← k1]; simp
    have e2 : d.extract 0 d.size = d := by simp
    rw [e1, e2] at k3
    exact k3
  · unfold SortedL
    rw [List.pairwise_iff_getElem]
    intro i j hi hj hij
    have hi' : i < d'.size := by simpa using hi
    have hj' : j < d'.size := by simpa using hj
    have := h2 i j (Nat.zero_le _) hij (by omega)
    rw [getElem!_pos d' i hi', getElem!_pos d' j hj'] at this
    simpa using this
theorem sorted_spec (l : List Item) (hl : l.length ≤ 40000000) (σ : Sto) : Spec Tryz.prog 57 [seqI l, fCmp] σ
    (fun r s => ∃ l', l'.Perm l ∧ SortedL l' ∧ ((l = [] ∧ r = .fs [] 0 ∧ s = σ) ∨ (0 < l.length ∧ r = .ms σ.length 0 0 l.length 2 ∧ ∃ X, s = σ ++ ⟨flatI l', 0, false, false⟩ :: X))) := by
  have h := collect_spec l (by omega) σ
  refine spec_intro Tryz.func57 good57 rfl (by simp [Tryz.ntmps57]) ?_
  refine go1 [] [] (cns Tryz.results57 trivial) ?_
  refine rwf_ca rfl fun C' hC hP => ?_
  clear hP
  (try simp [*, -List.all_eq_true]); (try (simp (disch := first | assumption | omega) only [wrap_id, wrapu_id, wrapb_id, tmod_nn, tdiv_nn, ite_yes, flatM_seg, flatM_0, flatM_1, flatM_2, flatI_seg, flatI_0, flatI_1, flatS_get]; (try simp [*, -List.all_eq_true])))
  refine hC.out _ _ _ (h) fun r s hq => ?_
  clear hC C'
  clear h
  rcases hq with ⟨rfl, rfl, rfl⟩ | ⟨hpos, rfl, rfl⟩
  · have h0 := sSort0_spec
    refine go1 [] [] (cns h0 (cns Tryz.results57 trivial)) ?_
    exact ⟨[], .refl _, .nil, .inl ⟨rfl, rfl, rfl⟩⟩
  · have hA : AtD (σ ++ [⟨flatI l, 0, false, false⟩]) σ.length 0 0 (l.length * 2) l.toArray (σ ++ [⟨flatI l, 0, false, false⟩]) := by
      refine ⟨by simp, flatI l, ?_, by simp, by simp, ?_⟩
      · rw [List.set_append_right _ _ (Nat.le_refl _)]
        simp
      · show List.take (l.length * 2) (flatI l) = flatI l
        exact List.take_of_length_le (by simp)
    have hs := sSort_spec σ.length 0 0 (l.length * 2) (by omega) _ l.toArray _ hA
    rw [show l.toArray.size = l.length by simp] at hs
    clear hA
    generalize hS : σ ++ [(⟨flatI l, 0, false, false⟩ : MO)] = S at *
    repeat' (first
     | (with_reducible first | refine Stp.pf ?_ | refine block_x (by decide) ?_ | refine ret_n ?_)
     | refine tri_reg [] ?_ | refine tri_regc [] [] mixed (by decide +kernel) ?_
     | (refine rwf_nilt rfl (by decide +kernel) fun B hB => ?_; (try simp [*]); refine hB.out _ fun b => ?_; clear hB B)
     | (refine Rul.pf ⟨rfl, rfl⟩ fun B C hB => ?_; (try simp [*, -List.all_eq_true, Tryz.results57]); (try (simp (disch := first | assumption | omega) only [wc, ite_yes]; (try simp [*, -List.all_eq_true, Tryz.results57]))); first | (first | refine hB.out.1 _ (fun hb => ?_) fun hb => ⟨rfl, ?_⟩ | refine hB.out.1 _ (fun hb => ?_) fun hb => ?_) <;> clear hB C B <;> (try simp only [Bool.not_true, Bool.not_false] at hb) <;> (first | (exfalso; simp at hb; done) | (exfalso; simp at hb; omega) | (rw [hb]; (try simp at hb)) | (try simp at hb)) | ((first | refine hB.out.1 _ _ ?_ | refine hB.out.1 _ ?_ | refine hB.out.2 ⟨rfl, ?_⟩); clear hB C B) | (refine hB.out.2 _ ?_; clear hB C B; (try rfl)))
     | refine rwf_o ?_ | refine rwc_o .n rfl ?_ | refine rwc_o .z rfl ?_ | refine rwc_o .w rfl ?_ | refine rwc_o .b rfl ?_ | refine rwc_o _ rfl ?_)
    refine rwf_ca rfl fun C' hC hP => ?_
    clear hP
    (try simp [*, -List.all_eq_true]); (try (simp (disch := first | assumption | omega) only [wrap_id, wrapu_id, wrapb_id, tmod_nn, tdiv_nn, ite_yes, flatM_seg, flatM_0, flatM_1, flatM_2, flatI_seg, flatI_0, flatI_1, flatS_get]; (try simp [*, -List.all_eq_true])))
    refine hC.out _ _ _ (hs) fun r s2 hq => ?_
    clear hC C'
    obtain ⟨rfl, X, d', hA2, h1, h2⟩ := hq
    clear hs
    refine go1 [] [] (cns Tryz.results57 trivial) ?_
    rw [← show l.toArray.size = l.length by simp] at h1 h2
    obtain ⟨p1, p2⟩ := sorted_of h1 h2
    have hdl : d'.size = l.length := by have := p1.length_eq; simpa using this
    refine ⟨d'.toList, by simpa using p1, p2, .inr ⟨hpos, rfl, X, ?_⟩⟩
    obtain ⟨_, c, rfl, k1, k2, k3⟩ := hA2
    rw [List.drop_zero, List.take_of_length_le (by omega)] at k3
    subst k3
    rw [← hS, List.append_assoc, List.set_append_right _ _ (Nat.le_refl _)]
    simp
end Go.Proofs.YtejgopcicenbeaaGreat
