/- slices.SortedFunc over slices.Values of items: the items, sorted, in a row of its own. -/
import Derived.Test.YticpnfgiidljlaaGreatRb
import Derived.Test.YticpnfgiidljlaaGreatSi
import Derived.Test.YticpnfgiidljlaaGreatLw
namespace Go.Proofs.YticpnfgiidljlaaGreat
open Go.RowKit Go.Sort
set_option linter.unusedSimpArgs false
set_option maxRecDepth 10000
theorem flatI_cells (l : List Item) : flatI l = (cellsV l).map AV.sc := by
  unfold flatI flatC cellsV
  rw [List.map_flatMap]
  rfl
theorem cellsV_len (l : List Item) : (cellsV l).length = l.length * 2 := by
  have := congrArg List.length (flatI_cells l)
  simpa using this.symm
/-- What slices.Values hands back. -/
def seqI (l : List Item) : AV := .fn (.func 110) [] [.fp [.fs (flatI l) l.length] 0]
theorem appSeq_spec (l : List Item) (hl : l.length ≤ 100000000) (σ : Sto) : Spec Tryz.prog 134 [.sc (.slice none 0 0), seqI l] σ
    (fun r s => (l = [] ∧ r = .fs [] 0 ∧ s = σ) ∨ (0 < l.length ∧ r = .ms σ.length 0 0 l.length 2 ∧ s = σ ++ [⟨flatI l, 0, false, false⟩])) := by
  refine ⟨good134, fun w Im T vs hW hR => ?_⟩
  obtain ⟨v0, g0, r0⟩ := hR.get (i := 0) (x := .sc (.slice none 0 0)) rfl
  obtain ⟨v1, g1, r1⟩ := hR.get (i := 1) (x := seqI l) rfl
  have hsz : vs.toList.length = 2 := hR.1
  obtain rfl : vs = #[v0, v1] := by
    apply Array.ext'
    match hvs : vs.toList, hsz with
    | [x, y], _ => rw [hvs] at g0 g1; simp at g0 g1; rw [g0, g1]
  cases r0
  unfold seqI at r1
  cases r1 with
  | fn f A B xs ys hA hB h1 h2 =>
  obtain rfl : A = #[] := by simpa using hA
  obtain ⟨p, rfl⟩ : ∃ p, B = #[p] := by
    match B, hB with
    | ⟨[p]⟩, _ => exact ⟨p, rfl⟩
  have r2 := h2 0 _ p rfl rfl
  cases r2 with
  | fp b o _ cs vs2 k1 k2 =>
  obtain ⟨hIm, hcell⟩ := k1 0 _ rfl
  have r3 := k2 0 _ rfl
  have hblt := hW.im _ hIm
  generalize vs2 0 = sv at *
  have key : Calls Tryz.prog 134 #[.slice none 0 0, .func (.func 110) #[] #[.pointer (some ⟨b, o + 0, none⟩)]] w fun e W' => ∃ v, e = .returned v ∧ W'.ownsRow w.heap.size 71 2 v l.length (cellsV l) ∧ Below w.heap.size w W' := by
    obtain ⟨x, hx⟩ : ∃ x, x = AV.fs (flatI l) l.length := ⟨_, rfl⟩
    rw [← hx] at r3
    have hnil : l.length = 0 → l = [] := List.length_eq_zero_iff.1
    cases r3 with
    | fs b' o' len cap cs' vs' hlc m1 m2 =>
      cases hx
      rcases Nat.eq_zero_or_pos l.length with h0 | hpos
      · rw [hnil h0] at hcell ⊢
        exact appSeq_calls0 b (o + 0) cap _ w hblt hcell
      · refine appSeq_calls b (o + 0) b' o' cap l hl w hblt hcell ?_
        have hi0 := hW.im _ (m1 0 _ (flatI_0 l 0 hpos)).1
        refine ⟨hi0, fun j hj => ?_⟩
        have a0 := flatI_0 l j hj
        have a1 := flatI_1 l j hj
        have c0 := (m1 _ _ a0).2
        have c1 := (m1 _ _ a1).2
        have d0 := m2 _ _ a0
        have d1 := m2 _ _ a1
        generalize vs' (j * 2) = e0 at *
        generalize vs' (j * 2 + 1) = e1 at *
        cases d0
        cases d1
        exact ⟨c0, by rw [Nat.add_assoc]; exact c1⟩
    | fn0 =>
      simp at hx
      rw [hnil hx.2.symm]
      exact appSeq_calls0 b (o + 0) 0 _ w hblt hcell
    | fs0 a cap =>
      simp at hx
      rw [hnil hx.2.symm]
      exact appSeq_calls0 b (o + 0) cap _ w hblt hcell
    | _ => cases hx
  refine key.mono ?_
  rintro e w' ⟨v, rfl, hown, hBel⟩
  obtain ⟨hlen, hown⟩ := hown
  rcases Nat.eq_zero_or_pos l.length with h0 | hpos
  · have hn : l = [] := List.length_eq_zero_iff.1 h0
    have hrel : Rel w' Im T v (.fs [] 0) := by
      rcases hown with ⟨rfl, _⟩ | ⟨g, cap, cur, rfl, _⟩
      · exact .fn0
      · rw [h0]; exact .fs0 _ _
    have hk : ∀ b, b < w.heap.size → w'.heap[b]? = w.heap[b]? := hBel.block
    exact ⟨v, .fs [] 0, σ, Im, T, rfl, hrel, hW.world hBel.size hk (fun _ h => h) (fun _ h => .inl h), .world hBel.os hBel.tape hBel.output hBel.size hk (fun _ h => h) (fun _ h => .inl h), .inl ⟨hn, rfl, rfl⟩⟩
  · rcases hown with ⟨_, h0⟩ | ⟨g, cap, cur, rfl, hg, hgb, hcap, _, hcsz, htake⟩
    · omega
    · obtain ⟨n1, n2⟩ := obj_new hW hBel (room := cap * 2) hg hgb (by omega) (flatI l) (by simp; omega) (fun i x v hx hv => by
        rw [flatI_cells, List.getElem?_map] at hx
        obtain ⟨u, hu, rfl⟩ := Option.map_eq_some_iff.1 hx
        have hi := lt_of_get hu
        rw [cellsV_len] at hi
        rw [← htake, List.getElem?_take, if_pos hi, Array.getElem?_toList, hv] at hu
        cases hu
        exact .sc _)
      refine ⟨_, .ms σ.length 0 0 l.length 2, _, Im, _, rfl, ?_, n1, n2, .inr ⟨hpos, rfl, rfl⟩⟩
      refine .ms _ _ _ _ _ _ _ ⟨0, g, 0, cap * 2⟩ ?_ (Nat.le_refl _) hcap rfl (fun _ => ⟨rfl, by simp⟩)
      rw [← hW.len]
      simp
theorem collect_spec (l : List Item) (hl : l.length ≤ 100000000) (σ : Sto) : Spec Tryz.prog 108 [seqI l] σ
    (fun r s => (l = [] ∧ r = .fs [] 0 ∧ s = σ) ∨ (0 < l.length ∧ r = .ms σ.length 0 0 l.length 2 ∧ s = σ ++ [⟨flatI l, 0, false, false⟩])) := by
  have h := appSeq_spec l hl σ
  refine spec_intro Tryz.func108 good108 rfl (by simp [Tryz.ntmps108]) ?_
  refine go1 [] [] (cns Tryz.results108 trivial) ?_
  refine rwf_ca rfl fun C' hC hP => ?_
  clear hP
  (try simp [*, -List.all_eq_true]); (try (simp (disch := first | assumption | omega) only [wrap_id, wrapu_id, wrapb_id, tmod_nn, tdiv_nn, ite_yes, flatM_seg, flatM_0, flatM_1, flatM_2, flatI_seg, flatI_0, flatI_1, flatS_get]; (try simp [*, -List.all_eq_true])))
  refine hC.out _ _ _ (h) fun r s hq => ?_
  clear hC C'
  refine go1 [] [] (cns Tryz.results108 trivial) ?_
  exact hq
end Go.Proofs.YticpnfgiidljlaaGreat
namespace Go.Proofs.YticpnfgiidljlaaGreat
open Go.RowKit Go.Sort
set_option linter.unusedSimpArgs false
set_option maxRecDepth 10000
theorem vals_spec (l : List Item) : PSpec Tryz.prog 66 [.fs (flatI l) l.length] (seqI l) := by
  unfold seqI
  refine spec_pure (by simp) (by simp) ?_
  refine spec_intro Tryz.func66 good66 rfl (by simp [Tryz.ntmps66]) ?_
  exact go0 [] [] (cns Tryz.results66 trivial)
theorem sIns0_spec : PSpec Tryz.prog 147 [.fs [] 0, .sc (.int .i64 0), .sc (.int .i64 0), fCmp] (.tup []) := by
  unfold fCmp
  refine spec_pure (by simp) (by simp) ?_
  refine spec_intro Tryz.func147 good147 rfl (by simp [Tryz.ntmps147]) ?_
  refine go1 [] [] (cns Tryz.results147 trivial) ?_
  refine tri_for [0, 1, 2, 3] 0 (fun k e σ => σ = [] ∧ e 8 = .sc (.int .i64 1)) ?_ (fun k env' σ' hlt hk hI => ?_) (fun env' σ' hk hI => ?_)
  · exact ⟨by simp, by simp⟩
  · omega
  · skip
    (try simp at hk)
    obtain ⟨rfl, h8⟩ := hI
    exact go0 [] [] (cns Tryz.results147 trivial)
theorem sPdq0_spec (lim : Int) : PSpec Tryz.prog 135 [.fs [] 0, .sc (.int .i64 0), .sc (.int .i64 0), .sc (.int .i64 lim), fCmp] (.tup []) := by
  have h := sIns0_spec
  unfold fCmp at *
  refine spec_pure (by simp) (by simp) ?_
  refine spec_intro Tryz.func135 good135 rfl (by simp [Tryz.ntmps135]) ?_
  refine go1 [] [] (cns Tryz.results135 trivial) ?_
  refine tri_for [0, 4] 0 (fun k e σ => σ = [] ∧ e 1 = .sc (.int .i64 0) ∧ e 2 = .sc (.int .i64 0)) ?_ (fun k env' σ' hlt hk hI => ?_) (fun env' σ' hk hI => ?_)
  · exact ⟨by simp, by simp, by simp⟩
  · omega
  · skip
    (try simp at hk)
    obtain ⟨rfl, h1, h2⟩ := hI
    exact go0 [] [] (cns h (cns Tryz.results135 trivial))
theorem sSort0_spec : PSpec Tryz.prog 109 [.fs [] 0, fCmp] (.tup []) := by
  have h := lenB_spec 0 (by omega)
  have h2 := sPdq0_spec
  generalize bitsLen 0 = L at *
  unfold fCmp at *
  refine spec_pure (by simp) (by simp) ?_
  refine spec_intro Tryz.func109 good109 rfl (by simp [Tryz.ntmps109]) ?_
  exact go0 [] [] (cns h (cns (fun x1 => h2 x1) (cns Tryz.results109 trivial)))
theorem sSort_spec (i g off N : Nat) (hN : N ≤ 100000000) (σ0 : Sto) (d : Array Item) (σ : Sto) (h : AtD σ0 i g off N d σ) :
    Spec Tryz.prog 109 [.ms i g off d.size 2, fCmp] σ (fun r s => r = .tup [] ∧ ∃ (X : Sto) (d' : Array Item), AtD (σ0 ++ X) i g off N d' s ∧ PermIn 0 d.size d d' ∧ SortedIn ltI 0 d.size d') := by
  have hdN : d.size ≤ N := by obtain ⟨_, _, _, _, h2, _⟩ := h; omega
  have hL := lenB_spec d.size (by omega)
  have hp := sPdq_spec i g off N hN d.size σ0 d 0 d.size (bitsLen d.size : Nat) σ (by omega) (by omega) (Nat.le_refl _) (.inl rfl) h
  generalize bitsLen d.size = L at *
  refine spec_intro Tryz.func109 good109 rfl (by simp [Tryz.ntmps109]) ?_
  refine go1 [] [] (cns hL (cns Tryz.results109 trivial)) ?_
  refine rwf_ca rfl fun C' hC hP => ?_
  clear hP
  (try simp [*, -List.all_eq_true]); (try (simp (disch := first | assumption | omega) only [wrap_id, wrapu_id, wrapb_id, tmod_nn, tdiv_nn, ite_yes, flatM_seg, flatM_0, flatM_1, flatM_2, flatI_seg, flatI_0, flatI_1, flatS_get]; (try simp [*, -List.all_eq_true])))
  refine hC.out _ _ _ (hp) fun r s hq => ?_
  clear hC C'
  obtain ⟨rfl, X, d', hA, h1, h2⟩ := hq
  refine go1 [] [] (cns Tryz.results109 trivial) ?_
  exact ⟨rfl, X, d', hA, h1, h2⟩
/-- No later one is less than an earlier one. -/
def SortedL (l : List Item) : Prop := l.Pairwise fun x y => ltI y x = false
theorem sorted_of {d d' : Array Item} (h1 : PermIn 0 d.size d d') (h2 : SortedIn ltI 0 d.size d') : d'.toList.Perm d.toList ∧ SortedL d'.toList := by
  obtain ⟨k1, _, k3⟩ := h1
  constructor
  · have e1 : d'.extract 0 d.size = d' := by rw [← k1]; simp
    have e2 : d.extract 0 d.size = d := by simp
    rw [e1, e2] at k3
    exact k3
  · unfold SortedL
    rw [List.pairwise_iff_getElem]
    intro i j hi hj hij
    have hi' : i < d'.size := by simpa using hi
    have hj' : j < d'.size := by simpa using hj
    have := h2 i j (Nat.zero_le _) hij (by omega)
    rw [getElem!_pos d' i hi', getElem!_pos d' j hj'] at this
    simpa using this
theorem sorted_spec (l : List Item) (hl : l.length ≤ 40000000) (σ : Sto) : Spec Tryz.prog 65 [seqI l, fCmp] σ
    (fun r s => ∃ l', l'.Perm l ∧ SortedL l' ∧ ((l = [] ∧ r = .fs [] 0 ∧ s = σ) ∨ (0 < l.length ∧ r = .ms σ.length 0 0 l.length 2 ∧ ∃ X, s = σ ++ ⟨flatI l', 0, false, false⟩ :: X))) := by
  have h := collect_spec l (by omega) σ
  refine spec_intro Tryz.func65 good65 rfl (by simp [Tryz.ntmps65]) ?_
  refine go1 [] [] (cns Tryz.results65 trivial) ?_
  refine rwf_ca rfl fun C' hC hP => ?_
  clear hP
  (try simp [*, -List.all_eq_true]); (try (simp (disch := first | assumption | omega) only [wrap_id, wrapu_id, wrapb_id, tmod_nn, tdiv_nn, ite_yes, flatM_seg, flatM_0, flatM_1, flatM_2, flatI_seg, flatI_0, flatI_1, flatS_get]; (try simp [*, -List.all_eq_true])))
  refine hC.out _ _ _ (h) fun r s hq => ?_
  clear hC C'
  clear h
  rcases hq with ⟨rfl, rfl, rfl⟩ | ⟨hpos, rfl, rfl⟩
  · have h0 := sSort0_spec
    refine go1 [] [] (cns h0 (cns Tryz.results65 trivial)) ?_
    exact ⟨[], .refl _, .nil, .inl ⟨rfl, rfl, rfl⟩⟩
  · have hA : AtD (σ ++ [⟨flatI l, 0, false, false⟩]) σ.length 0 0 (l.length * 2) l.toArray (σ ++ [⟨flatI l, 0, false, false⟩]) := by
      refine ⟨by simp, flatI l, ?_, by simp, by simp, ?_⟩
      · rw [List.set_append_right _ _ (Nat.le_refl _)]
        simp
      · show List.take (l.length * 2) (flatI l) = flatI l
        exact List.take_of_length_le (by simp)
    have hs := sSort_spec σ.length 0 0 (l.length * 2) (by omega) _ l.toArray _ hA
    rw [show l.toArray.size = l.length by simp] at hs
    clear hA
    generalize hS : σ ++ [(⟨flatI l, 0, false, false⟩ : MO)] = S at *
    repeat' (first
     | (with_reducible first | refine Stp.pf ?_ | refine block_x (by decide) ?_ | refine ret_n ?_)
     | refine tri_reg [] ?_ | refine tri_regc [] [] mixed (by decide +kernel) ?_
     | (refine rwf_nilt rfl (by decide +kernel) fun B hB => ?_; (try simp [*]); refine hB.out _ fun b => ?_; clear hB B)
     | (refine Rul.pf ⟨rfl, rfl⟩ fun B C hB => ?_; (try simp [*, -List.all_eq_true, Tryz.results65]); (try (simp (disch := first | assumption | omega) only [wc, ite_yes]; (try simp [*, -List.all_eq_true, Tryz.results65]))); first | (first | refine hB.out.1 _ (fun hb => ?_) fun hb => ⟨rfl, ?_⟩ | refine hB.out.1 _ (fun hb => ?_) fun hb => ?_) <;> clear hB C B <;> (try simp only [Bool.not_true, Bool.not_false] at hb) <;> (first | (exfalso; simp at hb; done) | (exfalso; simp at hb; omega) | (rw [hb]; (try simp at hb)) | (try simp at hb)) | ((first | refine hB.out.1 _ _ ?_ | refine hB.out.1 _ ?_ | refine hB.out.2 ⟨rfl, ?_⟩); clear hB C B) | (refine hB.out.2 _ ?_; clear hB C B; (try rfl)))
     | refine rwf_o ?_ | refine rwc_o .n rfl ?_ | refine rwc_o .z rfl ?_ | refine rwc_o .w rfl ?_ | refine rwc_o .b rfl ?_ | refine rwc_o _ rfl ?_)
    refine rwf_ca rfl fun C' hC hP => ?_
    clear hP
    (try simp [*, -List.all_eq_true]); (try (simp (disch := first | assumption | omega) only [wrap_id, wrapu_id, wrapb_id, tmod_nn, tdiv_nn, ite_yes, flatM_seg, flatM_0, flatM_1, flatM_2, flatI_seg, flatI_0, flatI_1, flatS_get]; (try simp [*, -List.all_eq_true])))
    refine hC.out _ _ _ (hs) fun r s2 hq => ?_
    clear hC C'
    obtain ⟨rfl, X, d', hA2, h1, h2⟩ := hq
    clear hs
    refine go1 [] [] (cns Tryz.results65 trivial) ?_
    rw [← show l.toArray.size = l.length by simp] at h1 h2
    obtain ⟨p1, p2⟩ := sorted_of h1 h2
    have hdl : d'.size = l.length := by have := p1.length_eq; simpa using this
    refine ⟨d'.toList, by simpa using p1, p2, .inr ⟨hpos, rfl, X, ?_⟩⟩
    obtain ⟨_, c, rfl, k1, k2, k3⟩ := hA2
    rw [List.drop_zero, List.take_of_length_le (by omega)] at k3
    subst k3
    rw [← hS, List.append_assoc, List.set_append_right _ _ (Nat.le_refl _)]
    simp
end Go.Proofs.YticpnfgiidljlaaGreat
