/- Nodes: read. -/
import Derived.Test.YticpnfgiidljlaaGreatNl
import Derived.Test.YticpnfgiidljlaaGreatNh
namespace Go.Proofs.YticpnfgiidljlaaGreat
open Go.RowKit
set_option linter.unusedSimpArgs false
set_option linter.unusedVariables false
set_option maxRecDepth 10000
theorem ownSet2 {k : Nat} {σ : Sto} {v : AV} {n l : Nat} {cs : List AV} (h : Own k σ v n cs) (hl : ¬ isH l v) (x : MO) : Own k (σ.set l x) v n cs := by
  rcases h with h | ⟨i, g, off, c, rfl, h1, h2⟩
  · exact .inl h
  · exact .inr ⟨i, g, off, c, rfl, by rw [List.getElem?_set_ne (fun e => hl ⟨_, _, _, _, by rw [e]⟩)]; exact h1, h2⟩
theorem frame_not {σ σ' : Sto} {v v' : AV} {l : Nat} (hF : Frame σ v σ' v') (hl : ¬ isH l v) (hlt : l < σ.length) : ¬ isH l v' := fun h => by
  rcases hF.2.1 l h with q | q
  · exact hl q
  · omega
/-- The node of items that were read. -/
def readLR (l : List Item) : AV := if l.all okI = false then nP else match ofL l with
  | none => nP
  | some o => .fp (cNl o) 0
theorem dReadLeaf_spec {l : Nat} {st : RdS} {σ : Sto} (h : σ[l]? = some (inO st)) : Spec Tryz.prog 85 [.mp l 0 0] σ fun r σ' => r = readLR (decLeaf st).1 := by
  have hn := inNum_spec 1 (.inl rfl) h
  have h1 : (σ.set l (inO (numL 1 st).2))[l]? = some (inO (numL 1 st).2) := List.getElem?_set_self (lt_of_get h)
  have hz : (numL 1 st).1 < 256 := by
    unfold numL rawL
    split
    · match hst : st.1 with
      | [] => simp [beN]
      | a :: t => simp [beN]; exact a.toNat_lt
    · simp [beN]
  unfold decLeaf
  generalize (numL 1 st).2 = st1 at hn h1 ⊢
  generalize (numL 1 st).1 = n at hn hz ⊢
  generalize σ.set l (inO st1) = S at hn h1
  clear h
  refine spec_intro Tryz.func85 good85 rfl (by simp [Tryz.ntmps85]) ?_
  refine go1 [19] [] (cns Tryz.results85 trivial) ?_
  refine rwf_ca rfl fun C' hC hP => ?_
  clear hP
  (try simp [*, -List.all_eq_true]); (try (simp (disch := first | assumption | omega) only [wrap_id, wrapu_id, wrapb_id, tmod_nn, tdiv_nn, ite_yes, flatM_seg, flatM_0, flatM_1, flatM_2, flatI_seg, flatI_0, flatI_1, flatS_get]; (try simp [*, -List.all_eq_true])))
  refine hC.out _ _ _ (hn) fun r S0 hq => ?_
  clear hC C'
  obtain ⟨rfl, rfl⟩ := hq
  replace h1 := Lib.hid h1
  clear hn
  refine go1 [19] [] (cns Tryz.results85 trivial) ?_
  refine tri_for [0, 2, 8] n (fun k_ e σ => e 9 = .sc (.int .i64 k_) ∧ ∃ v, e 3 = v ∧ Own 2 σ v k_ (flatI (rdN decItem k_ st1).1) ∧ ¬ isH l v ∧ σ[l]? = some (inO (rdN decItem k_ st1).2)) ?_ (fun j env' σ' hlt hk hI => ?_) (fun env' σ' hk hI => ?_)
  · exact ⟨by simp, _, rfl, by simpa [rdN, flatI, flatC] using Own.nil 2 _, by simpa using isH_nil l, by simpa [rdN] using h1.out⟩
  · clear h1
    (try simp at hk)
    obtain ⟨h9, v, h3, o1, hne, h1⟩ := hI
    have hd : rdN decItem (j + 1) st1 = ((rdN decItem j st1).1 ++ [(decItem (rdN decItem j st1).2).1], (decItem (rdN decItem j st1).2).2) := rfl
    rw [hd]
    clear hd
    generalize (rdN decItem j st1).1 = items at o1 ⊢
    generalize (rdN decItem j st1).2 = sj at h1 ⊢
    have ht := inText_spec 8 (by omega) h1
    have o2 := ownSet2 o1 hne (inO (textL 8 sj).2)
    have h2 : (σ'.set l (inO (textL 8 sj).2))[l]? = some (inO (textL 8 sj).2) := List.getElem?_set_self (lt_of_get h1)
    have ht2 := inText_spec 16 (by omega) h2
    have o3 := ownSet2 o2 hne (inO (textL 16 (textL 8 sj).2).2)
    have h3' : ((σ'.set l (inO (textL 8 sj).2)).set l (inO (textL 16 (textL 8 sj).2).2))[l]? = some (inO (textL 16 (textL 8 sj).2).2) := List.getElem?_set_self (lt_of_get h2)
    have hlt2 := lt_of_get h3'
    unfold decItem
    simp only
    generalize σ'.set l (inO (textL 8 sj).2) = T1 at *
    generalize T1.set l (inO (textL 16 (textL 8 sj).2).2) = T2 at *
    generalize ofL' (textL 16 (textL 8 sj).2).1 = b at *
    generalize (textL 16 (textL 8 sj).2).2 = sk at *
    generalize ofL' (textL 8 sj).1 = a at *
    clear o1 o2 h1 h2
    replace h3' := Lib.hid h3'
    replace hlt2 := Lib.hid hlt2
    refine go1 [19] [] (cns Tryz.results85 trivial) ?_
    refine rwf_ca rfl fun C' hC hP => ?_
    clear hP
    (try simp [*, -List.all_eq_true]); (try (simp (disch := first | assumption | omega) only [wrap_id, wrapu_id, wrapb_id, tmod_nn, tdiv_nn, ite_yes, flatM_seg, flatM_0, flatM_1, flatM_2, flatI_seg, flatI_0, flatI_1, flatS_get]; (try simp [*, -List.all_eq_true])))
    refine hC.out _ _ _ (ht) fun r S3 hq => ?_
    clear hC C'
    obtain ⟨rfl, rfl⟩ := hq
    refine go1 [19] [] (cns Tryz.results85 trivial) ?_
    refine rwf_ca rfl fun C' hC hP => ?_
    clear hP
    (try simp [*, -List.all_eq_true]); (try (simp (disch := first | assumption | omega) only [wrap_id, wrapu_id, wrapb_id, tmod_nn, tdiv_nn, ite_yes, flatM_seg, flatM_0, flatM_1, flatM_2, flatI_seg, flatI_0, flatI_1, flatS_get]; (try simp [*, -List.all_eq_true])))
    refine hC.out _ _ _ (ht2) fun r S4 hq => ?_
    clear hC C'
    obtain ⟨rfl, rfl⟩ := hq
    clear ht ht2
    refine go1 [19] [] (cns Tryz.results85 trivial) ?_
    refine rwf_app rfl rfl elem22 zero71 rfl bytes71 (by decide) slc22 fun G hG => ?_
    (try simp [*, -List.all_eq_true])
    refine hG.out _ _ _ _ _ (o3) (by simp) (by simp) (by omega) fun v1 S5 q1 q2 => ?_
    clear hG G
    have n1 := frame_not q2 hne hlt2.out
    have n2 := q2.1 l _ h3'.out hne
    replace n2 := Lib.hid n2
    clear q2 o3 h3'
    refine go1 [19] [] (cns Tryz.results85 trivial) ?_
    exact ⟨by simp [*], by simp [*], _, rfl, by simpa [flatI_append, flatI, flatC, cI] using q1, by simpa using n1, n2.out⟩
  · skip
    (try simp at hk)
    obtain ⟨h9, v, h3, o1, hne, h1⟩ := hI
    have hlen := rdN_len decItem st1 n
    generalize (rdN decItem n st1).1 = items at o1 hlen ⊢
    subst hlen
    have hof := spec_own1 o1 (by simp) (lOf_spec items (by omega) _)
    clear o1 hne h1
    unfold leafR at hof
    unfold readLR nP
    cases ha : items.all okI with
    | false =>
      rw [ha, if_pos rfl] at hof
      rw [if_pos rfl]
      have hol := dOfLeaf_nil
      unfold nP at hol
      refine go1 [19] [] (cns Tryz.results85 trivial) ?_
      refine rwf_ca rfl fun C' hC hP => ?_
      clear hP
      (try simp [*, -List.all_eq_true]); (try (simp (disch := first | assumption | omega) only [wrap_id, wrapu_id, wrapb_id, tmod_nn, tdiv_nn, ite_yes, flatM_seg, flatM_0, flatM_1, flatM_2, flatI_seg, flatI_0, flatI_1, flatS_get]; (try simp [*, -List.all_eq_true])))
      refine hC.out _ _ _ (hof) fun r S3 hq => ?_
      clear hC C'
      obtain ⟨rfl, -⟩ := hq
      exact go0 [19] [] (cns hol (cns Tryz.results85 trivial))
    | true =>
      rw [ha, if_neg (by simp)] at hof
      rw [if_neg (by simp)]
      cases ho : ofL items with
      | none =>
        rw [ho] at hof
        simp only at hof
        have hol := dOfLeaf_nil
        unfold nP at hol
        refine go1 [19] [] (cns Tryz.results85 trivial) ?_
        refine rwf_ca rfl fun C' hC hP => ?_
        clear hP
        (try simp [*, -List.all_eq_true]); (try (simp (disch := first | assumption | omega) only [wrap_id, wrapu_id, wrapb_id, tmod_nn, tdiv_nn, ite_yes, flatM_seg, flatM_0, flatM_1, flatM_2, flatI_seg, flatI_0, flatI_1, flatS_get]; (try simp [*, -List.all_eq_true])))
        refine hC.out _ _ _ (hof) fun r S3 hq => ?_
        clear hC C'
        obtain ⟨rfl, -⟩ := hq
        exact go0 [19] [] (cns hol (cns Tryz.results85 trivial))
      | some o =>
        rw [ho] at hof
        simp only at hof
        have hol := dOfLeaf_spec o
        refine go1 [19] [] (cns Tryz.results85 trivial) ?_
        refine rwf_ca rfl fun C' hC hP => ?_
        clear hP
        (try simp [*, -List.all_eq_true]); (try (simp (disch := first | assumption | omega) only [wrap_id, wrapu_id, wrapb_id, tmod_nn, tdiv_nn, ite_yes, flatM_seg, flatM_0, flatM_1, flatM_2, flatI_seg, flatI_0, flatI_1, flatS_get]; (try simp [*, -List.all_eq_true])))
        refine hC.out _ _ _ (hof) fun r S3 hq => ?_
        clear hC C'
        obtain ⟨rfl, -⟩ := hq
        exact go0 [19] [] (cns hol (cns Tryz.results85 trivial))
/-- A row of one's own is laid to rest in the midst of a function; object l stays as it is. -/
theorem tri_rest {P : Program} {nt : Nat} {c : Code} {env : Env} {σ : Sto} {Q : Exit → Env → Sto → Prop} {k n l : Nat} {v : AV} {cs : List AV} {o : MO} (t : Nat) (hv : env t = v) (ho : Own k σ v n cs) (hf : flatL cs = true) (hne : ¬ isH l v) (hl : σ[l]? = some o)
    (h : ∀ σ', σ'[l]? = some o → Tri P nt c (env.put (some t) (.fs cs n)) σ' Q) : Tri P nt c env σ Q := by
  rcases ho with ⟨rfl, rfl, rfl⟩ | ⟨i, g, off, c', rfl, h1, h2, h3⟩
  · exact tri_wk t (x := .fs [] 0) (by rw [hv]; exact .nil) (h σ hl)
  · refine tri_frzL [i] t 2 (u := .fs cs n) (by rw [hv]; simp [frz, frzL, AV.flat, h1, h2, h3, hf]) (h _ ?_)
    show (σ.freeze i)[l]? = some o
    rw [freeze_get, hl]
    have : i ≠ l := fun e => hne ⟨_, _, _, _, by rw [e]⟩
    simp [this]
/-- The node of kids, pivots and messages that were read. -/
def readIR (k : List Int) (p : List Str) (m : List Msg) : AV := if m.all isMsg = true ∧ goodIn k p = true then .fp (cNi k p (withM [] m)) 0 else nP
def kidsI (l : List Nat) : List Int := l.map fun (x : Nat) => Int.ofNat x
def pivS (l : List (List UInt8)) : List Str := l.map ofL'
theorem num1_lt (st : RdS) : (numL 1 st).1 < 256 := by
  unfold numL rawL
  split
  · match hst : st.1 with
    | [] => simp [beN]
    | a :: t => simp [beN]; exact a.toNat_lt
  · simp [beN]
theorem dReadInner_spec {l : Nat} {st : RdS} {σ : Sto} (h : σ[l]? = some (inO st)) : Spec Tryz.prog 86 [.mp l 0 0] σ fun r σ' => r = readIR (kidsI (decInner st).1.1) (pivS (decInner st).1.2.1) (decInner st).1.2.2 := by
  have hn := inNum_spec 1 (.inl rfl) h
  have h1 : (σ.set l (inO (numL 1 st).2))[l]? = some (inO (numL 1 st).2) := List.getElem?_set_self (lt_of_get h)
  have hz := num1_lt st
  unfold decInner
  simp only
  generalize (numL 1 st).2 = st1 at hn h1 ⊢
  generalize (numL 1 st).1 = n at hn hz ⊢
  generalize σ.set l (inO st1) = S at hn h1
  clear h
  refine spec_intro Tryz.func86 good86 rfl (by simp [Tryz.ntmps86]) ?_
  refine go1 [18,28,38] [] (cns Tryz.results86 trivial) ?_
  refine rwf_ca rfl fun C' hC hP => ?_
  clear hP
  (try simp [*, -List.all_eq_true]); (try (simp (disch := first | assumption | omega) only [wrap_id, wrapu_id, wrapb_id, tmod_nn, tdiv_nn, ite_yes, flatM_seg, flatM_0, flatM_1, flatM_2, flatI_seg, flatI_0, flatI_1, flatS_get]; (try simp [*, -List.all_eq_true])))
  refine hC.out _ _ _ (hn) fun r S0 hq => ?_
  clear hC C'
  obtain ⟨rfl, rfl⟩ := hq
  replace h1 := Lib.hid h1
  clear hn
  refine go1 [18,28,38] [] (cns Tryz.results86 trivial) ?_
  refine tri_for [0, 2, 4, 5, 6, 11] n (fun k_ e σ => e 12 = .sc (.int .i64 k_) ∧ ∃ v, e 3 = v ∧ Own 1 σ v k_ (flatN (kidsI (rdN (numL 2) k_ st1).1)) ∧ ¬ isH l v ∧ σ[l]? = some (inO (rdN (numL 2) k_ st1).2)) ?_ (fun j env' σ' hlt hk hI => ?_) (fun env' σ' hk hI => ?_)
  · exact ⟨by simp, _, rfl, by simpa [rdN, kidsI, flatN, flatC] using Own.nil 1 _, by simpa using isH_nil l, by simpa [rdN] using h1.out⟩
  · clear h1
    (try simp at hk)
    obtain ⟨h12, v, h3, o1, hne, h1⟩ := hI
    have hd : rdN (numL 2) (j + 1) st1 = ((rdN (numL 2) j st1).1 ++ [(numL 2 (rdN (numL 2) j st1).2).1], (numL 2 (rdN (numL 2) j st1).2).2) := rfl
    rw [hd]
    clear hd
    generalize (rdN (numL 2) j st1).1 = items at o1 ⊢
    generalize (rdN (numL 2) j st1).2 = sj at h1 ⊢
    have ht := inNum_spec 2 (.inr rfl) h1
    have o2 := ownSet2 o1 hne (inO (numL 2 sj).2)
    have h2 : (σ'.set l (inO (numL 2 sj).2))[l]? = some (inO (numL 2 sj).2) := List.getElem?_set_self (lt_of_get h1)
    have hlt2 := lt_of_get h2
    generalize σ'.set l (inO (numL 2 sj).2) = T1 at *
    generalize (numL 2 sj).1 = a at *
    generalize (numL 2 sj).2 = sk at *
    clear o1 h1
    replace h2 := Lib.hid h2
    replace hlt2 := Lib.hid hlt2
    refine go1 [18,28,38] [] (cns Tryz.results86 trivial) ?_
    refine rwf_ca rfl fun C' hC hP => ?_
    clear hP
    (try simp [*, -List.all_eq_true]); (try (simp (disch := first | assumption | omega) only [wrap_id, wrapu_id, wrapb_id, tmod_nn, tdiv_nn, ite_yes, flatM_seg, flatM_0, flatM_1, flatM_2, flatI_seg, flatI_0, flatI_1, flatS_get]; (try simp [*, -List.all_eq_true])))
    refine hC.out _ _ _ (ht) fun r S3 hq => ?_
    clear hC C'
    obtain ⟨rfl, rfl⟩ := hq
    clear ht
    refine go1 [18,28,38] [] (cns Tryz.results86 trivial) ?_
    refine rwf_app rfl rfl elem23 zero3 rfl bytes3 (by decide) slc23 fun G hG => ?_
    (try simp [*, -List.all_eq_true])
    refine hG.out _ _ _ _ _ (o2) (by simp) (by simp) (by omega) fun v1 S5 q1 q2 => ?_
    clear hG G
    have n1 := frame_not q2 hne hlt2.out
    have n2 := q2.1 l _ h2.out hne
    replace n2 := Lib.hid n2
    clear q2 o2 h2
    refine go1 [18,28,38] [] (cns Tryz.results86 trivial) ?_
    exact ⟨by simp [*], by simp [*], _, rfl, by simpa [flatN_append, flatN, flatC, cN, kidsI] using q1, by simpa using n1, n2.out⟩
  · skip
    (try simp at hk)
    obtain ⟨h12, v, h3, o1, hne, h1'⟩ := hI
    clear h1
    refine tri_rest 3 h3 o1 (by simp) hne h1' fun σ2 g1 => ?_
    clear o1 hne h3 h1' v
    have hk1 := hk
    have hlk := rdN_len (numL 2) st1 n
    generalize (rdN (numL 2) n st1).1 = K at hlk ⊢
    generalize (rdN (numL 2) n st1).2 = st2 at g1 ⊢
    replace g1 := Lib.hid g1
    have hsub : IntKind.i64.wrap ((n : Int) - 1) = (n : Int) - 1 := by rw [IntKind.wrap_i64]; omega
    refine go1 [18,28,38] [] (cns Tryz.results86 trivial) ?_
    refine tri_for [0, 2, 3, 5, 21] (n - 1) (fun k_ e σ => e 22 = .sc (.int .i64 k_) ∧ ∃ v, e 4 = v ∧ Own 1 σ v k_ (flatS (pivS (rdN (textL 8) k_ st2).1)) ∧ ¬ isH l v ∧ σ[l]? = some (inO (rdN (textL 8) k_ st2).2)) ?_ (fun j env' σ' hlt hk hI => ?_) (fun env' σ' hk hI => ?_)
    · exact ⟨by simp, _, rfl, by simpa [rdN, pivS, flatS, flatC, hk] using Own.nil 1 _, by simpa [hk] using isH_nil l, by simpa [rdN] using g1.out⟩
    · clear g1
      (try simp at hk)
      obtain ⟨h22, v, h4, o1, hne, h1⟩ := hI
      have hd : rdN (textL 8) (j + 1) st2 = ((rdN (textL 8) j st2).1 ++ [(textL 8 (rdN (textL 8) j st2).2).1], (textL 8 (rdN (textL 8) j st2).2).2) := rfl
      rw [hd]
      clear hd
      generalize (rdN (textL 8) j st2).1 = items at o1 ⊢
      generalize (rdN (textL 8) j st2).2 = sj at h1 ⊢
      have ht := inText_spec 8 (by omega) h1
      have o2 := ownSet2 o1 hne (inO (textL 8 sj).2)
      have h2 : (σ'.set l (inO (textL 8 sj).2))[l]? = some (inO (textL 8 sj).2) := List.getElem?_set_self (lt_of_get h1)
      have hlt2 := lt_of_get h2
      generalize σ'.set l (inO (textL 8 sj).2) = T1 at *
      generalize hb : (textL 8 sj).1 = b at *
      generalize (textL 8 sj).2 = sk at *
      clear o1 h1 hb
      replace h2 := Lib.hid h2
      replace hlt2 := Lib.hid hlt2
      have hcond : ((j : Int) < (n : Int) - 1) = True := by rw [eq_iff_iff, iff_true]; omega
      refine go1 [18,28,38] [] (cns Tryz.results86 trivial) ?_
      refine rwf_ca rfl fun C' hC hP => ?_
      clear hP
      (try simp [*, -List.all_eq_true]); (try (simp (disch := first | assumption | omega) only [wrap_id, wrapu_id, wrapb_id, tmod_nn, tdiv_nn, ite_yes, flatM_seg, flatM_0, flatM_1, flatM_2, flatI_seg, flatI_0, flatI_1, flatS_get]; (try simp [*, -List.all_eq_true])))
      refine hC.out _ _ _ (ht) fun r S3 hq => ?_
      clear hC C'
      obtain ⟨rfl, rfl⟩ := hq
      clear ht
      refine go1 [18,28,38] [] (cns Tryz.results86 trivial) ?_
      refine rwf_app rfl rfl elem24 zero9 rfl bytes9 (by decide) slc24 fun G hG => ?_
      (try simp [*, -List.all_eq_true])
      refine hG.out _ _ _ _ _ (o2) (by simp) (by simp) (by omega) fun v1 S5 q1 q2 => ?_
      clear hG G
      have n1 := frame_not q2 hne hlt2.out
      have n2 := q2.1 l _ h2.out hne
      replace n2 := Lib.hid n2
      clear q2 o2 h2
      refine go1 [18,28,38] [] (cns Tryz.results86 trivial) ?_
      exact ⟨by simp [*], by simp [*], _, rfl, by simpa [flatS, flatC, cS, pivS] using q1, by simpa using n1, n2.out⟩
    · skip
      (try simp at hk)
      obtain ⟨h22, v, h4, o1, hne, h1'⟩ := hI
      clear g1
      refine tri_rest 4 h4 o1 (by simp) hne h1' fun σ3 g2 => ?_
      clear o1 hne h4 h1' v
      have hlp := rdN_len (textL 8) st2 (n - 1)
      generalize (rdN (textL 8) (n - 1) st2).1 = PV at hlp ⊢
      generalize (rdN (textL 8) (n - 1) st2).2 = st3 at g2 ⊢
      have hn := inNum_spec 1 (.inl rfl) g2
      have h1 : (σ3.set l (inO (numL 1 st3).2))[l]? = some (inO (numL 1 st3).2) := List.getElem?_set_self (lt_of_get g2)
      have hz3 := num1_lt st3
      generalize (numL 1 st3).2 = st4 at hn h1 ⊢
      generalize (numL 1 st3).1 = nm at hn hz3 ⊢
      generalize σ3.set l (inO st4) = S4 at hn h1
      clear g2
      replace h1 := Lib.hid h1
      have hcond : (((n - 1 : Nat) : Int) < (n : Int) - 1) = False := by rw [eq_iff_iff, iff_false]; omega
      generalize hnp : n - 1 = np at *
      refine go1 [18,28,38] [] (cns Tryz.results86 trivial) ?_
      refine rwf_ca rfl fun C' hC hP => ?_
      clear hP
      (try simp [*, -List.all_eq_true]); (try (simp (disch := first | assumption | omega) only [wrap_id, wrapu_id, wrapb_id, tmod_nn, tdiv_nn, ite_yes, flatM_seg, flatM_0, flatM_1, flatM_2, flatI_seg, flatI_0, flatI_1, flatS_get]; (try simp [*, -List.all_eq_true])))
      refine hC.out _ _ _ (hn) fun r S5 hq => ?_
      clear hC C'
      obtain ⟨rfl, rfl⟩ := hq
      clear hn
      refine go1 [18,28,38] [] (cns Tryz.results86 trivial) ?_
      refine tri_for [0, 2, 3, 4, 31] nm (fun k_ e σ => e 32 = .sc (.int .i64 k_) ∧ ∃ v, e 5 = v ∧ Own 3 σ v k_ (flatM (rdN decMsg k_ st4).1) ∧ ¬ isH l v ∧ σ[l]? = some (inO (rdN decMsg k_ st4).2)) ?_ (fun j env' σ' hlt hk hI => ?_) (fun env' σ' hk hI => ?_)
      · exact ⟨by simp, _, rfl, by simpa [rdN, flatM, flatC, hk, hk1] using Own.nil 3 _, by simpa [hk, hk1] using isH_nil l, by simpa [rdN] using h1.out⟩
      · clear h1
        (try simp at hk)
        obtain ⟨h32, v, h5, o1, hne, h1⟩ := hI
        have hd : rdN decMsg (j + 1) st4 = ((rdN decMsg j st4).1 ++ [(decMsg (rdN decMsg j st4).2).1], (decMsg (rdN decMsg j st4).2).2) := rfl
        rw [hd]
        clear hd
        generalize (rdN decMsg j st4).1 = items at o1 ⊢
        generalize (rdN decMsg j st4).2 = sj at h1 ⊢
        have ht := mRead_spec h1
        have o2 := fun X => (ownSet2 o1 hne (inO (decMsg sj).2)).append X
        have h2 : ∀ X, (σ'.set l (inO (decMsg sj).2) ++ X)[l]? = some (inO (decMsg sj).2) := fun X => by rw [List.getElem?_append_left (by simpa using lt_of_get h1), List.getElem?_set_self (lt_of_get h1)]
        have hlt2 := fun X => lt_of_get (h2 X)
        generalize σ'.set l (inO (decMsg sj).2) = T1 at *
        generalize (decMsg sj).2 = sk at *
        generalize (decMsg sj).1 = mm at *
        obtain ⟨mq, mk, mv⟩ := mm
        clear o1 h1
        replace h2 := Lib.hid h2
        replace hlt2 := Lib.hid hlt2
        simp only [cM] at ht
        refine go1 [18,28,38] [] (cns Tryz.results86 trivial) ?_
        refine rwf_ca rfl fun C' hC hP => ?_
        clear hP
        (try simp [*, -List.all_eq_true]); (try (simp (disch := first | assumption | omega) only [wrap_id, wrapu_id, wrapb_id, tmod_nn, tdiv_nn, ite_yes, flatM_seg, flatM_0, flatM_1, flatM_2, flatI_seg, flatI_0, flatI_1, flatS_get]; (try simp [*, -List.all_eq_true])))
        refine hC.out _ _ _ (ht) fun r S6 hq => ?_
        clear hC C'
        obtain ⟨rfl, X, rfl⟩ := hq
        clear ht
        have o3 := o2 X
        have h3 := h2.out X
        have hlt3 := hlt2.out X
        clear o2 h2 hlt2
        generalize T1 ++ X = T2 at *
        replace h3 := Lib.hid h3
        replace hlt3 := Lib.hid hlt3
        refine go1 [18,28,38] [] (cns Tryz.results86 trivial) ?_
        refine rwf_app rfl rfl elem25 zero73 rfl bytes73 (by decide) slc25 fun G hG => ?_
        (try simp [*, -List.all_eq_true])
        refine hG.out _ _ _ _ _ (o3) (by simp) (by simp) (by omega) fun v1 S7 q1 q2 => ?_
        clear hG G
        have n1 := frame_not q2 hne hlt3.out
        have n2 := q2.1 l _ h3.out hne
        replace n2 := Lib.hid n2
        clear q2 o3 h3
        refine go1 [18,28,38] [] (cns Tryz.results86 trivial) ?_
        exact ⟨by simp [*], by simp [*], _, rfl, by simpa [flatM, flatC, cM] using q1, by simpa using n1, n2.out⟩
      · skip
        (try simp at hk)
        obtain ⟨h32, v, h5, o1, hne, h1'⟩ := hI
        clear h1
        refine tri_rest 5 h5 o1 (by simp) hne h1' fun σ4 g3 => ?_
        clear o1 hne h5 h1' v g3
        have hlm := rdN_len decMsg st4 nm
        generalize (rdN decMsg nm st4).1 = MS at hlm ⊢
        have hof := nOf_spec (kidsI K) (pivS PV) MS (by simp [kidsI]; omega) (by simp [pivS]; omega) (by omega)
        have e1 : (kidsI K).length = n := by simp [kidsI, hlk]
        have e2 : (pivS PV).length = np := by simp [pivS, hlp]
        rw [e1, e2, hlm] at hof
        clear hcond e1 e2
        generalize kidsI K = KI at *
        generalize pivS PV = PS at *
        unfold nOfR innerR at hof
        unfold readIR nP
        cases hm : MS.all isMsg with
        | false =>
          rw [hm, if_neg (by simp)] at hof
          rw [if_neg (by simp)]
          have hol := dOfInner_nil
          unfold nP at hol
          clear hm
          exact go0 [18,28,38] [] (cns hof (cns hol (cns Tryz.results86 trivial)))
        | true =>
          rw [hm, if_pos rfl] at hof
          clear hm
          cases hg : goodIn KI PS with
          | false =>
            rw [hg, if_neg (by simp)] at hof
            rw [if_neg (by simp)]
            have hol := dOfInner_nil
            unfold nP at hol
            clear hg
            exact go0 [18,28,38] [] (cns hof (cns hol (cns Tryz.results86 trivial)))
          | true =>
            rw [hg, if_pos rfl] at hof
            rw [if_pos ⟨rfl, rfl⟩]
            have hol := dOfInner_spec KI PS (withM [] MS)
            clear hg
            exact go0 [18,28,38] [] (cns hof (cns hol (cns Tryz.results86 trivial)))
/-- A node. -/
inductive NodeV where
  | l (o : List Item)
  | i (k : List Int) (p : List Str) (m : List Msg)
def NodeV.av : NodeV → AV
  | .l o => .fp (cNl o) 0
  | .i k p m => .fp (cNi k p m) 0
/-- The node of items that were read. -/
def nodeL (l : List Item) : Option NodeV := if l.all okI = true then (ofL l).map .l else none
def nodeI (k : List Int) (p : List Str) (m : List Msg) : Option NodeV := if m.all isMsg = true ∧ goodIn k p = true then some (.i k p (withM [] m)) else none
def NodeV.fits : NodeV → Bool
  | .l o => decide (iwts o ≤ 240)
  | .i k _ m => fitsIn k m
def NodeV.bytes : NodeV → List UInt8
  | .l o => leafB o
  | .i k p m => innerB k p m
/-- What Parse comes to. -/
def parseV (s : Str) : Option NodeV :=
  let k := numL 1 (s.data.toList, false)
  let n := if k.1 = 1 then nodeL (decLeaf k.2).1 else if k.1 = 2 then nodeI (kidsI (decInner k.2).1.1) (pivS (decInner k.2).1.2.1) (decInner k.2).1.2.2 else none
  n.bind fun n => if n.fits = true ∧ ofL' n.bytes = s then some n else none
def nodeR : Option NodeV → AV
  | none => .tup [nP, .sc (.int .i64 5)]
  | some n => .tup [n.av, .sc (.int .i64 0)]
theorem readLR_is (l : List Item) : readLR l = ((nodeL l).map NodeV.av).getD nP := by
  unfold readLR nodeL
  cases l.all okI with
  | false => rfl
  | true => cases ofL l <;> rfl
theorem readIR_is (k : List Int) (p : List Str) (m : List Msg) : readIR k p m = ((nodeI k p m).map NodeV.av).getD nP := by
  unfold readIR nodeI
  split <;> rfl
theorem dBytes_v (n : NodeV) (h : match n with | .l _ => True | .i k p m => goodIn k p = true ∧ (∀ x ∈ m, isMsg x = true) ∧ k.length ≤ 900000) : PSpec Tryz.prog 10 [n.av] (if n.fits = true then .tup [.sc (.string (ofL' n.bytes)), .sc (.int .i64 0)] else .tup [.sc (.string ⟨#[]⟩), .sc (.int .i64 8)]) := by
  cases n with
  | l o =>
    have := dBytes_l o
    simp only [NodeV.fits, decide_eq_true_eq]
    exact this
  | i k p m => exact dBytes_i k p m h.1 h.2.1 h.2.2
theorem NodeV.av_flat (n : NodeV) : n.av.flat = true := by cases n <;> simp [NodeV.av, AV.flat]
theorem NodeV.av_fp (n : NodeV) : ∃ cs, n.av = .fp cs 0 := by cases n <;> exact ⟨_, rfl⟩
theorem with_msgs (m : List Msg) (h : m.all isMsg = true) : ∀ x ∈ withM [] m, isMsg x = true :=
  (withM_ok m [] (by simp [Rise]) (by simp) (List.all_eq_true.1 h)).2.1
theorem dReaders_1 : PSpec Tryz.prog 36 [.sc (.int .i64 1)] (.fn (.func 85) [] []) := by
  refine spec_pure (by simp) (by simp) ?_
  refine spec_intro Tryz.func36 good36 rfl (by simp [Tryz.ntmps36]) ?_
  exact go0 [] [] (cns Tryz.results36 trivial)
theorem dReaders_2 : PSpec Tryz.prog 36 [.sc (.int .i64 2)] (.fn (.func 86) [] []) := by
  refine spec_pure (by simp) (by simp) ?_
  refine spec_intro Tryz.func36 good36 rfl (by simp [Tryz.ntmps36]) ?_
  exact go0 [] [] (cns Tryz.results36 trivial)
theorem dReaders_x (k : Int) (h1 : k ≠ 1) (h2 : k ≠ 2) : PSpec Tryz.prog 36 [.sc (.int .i64 k)] (.sc .nilFunc) := by
  refine spec_pure (by simp) (by simp) ?_
  refine spec_intro Tryz.func36 good36 rfl (by simp [Tryz.ntmps36]) ?_
  exact go0 [] [] (cns Tryz.results36 trivial)
theorem decInner_len (st : RdS) : (kidsI (decInner st).1.1).length < 256 ∧ (decInner st).1.2.2.length < 256 := by
  unfold decInner kidsI
  simp only [List.length_map]
  rw [rdN_len, rdN_len]
  exact ⟨num1_lt st, num1_lt _⟩
theorem dParse_spec (s : Str) : PSpec Tryz.prog 9 [.sc (.string s)] (nodeR (parseV s)) := by
  have h0 := inOf_spec s []
  rw [List.nil_append] at h0
  have h1 := inNum_spec (l := 0) (st := (s.data.toList, false)) (σ := [inO (s.data.toList, false)]) 1 (.inl rfl) rfl
  unfold parseV
  simp only
  rw [show List.set [inO (s.data.toList, false)] 0 (inO (numL 1 (s.data.toList, false)).2) = [inO (numL 1 (s.data.toList, false)).2] from rfl] at h1
  generalize inO (s.data.toList, false) = O at h0 h1
  generalize (numL 1 (s.data.toList, false)).1 = kk at h1 ⊢
  generalize (numL 1 (s.data.toList, false)).2 = st at h1 ⊢
  have hl := dReadLeaf_spec (l := 0) (st := st) (σ := [inO st]) rfl
  have hi := dReadInner_spec (l := 0) (st := st) (σ := [inO st]) rfl
  rw [readLR_is] at hl
  rw [readIR_is] at hi
  have hb : ∀ n : NodeV, (nodeL (decLeaf st).1 = some n ∨ nodeI (kidsI (decInner st).1.1) (pivS (decInner st).1.2.1) (decInner st).1.2.2 = some n) → PSpec Tryz.prog 10 [n.av] (if n.fits = true then .tup [.sc (.string (ofL' n.bytes)), .sc (.int .i64 0)] else .tup [.sc (.string ⟨#[]⟩), .sc (.int .i64 8)]) := by
    intro n hn
    refine dBytes_v n ?_
    cases n with
    | l o => trivial
    | i k p m =>
      rcases hn with hn | hn
      · unfold nodeL at hn
        split at hn
        · cases ho : ofL (decLeaf st).1 <;> rw [ho] at hn <;> simp at hn
        · cases hn
      · unfold nodeI at hn
        split at hn
        · rename_i hc
          simp only [Option.some.injEq, NodeV.i.injEq] at hn
          obtain ⟨rfl, rfl, rfl⟩ := hn
          exact ⟨hc.2, with_msgs _ hc.1, by have := (decInner_len st).1; omega⟩
        · cases hn
  generalize nodeL (decLeaf st).1 = NL at *
  generalize nodeI (kidsI (decInner st).1.1) (pivS (decInner st).1.2.1) (decInner st).1.2.2 = NI at *
  have hbn := dBytes_nil
  have r1 := dReaders_1
  have r2 := dReaders_2
  have rx := dReaders_x kk
  generalize inO st = O2 at *
  refine spec_pureFW (by simp) ?_
  refine spec_intro Tryz.func9 good9 rfl (by simp [Tryz.ntmps9]) ?_
  refine go1 [] [] (cns Tryz.results9 trivial) ?_
  refine rwf_ca rfl fun C' hC hP => ?_
  clear hP
  (try simp [*, -List.all_eq_true]); (try (simp (disch := first | assumption | omega) only [wrap_id, wrapu_id, wrapb_id, tmod_nn, tdiv_nn, ite_yes, flatM_seg, flatM_0, flatM_1, flatM_2, flatI_seg, flatI_0, flatI_1, flatS_get]; (try simp [*, -List.all_eq_true])))
  refine hC.out _ _ _ (h0) fun r S1 hq => ?_
  clear hC C'
  obtain ⟨rfl, rfl⟩ := hq
  clear h0
  by_cases c1 : kk = 1
  · subst c1
    clear hi r2 rx
    rw [if_pos rfl]
    refine go1 [] [] (cns Tryz.results9 trivial) ?_
    refine rwf_ca rfl fun C' hC hP => ?_
    clear hP
    (try simp [*, -List.all_eq_true]); (try (simp (disch := first | assumption | omega) only [wrap_id, wrapu_id, wrapb_id, tmod_nn, tdiv_nn, ite_yes, flatM_seg, flatM_0, flatM_1, flatM_2, flatI_seg, flatI_0, flatI_1, flatS_get]; (try simp [*, -List.all_eq_true])))
    refine hC.out _ _ _ (h1) fun r S2 hq => ?_
    clear hC C'
    obtain ⟨rfl, rfl⟩ := hq
    clear h1
    refine go1 [] [] (cns r1 (cns Tryz.results9 trivial)) ?_
    refine rwf_ca rfl fun C' hC hP => ?_
    clear hP
    (try simp [*, -List.all_eq_true]); (try (simp (disch := first | assumption | omega) only [wrap_id, wrapu_id, wrapb_id, tmod_nn, tdiv_nn, ite_yes, flatM_seg, flatM_0, flatM_1, flatM_2, flatI_seg, flatI_0, flatI_1, flatS_get]; (try simp [*, -List.all_eq_true])))
    refine hC.out _ _ _ (hl) fun r S3 hq => ?_
    clear hC C'
    obtain rfl := hq
    clear hl r1
    cases NL with
    | none =>
      clear hb
      unfold nP at *
      simp only [Option.map_none, Option.getD_none] at *
      refine go1 [] [] (cns hbn (cns Tryz.results9 trivial)) ?_
      exact out_flat (by simp [AV.flat, flatL]) (.refl _)
    | some n =>
      have hbn := hb n (.inl rfl)
      clear hb
      have hfl := n.av_flat
      simp only [Option.map_some, Option.getD_some, Option.bind_some] at *
      cases hf : n.fits with
      | false =>
        rw [hf, if_neg (by simp)] at hbn
        rw [if_neg (by simp)]
        unfold nodeR nP
        generalize n.av = N at *
        clear hf
        refine go1 [] [] (cns hbn (cns Tryz.results9 trivial)) ?_
        exact out_flat (by simp [AV.flat, flatL]) (.refl _)
      | true =>
        rw [hf, if_pos rfl] at hbn
        generalize ofL' n.bytes = t at *
        by_cases ht : t = s
        · subst ht
          rw [if_pos ⟨rfl, rfl⟩, show nodeR (some n) = .tup [n.av, .sc (.int .i64 0)] from rfl]
          generalize n.av = N at *
          clear hf
          refine go1 [] [] (cns hbn (cns Tryz.results9 trivial)) ?_
          exact out_flat (by simp [AV.flat, flatL, hfl]) (.refl _)
        · rw [if_neg (fun h => ht h.2)]
          unfold nodeR nP
          generalize n.av = N at *
          clear hf
          refine go1 [] [] (cns hbn (cns Tryz.results9 trivial)) ?_
          exact out_flat (by simp [AV.flat, flatL]) (.refl _)
  by_cases c2 : kk = 2
  · subst c2
    clear hl r1 rx c1
    rw [if_neg (by omega), if_pos rfl]
    refine go1 [] [] (cns Tryz.results9 trivial) ?_
    refine rwf_ca rfl fun C' hC hP => ?_
    clear hP
    (try simp [*, -List.all_eq_true]); (try (simp (disch := first | assumption | omega) only [wrap_id, wrapu_id, wrapb_id, tmod_nn, tdiv_nn, ite_yes, flatM_seg, flatM_0, flatM_1, flatM_2, flatI_seg, flatI_0, flatI_1, flatS_get]; (try simp [*, -List.all_eq_true])))
    refine hC.out _ _ _ (h1) fun r S2 hq => ?_
    clear hC C'
    obtain ⟨rfl, rfl⟩ := hq
    clear h1
    refine go1 [] [] (cns r2 (cns Tryz.results9 trivial)) ?_
    refine rwf_ca rfl fun C' hC hP => ?_
    clear hP
    (try simp [*, -List.all_eq_true]); (try (simp (disch := first | assumption | omega) only [wrap_id, wrapu_id, wrapb_id, tmod_nn, tdiv_nn, ite_yes, flatM_seg, flatM_0, flatM_1, flatM_2, flatI_seg, flatI_0, flatI_1, flatS_get]; (try simp [*, -List.all_eq_true])))
    refine hC.out _ _ _ (hi) fun r S3 hq => ?_
    clear hC C'
    obtain rfl := hq
    clear hi r2
    cases NI with
    | none =>
      clear hb
      unfold nP at *
      simp only [Option.map_none, Option.getD_none] at *
      refine go1 [] [] (cns hbn (cns Tryz.results9 trivial)) ?_
      exact out_flat (by simp [AV.flat, flatL]) (.refl _)
    | some n =>
      have hbn := hb n (.inr rfl)
      clear hb
      have hfl := n.av_flat
      simp only [Option.map_some, Option.getD_some, Option.bind_some] at *
      cases hf : n.fits with
      | false =>
        rw [hf, if_neg (by simp)] at hbn
        rw [if_neg (by simp)]
        unfold nodeR nP
        generalize n.av = N at *
        clear hf
        refine go1 [] [] (cns hbn (cns Tryz.results9 trivial)) ?_
        exact out_flat (by simp [AV.flat, flatL]) (.refl _)
      | true =>
        rw [hf, if_pos rfl] at hbn
        generalize ofL' n.bytes = t at *
        by_cases ht : t = s
        · subst ht
          rw [if_pos ⟨rfl, rfl⟩, show nodeR (some n) = .tup [n.av, .sc (.int .i64 0)] from rfl]
          generalize n.av = N at *
          clear hf
          refine go1 [] [] (cns hbn (cns Tryz.results9 trivial)) ?_
          exact out_flat (by simp [AV.flat, flatL, hfl]) (.refl _)
        · rw [if_neg (fun h => ht h.2)]
          unfold nodeR nP
          generalize n.av = N at *
          clear hf
          refine go1 [] [] (cns hbn (cns Tryz.results9 trivial)) ?_
          exact out_flat (by simp [AV.flat, flatL]) (.refl _)
  · rw [if_neg c1, if_neg c2]
    have rx := rx (by omega) (by omega)
    clear hl hi r1 r2 hb hbn
    unfold nodeR nP
    refine go1 [] [] (cns Tryz.results9 trivial) ?_
    refine rwf_ca rfl fun C' hC hP => ?_
    clear hP
    (try simp [*, -List.all_eq_true]); (try (simp (disch := first | assumption | omega) only [wrap_id, wrapu_id, wrapb_id, tmod_nn, tdiv_nn, ite_yes, flatM_seg, flatM_0, flatM_1, flatM_2, flatI_seg, flatI_0, flatI_1, flatS_get]; (try simp [*, -List.all_eq_true])))
    refine hC.out _ _ _ (h1) fun r S2 hq => ?_
    clear hC C'
    obtain ⟨rfl, rfl⟩ := hq
    clear h1 c1 c2
    refine go1 [] [] (cns rx (cns Tryz.results9 trivial)) ?_
    exact out_flat (by simp [AV.flat, flatL]) (.refl _)
end Go.Proofs.YticpnfgiidljlaaGreat
