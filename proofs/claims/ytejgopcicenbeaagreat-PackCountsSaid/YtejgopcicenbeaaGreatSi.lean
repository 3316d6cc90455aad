/- Go's sort of items: pdqsort sorts. -/
import Derived.Test.YtejgopcicenbeaaGreatSh
import Derived.Test.YtejgopcicenbeaaGreatLw
namespace Go.Proofs.YtejgopcicenbeaaGreat
open Go.RowKit Go.Sort
set_option linter.unusedSimpArgs false
set_option maxRecDepth 10000
/-- What holds between two pieces of code. -/
theorem tri_cut {P : Program} {nt : Nat} {Q : Exit → Env → Sto → Prop} {env : Env} {σ : Sto} {x y : Code} (R : Env → Sto → Prop) (h1 : Tri P nt x env σ (thenA R Q)) (h2 : ∀ env' σ', R env' σ' → Tri P nt y env' σ' Q) : Tri P nt (.seq x y) env σ Q :=
  tri_seq (tri_mono h1 fun e env' σ' h => by
    cases e with
    | normal => exact h2 env' σ' h
    | _ => exact h)
theorem AtD.app {σ0 : Sto} {i g off N : Nat} {d : Array Item} {σ : Sto} (h : AtD σ0 i g off N d σ) (Y : Sto) : AtD (σ0 ++ Y) i g off N d (σ ++ Y) := by
  obtain ⟨h0, c, rfl, h1, h2, h3⟩ := h
  exact ⟨by simp; omega, c, by rw [List.set_append_left _ _ h0], h1, h2, h3⟩
/-- What stays in the slots from piece to piece of a round. -/
def PdC (i g off n a b : Nat) (wb wp : Bool) (e : Env) : Prop := e 0 = .ms i g off n 2 ∧ e 4 = fCmp ∧ e 1 = .sc (.int .i64 a) ∧ e 2 = .sc (.int .i64 b) ∧ e 12 = .sc (.int .i64 (b - a : Nat)) ∧ e 10 = .sc (.bool wb) ∧ e 11 = .sc (.bool wp)
def PdS (σ0 : Sto) (i g off N a b : Nat) (d1 d2 : Array Item) (σ : Sto) : Prop := PermIn a b d1 d2 ∧ ∃ X, AtD (σ0 ++ X) i g off N d2 σ
theorem PdC.mk {i g off n a b : Nat} {wb wp : Bool} {e e' : Env} (h : PdC i g off n a b wb wp e) (k : ∀ t ∈ [0, 1, 2, 4, 10, 11, 12], e' t = e t) : PdC i g off n a b wb wp e' := by
  obtain ⟨h0, h4, h1, h2, h12, h10, h11⟩ := h
  simp at k
  obtain ⟨k0, k1, k2, k4, k10, k11, k12⟩ := k
  exact ⟨k0 ▸ h0, k4 ▸ h4, k1 ▸ h1, k2 ▸ h2, k12 ▸ h12, k10 ▸ h10, k11 ▸ h11⟩
set_option maxHeartbeats 16000000 in
theorem sPdq_spec (i g off N : Nat) (hN : N ≤ 100000000) : ∀ (n : Nat) (σ0 : Sto) (d : Array Item) (a b : Nat) (lim : Int) (σ : Sto), b - a ≤ n → a ≤ b → b ≤ d.size → Go.Sort.Below ltI a b d → AtD σ0 i g off N d σ →
    Spec Tryz.prog 99 [.ms i g off d.size 2, .sc (.int .i64 a), .sc (.int .i64 b), .sc (.int .i64 lim), fCmp] σ
      (fun r s => r = .tup [] ∧ ∃ (X : Sto) (d' : Array Item), AtD (σ0 ++ X) i g off N d' s ∧ PermIn a b d d' ∧ SortedIn ltI a b d') := by
  intro n
  induction n using Nat.strongRecOn with
  | ind n ih =>
  intro σ0 d a b lim σ hba hab hbd hB h
  have hdN : d.size ≤ N := by obtain ⟨_, _, _, _, h2, _⟩ := h; omega
  refine spec_intro Tryz.func99 good99 rfl (by simp [Tryz.ntmps99]) ?_
  obtain ⟨n1, hn1⟩ : ∃ n1, d.size = n1 := ⟨_, rfl⟩
  rw [hn1]
  refine go1 [] [] (cns Tryz.results99 trivial) ?_
  refine tri_whl [0, 4] n (fun m e σ => ∃ (a1 b1 : Nat) (lim : Int) (wb wp : Bool) (d1 : Array Item) (X : Sto), m = b1 - a1 ∧ a1 ≤ b1 ∧ b1 ≤ n1 ∧ d1.size = n1 ∧ Go.Sort.Below ltI a1 b1 d1 ∧ AtD (σ0 ++ X) i g off N d1 σ ∧ e 1 = .sc (.int .i64 a1) ∧ e 2 = .sc (.int .i64 b1) ∧ e 3 = .sc (.int .i64 lim) ∧ e 10 = .sc (.bool wb) ∧ e 11 = .sc (.bool wp) ∧ (∀ R, PermIn a1 b1 d1 R → SortedIn ltI a1 b1 R → PermIn a b d R ∧ SortedIn ltI a b R)) ?_ (fun m env' σ' hm hk hI => ?_)
  · exact ⟨b - a, hba, a, b, lim, true, true, d, [], rfl, hab, by omega, hn1, hB, by simpa using h, by simp, by simp, by simp, by simp, by simp, fun R h1 h2 => ⟨h1, h2⟩⟩
  · skip
    (try simp at hk)
    obtain ⟨a1, b1, lim1, wb, wp, d1, X, hmm, hab1, hbd1, hs1, hB1, hA, h1, h2, h3, h10, h11, hC⟩ := hI
    clear h hB
    obtain ⟨h0, h4⟩ := hk
    have y0 : (b1 : Int) - a1 = (b1 - a1 : Nat) := by omega
    replace hC := Lib.hid hC
    by_cases h12 : b1 - a1 ≤ 12
    · have sp := sIns_spec (σ0 ++ X) i g off N d1 hN a1 b1 hab1 (by omega) _ hA
      rw [hs1] at sp
      obtain ⟨p1, p2⟩ := insertionSort_holds ltI_swo d1 a1 b1 hab1 (by omega)
      have hfin := hC.out _ p1 p2
      generalize insertionSort ltI d1 a1 b1 = D at *
      clear hA hB1 hC ih p1 p2
      obtain ⟨L, hL⟩ : ∃ L, b1 - a1 = L := ⟨_, rfl⟩
      rw [hL] at h12 y0
      replace hfin := Lib.hid hfin
      refine go1 [] [] (cns Tryz.results99 trivial) ?_
      refine rwf_ca rfl fun C' hC hP => ?_
      clear hP
      (try simp [*, -List.all_eq_true]); (try (simp (disch := first | assumption | omega) only [wrap_id, wrapu_id, wrapb_id, tmod_nn, tdiv_nn, ite_yes, flatM_seg, flatM_0, flatM_1, flatM_2, flatI_seg, flatI_0, flatI_1, flatS_get]; (try simp [*, -List.all_eq_true])))
      refine hC.out _ _ _ (sp) fun r s hq => ?_
      clear hC C'
      obtain ⟨rfl, hA2⟩ := hq
      clear sp
      refine go1 [] [] (cns Tryz.results99 trivial) ?_
      exact ⟨rfl, X, D, hA2, hfin.out.1, hfin.out.2⟩
    · by_cases hl0 : lim1 = 0
      · have sp := sHeap_spec (σ0 ++ X) i g off N d1 hN a1 b1 hab1 (by omega) _ hA
        rw [hs1] at sp
        obtain ⟨p1, p2⟩ := heapSort_holds ltI_swo d1 a1 b1 hab1 (by omega)
        have hfin := hC.out _ p1 p2
        generalize heapSort ltI d1 a1 b1 = D at *
        clear hA hB1 hC ih p1 p2
        obtain ⟨L, hL⟩ : ∃ L, b1 - a1 = L := ⟨_, rfl⟩
        rw [hL] at h12 y0
        replace hfin := Lib.hid hfin
        refine go1 [] [] (cns Tryz.results99 trivial) ?_
        refine rwf_ca rfl fun C' hC hP => ?_
        clear hP
        (try simp [*, -List.all_eq_true]); (try (simp (disch := first | assumption | omega) only [wrap_id, wrapu_id, wrapb_id, tmod_nn, tdiv_nn, ite_yes, flatM_seg, flatM_0, flatM_1, flatM_2, flatI_seg, flatI_0, flatI_1, flatS_get]; (try simp [*, -List.all_eq_true])))
        refine hC.out _ _ _ (sp) fun r s hq => ?_
        clear hC C'
        obtain ⟨rfl, hA2⟩ := hq
        clear sp
        refine go1 [] [] (cns Tryz.results99 trivial) ?_
        exact ⟨rfl, X, D, hA2, hfin.out.1, hfin.out.2⟩
      · have hE : PdC i g off n1 a1 b1 wb wp (env'.put (some 12) (.sc (.int .i64 (b1 - a1 : Nat)))) := ⟨by simp [*], by simp [*], by simp [*], by simp [*], by simp, by simp [*], by simp [*]⟩
        obtain ⟨L, hL⟩ : ∃ L, b1 - a1 = L := ⟨_, rfl⟩
        have hL12 : ¬ L ≤ 12 := by omega
        rw [hL] at y0
        have hE' := hE
        unfold PdC at hE'
        rw [hL] at hE'
        obtain ⟨-, -, -, -, -, -, -⟩ := hE'
        refine tri_block ?_
        refine tri_cut (fun e s => PdC i g off n1 a1 b1 wb wp e ∧ e 3 = .sc (.int .i64 lim1) ∧ s = σ') ?_ (fun e2 s2 hR => ?_)
        · skip
          refine go1 [] [] (cns Tryz.results99 trivial) ?_
          exact ⟨⟨by simp [*], by simp [*], by simp [*], by simp [*], by simp [*], by simp [*], by simp [*]⟩, by simp [*], rfl⟩
        obtain ⟨⟨h0, h4, h1, h2, hl, h10, h11⟩, h3, rfl⟩ := hR
        rw [hL] at hl
        refine tri_cut (fun e s => PdC i g off n1 a1 b1 wb wp e ∧ e 3 = .sc (.int .i64 lim1) ∧ s = s2) ?_ (fun e2 s2 hR => ?_)
        · skip
          refine go1 [] [] (cns Tryz.results99 trivial) ?_
          exact ⟨⟨by simp [*], by simp [*], by simp [*], by simp [*], by simp [*], by simp [*], by simp [*]⟩, by simp [*], rfl⟩
        obtain ⟨⟨h0, h4, h1, h2, hl, h10, h11⟩, h3, rfl⟩ := hR
        rw [hL] at hl
        refine tri_cut (fun e s => PdC i g off n1 a1 b1 wb wp e ∧ e 3 = .sc (.int .i64 lim1) ∧ s = s2) ?_ (fun e2 s2 hR => ?_)
        · skip
          refine go1 [] [] (cns Tryz.results99 trivial) ?_
          exact ⟨⟨by simp [*], by simp [*], by simp [*], by simp [*], by simp [*], by simp [*], by simp [*]⟩, by simp [*], rfl⟩
        obtain ⟨⟨h0, h4, h1, h2, hl, h10, h11⟩, h3, rfl⟩ := hR
        rw [hL] at hl
        refine tri_cut (fun e s => PdC i g off n1 a1 b1 wb wp e ∧ (∃ lim : Int, e 3 = .sc (.int .i64 lim)) ∧ ∃ d2, PdS σ0 i g off N a1 b1 d1 d2 s) ?_ (fun e2 s2 hR => ?_)
        · cases wb with
          | true =>
            refine go1 [] [] (cns Tryz.results99 trivial) ?_
            exact ⟨⟨by simp [*], by simp [*], by simp [*], by simp [*], by simp [*], by simp [*], by simp [*]⟩, ⟨lim1, by simp [*]⟩, d1, permIn_refl _ _ _, X, hA⟩
          | false =>
            have sp := sBrk_spec (σ0 ++ X) i g off N d1 hN a1 b1 (by omega) (by omega) _ hA
            rw [hs1] at sp
            refine go1 [] [] (cns Tryz.results99 trivial) ?_
            refine rwf_ca rfl fun C' hC hP => ?_
            clear hP
            (try simp [*, -List.all_eq_true]); (try (simp (disch := first | assumption | omega) only [wrap_id, wrapu_id, wrapb_id, tmod_nn, tdiv_nn, ite_yes, flatM_seg, flatM_0, flatM_1, flatM_2, flatI_seg, flatI_0, flatI_1, flatS_get]; (try simp [*, -List.all_eq_true])))
            refine hC.out _ _ _ (sp) fun r s hq => ?_
            clear hC C'
            obtain ⟨rfl, z, d2, τ, hp2, hA2, rfl⟩ := hq
            clear sp
            have hA3 := hA2.app [xoO z]
            rw [List.append_assoc] at hA3
            generalize τ ++ [xoO z] = S at *
            refine go1 [] [] (cns Tryz.results99 trivial) ?_
            exact ⟨⟨by simp [*], by simp [*], by simp [*], by simp [*], by simp [*], by simp [*], by simp [*]⟩, ⟨_, by simp; rfl⟩, d2, hp2, _, hA3⟩
        clear h0 h4 h1 h2 hl h10 h11 h3 hA hE
        obtain ⟨⟨h0, h4, h1, h2, hl, h10, h11⟩, ⟨lim2, h3⟩, d2, hp2, X2, hA⟩ := hR
        rw [hL] at hl
        have hs2 : d2.size = n1 := by rw [hp2.1, hs1]
        refine tri_cut (fun e s => PdC i g off n1 a1 b1 wb wp e ∧ (∃ lim : Int, e 3 = .sc (.int .i64 lim)) ∧ (∃ (p : Nat) (hh : Int), a1 ≤ p ∧ p < b1 ∧ e 13 = .sc (.int .i64 p) ∧ e 14 = .sc (.int .i64 hh)) ∧ PdS σ0 i g off N a1 b1 d1 d2 s) ?_ (fun e2 s2 hR => ?_)
        · have sp := sPiv_spec i g off d2 (by omega) a1 b1 (by omega) (by omega) s2 (by rw [hA.len]; exact hA.1) hA.rd
          rw [hs2] at sp
          refine go1 [] [] (cns Tryz.results99 trivial) ?_
          refine rwf_ca rfl fun C' hC hP => ?_
          clear hP
          (try simp [*, -List.all_eq_true]); (try (simp (disch := first | assumption | omega) only [wrap_id, wrapu_id, wrapb_id, tmod_nn, tdiv_nn, ite_yes, flatM_seg, flatM_0, flatM_1, flatM_2, flatI_seg, flatI_0, flatI_1, flatS_get]; (try simp [*, -List.all_eq_true])))
          refine hC.out _ _ _ (sp) fun r s hq => ?_
          clear hC C'
          obtain ⟨p, hh, z, rfl, hp1, hp3, rfl⟩ := hq
          clear sp
          have hA3 := hA.app [swO z]
          rw [List.append_assoc] at hA3
          generalize s2 ++ [swO z] = S at *
          refine go1 [] [] (cns Tryz.results99 trivial) ?_
          exact ⟨⟨by simp [*], by simp [*], by simp [*], by simp [*], by simp [*], by simp [*], by simp [*]⟩, ⟨lim2, by simp [*]⟩, ⟨p, hh, hp1, hp3, by simp, by simp⟩, hp2, _, hA3⟩
        clear h0 h4 h1 h2 hl h10 h11 h3 hA
        obtain ⟨⟨h0, h4, h1, h2, hl, h10, h11⟩, ⟨lim2, h3⟩, ⟨p, hh, hpa, hpb, h13, h14⟩, hp2', X2, hA⟩ := hR
        rw [hL] at hl
        refine tri_cut (fun e s => PdC i g off n1 a1 b1 wb wp e ∧ (∃ lim : Int, e 3 = .sc (.int .i64 lim)) ∧ (∃ (p : Nat) (hh : Int), a1 ≤ p ∧ p < b1 ∧ e 13 = .sc (.int .i64 p) ∧ e 14 = .sc (.int .i64 hh)) ∧ ∃ d2, PdS σ0 i g off N a1 b1 d1 d2 s) ?_ (fun e2 s2 hR => ?_)
        · by_cases hh2 : hh = 2
          · have sp := sRev_spec (σ0 ++ X2) i g off N d2 hN a1 b1 (by omega) (by omega) _ hA
            rw [hs2] at sp
            have hp3 := reverseRange_holds d2 a1 b1 hab1 (by omega)
            have hp4 := permIn_trans _ _ _ _ _ hp2 hp3
            generalize reverseRange d2 a1 b1 = D at *
            obtain ⟨p', hp'⟩ : ∃ p', b1 - 1 - (p - a1) = p' := ⟨_, rfl⟩
            have hq1 : a1 ≤ p' := by omega
            have hq2 : p' < b1 := by omega
            have hq3 : (b1 : Int) - 1 - ((p : Int) - a1) = (p' : Nat) := by omega
            clear hp2 hp3 hp'
            replace hp4 := Lib.hid hp4
            refine go1 [] [] (cns Tryz.results99 trivial) ?_
            refine rwf_ca rfl fun C' hC hP => ?_
            clear hP
            (try simp [*, -List.all_eq_true]); (try (simp (disch := first | assumption | omega) only [wrap_id, wrapu_id, wrapb_id, tmod_nn, tdiv_nn, ite_yes, flatM_seg, flatM_0, flatM_1, flatM_2, flatI_seg, flatI_0, flatI_1, flatS_get]; (try simp [*, -List.all_eq_true])))
            refine hC.out _ _ _ (sp) fun r s hq => ?_
            clear hC C'
            obtain ⟨rfl, hA2⟩ := hq
            clear sp
            refine go1 [] [] (cns Tryz.results99 trivial) ?_
            exact ⟨⟨by simp [*], by simp [*], by simp [*], by simp [*], by simp [*], by simp [*], by simp [*]⟩, ⟨lim2, by simp [*]⟩, ⟨p', 1, hq1, hq2, by simp [*], by simp⟩, D, hp4.out, _, hA2⟩
          · skip
            refine go1 [] [] (cns Tryz.results99 trivial) ?_
            exact ⟨⟨by simp [*], by simp [*], by simp [*], by simp [*], by simp [*], by simp [*], by simp [*]⟩, ⟨lim2, by simp [*]⟩, ⟨p, hh, hpa, hpb, by simp [*], by simp [*]⟩, d2, hp2, _, hA⟩
        clear h0 h4 h1 h2 hl h10 h11 h3 hA h13 h14 hp2 hp2' hs2 hpa hpb
        obtain ⟨⟨h0, h4, h1, h2, hl, h10, h11⟩, ⟨lim2, h3⟩, ⟨p, hh, hpa, hpb, h13, h14⟩, d2, hp2, X2, hA⟩ := hR
        rw [hL] at hl
        have hs2 : d2.size = n1 := by rw [hp2.1, hs1]
        have hB2 : Go.Sort.Below ltI a1 b1 d2 := hB1.perm (by omega) hp2
        refine tri_cut (fun e s => PdC i g off n1 a1 b1 wb wp e ∧ (∃ lim : Int, e 3 = .sc (.int .i64 lim)) ∧ (∃ (p : Nat), a1 ≤ p ∧ p < b1 ∧ e 13 = .sc (.int .i64 p)) ∧ ∃ d2, PdS σ0 i g off N a1 b1 d1 d2 s) ?_ (fun e2 s2 hR => ?_)
        · by_cases hcc : wb = true ∧ wp = true ∧ hh = 1
          · obtain ⟨rfl, rfl, rfl⟩ := hcc
            have sp := sPis_spec (σ0 ++ X2) i g off N d2 hN a1 b1 (by omega) (by omega) _ hA
            rw [hs2] at sp
            obtain ⟨hp3, hsr⟩ := partialInsertionSort_holds ltI_swo d2 a1 b1 (by omega) (by omega) hB2
            have hp4 := permIn_trans _ _ _ _ _ hp2 hp3
            generalize partialInsertionSort ltI d2 a1 b1 = D at *
            obtain ⟨D1, D2⟩ := D
            dsimp only at sp hp4 hsr hp3
            clear hp2 hp3 hB2 hA
            cases D2 with
            | true =>
              have hfin := hC.out _ hp4 (hsr rfl)
              clear hsr hp4 hC
              replace hfin := Lib.hid hfin
              refine go1 [] [] (cns Tryz.results99 trivial) ?_
              refine rwf_ca rfl fun C' hC hP => ?_
              clear hP
              (try simp [*, -List.all_eq_true]); (try (simp (disch := first | assumption | omega) only [wrap_id, wrapu_id, wrapb_id, tmod_nn, tdiv_nn, ite_yes, flatM_seg, flatM_0, flatM_1, flatM_2, flatI_seg, flatI_0, flatI_1, flatS_get]; (try simp [*, -List.all_eq_true])))
              refine hC.out _ _ _ (sp) fun r s hq => ?_
              clear hC C'
              obtain ⟨rfl, hA2⟩ := hq
              clear sp
              refine go1 [] [] (cns Tryz.results99 trivial) ?_
              exact ⟨rfl, X2, D1, hA2, hfin.out.1, hfin.out.2⟩
            | false =>
              clear hsr
              replace hp4 := Lib.hid hp4
              refine go1 [] [] (cns Tryz.results99 trivial) ?_
              refine rwf_ca rfl fun C' hC hP => ?_
              clear hP
              (try simp [*, -List.all_eq_true]); (try (simp (disch := first | assumption | omega) only [wrap_id, wrapu_id, wrapb_id, tmod_nn, tdiv_nn, ite_yes, flatM_seg, flatM_0, flatM_1, flatM_2, flatI_seg, flatI_0, flatI_1, flatS_get]; (try simp [*, -List.all_eq_true])))
              refine hC.out _ _ _ (sp) fun r s hq => ?_
              clear hC C'
              obtain ⟨rfl, hA2⟩ := hq
              clear sp
              refine go1 [] [] (cns Tryz.results99 trivial) ?_
              exact ⟨⟨by simp [*], by simp [*], by simp [*], by simp [*], by simp [*], by simp [*], by simp [*]⟩, ⟨lim2, by simp [*]⟩, ⟨p, hpa, hpb, by simp [*]⟩, D1, hp4.out, _, hA2⟩
          · have hcc2 : (wb && (wp && decide (hh = 1))) = false := by
              cases wb <;> cases wp <;> simp_all
            cases wb with
            | false =>
              refine go1 [] [] (cns Tryz.results99 trivial) ?_
              all_goals exact ⟨⟨by simp [*], by simp [*], by simp [*], by simp [*], by simp [*], by simp [*], by simp [*]⟩, ⟨lim2, by simp [*]⟩, ⟨p, hpa, hpb, by simp [*]⟩, d2, hp2, _, hA⟩
            | true =>
              cases wp with
              | false =>
                refine go1 [] [] (cns Tryz.results99 trivial) ?_
                all_goals exact ⟨⟨by simp [*], by simp [*], by simp [*], by simp [*], by simp [*], by simp [*], by simp [*]⟩, ⟨lim2, by simp [*]⟩, ⟨p, hpa, hpb, by simp [*]⟩, d2, hp2, _, hA⟩
              | true =>
                have hh1 : ¬ hh = 1 := by simpa using hcc2
                refine go1 [] [] (cns Tryz.results99 trivial) ?_
                all_goals exact ⟨⟨by simp [*], by simp [*], by simp [*], by simp [*], by simp [*], by simp [*], by simp [*]⟩, ⟨lim2, by simp [*]⟩, ⟨p, hpa, hpb, by simp [*]⟩, d2, hp2, _, hA⟩
        clear h0 h4 h1 h2 hl h10 h11 h3 hA h13 h14 hp2 hs2 hpa hpb hB2
        obtain ⟨⟨h0, h4, h1, h2, hl, h10, h11⟩, ⟨lim2, h3⟩, ⟨p, hpa, hpb, h13⟩, d2, hp2, X2, hA⟩ := hR
        rw [hL] at hl
        have hs2 : d2.size = n1 := by rw [hp2.1, hs1]
        have hB2 : Go.Sort.Below ltI a1 b1 d2 := hB1.perm (by omega) hp2
        obtain ⟨c, q1, q2, q3, q4⟩ := hA.get
        refine tri_cut (fun e s => PdC i g off n1 a1 b1 wb wp e ∧ e 3 = .sc (.int .i64 lim2) ∧ e 13 = .sc (.int .i64 p) ∧ s = s2) ?_ (fun e3 s3 hR => ?_)
        · unfold fCmp at h4
          rcases Nat.eq_zero_or_pos a1 with h00 | hpos
          · have ha0 : ¬ (a1 : Int) > 0 := by omega
            subst h00
            clear q3 q4
            refine go1 [] [] (cns Tryz.results99 trivial) ?_
            exact ⟨⟨by simp [*], by simp [*, fCmp], by simp [*], by simp [*], by simp [*], by simp [*], by simp [*]⟩, by simp [*], by simp [*], rfl⟩
          · obtain ⟨q, hq⟩ : ∃ q, a1 = q + 1 := ⟨a1 - 1, by omega⟩
            have ha0 : (a1 : Int) > 0 := by omega
            have yq : (a1 : Int) - 1 = (q : Nat) := by omega
            have sq := q3 q (by omega)
            have sp := q3 p (by omega)
            have hqq : a1 - 1 = q := by omega
            have hre := fun (hnl : ltI d2[q]! d2[p]! = false) (mid : Nat) (D : Array Item) hx => round_eq (d3 := d2) (d4 := D) (mid := mid) ltI_swo (partitionEqual_holds ltI) hpos hpa hpb (by omega) hB2 (by rw [hqq]; exact hnl) hx
            have k1 := keyCmp_spec d2[q]! d2[p]!
            clear q4 q3
            cases hlt : ltI d2[q]! d2[p]! with
            | true =>
              have t1 := cmpI_yes hlt
              clear hre hlt
              generalize cmpI d2[q]! d2[p]! = u at *
              generalize d2[q]! = x at *
              generalize d2[p]! = y at *
              clear hq hqq hB2 hB1
              refine go1 [] [] (cns k1 (cns Tryz.results99 trivial)) ?_
              exact ⟨⟨by simp [*], by simp [*, fCmp], by simp [*], by simp [*], by simp [*], by simp [*], by simp [*]⟩, by simp [*], by simp [*], rfl⟩
            | false =>
              have t1 := cmpI_no hlt
              obtain ⟨mid, D, hx⟩ : ∃ mid D, partitionEqual ltI d2 a1 b1 p = (mid, D) := ⟨_, _, rfl⟩
              obtain ⟨g1, g2, g3, g4, g5⟩ := hre hlt mid D hx
              have spq := sPeq_spec (σ0 ++ X2) i g off N d2 hN a1 b1 p hpa hpb (by omega) _ hA
              rw [hs2, hx] at spq
              dsimp only at spq
              have hC2 : ∀ R, PermIn mid b1 D R → SortedIn ltI mid b1 R → PermIn a b d R ∧ SortedIn ltI a b R := fun R r1 r2 => by
                obtain ⟨e1, e2⟩ := g5 R r1 r2
                exact hC.out R (permIn_trans _ _ _ _ _ hp2 e1) e2
              clear hre hlt g5 hx hC hA hB2 hB1
              generalize cmpI d2[q]! d2[p]! = u at *
              generalize d2[q]! = x at *
              generalize d2[p]! = y at *
              replace hC2 := Lib.hid hC2
              replace g4 := Lib.hid g4
              have hDs : D.size = n1 := by rw [g3, hs2]
              clear hq hqq g3 ih
              refine go1 [] [] (cns k1 (cns Tryz.results99 trivial)) ?_
              rw [show AV.fn (.func 54) [] [] = fCmp from rfl] at *
              refine rwf_ca rfl fun C' hC hP => ?_
              clear hP
              (try simp [*, -List.all_eq_true]); (try (simp (disch := first | assumption | omega) only [wrap_id, wrapu_id, wrapb_id, tmod_nn, tdiv_nn, ite_yes, flatM_seg, flatM_0, flatM_1, flatM_2, flatI_seg, flatI_0, flatI_1, flatS_get]; (try simp [*, -List.all_eq_true])))
              refine hC.out _ _ _ (spq) fun r s hq => ?_
              clear hC C'
              obtain ⟨rfl, hA2⟩ := hq
              clear spq
              refine go1 [] [] (cns Tryz.results99 trivial) ?_
              exact ⟨by simp [*], b1 - mid, by omega, mid, b1, lim2, wb, wp, D, X2, rfl, g2, hbd1, hDs, g4.out, hA2, by simp [*], by simp [*], by simp [*], by simp [*], by simp [*], hC2.out⟩
        obtain ⟨⟨h0, h4, h1, h2, hl, h10, h11⟩, h3, h13, rfl⟩ := hR
        rw [hL] at hl
        clear q1 q2 q3 q4
        obtain ⟨mid, ap, D, hx⟩ : ∃ mid ap D, partition ltI d2 a1 b1 p = (mid, ap, D) := ⟨_, _, _, rfl⟩
        obtain ⟨g1, g2, g3, g4, g5, g6, g7⟩ := round_part (d3 := d2) (d4 := D) (mid := mid) ltI_swo (partition_holds ltI) hpa hpb (by omega) hB2 hx
        have spq := sPart_spec (σ0 ++ X2) i g off N d2 hN a1 b1 p hpa hpb (by omega) _ hA
        rw [hs2, hx] at spq
        dsimp only at spq
        have hDs : D.size = n1 := by rw [g3, hs2]
        obtain ⟨l1, hl1⟩ : ∃ l, mid - a1 = l := ⟨_, rfl⟩
        obtain ⟨l2, hl2⟩ : ∃ l, b1 - mid = l := ⟨_, rfl⟩
        obtain ⟨l8, hl8⟩ : ∃ l, L / 8 = l := ⟨_, rfl⟩
        have z1 : (mid : Int) - a1 = (l1 : Nat) := by omega
        have z2 : (b1 : Int) - mid = (l2 : Nat) := by omega
        have z3 : (L : Int).tdiv 8 = (l8 : Nat) := by rw [tdiv_nn (by omega)]; omega
        have z4 : (mid : Int) + 1 = (mid + 1 : Nat) := by omega
        have hC2 : ∀ R, PermIn a1 b1 d2 R → SortedIn ltI a1 b1 R → PermIn a b d R ∧ SortedIn ltI a b R := fun R r1 r2 => hC.out R (permIn_trans _ _ _ _ _ hp2 r1) r2
        clear hC hB1 hx hA hp2 hB2
        by_cases hll : l1 < l2
        · have hll2 : (l1 : Int) < (l2 : Nat) := by omega
          have hrec := fun s hA2 => ih (mid - a1) (by omega) (σ0 ++ X2) D a1 mid lim2 s (Nat.le_refl _) g1 (by omega) g4 hA2
          rw [hDs] at hrec
          have hnx := fun (L2 : Array Item) p1 p2 => g6 L2 p1 p2
          clear g5 g6 g7 ih g4
          replace hC2 := Lib.hid hC2
          replace hnx := Lib.hid hnx
          generalize hm1 : mid + 1 = mid1 at *
          refine go1 [] [] (cns Tryz.results99 trivial) ?_
          refine rwf_ca rfl fun C' hC hP => ?_
          clear hP
          (try simp [*, -List.all_eq_true]); (try (simp (disch := first | assumption | omega) only [wrap_id, wrapu_id, wrapb_id, tmod_nn, tdiv_nn, ite_yes, flatM_seg, flatM_0, flatM_1, flatM_2, flatI_seg, flatI_0, flatI_1, flatS_get]; (try simp [*, -List.all_eq_true])))
          refine hC.out _ _ _ (spq) fun r s hq => ?_
          clear hC C'
          obtain ⟨rfl, hA2⟩ := hq
          clear spq
          have hr2 := hrec _ hA2
          clear hrec hA2
          refine go1 [] [] (cns Tryz.results99 trivial) ?_
          refine rwf_ca rfl fun C' hC hP => ?_
          clear hP
          (try simp [*, -List.all_eq_true]); (try (simp (disch := first | assumption | omega) only [wrap_id, wrapu_id, wrapb_id, tmod_nn, tdiv_nn, ite_yes, flatM_seg, flatM_0, flatM_1, flatM_2, flatI_seg, flatI_0, flatI_1, flatS_get]; (try simp [*, -List.all_eq_true])))
          refine hC.out _ _ _ (hr2) fun r s5 hq => ?_
          clear hC C'
          obtain ⟨rfl, X3, d3, hA3, r1, r2⟩ := hq
          clear hr2
          obtain ⟨w1, w2⟩ := hnx.out d3 r1 r2
          rw [List.append_assoc] at hA3
          have hds3 : d3.size = n1 := by rw [r1.1, hDs]
          refine go1 [] [] (cns Tryz.results99 trivial) ?_
          refine ⟨by simp [*], b1 - mid1, by omega, mid1, b1, lim2, _, ap, d3, X2 ++ X3, rfl, by omega, hbd1, hds3, w1, hA3, by simp [*], by simp [*], by simp [*], by simp; rfl, by simp [*], fun R e1 e2 => ?_⟩
          obtain ⟨f1, f2⟩ := w2 R e1 e2
          exact hC2.out R f1 f2
        · have hll2 : ¬ (l1 : Int) < (l2 : Nat) := by omega
          have hrec := fun s hA2 => ih (b1 - (mid + 1)) (by omega) (σ0 ++ X2) D (mid + 1) b1 lim2 s (Nat.le_refl _) (by omega) (by omega) g5 hA2
          rw [hDs] at hrec
          have hnx := fun (L2 : Array Item) p1 p2 => g7 L2 p1 p2
          clear g5 g6 g7 ih g4
          replace hC2 := Lib.hid hC2
          replace hnx := Lib.hid hnx
          generalize hm1 : mid + 1 = mid1 at *
          refine go1 [] [] (cns Tryz.results99 trivial) ?_
          refine rwf_ca rfl fun C' hC hP => ?_
          clear hP
          (try simp [*, -List.all_eq_true]); (try (simp (disch := first | assumption | omega) only [wrap_id, wrapu_id, wrapb_id, tmod_nn, tdiv_nn, ite_yes, flatM_seg, flatM_0, flatM_1, flatM_2, flatI_seg, flatI_0, flatI_1, flatS_get]; (try simp [*, -List.all_eq_true])))
          refine hC.out _ _ _ (spq) fun r s hq => ?_
          clear hC C'
          obtain ⟨rfl, hA2⟩ := hq
          clear spq
          have hr2 := hrec _ hA2
          clear hrec hA2
          refine go1 [] [] (cns Tryz.results99 trivial) ?_
          refine rwf_ca rfl fun C' hC hP => ?_
          clear hP
          (try simp [*, -List.all_eq_true]); (try (simp (disch := first | assumption | omega) only [wrap_id, wrapu_id, wrapb_id, tmod_nn, tdiv_nn, ite_yes, flatM_seg, flatM_0, flatM_1, flatM_2, flatI_seg, flatI_0, flatI_1, flatS_get]; (try simp [*, -List.all_eq_true])))
          refine hC.out _ _ _ (hr2) fun r s5 hq => ?_
          clear hC C'
          obtain ⟨rfl, X3, d3, hA3, r1, r2⟩ := hq
          clear hr2
          obtain ⟨w1, w2⟩ := hnx.out d3 r1 r2
          rw [List.append_assoc] at hA3
          have hds3 : d3.size = n1 := by rw [r1.1, hDs]
          refine go1 [] [] (cns Tryz.results99 trivial) ?_
          refine ⟨by simp [*], mid - a1, by omega, a1, mid, lim2, _, ap, d3, X2 ++ X3, rfl, by omega, by omega, hds3, w1, hA3, by simp [*], by simp [*], by simp [*], by simp; rfl, by simp [*], fun R e1 e2 => ?_⟩
          obtain ⟨f1, f2⟩ := w2 R e1 e2
          exact hC2.out R f1 f2
end Go.Proofs.YtejgopcicenbeaaGreat
