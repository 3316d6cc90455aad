/- Go's sort of items: the partitions. Printed by wip/tools/gensort.py. -/
import Derived.Test.YtejgopcicenbeaaGreatSb
import Derived.Test.YtejgopcicenbeaaGreatLw
namespace Go.Proofs.YtejgopcicenbeaaGreat
open Go.RowKit Go.Sort
set_option linter.unusedSimpArgs false
set_option maxRecDepth 10000
theorem scanUp_top {α : Type} [Inhabited α] (p : α → Bool) (d : Array α) (j : Nat) : ∀ i, scanUp p d j i ≤ j + 1 ∨ scanUp p d j i = i := fun i => by
  by_cases h : i ≤ j + 1
  · left
    obtain ⟨n, hn⟩ : ∃ n, j + 1 - i = n := ⟨_, rfl⟩
    induction n generalizing i with
    | zero => rw [scanUp, if_neg (by simp; omega)]; omega
    | succ n ih =>
      rw [scanUp]
      split
      · exact ih (i + 1) (by omega) (by omega)
      · omega
  · right
    rw [scanUp, if_neg (by simp; omega)]
theorem swp_other (d : Array Item) (i j k : Nat) (h1 : k ≠ i) (h2 : k ≠ j) : (swp d i j)[k]! = d[k]! := Go.Sort.swp_other d i j k h1 h2
/-- What partition comes to, by its scans. -/
theorem partition_parts (d : Array Item) (a b pivot : Nat) :
    if scanDown (fun x => !ltI x (swp d a pivot)[a]!) (swp d a pivot) (scanUp (fun x => ltI x (swp d a pivot)[a]!) (swp d a pivot) (b - 1) (a + 1)) (b - 1) < scanUp (fun x => ltI x (swp d a pivot)[a]!) (swp d a pivot) (b - 1) (a + 1)
    then (partition ltI d a b pivot).1 = scanDown (fun x => !ltI x (swp d a pivot)[a]!) (swp d a pivot) (scanUp (fun x => ltI x (swp d a pivot)[a]!) (swp d a pivot) (b - 1) (a + 1)) (b - 1) ∧ (partition ltI d a b pivot).2.1 = true ∧
      (partition ltI d a b pivot).2.2 = swp (swp d a pivot) (scanDown (fun x => !ltI x (swp d a pivot)[a]!) (swp d a pivot) (scanUp (fun x => ltI x (swp d a pivot)[a]!) (swp d a pivot) (b - 1) (a + 1)) (b - 1)) a
    else (partition ltI d a b pivot).1 = (partLoop ltI a (scanUp (fun x => ltI x (swp d a pivot)[a]!) (swp d a pivot) (b - 1) (a + 1) + 1) (scanDown (fun x => !ltI x (swp d a pivot)[a]!) (swp d a pivot) (scanUp (fun x => ltI x (swp d a pivot)[a]!) (swp d a pivot) (b - 1) (a + 1)) (b - 1) - 1) (swp (swp d a pivot) (scanUp (fun x => ltI x (swp d a pivot)[a]!) (swp d a pivot) (b - 1) (a + 1)) (scanDown (fun x => !ltI x (swp d a pivot)[a]!) (swp d a pivot) (scanUp (fun x => ltI x (swp d a pivot)[a]!) (swp d a pivot) (b - 1) (a + 1)) (b - 1)))).1 ∧
      (partition ltI d a b pivot).2.1 = false ∧
      (partition ltI d a b pivot).2.2 = swp (partLoop ltI a (scanUp (fun x => ltI x (swp d a pivot)[a]!) (swp d a pivot) (b - 1) (a + 1) + 1) (scanDown (fun x => !ltI x (swp d a pivot)[a]!) (swp d a pivot) (scanUp (fun x => ltI x (swp d a pivot)[a]!) (swp d a pivot) (b - 1) (a + 1)) (b - 1) - 1) (swp (swp d a pivot) (scanUp (fun x => ltI x (swp d a pivot)[a]!) (swp d a pivot) (b - 1) (a + 1)) (scanDown (fun x => !ltI x (swp d a pivot)[a]!) (swp d a pivot) (scanUp (fun x => ltI x (swp d a pivot)[a]!) (swp d a pivot) (b - 1) (a + 1)) (b - 1)))).2
        (partLoop ltI a (scanUp (fun x => ltI x (swp d a pivot)[a]!) (swp d a pivot) (b - 1) (a + 1) + 1) (scanDown (fun x => !ltI x (swp d a pivot)[a]!) (swp d a pivot) (scanUp (fun x => ltI x (swp d a pivot)[a]!) (swp d a pivot) (b - 1) (a + 1)) (b - 1) - 1) (swp (swp d a pivot) (scanUp (fun x => ltI x (swp d a pivot)[a]!) (swp d a pivot) (b - 1) (a + 1)) (scanDown (fun x => !ltI x (swp d a pivot)[a]!) (swp d a pivot) (scanUp (fun x => ltI x (swp d a pivot)[a]!) (swp d a pivot) (b - 1) (a + 1)) (b - 1)))).1 a := by
  unfold partition
  generalize swp d a pivot = d1
  dsimp only
  generalize scanUp (fun x => ltI x d1[a]!) d1 (b - 1) (a + 1) = U
  generalize scanDown (fun x => !ltI x d1[a]!) d1 U (b - 1) = V
  split
  · exact ⟨rfl, rfl, rfl⟩
  · exact ⟨rfl, rfl, rfl⟩
set_option maxHeartbeats 8000000 in
theorem sPart_spec (σ0 : Sto) (i g off N : Nat) (d : Array Item) (hN : N ≤ 100000000) (a b pivot : Nat) (hap : a ≤ pivot) (hpb : pivot < b) (hbd : b ≤ d.size) (σ : Sto) (h : AtD σ0 i g off N d σ) :
    Spec Tryz.prog 124 [.ms i g off d.size 2, .sc (.int .i64 a), .sc (.int .i64 b), .sc (.int .i64 pivot), fCmp] σ
      (fun r s => r = .tup [.sc (.int .i64 (partition ltI d a b pivot).1), .sc (.bool (partition ltI d a b pivot).2.1)] ∧ AtD σ0 i g off N (partition ltI d a b pivot).2.2 s) := by
  have hdN : d.size ≤ N := by obtain ⟨_, _, _, _, h2, _⟩ := h; omega
  have hPS := partition_parts d a b pivot
  generalize partition ltI d a b pivot = R at *
  obtain ⟨R1, R2, R3⟩ := R
  unfold fCmp
  refine spec_intro Tryz.func124 good124 rfl (by simp [Tryz.ntmps124]) ?_
  obtain ⟨J, hJ⟩ : ∃ J, b = J + 1 := ⟨b - 1, by omega⟩
  have yJ : (b : Int) - 1 = (J : Nat) := by omega
  rw [hJ, Nat.add_sub_cancel] at hPS
  dsimp only at hPS ⊢
  obtain ⟨c0, p1, p2, p3, p4⟩ := h.get
  have s0 := p3 a (by omega)
  have s1 := p3 pivot (by omega)
  generalize hy0 : d[a]! = x0 at *
  generalize hy1 : d[pivot]! = x1 at *
  have w1 := p4 a pivot x0 x1 (by omega) (by omega) hy0.symm hy1.symm
  have hw := wr_length c0 (off + a * 2) (cI x1) (by simp; omega)
  have hs1 : (swp d a pivot).size = d.size := size_swp _ _ _
  generalize swp d a pivot = d1 at *
  replace w1 := Lib.hid w1
  replace hPS := Lib.hid hPS
  clear p3 p4 hy0 hy1 h
  refine go1 [] [] (cns Tryz.results124 trivial) ?_
  have hA := w1.out
  clear w1 s0 s1 hw p1 p2
  obtain ⟨τ, hτ⟩ : ∃ τ, List.set σ i ⟨wr (wr c0 (off + a * 2) (cI x1)) (off + pivot * 2) (cI x0), g, false, false⟩ = τ := ⟨_, rfl⟩
  rw [hτ] at hA ⊢
  clear hτ
  obtain ⟨c, q1, q2, q3, q4⟩ := hA.get
  have sa := q3 a (by omega)
  replace hPS := hPS.out
  generalize hAA : d1[a]! = A at *
  obtain ⟨σ', rfl⟩ : ∃ s, s = τ := ⟨_, rfl⟩
  obtain ⟨U, hU⟩ : ∃ U, scanUp (fun x => ltI x A) d1 J (a + 1) = U := ⟨_, rfl⟩
  have hU1 := (scanUp_spec (fun x => ltI x A) d1 J _ (a + 1) rfl).1
  have hU2 := scanUp_top (fun x => ltI x A) d1 J (a + 1)
  rw [hU] at hU1 hU2
  refine tri_whx [0, 1, 4, 10, 11, 13] (J + 1) (fun m e σ => σ = σ' ∧ ∃ p : Nat, m = J + 1 - p ∧ (a + 1) ≤ p ∧ (p ≤ J + 1 ∨ p = (a + 1)) ∧ e 12 = .sc (.int .i64 p) ∧ scanUp (fun x => ltI x A) d1 J p = U) (fun e σ => σ = σ' ∧ e 12 = .sc (.int .i64 U)) ?_ (fun m env' σ' hm hk hI => ?_) (fun env' σ' hk hI => ?_)
  · exact ⟨J + 1 - (a + 1), by omega, by simp, (a + 1), rfl, Nat.le_refl _, .inr rfl, by simp [*], hU⟩
  · skip
    (try simp at hk)
    obtain ⟨rfl, p, hmp, hp1, hp2, hI_, hsc⟩ := hI
    by_cases hpj : p ≤ J
    · have sp := q3 p (by omega)
      rw [scanUp] at hsc
      generalize hx : d1[p]! = x at *
      have k1 := keyCmp_spec x A
      cases hl : ltI x A with
      | true =>
        have t1 := cmpI_yes hl
        rw [if_pos (by simp [hpj, hl])] at hsc
        replace hsc := Lib.hid hsc
        clear hl hx
        generalize cmpI x A = u at *
        refine go1 [] [] (cns k1 (cns Tryz.results124 trivial)) ?_
        exact ⟨by simp [*], J + 1 - (p + 1), by omega, rfl, p + 1, rfl, by omega, by omega, by simp, hsc.out⟩
      | false =>
        have t1 := cmpI_no hl
        rw [if_neg (by simp [hl])] at hsc
        subst hsc
        clear hl hx
        generalize cmpI x A = u at *
        refine go1 [] [] (cns k1 (cns Tryz.results124 trivial)) ?_
        exact ⟨rfl, by simp [*], rfl, by simp [*]⟩
    · rw [scanUp, if_neg (by simp; omega)] at hsc
      subst hsc
      refine go1 [] [] (cns Tryz.results124 trivial) ?_
      exact ⟨rfl, by simp [*], rfl, by simp [*]⟩
  · skip
    (try simp at hk)
    obtain ⟨rfl, hhU⟩ := hI
    refine go1 [] [] (cns Tryz.results124 trivial) ?_
    rw [hU] at hPS
    obtain ⟨V, hV⟩ : ∃ V, scanDown (fun x => !ltI x A) d1 U J = V := ⟨_, rfl⟩
    have hV1 := scanDown_le (fun x => !ltI x A) d1 U J
    rw [hV] at hV1
    refine tri_whx [0, 1, 4, 10, 11, 12] J (fun m e σ => σ = σ' ∧ m ≤ J ∧ e 13 = .sc (.int .i64 m) ∧ scanDown (fun x => !ltI x A) d1 U m = V) (fun e σ => σ = σ' ∧ e 13 = .sc (.int .i64 V)) ?_ (fun m env' σ' hm hk hI => ?_) (fun env' σ' hk hI => ?_)
    · exact ⟨J, Nat.le_refl _, by simp, Nat.le_refl _, by simp [*], hV⟩
    · skip
      (try simp at hk)
      obtain ⟨rfl, hmj, hI_, hsc⟩ := hI
      by_cases hpj : U ≤ m
      · obtain ⟨q, rfl⟩ : ∃ q, m = q + 1 := ⟨m - 1, by omega⟩
        have sp := q3 (q + 1) (by omega)
        have y1 : ((q + 1 : Nat) : Int) - 1 = (q : Nat) := by omega
        rw [scanDown] at hsc
        generalize hx : d1[q + 1]! = x at *
        generalize hqm : q + 1 = m at *
        have k1 := keyCmp_spec x A
        cases hl : ltI x A with
        | false =>
          have t1 := cmpI_no hl
          rw [if_pos (by simp [hpj, hl])] at hsc
          replace hsc := Lib.hid hsc
          clear hl hx
          generalize cmpI x A = u at *
          refine go1 [] [] (cns k1 (cns Tryz.results124 trivial)) ?_
          exact ⟨by simp [*], q, by omega, rfl, by omega, by simp [*], hsc.out⟩
        | true =>
          have t1 := cmpI_yes hl
          rw [if_neg (by simp [hl])] at hsc
          subst hsc
          clear hl hx
          generalize cmpI x A = u at *
          refine go1 [] [] (cns k1 (cns Tryz.results124 trivial)) ?_
          exact ⟨rfl, by simp [*], rfl, by simp [*]⟩
      · have hst : scanDown (fun x => !ltI x A) d1 U m = m := by
          cases m with
          | zero => rfl
          | succ m => rw [scanDown, if_neg (by simp; omega)]
        rw [hst] at hsc
        subst hsc
        clear hst
        refine go1 [] [] (cns Tryz.results124 trivial) ?_
        exact ⟨rfl, by simp [*], rfl, by simp [*]⟩
    · skip
      (try simp at hk)
      obtain ⟨rfl, hhV⟩ := hI
      rw [hV] at hPS
      by_cases hUV : V < U
      · rw [if_pos hUV] at hPS
        have sV := q3 V (by omega)
        generalize hy1 : d1[V]! = x1 at *
        have w1 := q4 V a x1 A (by omega) (by omega) hy1.symm hAA.symm
        have hw := wr_length c (off + V * 2) (cI A) (by simp; omega)
        obtain ⟨rfl, rfl, rfl⟩ := hPS
        generalize swp d1 R1 a = d3 at *
        replace w1 := Lib.hid w1
        clear q3 q4 hy1 hA hAA hU hV
        refine go1 [] [] (cns Tryz.results124 trivial) ?_
        refine ⟨rfl, ?_⟩
        first | exact w1.out | simpa [*] using w1.out
      · rw [if_neg hUV] at hPS
        have sU := q3 U (by omega)
        have sV := q3 V (by omega)
        generalize hy0 : d1[U]! = x0 at *
        generalize hy1 : d1[V]! = x1 at *
        have w1 := q4 U V x0 x1 (by omega) (by omega) hy0.symm hy1.symm
        have hw := wr_length c (off + U * 2) (cI x1) (by simp; omega)
        obtain ⟨V', rfl⟩ : ∃ q, V = q + 1 := ⟨V - 1, by omega⟩
        have y1 : ((V' + 1 : Nat) : Int) - 1 = (V' : Nat) := by omega
        rw [Nat.add_sub_cancel] at hPS
        have hBB2 : (swp d1 U (V' + 1))[a]! = A := by rw [swp_other _ _ _ _ (by omega) (by omega)]; exact hAA
        generalize hqm : V' + 1 = V at *
        have hs3 : (swp d1 U V).size = d.size := by rw [size_swp]; exact hs1
        generalize swp d1 U V = d4 at *
        replace w1 := Lib.hid w1
        replace hPS := Lib.hid hPS
        clear q3 q4 hy0 hy1 hA sa hAA hU hV
        refine go1 [] [] (cns Tryz.results124 trivial) ?_
        have hA := w1.out
        obtain ⟨τ, hτ⟩ : ∃ τ, List.set σ' i ⟨wr (wr c (off + U * 2) (cI x1)) (off + V * 2) (cI x0), g, false, false⟩ = τ := ⟨_, rfl⟩
        rw [hτ] at hA ⊢
        clear hτ w1 hw sU sV q1 q2 c
        obtain ⟨B, hAB⟩ : ∃ B, A = B := ⟨_, rfl⟩
        rw [hAB] at hBB2
        clear hAB
        obtain ⟨T1, T2, hT⟩ : ∃ T1 T2, partLoop ltI a (U + 1) V' d4 = (T1, T2) := ⟨_, _, rfl⟩
        replace hPS := hPS.out
        rw [hT] at hPS
        refine tri_whx [0, 1, 4, 10, 11] b (fun m e σ => ∃ (ii jj : Nat) (d2 : Array Item), m = jj + 1 - ii ∧ a + 1 ≤ ii ∧ ii ≤ J + 2 ∧ jj ≤ J ∧ e 12 = .sc (.int .i64 ii) ∧ e 13 = .sc (.int .i64 jj) ∧ d2.size = d.size ∧ d2[a]! = B ∧ partLoop ltI a ii jj d2 = (T1, T2) ∧ AtD σ0 i g off N d2 σ) (fun e σ => ∃ (V : Nat) (d2 : Array Item), (T1, T2) = (V, d2) ∧ V ≤ J ∧ d2.size = d.size ∧ e 13 = .sc (.int .i64 V) ∧ AtD σ0 i g off N d2 σ) ?_ (fun m env' σ' hm hk hI => ?_) (fun env' σ' hk hI => ?_)
        · exact ⟨V' + 1 - (U + 1), by omega, U + 1, V', d4, rfl, by omega, by omega, by omega, by simp [*], by simp [*], hs3, hBB2, hT, hA⟩
        · skip
          (try simp at hk)
          obtain ⟨ii, jj, d2, hmm, hi1, hi2, hj1, h12, h13, hs2, hBB, hpl, hA2⟩ := hI
          clear hA hT hPS hBB2 hs3
          obtain ⟨c, q1, q2, q3, q4⟩ := hA2.get
          have sa := q3 a (by omega)
          rw [hBB] at sa
          rw [partLoop_eq, hBB] at hpl
          try dsimp only at hpl
          refine go1 [] [] (cns Tryz.results124 trivial) ?_
          obtain ⟨U, hU⟩ : ∃ U, scanUp (fun x => ltI x B) d2 jj ii = U := ⟨_, rfl⟩
          have hU1 := (scanUp_spec (fun x => ltI x B) d2 jj _ ii rfl).1
          have hU2 := scanUp_top (fun x => ltI x B) d2 jj ii
          rw [hU] at hU1 hU2
          refine tri_whx [0, 1, 4, 10, 11, 13] (jj + 1) (fun m e σ => σ = σ' ∧ ∃ p : Nat, m = jj + 1 - p ∧ ii ≤ p ∧ (p ≤ jj + 1 ∨ p = ii) ∧ e 12 = .sc (.int .i64 p) ∧ scanUp (fun x => ltI x B) d2 jj p = U) (fun e σ => σ = σ' ∧ e 12 = .sc (.int .i64 U)) ?_ (fun m env' σ' hm hk hI => ?_) (fun env' σ' hk hI => ?_)
          · exact ⟨jj + 1 - ii, by omega, by simp, ii, rfl, Nat.le_refl _, .inr rfl, by simp [*], hU⟩
          · skip
            (try simp at hk)
            obtain ⟨rfl, p, hmp, hp1, hp2, hI_, hsc⟩ := hI
            by_cases hpj : p ≤ jj
            · have sp := q3 p (by omega)
              rw [scanUp] at hsc
              generalize hx : d2[p]! = x at *
              have k1 := keyCmp_spec x B
              cases hl : ltI x B with
              | true =>
                have t1 := cmpI_yes hl
                rw [if_pos (by simp [hpj, hl])] at hsc
                replace hsc := Lib.hid hsc
                clear hl hx
                generalize cmpI x B = u at *
                refine go1 [] [] (cns k1 (cns Tryz.results124 trivial)) ?_
                exact ⟨by simp [*], jj + 1 - (p + 1), by omega, rfl, p + 1, rfl, by omega, by omega, by simp, hsc.out⟩
              | false =>
                have t1 := cmpI_no hl
                rw [if_neg (by simp [hl])] at hsc
                subst hsc
                clear hl hx
                generalize cmpI x B = u at *
                refine go1 [] [] (cns k1 (cns Tryz.results124 trivial)) ?_
                exact ⟨rfl, by simp [*], rfl, by simp [*]⟩
            · rw [scanUp, if_neg (by simp; omega)] at hsc
              subst hsc
              refine go1 [] [] (cns Tryz.results124 trivial) ?_
              exact ⟨rfl, by simp [*], rfl, by simp [*]⟩
          · skip
            (try simp at hk)
            obtain ⟨rfl, hhU⟩ := hI
            refine go1 [] [] (cns Tryz.results124 trivial) ?_
            rw [hU] at hpl
            obtain ⟨V, hV⟩ : ∃ V, scanDown (fun x => !ltI x B) d2 U jj = V := ⟨_, rfl⟩
            have hV1 := scanDown_le (fun x => !ltI x B) d2 U jj
            rw [hV] at hV1
            refine tri_whx [0, 1, 4, 10, 11, 12] jj (fun m e σ => σ = σ' ∧ m ≤ jj ∧ e 13 = .sc (.int .i64 m) ∧ scanDown (fun x => !ltI x B) d2 U m = V) (fun e σ => σ = σ' ∧ e 13 = .sc (.int .i64 V)) ?_ (fun m env' σ' hm hk hI => ?_) (fun env' σ' hk hI => ?_)
            · exact ⟨jj, Nat.le_refl _, by simp, Nat.le_refl _, by simp [*], hV⟩
            · skip
              (try simp at hk)
              obtain ⟨rfl, hmj, hI_, hsc⟩ := hI
              by_cases hpj : U ≤ m
              · obtain ⟨q, rfl⟩ : ∃ q, m = q + 1 := ⟨m - 1, by omega⟩
                have sp := q3 (q + 1) (by omega)
                have y1 : ((q + 1 : Nat) : Int) - 1 = (q : Nat) := by omega
                rw [scanDown] at hsc
                generalize hx : d2[q + 1]! = x at *
                generalize hqm : q + 1 = m at *
                have k1 := keyCmp_spec x B
                cases hl : ltI x B with
                | false =>
                  have t1 := cmpI_no hl
                  rw [if_pos (by simp [hpj, hl])] at hsc
                  replace hsc := Lib.hid hsc
                  clear hl hx
                  generalize cmpI x B = u at *
                  refine go1 [] [] (cns k1 (cns Tryz.results124 trivial)) ?_
                  exact ⟨by simp [*], q, by omega, rfl, by omega, by simp [*], hsc.out⟩
                | true =>
                  have t1 := cmpI_yes hl
                  rw [if_neg (by simp [hl])] at hsc
                  subst hsc
                  clear hl hx
                  generalize cmpI x B = u at *
                  refine go1 [] [] (cns k1 (cns Tryz.results124 trivial)) ?_
                  exact ⟨rfl, by simp [*], rfl, by simp [*]⟩
              · have hst : scanDown (fun x => !ltI x B) d2 U m = m := by
                  cases m with
                  | zero => rfl
                  | succ m => rw [scanDown, if_neg (by simp; omega)]
                rw [hst] at hsc
                subst hsc
                clear hst
                refine go1 [] [] (cns Tryz.results124 trivial) ?_
                exact ⟨rfl, by simp [*], rfl, by simp [*]⟩
            · skip
              (try simp at hk)
              obtain ⟨rfl, hhV⟩ := hI
              rw [hV] at hpl
              by_cases hUV : V < U
              · rw [if_pos hUV] at hpl
                have hT := hpl.symm
                clear hpl q4
                refine go1 [] [] (cns Tryz.results124 trivial) ?_
                exact ⟨rfl, by simp [*], V, d2, hT, by omega, hs2, by simp [*], hA2⟩
              · rw [if_neg hUV] at hpl
                have sU := q3 U (by omega)
                have sV := q3 V (by omega)
                generalize hy0 : d2[U]! = x0 at *
                generalize hy1 : d2[V]! = x1 at *
                have w1 := q4 U V x0 x1 (by omega) (by omega) hy0.symm hy1.symm
                have hw := wr_length c (off + U * 2) (cI x1) (by simp; omega)
                obtain ⟨V', rfl⟩ : ∃ q, V = q + 1 := ⟨V - 1, by omega⟩
                have y1 : ((V' + 1 : Nat) : Int) - 1 = (V' : Nat) := by omega
                rw [Nat.add_sub_cancel] at hpl
                have hBB2 : (swp d2 U (V' + 1))[a]! = B := by rw [swp_other _ _ _ _ (by omega) (by omega)]; exact hBB
                generalize hqm : V' + 1 = V at *
                have hs3 : (swp d2 U V).size = d.size := by rw [size_swp]; exact hs2
                generalize swp d2 U V = d3 at *
                replace w1 := Lib.hid w1
                replace hpl := Lib.hid hpl
                clear q3 q4 hy0 hy1 hA2 sa
                refine go1 [] [] (cns Tryz.results124 trivial) ?_
                refine ⟨by simp [*], V' + 1 - (U + 1), by omega, U + 1, V', d3, rfl, by omega, by omega, by omega, by simp, by simp, hs3, hBB2, hpl.out, ?_⟩
                first | exact w1.out | simpa [*] using w1.out
        · skip
          (try simp at hk)
          obtain ⟨V, d2, hT2, hVJ, hs2, h13, hA2⟩ := hI
          cases hT2
          clear hA hT hBB2 hs3
          obtain ⟨c, q1, q2, q3, q4⟩ := hA2.get
          have sa := q3 a (by omega)
          have sV := q3 T1 (by omega)
          generalize hy0 : T2[a]! = x0 at *
          generalize hy1 : T2[T1]! = x1 at *
          have w1 := q4 T1 a x1 x0 (by omega) (by omega) hy1.symm hy0.symm
          have hw := wr_length c (off + T1 * 2) (cI x0) (by simp; omega)
          obtain ⟨rfl, rfl, rfl⟩ := hPS
          generalize swp T2 R1 a = d5 at *
          replace w1 := Lib.hid w1
          clear q3 q4 hy0 hy1 hA2
          refine go1 [] [] (cns Tryz.results124 trivial) ?_
          refine ⟨rfl, ?_⟩
          first | exact w1.out | simpa [*] using w1.out
end Go.Proofs.YtejgopcicenbeaaGreat
