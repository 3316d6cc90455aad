/- Go's sort of items: partialInsertionSort. Printed by wip/tools/gensort.py. -/
import Derived.Test.YtejgopcicenbeaaGreatSd
import Derived.Test.YtejgopcicenbeaaGreatLw
namespace Go.Proofs.YtejgopcicenbeaaGreat
open Go.RowKit Go.Sort
set_option linter.unusedSimpArgs false
set_option maxRecDepth 10000
theorem pis_zero (a b i : Nat) (d : Array Item) : partialIns ltI a b 0 i d = (d, false) := rfl
theorem pis_succ (a b s i : Nat) (d : Array Item) : partialIns ltI a b (s + 1) i d = if scanSorted ltI d b i = b then (d, true) else if b - a < 50 then (d, false) else
    partialIns ltI a b s (scanSorted ltI d b i) (if b - scanSorted ltI d b i ≥ 2 then shiftUp ltI b (scanSorted ltI d b i + 1) (if scanSorted ltI d b i - a ≥ 2 then shiftDown ltI (scanSorted ltI d b i - 1) (swp d (scanSorted ltI d b i) (scanSorted ltI d b i - 1)) else swp d (scanSorted ltI d b i) (scanSorted ltI d b i - 1))
      else if scanSorted ltI d b i - a ≥ 2 then shiftDown ltI (scanSorted ltI d b i - 1) (swp d (scanSorted ltI d b i) (scanSorted ltI d b i - 1)) else swp d (scanSorted ltI d b i) (scanSorted ltI d b i - 1)) := rfl
theorem scanSorted_bd (d : Array Item) (b : Nat) : ∀ (n i : Nat), b - i ≤ n → i ≤ b → i ≤ scanSorted ltI d b i ∧ scanSorted ltI d b i ≤ b
  | 0, i, h, hb => by rw [scanSorted, if_neg (by simp; omega)]; omega
  | n + 1, i, h, hb => by
    rw [scanSorted]
    split
    · rename_i hc
      have hlt : i < b := by rw [Bool.and_eq_true, decide_eq_true_eq] at hc; exact hc.1
      have := scanSorted_bd d b n (i + 1) (by omega) (by omega)
      omega
    · omega
set_option maxHeartbeats 8000000 in
theorem sPis_spec (σ0 : Sto) (i g off N : Nat) (d : Array Item) (hN : N ≤ 100000000) (a b : Nat) (hab : a < b) (hbd : b ≤ d.size) (σ : Sto) (h : AtD σ0 i g off N d σ) :
    Spec Tryz.prog 122 [.ms i g off d.size 2, .sc (.int .i64 a), .sc (.int .i64 b), fCmp] σ
      (fun r s => r = .sc (.bool (partialInsertionSort ltI d a b).2) ∧ AtD σ0 i g off N (partialInsertionSort ltI d a b).1 s) := by
  have hdN : d.size ≤ N := by obtain ⟨_, _, _, _, h2, _⟩ := h; omega
  unfold fCmp
  refine spec_intro Tryz.func122 good122 rfl (by simp [Tryz.ntmps122]) ?_
  unfold partialInsertionSort
  obtain ⟨T1, T2, hT⟩ : ∃ T1 T2, partialIns ltI a b 5 (a + 1) d = (T1, T2) := ⟨_, _, rfl⟩
  rw [hT]
  dsimp only
  refine go1 [] [] (cns Tryz.results122 trivial) ?_
  refine tri_whl [0, 1, 2, 3] 5 (fun m e σ => ∃ (ii : Nat) (d1 : Array Item), m ≤ 5 ∧ a + 1 ≤ ii ∧ ii ≤ b ∧ e 9 = .sc (.int .i64 ii) ∧ e 10 = .sc (.int .i64 (5 - m : Nat)) ∧ d1.size = d.size ∧ partialIns ltI a b m ii d1 = (T1, T2) ∧ AtD σ0 i g off N d1 σ) ?_ (fun m env' σ' hm hk hI => ?_)
  · exact ⟨5, Nat.le_refl _, a + 1, d, Nat.le_refl _, Nat.le_refl _, by omega, by simp, by simp, rfl, hT, h⟩
  · skip
    (try simp at hk)
    obtain ⟨ii, d1, hm5, hi1, hi2, h9, h10, hs1, hpl, hA⟩ := hI
    clear h hT
    rcases Nat.eq_zero_or_pos m with rfl | hp
    · rw [pis_zero] at hpl
      cases hpl
      refine go1 [] [] (cns Tryz.results122 trivial) ?_
      exact ⟨rfl, hA⟩
    · obtain ⟨s, rfl⟩ : ∃ s, m = s + 1 := ⟨m - 1, by omega⟩
      have h5a : ((5 - (s + 1) : Nat) : Int) < 5 := by omega
      have h5b : ((5 - (s + 1) : Nat) : Int) + 1 = (5 - s : Nat) := by omega
      generalize hz : 5 - (s + 1) = z at *
      generalize hz2 : 5 - s = z2 at *
      rw [pis_succ] at hpl
      obtain ⟨c, q1, q2, q3, q4⟩ := hA.get
      obtain ⟨hU1, hU2⟩ := scanSorted_bd d1 b (b - ii) ii (Nat.le_refl _) hi2
      obtain ⟨U, hU⟩ : ∃ U, scanSorted ltI d1 b ii = U := ⟨_, rfl⟩
      rw [hU] at hpl hU1 hU2
      replace hpl := Lib.hid hpl
      refine go1 [] [] (cns Tryz.results122 trivial) ?_
      refine tri_whx [0, 1, 2, 3, 8, 10] b (fun m e σ => σ = σ' ∧ ∃ p : Nat, m = b - p ∧ ii ≤ p ∧ p ≤ b ∧ e 9 = .sc (.int .i64 p) ∧ scanSorted ltI d1 b p = U) (fun e σ => σ = σ' ∧ e 9 = .sc (.int .i64 U)) ?_ (fun m env' σ' hm hk hI => ?_) (fun env' σ' hk hI => ?_)
      · exact ⟨b - ii, by omega, rfl, ii, rfl, Nat.le_refl _, hi2, by simp [*], hU⟩
      · skip
        (try simp at hk)
        obtain ⟨rfl, p, hmp, hp1, hp2, hI_, hsc⟩ := hI
        obtain ⟨q, rfl⟩ : ∃ q, p = q + 1 := ⟨p - 1, by omega⟩
        have y1 : ((q + 1 : Nat) : Int) - 1 = (q : Nat) := by omega
        rw [scanSorted, Nat.add_sub_cancel] at hsc
        by_cases hpj : q + 1 < b
        · have sp := q3 (q + 1) (by omega)
          have sq := q3 q (by omega)
          generalize hx : d1[q + 1]! = x at *
          generalize hy : d1[q]! = y at *
          have k1 := keyCmp_spec x y
          cases hl : ltI x y with
          | false =>
            have t1 := cmpI_no hl
            rw [if_pos (by simp [hpj, hl])] at hsc
            replace hsc := Lib.hid hsc
            clear hl hx hy
            generalize cmpI x y = u at *
            generalize hqm : q + 1 = p at *
            refine go1 [] [] (cns k1 (cns Tryz.results122 trivial)) ?_
            exact ⟨by simp [*], b - (p + 1), by omega, rfl, p + 1, rfl, by omega, by omega, by simp, by first | exact hsc.out | simpa [*] using hsc.out⟩
          | true =>
            have t1 := cmpI_yes hl
            rw [if_neg (by simp [hl])] at hsc
            subst hsc
            clear hl hx hy
            generalize cmpI x y = u at *
            generalize hqm : q + 1 = p at *
            refine go1 [] [] (cns k1 (cns Tryz.results122 trivial)) ?_
            exact ⟨rfl, by simp [*], rfl, by simp [*]⟩
        · rw [if_neg (by simp; omega)] at hsc
          subst hsc
          generalize hqm : q + 1 = p at *
          refine go1 [] [] (cns Tryz.results122 trivial) ?_
          exact ⟨rfl, by simp [*], rfl, by simp [*]⟩
      · skip
        (try simp at hk)
        obtain ⟨rfl, h9'⟩ := hI
        replace hpl := hpl.out
        by_cases hub : U = b
        · rw [if_pos hub] at hpl
          cases hpl
          clear q3 q4 hU
          refine go1 [] [] (cns Tryz.results122 trivial) ?_
          all_goals exact ⟨rfl, hA⟩
        · rw [if_neg hub] at hpl
          have hub2 : ¬ (U : Int) = b := by omega
          by_cases h50 : b - a < 50
          · rw [if_pos h50] at hpl
            cases hpl
            have h50' : (b : Int) - a < 50 := by omega
            clear q3 q4 hU
            refine go1 [] [] (cns Tryz.results122 trivial) ?_
            all_goals exact ⟨rfl, hA⟩
          · rw [if_neg h50] at hpl
            have h50' : ¬ (b : Int) - a < 50 := by omega
            obtain ⟨V, rfl⟩ : ∃ V, U = V + 1 := ⟨U - 1, by omega⟩
            rw [Nat.add_sub_cancel] at hpl
            have y1 : ((V + 1 : Nat) : Int) - 1 = (V : Nat) := by omega
            have sU := q3 (V + 1) (by omega)
            have sV := q3 V (by omega)
            generalize hy0 : d1[V + 1]! = x0 at *
            generalize hy1 : d1[V]! = x1 at *
            have w1 := q4 (V + 1) V x0 x1 (by omega) (by omega) hy0.symm hy1.symm
            have hw := wr_length c (off + (V + 1) * 2) (cI x1) (by simp; omega)
            have hs3 : (swp d1 (V + 1) V).size = d.size := by rw [size_swp]; exact hs1
            generalize swp d1 (V + 1) V = d2 at *
            generalize hqm : V + 1 = U at *
            replace w1 := Lib.hid w1
            replace hpl := Lib.hid hpl
            clear q3 q4 hy0 hy1 hA hU
            by_cases h2 : U - a ≥ 2
            · have h2' : (U : Int) - a ≥ 2 := by omega
              refine go1 [] [] (cns Tryz.results122 trivial) ?_
              have hA := w1.out
              clear w1 sU sV hw
              replace hpl := hpl.out
              rw [if_pos h2] at hpl
              obtain ⟨d3, hd3⟩ : ∃ d3, shiftDown ltI V d2 = d3 := ⟨_, rfl⟩
              rw [hd3] at hpl
              replace hpl := Lib.hid hpl
              clear h2
              refine tri_whx [0, 1, 2, 3, 8, 9, 10] V (fun m e σ => m ≤ V ∧ e 11 = .sc (.int .i64 m) ∧ ∃ d4 : Array Item, d4.size = d.size ∧ shiftDown ltI m d4 = d3 ∧ AtD σ0 i g off N d4 σ) (fun e σ => d3.size = d.size ∧ AtD σ0 i g off N d3 σ) ?_ (fun m env' σ' hm hk hI => ?_) (fun env' σ' hk hI => ?_)
              · exact ⟨V, Nat.le_refl _, Nat.le_refl _, by simp [*], d2, hs3, hd3, by first | exact hA | simpa [*] using hA⟩
              · skip
                (try simp at hk)
                obtain ⟨hmv, h11, d4, hs4, hsd, hA4⟩ := hI
                clear hA hd3
                obtain ⟨c, q1, q2, q3, q4⟩ := hA4.get
                rcases Nat.eq_zero_or_pos m with rfl | hp
                · rw [show shiftDown ltI 0 d4 = d4 from rfl] at hsd
                  subst hsd
                  clear q3 q4
                  refine go1 [] [] (cns Tryz.results122 trivial) ?_
                  exact ⟨rfl, by simp [*], hs4, hA4⟩
                · obtain ⟨q, rfl⟩ : ∃ q, m = q + 1 := ⟨m - 1, by omega⟩
                  rw [shiftDown] at hsd
                  have yq : ((q + 1 : Nat) : Int) - 1 = (q : Nat) := by omega
                  have yp : ((q + 1 : Nat) : Int) ≥ 1 := by omega
                  have sp := q3 (q + 1) (by omega)
                  have sq := q3 q (by omega)
                  generalize hx : d4[q + 1]! = x at *
                  generalize hy : d4[q]! = y at *
                  have w2 := q4 (q + 1) q x y (by omega) (by omega) hx.symm hy.symm
                  have hw2 := wr_length c (off + (q + 1) * 2) (cI y) (by simp; omega)
                  have k1 := keyCmp_spec x y
                  have hs5 : (swp d4 (q + 1) q).size = d.size := by rw [size_swp]; exact hs4
                  generalize swp d4 (q + 1) q = d5 at *
                  replace w2 := Lib.hid w2
                  cases hl : ltI x y with
                  | true =>
                    have t1 := cmpI_yes hl
                    rw [hl, if_neg (by simp)] at hsd
                    replace hsd := Lib.hid hsd
                    clear hl hx hy q3 q4 hA4
                    generalize cmpI x y = u at *
                    generalize hqm2 : q + 1 = p at *
                    refine go1 [] [] (cns k1 (cns Tryz.results122 trivial)) ?_
                    exact ⟨by simp [*], q, by omega, by omega, by simp [*], d5, hs5, hsd.out, by first | exact w2.out | simpa [*] using w2.out⟩
                  | false =>
                    have t1 := cmpI_no hl
                    rw [hl, if_pos (by simp)] at hsd
                    subst hsd
                    clear hl hx hy q3 q4 w2
                    generalize cmpI x y = u at *
                    generalize hqm2 : q + 1 = p at *
                    refine go1 [] [] (cns k1 (cns Tryz.results122 trivial)) ?_
                    exact ⟨rfl, by simp [*], hs4, hA4⟩
              · skip
                (try simp at hk)
                obtain ⟨hs4, hA4⟩ := hI
                clear hd3 hA
                by_cases h3 : b - U ≥ 2
                · have h3' : (b : Int) - U ≥ 2 := by omega
                  replace hpl := hpl.out
                  rw [if_pos h3] at hpl
                  obtain ⟨d6, hd6⟩ : ∃ d6, shiftUp ltI b (U + 1) d3 = d6 := ⟨_, rfl⟩
                  rw [hd6] at hpl
                  replace hpl := Lib.hid hpl
                  clear h3
                  refine go1 [] [] (cns Tryz.results122 trivial) ?_
                  refine tri_whx [0, 1, 2, 3, 8, 9, 10, 11] b (fun m e σ => ∃ (p : Nat) (d4 : Array Item), m = b - p ∧ U + 1 ≤ p ∧ p ≤ b ∧ e 12 = .sc (.int .i64 p) ∧ d4.size = d.size ∧ shiftUp ltI b p d4 = d6 ∧ AtD σ0 i g off N d4 σ) (fun e σ => d6.size = d.size ∧ AtD σ0 i g off N d6 σ) ?_ (fun m env' σ' hm hk hI => ?_) (fun env' σ' hk hI => ?_)
                  · exact ⟨b - (U + 1), by omega, U + 1, d3, rfl, Nat.le_refl _, by omega, by simp [*], hs4, hd6, by first | exact hA4 | simpa [*] using hA4⟩
                  · skip
                    (try simp at hk)
                    obtain ⟨p, d4, hmp, hp1, hp2, h12, hs4', hsd, hA4'⟩ := hI
                    clear hd6
                    obtain ⟨c, q1, q2, q3, q4⟩ := hA4'.get
                    rw [shiftUp] at hsd
                    by_cases hpj : p < b
                    · rw [if_pos hpj] at hsd
                      obtain ⟨q, rfl⟩ : ∃ q, p = q + 1 := ⟨p - 1, by omega⟩
                      rw [Nat.add_sub_cancel] at hsd
                      have yq : ((q + 1 : Nat) : Int) - 1 = (q : Nat) := by omega
                      have sp := q3 (q + 1) (by omega)
                      have sq := q3 q (by omega)
                      generalize hx : d4[q + 1]! = x at *
                      generalize hy : d4[q]! = y at *
                      have w2 := q4 (q + 1) q x y (by omega) (by omega) hx.symm hy.symm
                      have hw2 := wr_length c (off + (q + 1) * 2) (cI y) (by simp; omega)
                      have k1 := keyCmp_spec x y
                      have hs5 : (swp d4 (q + 1) q).size = d.size := by rw [size_swp]; exact hs4'
                      generalize swp d4 (q + 1) q = d5 at *
                      replace w2 := Lib.hid w2
                      cases hl : ltI x y with
                      | true =>
                        have t1 := cmpI_yes hl
                        rw [hl, if_neg (by simp)] at hsd
                        replace hsd := Lib.hid hsd
                        clear hl hx hy q3 q4 hA4'
                        generalize cmpI x y = u at *
                        generalize hqm2 : q + 1 = p at *
                        refine go1 [] [] (cns k1 (cns Tryz.results122 trivial)) ?_
                        exact ⟨by simp [*], b - (p + 1), by omega, p + 1, d5, rfl, by omega, by omega, by simp [*], hs5, by first | exact hsd.out | simpa [*] using hsd.out, by first | exact w2.out | simpa [*] using w2.out⟩
                      | false =>
                        have t1 := cmpI_no hl
                        rw [hl, if_pos (by simp)] at hsd
                        subst hsd
                        clear hl hx hy q3 q4 w2
                        generalize cmpI x y = u at *
                        generalize hqm2 : q + 1 = p at *
                        refine go1 [] [] (cns k1 (cns Tryz.results122 trivial)) ?_
                        exact ⟨rfl, by simp [*], hs4', hA4'⟩
                    · rw [if_neg hpj] at hsd
                      subst hsd
                      clear q3 q4
                      refine go1 [] [] (cns Tryz.results122 trivial) ?_
                      exact ⟨rfl, by simp [*], hs4', hA4'⟩
                  · skip
                    (try simp at hk)
                    obtain ⟨hs6, hA6⟩ := hI
                    refine go1 [] [] (cns Tryz.results122 trivial) ?_
                    exact ⟨by simp [*], s, by omega, U, d6, by omega, by omega, by omega, by simp [*], by simp [*], hs6, hpl.out, hA6⟩
                · have h3' : ¬ (b : Int) - U ≥ 2 := by omega
                  replace hpl := hpl.out
                  rw [if_neg h3] at hpl
                  replace hpl := Lib.hid hpl
                  clear h3
                  refine go1 [] [] (cns Tryz.results122 trivial) ?_
                  exact ⟨by simp [*], s, by omega, U, d3, by omega, by omega, by omega, by simp [*], by simp [*], hs4, hpl.out, by first | exact hA4 | simpa [*] using hA4⟩
            · have h2' : ¬ (U : Int) - a ≥ 2 := by omega
              replace hpl := hpl.out
              rw [if_neg h2] at hpl
              replace hpl := Lib.hid hpl
              clear h2
              by_cases h3 : b - U ≥ 2
              · have h3' : (b : Int) - U ≥ 2 := by omega
                replace hpl := hpl.out
                rw [if_pos h3] at hpl
                obtain ⟨d6, hd6⟩ : ∃ d6, shiftUp ltI b (U + 1) d2 = d6 := ⟨_, rfl⟩
                rw [hd6] at hpl
                replace hpl := Lib.hid hpl
                clear h3
                refine go1 [] [] (cns Tryz.results122 trivial) ?_
                refine tri_whx [0, 1, 2, 3, 8, 9, 10, 11] b (fun m e σ => ∃ (p : Nat) (d4 : Array Item), m = b - p ∧ U + 1 ≤ p ∧ p ≤ b ∧ e 12 = .sc (.int .i64 p) ∧ d4.size = d.size ∧ shiftUp ltI b p d4 = d6 ∧ AtD σ0 i g off N d4 σ) (fun e σ => d6.size = d.size ∧ AtD σ0 i g off N d6 σ) ?_ (fun m env' σ' hm hk hI => ?_) (fun env' σ' hk hI => ?_)
                · exact ⟨b - (U + 1), by omega, U + 1, d2, rfl, Nat.le_refl _, by omega, by simp [*], hs3, hd6, by first | exact w1.out | simpa [*] using w1.out⟩
                · skip
                  (try simp at hk)
                  obtain ⟨p, d4, hmp, hp1, hp2, h12, hs4', hsd, hA4'⟩ := hI
                  clear hd6
                  obtain ⟨c, q1, q2, q3, q4⟩ := hA4'.get
                  rw [shiftUp] at hsd
                  by_cases hpj : p < b
                  · rw [if_pos hpj] at hsd
                    obtain ⟨q, rfl⟩ : ∃ q, p = q + 1 := ⟨p - 1, by omega⟩
                    rw [Nat.add_sub_cancel] at hsd
                    have yq : ((q + 1 : Nat) : Int) - 1 = (q : Nat) := by omega
                    have sp := q3 (q + 1) (by omega)
                    have sq := q3 q (by omega)
                    generalize hx : d4[q + 1]! = x at *
                    generalize hy : d4[q]! = y at *
                    have w2 := q4 (q + 1) q x y (by omega) (by omega) hx.symm hy.symm
                    have hw2 := wr_length c (off + (q + 1) * 2) (cI y) (by simp; omega)
                    have k1 := keyCmp_spec x y
                    have hs5 : (swp d4 (q + 1) q).size = d.size := by rw [size_swp]; exact hs4'
                    generalize swp d4 (q + 1) q = d5 at *
                    replace w2 := Lib.hid w2
                    cases hl : ltI x y with
                    | true =>
                      have t1 := cmpI_yes hl
                      rw [hl, if_neg (by simp)] at hsd
                      replace hsd := Lib.hid hsd
                      clear hl hx hy q3 q4 hA4'
                      generalize cmpI x y = u at *
                      generalize hqm2 : q + 1 = p at *
                      refine go1 [] [] (cns k1 (cns Tryz.results122 trivial)) ?_
                      exact ⟨by simp [*], b - (p + 1), by omega, p + 1, d5, rfl, by omega, by omega, by simp [*], hs5, by first | exact hsd.out | simpa [*] using hsd.out, by first | exact w2.out | simpa [*] using w2.out⟩
                    | false =>
                      have t1 := cmpI_no hl
                      rw [hl, if_pos (by simp)] at hsd
                      subst hsd
                      clear hl hx hy q3 q4 w2
                      generalize cmpI x y = u at *
                      generalize hqm2 : q + 1 = p at *
                      refine go1 [] [] (cns k1 (cns Tryz.results122 trivial)) ?_
                      exact ⟨rfl, by simp [*], hs4', hA4'⟩
                  · rw [if_neg hpj] at hsd
                    subst hsd
                    clear q3 q4
                    refine go1 [] [] (cns Tryz.results122 trivial) ?_
                    exact ⟨rfl, by simp [*], hs4', hA4'⟩
                · skip
                  (try simp at hk)
                  obtain ⟨hs6, hA6⟩ := hI
                  refine go1 [] [] (cns Tryz.results122 trivial) ?_
                  exact ⟨by simp [*], s, by omega, U, d6, by omega, by omega, by omega, by simp [*], by simp [*], hs6, hpl.out, hA6⟩
              · have h3' : ¬ (b : Int) - U ≥ 2 := by omega
                replace hpl := hpl.out
                rw [if_neg h3] at hpl
                replace hpl := Lib.hid hpl
                clear h3
                refine go1 [] [] (cns Tryz.results122 trivial) ?_
                exact ⟨by simp [*], s, by omega, U, d2, by omega, by omega, by omega, by simp [*], by simp [*], hs3, hpl.out, by first | exact w1.out | simpa [*] using w1.out⟩
end Go.Proofs.YtejgopcicenbeaaGreat
