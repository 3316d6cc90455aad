/- Go's sort of items: heap sort, reversing. -/
import Derived.Test.YtejgopcicenbeaaGreatSa
import Derived.Test.YtejgopcicenbeaaGreatLw
namespace Go.Proofs.YtejgopcicenbeaaGreat
open Go.RowKit Go.Sort
set_option linter.unusedSimpArgs false
set_option maxRecDepth 10000
theorem sift_stop {lt : Item → Item → Bool} {hi first root : Nat} {d : Array Item} (h : hi ≤ 2 * root + 1) : siftDown lt hi first root d = d := by rw [siftDown, dif_pos h]
theorem sift_right {lt : Item → Item → Bool} {hi first root : Nat} {d : Array Item} (h : 2 * root + 2 < hi) (hl : lt d[first + (2 * root + 1)]! d[first + (2 * root + 2)]! = true) :
    siftDown lt hi first root d = if lt d[first + root]! d[first + (2 * root + 2)]! = true then siftDown lt hi first (2 * root + 2) (swp d (first + root) (first + (2 * root + 2))) else d := by
  have e : first + (2 * root + 1) + 1 = first + (2 * root + 2) := by omega
  have h4 : 2 * root + 1 + 1 < hi := by omega
  rw [siftDown, dif_neg (by omega), e, hl]
  simp only [h4, h, decide_true, Bool.and_self, if_true, dif_pos]
  cases lt d[first + root]! d[first + (2 * root + 2)]! <;> simp
theorem sift_left {lt : Item → Item → Bool} {hi first root : Nat} {d : Array Item} (h : ¬ hi ≤ 2 * root + 1) (hl : ¬ (2 * root + 2 < hi ∧ lt d[first + (2 * root + 1)]! d[first + (2 * root + 2)]! = true)) :
    siftDown lt hi first root d = if lt d[first + root]! d[first + (2 * root + 1)]! = true then siftDown lt hi first (2 * root + 1) (swp d (first + root) (first + (2 * root + 1))) else d := by
  have e : first + (2 * root + 1) + 1 = first + (2 * root + 2) := by omega
  rw [siftDown, dif_neg h, e, if_neg (by intro h5; rw [Bool.and_eq_true, decide_eq_true_eq] at h5; exact hl ⟨by omega, h5.2⟩)]
  cases lt d[first + root]! d[first + (2 * root + 1)]! <;> simp
theorem sift_size (lt : Item → Item → Bool) (hi first : Nat) : ∀ (n root : Nat) (d : Array Item), hi ≤ n + root → (siftDown lt hi first root d).size = d.size
  | 0, root, d, h => by rw [sift_stop (by omega)]
  | n + 1, root, d, h => by
    by_cases h1 : hi ≤ 2 * root + 1
    · rw [sift_stop h1]
    · by_cases h2 : 2 * root + 2 < hi ∧ lt d[first + (2 * root + 1)]! d[first + (2 * root + 2)]! = true
      · rw [sift_right h2.1 h2.2]
        split
        · rw [sift_size lt hi first n _ _ (by omega), size_swp]
        · rfl
      · rw [sift_left h1 h2]
        split
        · rw [sift_size lt hi first n _ _ (by omega), size_swp]
        · rfl
set_option maxHeartbeats 4000000 in
theorem sSift_spec (σ0 : Sto) (i g off N : Nat) (d : Array Item) (hN : N ≤ 100000000) (lo hi first : Nat) (hfh : first + hi ≤ d.size) (hlo : lo ≤ d.size) (σ : Sto) (h : AtD σ0 i g off N d σ) :
    Spec Tryz.prog 144 [.ms i g off d.size 2, .sc (.int .i64 lo), .sc (.int .i64 hi), .sc (.int .i64 first), fCmp] σ (fun r s => r = .tup [] ∧ AtD σ0 i g off N (siftDown ltI hi first lo d) s) := by
  have hdN : d.size ≤ N := by obtain ⟨_, _, _, _, h2, _⟩ := h; omega
  unfold fCmp
  refine spec_intro Tryz.func144 good144 rfl (by simp [Tryz.ntmps144]) ?_
  refine go1 [] [] (cns Tryz.results144 trivial) ?_
  refine tri_whl [0, 2, 3, 4] hi (fun m e σ => ∃ (root : Nat) (d1 : Array Item), root ≤ d.size ∧ m = hi - root ∧ e 10 = .sc (.int .i64 root) ∧ d1.size = d.size ∧ siftDown ltI hi first root d1 = siftDown ltI hi first lo d ∧ AtD σ0 i g off N d1 σ) ?_ (fun m env' σ' hm hk hI => ?_)
  · exact ⟨hi - lo, by omega, lo, d, hlo, rfl, by simp, rfl, rfl, h⟩
  · skip
    (try simp at hk)
    obtain ⟨root, d1, hrd, hmj, h10, hs1, hsf, hA⟩ := hI
    clear h
    obtain ⟨c1, hc1⟩ : ∃ c1, 2 * root + 1 = c1 := ⟨_, rfl⟩
    obtain ⟨c2, hc2⟩ : ∃ c2, c1 + 1 = c2 := ⟨_, rfl⟩
    have z1 : 2 * (root : Int) + 1 = (c1 : Nat) := by omega
    have z2 : (c1 : Int) + 1 = (c2 : Nat) := by omega
    have hc3 : 2 * root + 2 = c2 := by omega
    by_cases hst : hi ≤ c1
    · rw [sift_stop (by omega)] at hsf
      subst hsf
      clear hc1 hc2 hc3
      refine go1 [] [] (cns Tryz.results144 trivial) ?_
      all_goals exact ⟨rfl, hA⟩
    · obtain ⟨c, q1, q2, q3, q4⟩ := hA.get
      obtain ⟨p0, hp0⟩ : ∃ p, first + root = p := ⟨_, rfl⟩
      obtain ⟨p1, hp1⟩ : ∃ p, first + c1 = p := ⟨_, rfl⟩
      obtain ⟨p2, hp2⟩ : ∃ p, first + c2 = p := ⟨_, rfl⟩
      have y0 : (first : Int) + (root : Nat) = (p0 : Nat) := by omega
      have y1 : (first : Int) + (c1 : Nat) = (p1 : Nat) := by omega
      have y2 : (first : Int) + (c2 : Nat) = (p2 : Nat) := by omega
      have y3 : (p1 : Int) + 1 = (p2 : Nat) := by omega
      have s0 := q3 p0 (by omega)
      have s1 := q3 p1 (by omega)
      by_cases h2 : c2 < hi
      · have s2 := q3 p2 (by omega)
        have b2 : p2 < d1.size := by omega
        have k1 := keyCmp_spec d1[p1]! d1[p2]!
        cases hl1 : ltI d1[p1]! d1[p2]! with
        | true =>
          have t1 := cmpI_yes hl1
          rw [sift_right (by omega) (by rw [hc1, hc3, hp1, hp2]; exact hl1), hc3, hp0, hp2] at hsf
          clear hl1
          generalize cmpI d1[p1]! d1[p2]! = u1 at *
          generalize d1[p1]! = x1 at *
          generalize hy0 : d1[p0]! = x0 at *
          generalize hy1 : d1[p2]! = x2 at *
          have w1 := q4 p0 p2 x0 x2 (by omega) (by omega) hy0.symm hy1.symm
          have hw := wr_length c (off + p0 * 2) (cI x2) (by simp; omega)
          have k2 := keyCmp_spec x0 x2
          replace w1 := Lib.hid w1
          replace hA := Lib.hid hA
          cases hl2 : ltI x0 x2 with
          | true =>
            have t2 := cmpI_yes hl2
            rw [hl2, if_pos rfl] at hsf
            replace hsf := Lib.hid hsf
            clear hl2 q3 q4 hy0 hy1 hc1 hc2 hc3 hp0 hp1 hp2
            generalize cmpI x0 x2 = u2 at *
            refine go1 [] [] (cns k1 (cns k2 (cns Tryz.results144 trivial))) ?_
            refine ⟨by simp [*], hi - c2, by omega, c2, _, by omega, rfl, by simp, by rw [size_swp]; exact hs1, hsf.out, ?_⟩
            first | exact w1.out | simpa [*] using w1.out
          | false =>
            have t2 := cmpI_no hl2
            rw [hl2, if_neg (by simp)] at hsf
            subst hsf
            clear hl2 w1 hw q3 q4 hy0 hy1 hc1 hc2 hc3 hp0 hp1 hp2
            generalize cmpI x0 x2 = u2 at *
            refine go1 [] [] (cns k1 (cns k2 (cns Tryz.results144 trivial))) ?_
            all_goals exact ⟨rfl, hA.out⟩
        | false =>
          have t1 := cmpI_no hl1
          rw [sift_left (by omega) (by rw [hc1, hc3, hp1, hp2, hl1]; simp), hc1, hp0, hp1] at hsf
          clear hl1
          generalize cmpI d1[p1]! d1[p2]! = u1 at *
          generalize d1[p2]! = x2 at *
          generalize hy0 : d1[p0]! = x0 at *
          generalize hy1 : d1[p1]! = x1 at *
          have w1 := q4 p0 p1 x0 x1 (by omega) (by omega) hy0.symm hy1.symm
          have hw := wr_length c (off + p0 * 2) (cI x1) (by simp; omega)
          have k2 := keyCmp_spec x0 x1
          replace w1 := Lib.hid w1
          replace hA := Lib.hid hA
          cases hl2 : ltI x0 x1 with
          | true =>
            have t2 := cmpI_yes hl2
            rw [hl2, if_pos rfl] at hsf
            replace hsf := Lib.hid hsf
            clear hl2 q3 q4 hy0 hy1 hc1 hc2 hc3 hp0 hp1 hp2
            generalize cmpI x0 x1 = u2 at *
            refine go1 [] [] (cns k1 (cns k2 (cns Tryz.results144 trivial))) ?_
            refine ⟨by simp [*], hi - c1, by omega, c1, _, by omega, rfl, by simp, by rw [size_swp]; exact hs1, hsf.out, ?_⟩
            first | exact w1.out | simpa [*] using w1.out
          | false =>
            have t2 := cmpI_no hl2
            rw [hl2, if_neg (by simp)] at hsf
            subst hsf
            clear hl2 w1 hw q3 q4 hy0 hy1 hc1 hc2 hc3 hp0 hp1 hp2
            generalize cmpI x0 x1 = u2 at *
            refine go1 [] [] (cns k1 (cns k2 (cns Tryz.results144 trivial))) ?_
            all_goals exact ⟨rfl, hA.out⟩
      · rw [sift_left (by omega) (by omega), hc1, hp0, hp1] at hsf
        generalize hy0 : d1[p0]! = x0 at *
        generalize hy1 : d1[p1]! = x1 at *
        have w1 := q4 p0 p1 x0 x1 (by omega) (by omega) hy0.symm hy1.symm
        have hw := wr_length c (off + p0 * 2) (cI x1) (by simp; omega)
        have k2 := keyCmp_spec x0 x1
        replace w1 := Lib.hid w1
        replace hA := Lib.hid hA
        cases hl2 : ltI x0 x1 with
        | true =>
          have t2 := cmpI_yes hl2
          rw [hl2, if_pos rfl] at hsf
          replace hsf := Lib.hid hsf
          clear hl2 q3 q4 hy0 hy1 hc1 hc2 hc3 hp0 hp1 hp2
          generalize cmpI x0 x1 = u2 at *
          refine go1 [] [] (cns k2 (cns Tryz.results144 trivial)) ?_
          refine ⟨by simp [*], hi - c1, by omega, c1, _, by omega, rfl, by simp, by rw [size_swp]; exact hs1, hsf.out, ?_⟩
          first | exact w1.out | simpa [*] using w1.out
        | false =>
          have t2 := cmpI_no hl2
          rw [hl2, if_neg (by simp)] at hsf
          subst hsf
          clear hl2 w1 hw q3 q4 hy0 hy1 hc1 hc2 hc3 hp0 hp1 hp2
          generalize cmpI x0 x1 = u2 at *
          refine go1 [] [] (cns k2 (cns Tryz.results144 trivial)) ?_
          all_goals exact ⟨rfl, hA.out⟩
set_option maxHeartbeats 4000000 in
theorem sHeap_spec (σ0 : Sto) (i g off N : Nat) (d : Array Item) (hN : N ≤ 100000000) (a b : Nat) (hab : a ≤ b) (hbd : b ≤ d.size) (σ : Sto) (h : AtD σ0 i g off N d σ) :
    Spec Tryz.prog 118 [.ms i g off d.size 2, .sc (.int .i64 a), .sc (.int .i64 b), fCmp] σ (fun r s => r = .tup [] ∧ AtD σ0 i g off N (heapSort ltI d a b) s) := by
  have hdN : d.size ≤ N := by obtain ⟨_, _, _, _, h2, _⟩ := h; omega
  refine spec_intro Tryz.func118 good118 rfl (by simp [Tryz.ntmps118]) ?_
  obtain ⟨hi, hhi⟩ : ∃ hi, b - a = hi := ⟨_, rfl⟩
  have z0 : (b : Int) - a = (hi : Nat) := by omega
  have z1 : ((hi : Int) - 1).tdiv 2 = ((hi - 1) / 2 : Nat) := by
    rcases Nat.eq_zero_or_pos hi with h | h
    · subst h; rfl
    · rw [tdiv_nn (by omega)]; omega
  unfold heapSort
  rw [hhi]
  generalize hK : (hi - 1) / 2 = K at *
  have hKb : K ≤ d.size := by omega
  refine go1 [] [] (cns Tryz.results118 trivial) ?_
  refine tri_whl [0, 3, 8, 9, 10] (K + 1) (fun m e σ => ∃ d1 : Array Item, e 11 = .sc (.int .i64 ((m : Int) - 1)) ∧ d1.size = d.size ∧ heapBuild ltI hi a m d1 = heapBuild ltI hi a (K + 1) d ∧ AtD σ0 i g off N d1 σ) ?_ (fun m env' σ' hm hk hI => ?_)
  · exact ⟨K + 1, Nat.le_refl _, d, by simp, rfl, rfl, h⟩
  · skip
    (try simp at hk)
    obtain ⟨d1, h11, hs1, hbl, hA⟩ := hI
    clear h
    replace hbl := Lib.hid hbl
    rcases Nat.eq_zero_or_pos m with rfl | hp
    · have hbl := hbl.out
      rw [show heapBuild ltI hi a 0 d1 = d1 from rfl] at hbl
      rw [← hbl]
      clear hbl
      refine go1 [] [] (cns Tryz.results118 trivial) ?_
      refine tri_whl [0, 3, 8, 9] hi (fun m e σ => ∃ d2 : Array Item, e 12 = .sc (.int .i64 ((m : Int) - 1)) ∧ d2.size = d.size ∧ Go.Sort.heapPop ltI a m d2 = Go.Sort.heapPop ltI a hi d1 ∧ AtD σ0 i g off N d2 σ) ?_ (fun m env' σ' hm hk hI => ?_)
      · exact ⟨hi, Nat.le_refl _, d1, by simp, hs1, rfl, hA⟩
      · skip
        (try simp at hk)
        obtain ⟨d2, h12, hs2, hpp, hA2⟩ := hI
        clear hA
        rcases Nat.eq_zero_or_pos m with rfl | hp
        · rw [show Go.Sort.heapPop ltI a 0 d2 = d2 from rfl] at hpp
          subst hpp
          refine go1 [] [] (cns Tryz.results118 trivial) ?_
          exact ⟨rfl, hA2⟩
        · obtain ⟨k, rfl⟩ : ∃ n, m = n + 1 := ⟨m - 1, by omega⟩
          rw [Go.Sort.heapPop] at hpp
          obtain ⟨c, q1, q2, q3, q4⟩ := hA2.get
          obtain ⟨p1, hp1⟩ : ∃ p, a + k = p := ⟨_, rfl⟩
          rw [hp1] at hpp
          have y0 : (a : Int) + (k : Nat) = (p1 : Nat) := by omega
          have y1 : ((k + 1 : Nat) : Int) - 1 = (k : Nat) := by omega
          rw [y1] at h12
          have s0 := q3 a (by omega)
          have s1 := q3 p1 (by omega)
          generalize hy0 : d2[a]! = x0 at *
          generalize hy1 : d2[p1]! = x1 at *
          have w1 := q4 a p1 x0 x1 (by omega) (by omega) hy0.symm hy1.symm
          have hw := wr_length c (off + a * 2) (cI x1) (by simp; omega)
          have hsp := sSift_spec σ0 i g off N (swp d2 a p1) hN 0 k a (by rw [size_swp]; omega) (by omega) _ w1
          rw [size_swp, hs2] at hsp
          have hsz := sift_size ltI k a k 0 (swp d2 a p1) (by omega)
          rw [size_swp] at hsz
          generalize siftDown ltI k a 0 (swp d2 a p1) = d3 at *
          replace hpp := Lib.hid hpp
          clear w1 q3 q4 hy0 hy1 hA2
          refine go1 [] [] (cns Tryz.results118 trivial) ?_
          refine rwf_ca rfl fun C' hC hP => ?_
          clear hP
          (try simp [*, -List.all_eq_true]); (try (simp (disch := first | assumption | omega) only [wrap_id, wrapu_id, wrapb_id, tmod_nn, tdiv_nn, ite_yes, flatM_seg, flatM_0, flatM_1, flatM_2, flatI_seg, flatI_0, flatI_1, flatS_get]; (try simp [*, -List.all_eq_true])))
          refine hC.out _ _ _ (hsp) fun r s hq => ?_
          clear hC C'
          obtain ⟨rfl, hA3⟩ := hq
          clear hsp
          refine go1 [] [] (cns Tryz.results118 trivial) ?_
          exact ⟨by simp [*], k, by omega, d3, by simp, by omega, hpp.out, hA3⟩
    · obtain ⟨k, rfl⟩ : ∃ n, m = n + 1 := ⟨m - 1, by omega⟩
      have hbl := hbl.out
      rw [heapBuild] at hbl
      have y1 : ((k + 1 : Nat) : Int) - 1 = (k : Nat) := by omega
      rw [y1] at h11
      have hsp := sSift_spec σ0 i g off N d1 hN k hi a (by omega) (by omega) _ hA
      rw [hs1] at hsp
      have hsz := sift_size ltI hi a hi k d1 (by omega)
      generalize siftDown ltI hi a k d1 = d3 at *
      replace hbl := Lib.hid hbl
      clear hA
      refine go1 [] [] (cns Tryz.results118 trivial) ?_
      refine rwf_ca rfl fun C' hC hP => ?_
      clear hP
      (try simp [*, -List.all_eq_true]); (try (simp (disch := first | assumption | omega) only [wrap_id, wrapu_id, wrapb_id, tmod_nn, tdiv_nn, ite_yes, flatM_seg, flatM_0, flatM_1, flatM_2, flatI_seg, flatI_0, flatI_1, flatS_get]; (try simp [*, -List.all_eq_true])))
      refine hC.out _ _ _ (hsp) fun r s hq => ?_
      clear hC C'
      obtain ⟨rfl, hA3⟩ := hq
      clear hsp
      refine go1 [] [] (cns Tryz.results118 trivial) ?_
      exact ⟨by simp [*], k, by omega, d3, by simp, by omega, hbl.out, hA3⟩
theorem rev_step {i j : Nat} {d : Array Item} (h : i < j) : reverseLoop i j d = reverseLoop (i + 1) (j - 1) (swp d i j) := by rw [reverseLoop, if_pos h]
theorem rev_stop {i j : Nat} {d : Array Item} (h : ¬ i < j) : reverseLoop i j d = d := by rw [reverseLoop, if_neg h]
set_option maxHeartbeats 4000000 in
theorem sRev_spec (σ0 : Sto) (i g off N : Nat) (d : Array Item) (hN : N ≤ 100000000) (a b : Nat) (hab : a < b) (hbd : b ≤ d.size) (σ : Sto) (h : AtD σ0 i g off N d σ) :
    Spec Tryz.prog 121 [.ms i g off d.size 2, .sc (.int .i64 a), .sc (.int .i64 b), fCmp] σ (fun r s => r = .tup [] ∧ AtD σ0 i g off N (reverseRange d a b) s) := by
  have hdN : d.size ≤ N := by obtain ⟨_, _, _, _, h2, _⟩ := h; omega
  refine spec_intro Tryz.func121 good121 rfl (by simp [Tryz.ntmps121]) ?_
  unfold reverseRange
  obtain ⟨b, rfl⟩ : ∃ n, b = n + 1 := ⟨b - 1, by omega⟩
  rw [Nat.add_sub_cancel]
  have y1 : ((b + 1 : Nat) : Int) - 1 = (b : Nat) := by omega
  generalize hbb : b + 1 = B at *
  refine go1 [] [] (cns Tryz.results121 trivial) ?_
  refine tri_whl [0] d.size (fun m e σ => ∃ (p q : Nat) (d1 : Array Item), a ≤ p ∧ q ≤ b ∧ p ≤ q + 1 ∧ m = q - p ∧ e 8 = .sc (.int .i64 p) ∧ e 9 = .sc (.int .i64 q) ∧ d1.size = d.size ∧ reverseLoop p q d1 = reverseLoop a b d ∧ AtD σ0 i g off N d1 σ) ?_ (fun m env' σ' hm hk hI => ?_)
  · exact ⟨b - a, by omega, a, b, d, Nat.le_refl _, Nat.le_refl _, by omega, rfl, by simp, by simp, rfl, rfl, h⟩
  · skip
    (try simp at hk)
    obtain ⟨p, q, d1, hap, hqb, hpq, hmm, h8, h9, hs1, hrv, hA⟩ := hI
    clear h
    by_cases hlt : p < q
    · rw [rev_step hlt] at hrv
      obtain ⟨c, q1, q2, q3, q4⟩ := hA.get
      have s0 := q3 p (by omega)
      have s1 := q3 q (by omega)
      generalize hy0 : d1[p]! = x0 at *
      generalize hy1 : d1[q]! = x1 at *
      have w1 := q4 p q x0 x1 (by omega) (by omega) hy0.symm hy1.symm
      have hw := wr_length c (off + p * 2) (cI x1) (by simp; omega)
      replace hrv := Lib.hid hrv
      replace w1 := Lib.hid w1
      clear q3 q4 hy0 hy1 hA
      refine go1 [] [] (cns Tryz.results121 trivial) ?_
      refine ⟨by simp [*], q - 1 - (p + 1), by omega, p + 1, q - 1, _, by omega, by omega, by omega, rfl, by simp, by simp; omega, by rw [size_swp]; exact hs1, hrv.out, ?_⟩
      first | exact w1.out | simpa [*] using w1.out
    · rw [rev_stop hlt] at hrv
      subst hrv
      refine go1 [] [] (cns Tryz.results121 trivial) ?_
      exact ⟨rfl, hA⟩
end Go.Proofs.YtejgopcicenbeaaGreat
