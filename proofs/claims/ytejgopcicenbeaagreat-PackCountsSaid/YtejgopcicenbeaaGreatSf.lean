/- Go's sort of items: a pivot. What is told of it: it lies in the range. -/
import Derived.Test.YtejgopcicenbeaaGreatSe
import Derived.Test.YtejgopcicenbeaaGreatLw
namespace Go.Proofs.YtejgopcicenbeaaGreat
open Go.RowKit Go.Sort
set_option linter.unusedSimpArgs false
set_option maxRecDepth 10000
/-- The row d is read in object i. -/
def RdD (i g off : Nat) (d : Array Item) (σ : Sto) : Prop := ∃ c : List AV, σ[i]? = some ⟨c, g, false, false⟩ ∧ off + d.size * 2 ≤ c.length ∧ ∀ k, k < d.size → List.take 2 (List.drop (off + k * 2) c) = cI d[k]!
def swO (z : Int) : MO := ⟨[.sc (.int .i64 z)], 0, false, false⟩
theorem AtD.rd {σ0 : Sto} {i g off N : Nat} {d : Array Item} {σ : Sto} (h : AtD σ0 i g off N d σ) : RdD i g off d σ := by
  obtain ⟨c, h1, h2, h3, _⟩ := h.get
  exact ⟨c, h1, h2, h3⟩
section
variable {σ1 : Sto} {i g off p : Nat} {d : Array Item}
set_option maxHeartbeats 2000000 in
theorem sOrd_spec (hR : RdD i g off d σ1) (hp : p < σ1.length) (hpi : p ≠ i) (a b : Nat) (ha : a < d.size) (hbd : b < d.size) (z : Int) :
    Spec Tryz.prog 166 [.ms i g off d.size 2, .sc (.int .i64 a), .sc (.int .i64 b), .mp p 0 0, fCmp] (σ1.set p (swO z)) (fun r s => ∃ (x y : Nat) (z' : Int), r = .tup [.sc (.int .i64 x), .sc (.int .i64 y)] ∧ (x = a ∧ y = b ∨ x = b ∧ y = a) ∧ s = σ1.set p (swO z')) := by
  obtain ⟨c, q1, q2, q3⟩ := hR
  have sa := q3 a ha
  have sb := q3 b hbd
  have hτi : (σ1.set p (swO z))[i]? = some ⟨c, g, false, false⟩ := by rw [List.getElem?_set_ne hpi]; exact q1
  have hτp : (σ1.set p (swO z))[p]? = some ⟨[.sc (.int .i64 z)], 0, false, false⟩ := by rw [List.getElem?_set_self hp]; rfl
  have hset : ∀ Y, (σ1.set p (swO z)).set p Y = σ1.set p Y := fun Y => List.set_set ..
  have hself := (⟨z, rfl⟩ : ∃ z', σ1.set p (swO z) = σ1.set p (swO z'))
  generalize σ1.set p (swO z) = τ at *
  replace hset := Lib.hid hset
  replace hself := Lib.hid hself
  unfold fCmp
  refine spec_intro Tryz.func166 good166 rfl (by simp [Tryz.ntmps166]) ?_
  generalize d[a]! = x at *
  generalize d[b]! = y at *
  have k1 := keyCmp_spec y x
  clear q1 q3 hp
  cases hl : ltI y x with
  | true =>
    have t1 := cmpI_yes hl
    generalize cmpI y x = u at *
    refine go1 [] [] (cns k1 (cns Tryz.results166 trivial)) ?_
    refine ⟨b, a, IntKind.i64.wrap (z + 1), rfl, .inr ⟨rfl, rfl⟩, ?_⟩
    rw [hset.out]; rfl
  | false =>
    have t1 := cmpI_no hl
    generalize cmpI y x = u at *
    refine go1 [] [] (cns k1 (cns Tryz.results166 trivial)) ?_
    obtain ⟨z', hz⟩ := hself.out
    exact ⟨a, b, z', rfl, .inl ⟨rfl, rfl⟩, hz⟩
set_option maxHeartbeats 2000000 in
theorem sMed_spec (hR : RdD i g off d σ1) (hp : p < σ1.length) (hpi : p ≠ i) (a b e : Nat) (ha : a < d.size) (hbd : b < d.size) (he : e < d.size) (z : Int) :
    Spec Tryz.prog 148 [.ms i g off d.size 2, .sc (.int .i64 a), .sc (.int .i64 b), .sc (.int .i64 e), .mp p 0 0, fCmp] (σ1.set p (swO z)) (fun r s => ∃ (x : Nat) (z' : Int), r = .sc (.int .i64 x) ∧ (x = a ∨ x = b ∨ x = e) ∧ s = σ1.set p (swO z')) := by
  refine spec_intro Tryz.func148 good148 rfl (by simp [Tryz.ntmps148]) ?_
  have o1 := sOrd_spec hR hp hpi a b ha hbd z
  generalize σ1.set p (swO z) = τ at *
  refine go1 [] [] (cns Tryz.results148 trivial) ?_
  refine rwf_ca rfl fun C' hC hP => ?_
  clear hP
  (try simp [*, -List.all_eq_true]); (try (simp (disch := first | assumption | omega) only [wrap_id, wrapu_id, wrapb_id, tmod_nn, tdiv_nn, ite_yes, flatM_seg, flatM_0, flatM_1, flatM_2, flatI_seg, flatI_0, flatI_1, flatS_get]; (try simp [*, -List.all_eq_true])))
  refine hC.out _ _ _ (o1) fun r s1 hq => ?_
  clear hC C'
  obtain ⟨x1, y1, z1, rfl, h1, rfl⟩ := hq
  clear o1
  have hx1 : x1 < d.size := by omega
  have hy1 : y1 < d.size := by omega
  have o2 := sOrd_spec hR hp hpi y1 e hy1 he z1
  generalize σ1.set p (swO z1) = τ1 at *
  refine go1 [] [] (cns Tryz.results148 trivial) ?_
  refine rwf_ca rfl fun C' hC hP => ?_
  clear hP
  (try simp [*, -List.all_eq_true]); (try (simp (disch := first | assumption | omega) only [wrap_id, wrapu_id, wrapb_id, tmod_nn, tdiv_nn, ite_yes, flatM_seg, flatM_0, flatM_1, flatM_2, flatI_seg, flatI_0, flatI_1, flatS_get]; (try simp [*, -List.all_eq_true])))
  refine hC.out _ _ _ (o2) fun r s2 hq => ?_
  clear hC C'
  obtain ⟨x2, y2, z2, rfl, h2, rfl⟩ := hq
  clear o2
  have hx2 : x2 < d.size := by omega
  have o3 := sOrd_spec hR hp hpi x1 x2 hx1 hx2 z2
  generalize hτ2 : σ1.set p (swO z2) = τ2 at *
  refine go1 [] [] (cns Tryz.results148 trivial) ?_
  refine rwf_ca rfl fun C' hC hP => ?_
  clear hP
  (try simp [*, -List.all_eq_true]); (try (simp (disch := first | assumption | omega) only [wrap_id, wrapu_id, wrapb_id, tmod_nn, tdiv_nn, ite_yes, flatM_seg, flatM_0, flatM_1, flatM_2, flatI_seg, flatI_0, flatI_1, flatS_get]; (try simp [*, -List.all_eq_true])))
  refine hC.out _ _ _ (o3) fun r s3 hq => ?_
  clear hC C'
  obtain ⟨x3, y3, z3, rfl, h3, rfl⟩ := hq
  clear o3
  have hy3 : y3 = a ∨ y3 = b ∨ y3 = e := by omega
  clear h1 h2 h3 hx1 hy1 hx2 ha hbd he
  obtain ⟨τ3, hτ3⟩ : ∃ τ3, σ1.set p (swO z3) = τ3 := ⟨_, rfl⟩
  rw [hτ3]
  replace hτ3 := Lib.hid hτ3
  clear hτ2
  replace hy3 := Lib.hid hy3
  refine go1 [] [] (cns Tryz.results148 trivial) ?_
  exact ⟨y3, z3, rfl, hy3.out, hτ3.out.symm⟩
set_option maxHeartbeats 2000000 in
theorem sAdj_spec (hN : d.size ≤ 100000000) (hR : RdD i g off d σ1) (hp : p < σ1.length) (hpi : p ≠ i) (a : Nat) (ha : 1 ≤ a) (hbd : a + 1 < d.size) (z : Int) :
    Spec Tryz.prog 147 [.ms i g off d.size 2, .sc (.int .i64 a), .mp p 0 0, fCmp] (σ1.set p (swO z)) (fun r s => ∃ (x : Nat) (z' : Int), r = .sc (.int .i64 x) ∧ a ≤ x + 1 ∧ x ≤ a + 1 ∧ s = σ1.set p (swO z')) := by
  refine spec_intro Tryz.func147 good147 rfl (by simp [Tryz.ntmps147]) ?_
  obtain ⟨q, rfl⟩ : ∃ q, a = q + 1 := ⟨a - 1, by omega⟩
  have y1 : ((q + 1 : Nat) : Int) - 1 = (q : Nat) := by omega
  have y2 : ((q + 1 : Nat) : Int) + 1 = (q + 2 : Nat) := by omega
  have o1 := sMed_spec hR hp hpi q (q + 1) (q + 2) (by omega) (by omega) (by omega) z
  generalize hq1 : q + 1 = q1 at *
  generalize hq2 : q + 2 = q2 at *
  generalize σ1.set p (swO z) = τ at *
  refine go1 [] [] (cns Tryz.results147 trivial) ?_
  refine rwf_ca rfl fun C' hC hP => ?_
  clear hP
  (try simp [*, -List.all_eq_true]); (try (simp (disch := first | assumption | omega) only [wrap_id, wrapu_id, wrapb_id, tmod_nn, tdiv_nn, ite_yes, flatM_seg, flatM_0, flatM_1, flatM_2, flatI_seg, flatI_0, flatI_1, flatS_get]; (try simp [*, -List.all_eq_true])))
  refine hC.out _ _ _ (o1) fun r s1 hq => ?_
  clear hC C'
  obtain ⟨x, z1, rfl, h1, rfl⟩ := hq
  clear o1
  have h2 : q1 ≤ x + 1 := by omega
  have h3 : x ≤ q1 + 1 := by omega
  clear h1
  obtain ⟨τ3, hτ3⟩ : ∃ τ3, σ1.set p (swO z1) = τ3 := ⟨_, rfl⟩
  rw [hτ3]
  replace hτ3 := Lib.hid hτ3
  refine go1 [] [] (cns Tryz.results147 trivial) ?_
  exact ⟨x, z1, rfl, h2, h3, hτ3.out.symm⟩
end
set_option maxHeartbeats 4000000 in
theorem sPiv_spec (i g off : Nat) (d : Array Item) (hN : d.size ≤ 100000000) (a b : Nat) (hab : a < b) (hbd : b ≤ d.size) (σ : Sto) (hi : i < σ.length) (hR : RdD i g off d σ) :
    Spec Tryz.prog 120 [.ms i g off d.size 2, .sc (.int .i64 a), .sc (.int .i64 b), fCmp] σ (fun r s => ∃ (x : Nat) (h z : Int), r = .tup [.sc (.int .i64 x), .sc (.int .i64 h)] ∧ a ≤ x ∧ x < b ∧ s = σ ++ [swO z]) := by
  obtain ⟨l, hl⟩ : ∃ l, b - a = l := ⟨_, rfl⟩
  have y0 : (b : Int) - a = (l : Nat) := by omega
  obtain ⟨w, hw⟩ : ∃ w, l / 4 = w := ⟨_, rfl⟩
  have y1 : (l : Int).tdiv 4 = (w : Nat) := by rw [tdiv_nn (by omega)]; omega
  obtain ⟨j1, hj1⟩ : ∃ j, a + w * 1 = j := ⟨_, rfl⟩
  obtain ⟨j2, hj2⟩ : ∃ j, a + w * 2 = j := ⟨_, rfl⟩
  obtain ⟨j3, hj3⟩ : ∃ j, a + w * 3 = j := ⟨_, rfl⟩
  have y2 : (a : Int) + (w : Nat) = (j1 : Nat) := by omega
  have y3 : (a : Int) + (w : Nat) * 2 = (j2 : Nat) := by omega
  have y4 : (a : Int) + (w : Nat) * 3 = (j3 : Nat) := by omega
  have hset : ∀ z, (σ ++ [swO 0]).set σ.length (swO z) = σ ++ [swO z] := fun z => by rw [List.set_append_right _ _ (Nat.le_refl _)]; simp
  have hR1 : RdD i g off d (σ ++ [swO 0]) := by
    obtain ⟨c, q1, q2, q3⟩ := hR
    exact ⟨c, by rw [List.getElem?_append_left hi]; exact q1, q2, q3⟩
  have hp : σ.length < (σ ++ [swO 0]).length := by simp
  have hpi : σ.length ≠ i := by omega
  have hst : ∀ z, (σ ++ [swO z])[σ.length]? = some ⟨[.sc (.int .i64 z)], 0, false, false⟩ := fun z => by simp [swO]
  refine spec_intro Tryz.func120 good120 rfl (by simp [Tryz.ntmps120]) ?_
  have hin1 : 8 ≤ l → a ≤ j1 ∧ j1 < b ∧ a ≤ j2 ∧ j2 < b ∧ a ≤ j3 ∧ j3 < b := fun h => by omega
  have hin2 : a ≤ j2 ∧ j2 < b := by omega
  have hin3 : 50 ≤ l → a + 2 ≤ j1 ∧ j1 + 2 < b ∧ a + 2 ≤ j2 ∧ j2 + 2 < b ∧ a + 2 ≤ j3 ∧ j3 + 2 < b := fun h => by omega
  have md := fun u1 u2 u3 h1 h2 h3 z => sMed_spec hR1 hp hpi u1 u2 u3 h1 h2 h3 z
  have aj := fun u1 h1 h2 z => sAdj_spec hN hR1 hp hpi u1 h1 h2 z
  have e0 : (σ ++ [swO 0]) = σ ++ [⟨[.sc (.int .i64 0)], 0, false, false⟩] := rfl
  simp only [hset] at md aj
  clear hR hR1 hset hp hj1 hj2 hj3 hw e0
  replace md := Lib.hid md
  replace aj := Lib.hid aj
  replace hst := Lib.hid hst
  by_cases h8 : 8 ≤ l
  · obtain ⟨u1, u2, u3, u4, u5, u6⟩ := hin1 h8
    by_cases h50 : 50 ≤ l
    · obtain ⟨v1, v2, v3, v4, v5, v6⟩ := hin3 h50
      clear hin1 hin3 hin2
      have o1 := aj.out j1 (by omega) (by omega) 0
      have hs0 := hst.out 0
      unfold swO at o1
      refine go1 [11] [] (cns Tryz.results120 trivial) ?_
      refine rwf_ca rfl fun C' hC hP => ?_
      clear hP
      (try simp [*, -List.all_eq_true]); (try (simp (disch := first | assumption | omega) only [wrap_id, wrapu_id, wrapb_id, tmod_nn, tdiv_nn, ite_yes, flatM_seg, flatM_0, flatM_1, flatM_2, flatI_seg, flatI_0, flatI_1, flatS_get]; (try simp [*, -List.all_eq_true])))
      refine hC.out _ _ _ (o1) fun r s1 hq => ?_
      clear hC C'
      obtain ⟨x1, z1, rfl, k1, k2, rfl⟩ := hq
      have o2 := aj.out j2 (by omega) (by omega) z1
      clear o1 hs0
      unfold swO at o2
      try unfold swO
      refine go1 [11] [] (cns Tryz.results120 trivial) ?_
      refine rwf_ca rfl fun C' hC hP => ?_
      clear hP
      (try simp [*, -List.all_eq_true]); (try (simp (disch := first | assumption | omega) only [wrap_id, wrapu_id, wrapb_id, tmod_nn, tdiv_nn, ite_yes, flatM_seg, flatM_0, flatM_1, flatM_2, flatI_seg, flatI_0, flatI_1, flatS_get]; (try simp [*, -List.all_eq_true])))
      refine hC.out _ _ _ (o2) fun r s2 hq => ?_
      clear hC C'
      obtain ⟨x2, z2, rfl, k3, k4, rfl⟩ := hq
      have o3 := aj.out j3 (by omega) (by omega) z2
      clear o2
      unfold swO at o3
      try unfold swO
      refine go1 [11] [] (cns Tryz.results120 trivial) ?_
      refine rwf_ca rfl fun C' hC hP => ?_
      clear hP
      (try simp [*, -List.all_eq_true]); (try (simp (disch := first | assumption | omega) only [wrap_id, wrapu_id, wrapb_id, tmod_nn, tdiv_nn, ite_yes, flatM_seg, flatM_0, flatM_1, flatM_2, flatI_seg, flatI_0, flatI_1, flatS_get]; (try simp [*, -List.all_eq_true])))
      refine hC.out _ _ _ (o3) fun r s3 hq => ?_
      clear hC C'
      obtain ⟨x3, z3, rfl, k5, k6, rfl⟩ := hq
      have o4 := md.out x1 x2 x3 (by omega) (by omega) (by omega) z3
      clear o3
      unfold swO at o4
      try unfold swO
      refine go1 [11] [] (cns Tryz.results120 trivial) ?_
      refine rwf_ca rfl fun C' hC hP => ?_
      clear hP
      (try simp [*, -List.all_eq_true]); (try (simp (disch := first | assumption | omega) only [wrap_id, wrapu_id, wrapb_id, tmod_nn, tdiv_nn, ite_yes, flatM_seg, flatM_0, flatM_1, flatM_2, flatI_seg, flatI_0, flatI_1, flatS_get]; (try simp [*, -List.all_eq_true])))
      refine hC.out _ _ _ (o4) fun r s4 hq => ?_
      clear hC C'
      obtain ⟨x4, z4, rfl, k7, rfl⟩ := hq
      clear o4
      have w1 : a ≤ x4 := by omega
      have w2 : x4 < b := by omega
      have hs4 := hst.out z4
      clear k1 k2 k3 k4 k5 k6 k7 u1 u2 u3 u4 u5 u6 v1 v2 v3 v4 v5 v6
      unfold swO at hs4
      try unfold swO
      repeat' (first
       | (with_reducible first | refine Stp.pf ?_ | refine block_x (by decide) ?_ | refine ret_n ?_)
       | refine tri_reg [11] ?_ | refine tri_regc [11] [] mixed (by decide +kernel) ?_
       | (refine rwf_nilt rfl (by decide +kernel) fun B hB => ?_; (try simp [*]); refine hB.out _ fun b => ?_; clear hB B)
       | (refine Rul.pf ⟨rfl, rfl⟩ fun B C hB => ?_; (try simp [*, -List.all_eq_true, Tryz.results120]); (try (simp (disch := first | assumption | omega) only [wc, ite_yes]; (try simp [*, -List.all_eq_true, Tryz.results120]))); first | (first | refine hB.out.1 _ (fun hb => ?_) fun hb => ⟨rfl, ?_⟩ | refine hB.out.1 _ (fun hb => ?_) fun hb => ?_) <;> clear hB C B <;> (try simp only [Bool.not_true, Bool.not_false] at hb) <;> (first | (exfalso; simp at hb; done) | (exfalso; simp at hb; omega) | (rw [hb]; (try simp at hb)) | (try simp at hb)) | ((first | refine hB.out.1 _ _ ?_ | refine hB.out.1 _ ?_ | refine hB.out.2 ⟨rfl, ?_⟩); clear hB C B) | (refine hB.out.2 _ ?_; clear hB C B; (try rfl)))
       | refine rwf_o ?_ | refine rwc_o .n rfl ?_ | refine rwc_o .z rfl ?_ | refine rwc_o .w rfl ?_ | refine rwc_o .b rfl ?_ | refine rwc_o _ rfl ?_)
      all_goals exact ⟨x4, _, _, rfl, w1, w2, rfl⟩
    · clear hin1 hin3 hin2
      have o4 := md.out j1 j2 j3 (by omega) (by omega) (by omega) 0
      have hs0 := hst.out 0
      unfold swO at o4
      refine go1 [11] [] (cns Tryz.results120 trivial) ?_
      refine rwf_ca rfl fun C' hC hP => ?_
      clear hP
      (try simp [*, -List.all_eq_true]); (try (simp (disch := first | assumption | omega) only [wrap_id, wrapu_id, wrapb_id, tmod_nn, tdiv_nn, ite_yes, flatM_seg, flatM_0, flatM_1, flatM_2, flatI_seg, flatI_0, flatI_1, flatS_get]; (try simp [*, -List.all_eq_true])))
      refine hC.out _ _ _ (o4) fun r s4 hq => ?_
      clear hC C'
      obtain ⟨x4, z4, rfl, k7, rfl⟩ := hq
      clear o4
      have w1 : a ≤ x4 := by omega
      have w2 : x4 < b := by omega
      have hs4 := hst.out z4
      clear k7 u1 u2 u3 u4 u5 u6
      unfold swO at hs4
      try unfold swO
      repeat' (first
       | (with_reducible first | refine Stp.pf ?_ | refine block_x (by decide) ?_ | refine ret_n ?_)
       | refine tri_reg [11] ?_ | refine tri_regc [11] [] mixed (by decide +kernel) ?_
       | (refine rwf_nilt rfl (by decide +kernel) fun B hB => ?_; (try simp [*]); refine hB.out _ fun b => ?_; clear hB B)
       | (refine Rul.pf ⟨rfl, rfl⟩ fun B C hB => ?_; (try simp [*, -List.all_eq_true, Tryz.results120]); (try (simp (disch := first | assumption | omega) only [wc, ite_yes]; (try simp [*, -List.all_eq_true, Tryz.results120]))); first | (first | refine hB.out.1 _ (fun hb => ?_) fun hb => ⟨rfl, ?_⟩ | refine hB.out.1 _ (fun hb => ?_) fun hb => ?_) <;> clear hB C B <;> (try simp only [Bool.not_true, Bool.not_false] at hb) <;> (first | (exfalso; simp at hb; done) | (exfalso; simp at hb; omega) | (rw [hb]; (try simp at hb)) | (try simp at hb)) | ((first | refine hB.out.1 _ _ ?_ | refine hB.out.1 _ ?_ | refine hB.out.2 ⟨rfl, ?_⟩); clear hB C B) | (refine hB.out.2 _ ?_; clear hB C B; (try rfl)))
       | refine rwf_o ?_ | refine rwc_o .n rfl ?_ | refine rwc_o .z rfl ?_ | refine rwc_o .w rfl ?_ | refine rwc_o .b rfl ?_ | refine rwc_o _ rfl ?_)
      all_goals exact ⟨x4, _, _, rfl, w1, w2, rfl⟩
  · clear hin1 hin3
    have hs0 := hst.out 0
    unfold swO at hs0
    refine go1 [11] [] (cns Tryz.results120 trivial) ?_
    all_goals exact ⟨j2, _, _, rfl, hin2.1, hin2.2, rfl⟩
end Go.Proofs.YtejgopcicenbeaaGreat
