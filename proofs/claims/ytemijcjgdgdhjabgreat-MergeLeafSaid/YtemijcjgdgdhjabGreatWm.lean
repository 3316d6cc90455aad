/- Merging: runs as cells; the heads' methods; check, worst. -/
import Derived.Test.YtemijcjgdgdhjabGreatWl
import Derived.Test.YtemijcjgdgdhjabGreatWq
namespace Go.Proofs.YtemijcjgdgdhjabGreat
open Go.RowKit
set_option linter.unusedSimpArgs false
set_option maxRecDepth 10000
abbrev Run := List Msg × Int
instance : Inhabited Run := ⟨([], 0)⟩
/-- A run, as cells. -/
def cU (r : Run) : List AV := [.fs (flatM r.1) r.1.length, .sc (.int .i64 r.2)]
def flatU (l : List Run) : List AV := flatC cU l
@[simp] theorem cU_length (m : Run) : (cU m).length = 2 := rfl
@[simp] theorem cU_flat (r : Run) : flatL (cU r) = true := by simp [cU, flatL, AV.flat]
@[simp] theorem cU_one (r : Run) : (cU r).all AV.one = true := by simp [cU, AV.one]
@[simp] theorem take_cU (r : Run) : List.take 2 (cU r) = cU r := rfl
@[simp] theorem flatU_length (l : List Run) : (flatU l).length = l.length * 2 := flatC_length cU_length l
@[simp] theorem flatU_flat (l : List Run) : flatL (flatU l) = true := flatC_flat cU_flat l
@[simp] theorem flatU_one (l : List Run) : (flatU l).all AV.one = true := flatC_one' cU_one l
theorem flatU_0 (l : List Run) (k : Nat) (h : k < l.length) : (flatU l)[k * 2]? = some (.fs (flatM l[k].1) l[k].1.length) := flatC_get cU_length l k 0 h (by omega)
theorem flatU_1 (l : List Run) (k : Nat) (h : k < l.length) : (flatU l)[k * 2 + 1]? = some (.sc (.int .i64 l[k].2)) := flatC_get cU_length l k 1 h (by omega)
@[simp] theorem flatU_at0 (l : List Run) (k : Nat) (h : k * 2 < (flatU l).length) : (flatU l)[k * 2] = .fs (flatM (l[k]'(by simp at h; omega)).1) (l[k]'(by simp at h; omega)).1.length := by
  have h' : k < l.length := by simp at h; omega
  have := flatU_0 l k h'
  rw [List.getElem?_eq_getElem h] at this
  exact Option.some.inj this
theorem flatU_append (l m : List Run) : flatU (l ++ m) = flatU l ++ flatU m := flatC_append l m
def headK (r : Run) : Str := (r.1.headD zeroM).key
/-- The least key first, of several the eldest. -/
def lessU (x y : Run) : Bool := slt (headK x) (headK y) || (decide (headK x = headK y) && decide (x.2 < y.2))
theorem flatM_head (l : List Msg) (h : 0 < l.length) : (flatM l)[1]? = some (.sc (.string (l.headD zeroM).key)) := by
  cases l with
  | nil => simp at h
  | cons x l => rfl
theorem hdLess_spec (l : List Run) (hn : ∀ r ∈ l, 0 < r.1.length) (i j : Nat) (hi : i < l.length) (hj : j < l.length) : PSpec Tryz.prog 117 [.fs (flatU l) l.length, .sc (.int .i64 i), .sc (.int .i64 j)] (.sc (.bool (lessU l[i] l[j]))) := by
  have a1 := flatU_0 l i hi
  have a2 := flatU_1 l i hi
  have b1 := flatU_0 l j hj
  have b2 := flatU_1 l j hj
  have n1 := hn _ (List.getElem_mem hi)
  have n2 := hn _ (List.getElem_mem hj)
  have c1 := flatM_head _ n1
  have c2 := flatM_head _ n2
  refine spec_pure (by simp) (by simp) ?_
  refine spec_intro Tryz.func117 good117 rfl (by simp [Tryz.ntmps117]) ?_
  repeat' (first
   | (with_reducible first | refine Stp.pf ?_ | refine block_x (by decide) ?_ | refine ret_n ?_)
   | refine tri_reg [] ?_ | refine tri_regc [] [] mixed (by decide +kernel) ?_
   | (refine rwf_nilt rfl (by decide +kernel) fun B hB => ?_; (try simp [*]); refine hB.out _ fun b => ?_; clear hB B)
   | (refine Rul.pf ⟨rfl, rfl⟩ fun B C hB => ?_; (try simp [*, -List.all_eq_true, Tryz.results117]); (try (simp (disch := first | assumption | omega) only [wc, ite_yes]; (try simp [*, -List.all_eq_true, Tryz.results117]))); first | (first | refine hB.out.1 _ (fun hb => ?_) fun hb => ⟨rfl, ?_⟩ | refine hB.out.1 _ (fun hb => ?_) fun hb => ?_) <;> clear hB C B <;> (try simp only [Bool.not_true, Bool.not_false] at hb) <;> (first | (exfalso; simp at hb; done) | (exfalso; simp at hb; omega) | (rw [hb]; (try simp at hb)) | (try simp at hb)) | ((first | refine hB.out.1 _ _ ?_ | refine hB.out.1 _ ?_ | refine hB.out.2 ⟨rfl, ?_⟩); clear hB C B) | (refine hB.out.2 _ ?_; clear hB C B; (try rfl)))
   | refine rwf_o ?_ | refine rwc_o .n rfl ?_ | refine rwc_o .z rfl ?_ | refine rwc_o .w rfl ?_ | refine rwc_o .b rfl ?_ | refine rwc_o _ rfl ?_)
  all_goals (try simp_all [lessU, headK])
theorem hdLen_spec (l : List Run) : PSpec Tryz.prog 116 [.fs (flatU l) l.length] (.sc (.int .i64 l.length)) := by
  refine spec_pure (by simp) (by simp) ?_
  refine spec_intro Tryz.func116 good116 rfl (by simp [Tryz.ntmps116]) ?_
  repeat' (first
   | (with_reducible first | refine Stp.pf ?_ | refine block_x (by decide) ?_ | refine ret_n ?_)
   | refine tri_reg [] ?_ | refine tri_regc [] [] mixed (by decide +kernel) ?_
   | (refine rwf_nilt rfl (by decide +kernel) fun B hB => ?_; (try simp [*]); refine hB.out _ fun b => ?_; clear hB B)
   | (refine Rul.pf ⟨rfl, rfl⟩ fun B C hB => ?_; (try simp [*, -List.all_eq_true, Tryz.results116]); (try (simp (disch := first | assumption | omega) only [wc, ite_yes]; (try simp [*, -List.all_eq_true, Tryz.results116]))); first | (first | refine hB.out.1 _ (fun hb => ?_) fun hb => ⟨rfl, ?_⟩ | refine hB.out.1 _ (fun hb => ?_) fun hb => ?_) <;> clear hB C B <;> (try simp only [Bool.not_true, Bool.not_false] at hb) <;> (first | (exfalso; simp at hb; done) | (exfalso; simp at hb; omega) | (rw [hb]; (try simp at hb)) | (try simp at hb)) | ((first | refine hB.out.1 _ _ ?_ | refine hB.out.1 _ ?_ | refine hB.out.2 ⟨rfl, ?_⟩); clear hB C B) | (refine hB.out.2 _ ?_; clear hB C B; (try rfl)))
   | refine rwf_o ?_ | refine rwc_o .n rfl ?_ | refine rwc_o .z rfl ?_ | refine rwc_o .w rfl ?_ | refine rwc_o .b rfl ?_ | refine rwc_o _ rfl ?_)
/-- Where heads stand. -/
def HeadsAt (p : Nat) (l : List Run) (σ : Sto) : Prop := l.length ≤ 500000 ∧ (∀ r ∈ l, 0 < r.1.length ∧ r.1.length ≤ 500000) ∧ ∃ v fu, σ[p]? = some ⟨[v], 0, false, fu⟩ ∧ RowAt 2 p σ v l.length (flatU l)
theorem hdSwap_spec (l : List Run) (i j : Nat) (hi : i < l.length) (hj : j < l.length) (σ : Sto) (q g off : Nat) (c : List AV) (h1 : σ[q]? = some ⟨c, g, false, false⟩) (h2 : off + l.length * 2 ≤ c.length) (h3 : (c.drop off).take (l.length * 2) = flatU l) :
    Spec Tryz.prog 118 [.ms q g off l.length 2, .sc (.int .i64 i), .sc (.int .i64 j)] σ (fun r s => r = .tup [] ∧ ∃ c', s = σ.set q ⟨c', g, false, false⟩ ∧ c'.length = c.length ∧ (c'.drop off).take (l.length * 2) = flatU (swapG l i j)) := by
  have seg : ∀ (k : Nat) (h : k < l.length), List.take 2 (List.drop (off + k * 2) c) = cU l[k] := fun k h => by
    rw [← flatC_seg cU_length l k h, show flatC cU l = flatU l from rfl, ← h3, List.drop_take, List.take_take, List.drop_drop]
    congr 1; omega
  have si := seg i hi
  have sj := seg j hj
  have hw := wr_length c (off + i * 2) (cU l[j]) (by simp; omega)
  refine spec_intro Tryz.func118 good118 rfl (by simp [Tryz.ntmps118]) ?_
  clear seg
  repeat' (first
   | (with_reducible first | refine Stp.pf ?_ | refine block_x (by decide) ?_ | refine ret_n ?_)
   | refine tri_reg [] ?_ | refine tri_regc [] [] mixed (by decide +kernel) ?_
   | (refine rwf_nilt rfl (by decide +kernel) fun B hB => ?_; (try simp [*]); refine hB.out _ fun b => ?_; clear hB B)
   | (refine Rul.pf ⟨rfl, rfl⟩ fun B C hB => ?_; (try simp [*, -List.all_eq_true, Tryz.results118]); (try (simp (disch := first | assumption | omega) only [wc, ite_yes]; (try simp [*, -List.all_eq_true, Tryz.results118]))); first | (first | refine hB.out.1 _ (fun hb => ?_) fun hb => ⟨rfl, ?_⟩ | refine hB.out.1 _ (fun hb => ?_) fun hb => ?_) <;> clear hB C B <;> (try simp only [Bool.not_true, Bool.not_false] at hb) <;> (first | (exfalso; simp at hb; done) | (exfalso; simp at hb; omega) | (rw [hb]; (try simp at hb)) | (try simp at hb)) | ((first | refine hB.out.1 _ _ ?_ | refine hB.out.1 _ ?_ | refine hB.out.2 ⟨rfl, ?_⟩); clear hB C B) | (refine hB.out.2 _ ?_; clear hB C B; (try rfl)))
   | refine rwf_o ?_ | refine rwc_o .n rfl ?_ | refine rwc_o .z rfl ?_ | refine rwc_o .w rfl ?_ | refine rwc_o .b rfl ?_ | refine rwc_o _ rfl ?_)
  have r1 := wr_setC (c := cU) cU_length l[j] i hi h2 h3
  have r2 := wr_setC (c := cU) (cells := wr c (off + i * 2) (cU l[j])) (l := l.set i l[j]) cU_length l[i] j (by simpa using hj) (by rw [hw]; simpa using h2) (by simpa using r1)
  refine ⟨rfl, _, rfl, by rw [wr_length _ _ _ (by rw [hw]; simp; omega), hw], ?_⟩
  unfold swapG
  rw [at_lt hi, at_lt hj]
  simpa [flatU] using r2
theorem mHLen : methA Tryz.prog 83 "Len" = some (116, false) := by kernel_rfl
theorem mHLess : methA Tryz.prog 83 "Less" = some (117, false) := by kernel_rfl
theorem mHSwap : methA Tryz.prog 83 "Swap" = some (118, false) := by kernel_rfl
theorem mHPop : methA Tryz.prog 83 "Pop" = some (119, true) := by kernel_rfl
theorem swapG_mem {α : Type} [Inhabited α] {l : List α} {i j : Nat} (hi : i < l.length) (hj : j < l.length) {x : α} (h : x ∈ swapG l i j) : x ∈ l := (swapG_perm hi hj).mem_iff.1 h
theorem HeadsAt.heap (p : Nat) : HeapM Tryz.prog (.iface 83 (.mp p 0 0)) lessU (HeadsAt p) where
  len := fun l σ h => by
    obtain ⟨hl, hn, v, fu, h1, h2⟩ := h
    obtain ⟨ls, xs, f1, f2⟩ := row_lend h2 (by simp) [] rfl
    refine ⟨116, [v], by simp [invokeA, mHLen, recvA, h1], ?_⟩
    exact lend ls 9 f1 rfl (pspec_args (hdLen_spec l) f2)
  less := fun l σ i j h hi hj => by
    obtain ⟨hl, hn, v, fu, h1, h2⟩ := h
    obtain ⟨ls, xs, f1, f2⟩ := row_lend h2 (by simp) [.sc (.int .i64 i), .sc (.int .i64 j)] rfl
    refine ⟨117, [v, .sc (.int .i64 i), .sc (.int .i64 j)], by simp [invokeA, mHLess, recvA, h1], ?_⟩
    rw [at_lt hi, at_lt hj]
    exact lend ls 9 f1 rfl (pspec_args (hdLess_spec l (fun r hr => (hn r hr).1) i j hi hj) f2)
  swap := fun l σ i j h hi hj => by
    obtain ⟨hl, hn, v, fu, h1, h2⟩ := h
    rcases h2 with ⟨rfl, h3, _⟩ | ⟨q, g, off, c, rfl, h3, h4, h5, h6⟩
    · omega
    refine ⟨118, [.ms q g off l.length 2, .sc (.int .i64 i), .sc (.int .i64 j)], by simp [invokeA, mHSwap, recvA, h1], ?_⟩
    refine (hdSwap_spec l i j hi hj σ q g off c h4 h5 h6).mono fun r s ⟨e1, c', e2, e3, e4⟩ => ⟨e1, ?_⟩
    subst e2
    refine ⟨by simpa using hl, fun r hr => hn r (swapG_mem hi hj hr), _, fu, by rw [List.getElem?_set_ne h3]; exact h1, .inr ⟨q, g, off, c', by simp, h3, List.getElem?_set_self (lt_of_get h4), by simp; omega, by simpa using e4⟩⟩
/-- A run's error. -/
def riseB (l : List Msg) : Bool := decide (l.Pairwise (fun x y => slt x.key y.key = true))
def checkM (l : List Msg) : Int := if l.all isMsg = false then 1 else if riseB l = false then 11 else 0
def worstE (a b : Int) : Int := if a = 0 ∨ b = 1 then b else a
theorem mWorst_spec (a b : Int) : PSpec Tryz.prog 35 [.sc (.int .i64 a), .sc (.int .i64 b)] (.sc (.int .i64 (worstE a b))) := by
  refine spec_pure (by simp) (by simp) ?_
  refine spec_intro Tryz.func35 good35 rfl (by simp [Tryz.ntmps35]) ?_
  repeat' (first
   | (with_reducible first | refine Stp.pf ?_ | refine block_x (by decide) ?_ | refine ret_n ?_)
   | refine tri_reg [] ?_ | refine tri_regc [] [] mixed (by decide +kernel) ?_
   | (refine rwf_nilt rfl (by decide +kernel) fun B hB => ?_; (try simp [*]); refine hB.out _ fun b => ?_; clear hB B)
   | (refine Rul.pf ⟨rfl, rfl⟩ fun B C hB => ?_; (try simp [*, -List.all_eq_true, Tryz.results35]); (try (simp (disch := first | assumption | omega) only [wc, ite_yes]; (try simp [*, -List.all_eq_true, Tryz.results35]))); first | (first | refine hB.out.1 _ (fun hb => ?_) fun hb => ⟨rfl, ?_⟩ | refine hB.out.1 _ (fun hb => ?_) fun hb => ?_) <;> clear hB C B <;> (try simp only [Bool.not_true, Bool.not_false] at hb) <;> (first | (exfalso; simp at hb; done) | (exfalso; simp at hb; omega) | (rw [hb]; (try simp at hb)) | (try simp at hb)) | ((first | refine hB.out.1 _ _ ?_ | refine hB.out.1 _ ?_ | refine hB.out.2 ⟨rfl, ?_⟩); clear hB C B) | (refine hB.out.2 _ ?_; clear hB C B; (try rfl)))
   | refine rwf_o ?_ | refine rwc_o .n rfl ?_ | refine rwc_o .z rfl ?_ | refine rwc_o .w rfl ?_ | refine rwc_o .b rfl ?_ | refine rwc_o _ rfl ?_)
  all_goals simp_all [worstE]
theorem rise_succ {l : List Msg} {k : Nat} (h : k + 1 < l.length) (hr : (l.take (k + 1)).Pairwise (fun x y => slt x.key y.key = true)) (h2 : slt (l[k]'(by omega)).key l[k + 1].key = true) : (l.take (k + 1 + 1)).Pairwise (fun x y => slt x.key y.key = true) := by
  rw [List.take_add_one (i := k + 1), List.getElem?_eq_getElem h]
  refine List.pairwise_append.2 ⟨hr, by simp, fun a ha b hb => ?_⟩
  simp at hb
  subst hb
  obtain ⟨j, hj, rfl⟩ := List.mem_iff_getElem.1 ha
  simp at hj
  rw [List.getElem_take]
  rcases Nat.lt_or_ge j k with hlt | hge
  · have := List.pairwise_iff_getElem.1 hr j k (by simp; omega) (by simp; omega) hlt
    rw [List.getElem_take, List.getElem_take] at this
    exact slt_trans this h2
  · obtain rfl : j = k := by omega
    exact h2
theorem mCheck_spec (l : List Msg) (hl : l.length ≤ 500000) : PSpec Tryz.prog 36 [.fs (flatM l) l.length] (.sc (.int .i64 (checkM l))) := by
  refine spec_pure (by simp) (by simp) ?_
  refine spec_intro Tryz.func36 good36 rfl (by simp [Tryz.ntmps36]) ?_
  repeat' (first
   | (with_reducible first | refine Stp.pf ?_ | refine block_x (by decide) ?_ | refine ret_n ?_)
   | refine tri_reg [] ?_ | refine tri_regc [] [] mixed (by decide +kernel) ?_
   | (refine rwf_nilt rfl (by decide +kernel) fun B hB => ?_; (try simp [*]); refine hB.out _ fun b => ?_; clear hB B)
   | (refine Rul.pf ⟨rfl, rfl⟩ fun B C hB => ?_; (try simp [*, -List.all_eq_true, Tryz.results36]); (try (simp (disch := first | assumption | omega) only [wc, ite_yes]; (try simp [*, -List.all_eq_true, Tryz.results36]))); first | (first | refine hB.out.1 _ (fun hb => ?_) fun hb => ⟨rfl, ?_⟩ | refine hB.out.1 _ (fun hb => ?_) fun hb => ?_) <;> clear hB C B <;> (try simp only [Bool.not_true, Bool.not_false] at hb) <;> (first | (exfalso; simp at hb; done) | (exfalso; simp at hb; omega) | (rw [hb]; (try simp at hb)) | (try simp at hb)) | ((first | refine hB.out.1 _ _ ?_ | refine hB.out.1 _ ?_ | refine hB.out.2 ⟨rfl, ?_⟩); clear hB C B) | (refine hB.out.2 _ ?_; clear hB C B; (try rfl)))
   | refine rwf_o ?_ | refine rwc_o .n rfl ?_ | refine rwc_o .z rfl ?_ | refine rwc_o .w rfl ?_ | refine rwc_o .b rfl ?_ | refine rwc_o _ rfl ?_)
  refine tri_for [0, 6, 7] l.length (fun k e σ => σ = [] ∧ e 8 = .sc (.int .i64 k) ∧ (l.take k).all isMsg = true) ?_ (fun k env' σ' hlt hk hI => ?_) (fun env' σ' hk hI => ?_)
  · exact ⟨by simp, by simp, by simp⟩
  · skip
    (try simp at hk)
    obtain ⟨rfl, h8, ha⟩ := hI
    cases hM : isMsg l[k] with
    | true =>
      repeat' (first
       | (with_reducible first | refine Stp.pf ?_ | refine block_x (by decide) ?_ | refine ret_n ?_)
       | refine tri_reg [] ?_ | refine tri_regc [] [] mixed (by decide +kernel) ?_
       | (refine rwf_nilt rfl (by decide +kernel) fun B hB => ?_; (try simp [*]); refine hB.out _ fun b => ?_; clear hB B)
       | (refine Rul.pf ⟨rfl, rfl⟩ fun B C hB => ?_; (try simp [*, -List.all_eq_true, Tryz.results36]); (try (simp (disch := first | assumption | omega) only [wc, ite_yes]; (try simp [*, -List.all_eq_true, Tryz.results36]))); first | (first | refine hB.out.1 _ (fun hb => ?_) fun hb => ⟨rfl, ?_⟩ | refine hB.out.1 _ (fun hb => ?_) fun hb => ?_) <;> clear hB C B <;> (try simp only [Bool.not_true, Bool.not_false] at hb) <;> (first | (exfalso; simp at hb; done) | (exfalso; simp at hb; omega) | (rw [hb]; (try simp at hb)) | (try simp at hb)) | ((first | refine hB.out.1 _ _ ?_ | refine hB.out.1 _ ?_ | refine hB.out.2.1 _ _ _ (msgIs_spec _) ?_ | refine hB.out.2.2 _ _ _ (msgIs_spec _) ?_ | refine hB.out.2 ⟨rfl, ?_⟩); clear hB C B) | (refine hB.out.2 _ ?_; clear hB C B; (try rfl)))
       | refine rwf_o ?_ | refine rwc_o .n rfl ?_ | refine rwc_o .z rfl ?_ | refine rwc_o .w rfl ?_ | refine rwc_o .b rfl ?_ | refine rwc_o _ rfl ?_)
      exact ⟨by simp [*], rfl, by simp, by rw [List.take_add_one, List.getElem?_eq_getElem hlt, List.all_append, ha]; simp [hM]⟩
    | false =>
      have hno : l.all isMsg = false := by
        cases h : l.all isMsg with
        | false => rfl
        | true => rw [List.all_eq_true.1 h _ (List.getElem_mem hlt)] at hM; cases hM
      repeat' (first
       | (with_reducible first | refine Stp.pf ?_ | refine block_x (by decide) ?_ | refine ret_n ?_)
       | refine tri_reg [] ?_ | refine tri_regc [] [] mixed (by decide +kernel) ?_
       | (refine rwf_nilt rfl (by decide +kernel) fun B hB => ?_; (try simp [*]); refine hB.out _ fun b => ?_; clear hB B)
       | (refine Rul.pf ⟨rfl, rfl⟩ fun B C hB => ?_; (try simp [*, -List.all_eq_true, Tryz.results36]); (try (simp (disch := first | assumption | omega) only [wc, ite_yes]; (try simp [*, -List.all_eq_true, Tryz.results36]))); first | (first | refine hB.out.1 _ (fun hb => ?_) fun hb => ⟨rfl, ?_⟩ | refine hB.out.1 _ (fun hb => ?_) fun hb => ?_) <;> clear hB C B <;> (try simp only [Bool.not_true, Bool.not_false] at hb) <;> (first | (exfalso; simp at hb; done) | (exfalso; simp at hb; omega) | (rw [hb]; (try simp at hb)) | (try simp at hb)) | ((first | refine hB.out.1 _ _ ?_ | refine hB.out.1 _ ?_ | refine hB.out.2.1 _ _ _ (msgIs_spec _) ?_ | refine hB.out.2.2 _ _ _ (msgIs_spec _) ?_ | refine hB.out.2 ⟨rfl, ?_⟩); clear hB C B) | (refine hB.out.2 _ ?_; clear hB C B; (try rfl)))
       | refine rwf_o ?_ | refine rwc_o .n rfl ?_ | refine rwc_o .z rfl ?_ | refine rwc_o .w rfl ?_ | refine rwc_o .b rfl ?_ | refine rwc_o _ rfl ?_)
      all_goals (unfold checkM; rw [if_pos hno])
  · skip
    (try simp at hk)
    obtain ⟨rfl, h8, ha⟩ := hI
    rw [List.take_length] at ha
    repeat' (first
     | (with_reducible first | refine Stp.pf ?_ | refine block_x (by decide) ?_ | refine ret_n ?_)
     | refine tri_reg [] ?_ | refine tri_regc [] [] mixed (by decide +kernel) ?_
     | (refine rwf_nilt rfl (by decide +kernel) fun B hB => ?_; (try simp [*]); refine hB.out _ fun b => ?_; clear hB B)
     | (refine Rul.pf ⟨rfl, rfl⟩ fun B C hB => ?_; (try simp [*, -List.all_eq_true, Tryz.results36]); (try (simp (disch := first | assumption | omega) only [wc, ite_yes]; (try simp [*, -List.all_eq_true, Tryz.results36]))); first | (first | refine hB.out.1 _ (fun hb => ?_) fun hb => ⟨rfl, ?_⟩ | refine hB.out.1 _ (fun hb => ?_) fun hb => ?_) <;> clear hB C B <;> (try simp only [Bool.not_true, Bool.not_false] at hb) <;> (first | (exfalso; simp at hb; done) | (exfalso; simp at hb; omega) | (rw [hb]; (try simp at hb)) | (try simp at hb)) | ((first | refine hB.out.1 _ _ ?_ | refine hB.out.1 _ ?_ | refine hB.out.2 ⟨rfl, ?_⟩); clear hB C B) | (refine hB.out.2 _ ?_; clear hB C B; (try rfl)))
     | refine rwf_o ?_ | refine rwc_o .n rfl ?_ | refine rwc_o .z rfl ?_ | refine rwc_o .w rfl ?_ | refine rwc_o .b rfl ?_ | refine rwc_o _ rfl ?_)
    refine tri_for [0] (l.length - 1) (fun k e σ => σ = [] ∧ e 5 = .sc (.int .i64 (k + 1 : Nat)) ∧ (l.take (k + 1)).Pairwise (fun x y => slt x.key y.key = true)) ?_ (fun k env' σ' hlt hk hI => ?_) (fun env' σ' hk hI => ?_)
    · refine ⟨by simp, by simp, ?_⟩
      cases l <;> simp
    · skip
      (try simp at hk)
      obtain ⟨rfl, h5, hr⟩ := hI
      have hk1 : k + 1 < l.length := by omega
      have hk0 : k < l.length := by omega
      have hc : ((k + 1 : Nat) : Int) - 1 = (k : Nat) := by omega
      have a1 := flatM_1 l k hk0
      have a2 := flatM_1 l (k + 1) hk1
      have hfin : ∀ (h : slt (l[k]'hk0).key (l[k + 1]'hk1).key = true), (l.take (k + 1 + 1)).Pairwise (fun x y => slt x.key y.key = true) := rise_succ hk1 hr
      generalize hj : k + 1 = j at *
      cases hS : slt l[k].key l[j].key with
      | true =>
        repeat' (first
         | (with_reducible first | refine Stp.pf ?_ | refine block_x (by decide) ?_ | refine ret_n ?_)
         | refine tri_reg [] ?_ | refine tri_regc [] [] mixed (by decide +kernel) ?_
         | (refine rwf_nilt rfl (by decide +kernel) fun B hB => ?_; (try simp [*]); refine hB.out _ fun b => ?_; clear hB B)
         | (refine Rul.pf ⟨rfl, rfl⟩ fun B C hB => ?_; (try simp [*, -List.all_eq_true, Tryz.results36]); (try (simp (disch := first | assumption | omega) only [wc, ite_yes]; (try simp [*, -List.all_eq_true, Tryz.results36]))); first | (first | refine hB.out.1 _ (fun hb => ?_) fun hb => ⟨rfl, ?_⟩ | refine hB.out.1 _ (fun hb => ?_) fun hb => ?_) <;> clear hB C B <;> (try simp only [Bool.not_true, Bool.not_false] at hb) <;> (first | (exfalso; simp at hb; done) | (exfalso; simp at hb; omega) | (rw [hb]; (try simp at hb)) | (try simp at hb)) | ((first | refine hB.out.1 _ _ ?_ | refine hB.out.1 _ ?_ | refine hB.out.2 ⟨rfl, ?_⟩); clear hB C B) | (refine hB.out.2 _ ?_; clear hB C B; (try rfl)))
         | refine rwf_o ?_ | refine rwc_o .n rfl ?_ | refine rwc_o .z rfl ?_ | refine rwc_o .w rfl ?_ | refine rwc_o .b rfl ?_ | refine rwc_o _ rfl ?_)
        exact ⟨by simp [*], rfl, by simp, hfin hS⟩
      | false =>
        have hno : riseB l = false := by
          unfold riseB
          rw [decide_eq_false_iff_not]
          intro h
          have := List.pairwise_iff_getElem.1 h k j hk0 hk1 (by omega)
          rw [hS] at this; cases this
        repeat' (first
         | (with_reducible first | refine Stp.pf ?_ | refine block_x (by decide) ?_ | refine ret_n ?_)
         | refine tri_reg [] ?_ | refine tri_regc [] [] mixed (by decide +kernel) ?_
         | (refine rwf_nilt rfl (by decide +kernel) fun B hB => ?_; (try simp [*]); refine hB.out _ fun b => ?_; clear hB B)
         | (refine Rul.pf ⟨rfl, rfl⟩ fun B C hB => ?_; (try simp [*, -List.all_eq_true, Tryz.results36]); (try (simp (disch := first | assumption | omega) only [wc, ite_yes]; (try simp [*, -List.all_eq_true, Tryz.results36]))); first | (first | refine hB.out.1 _ (fun hb => ?_) fun hb => ⟨rfl, ?_⟩ | refine hB.out.1 _ (fun hb => ?_) fun hb => ?_) <;> clear hB C B <;> (try simp only [Bool.not_true, Bool.not_false] at hb) <;> (first | (exfalso; simp at hb; done) | (exfalso; simp at hb; omega) | (rw [hb]; (try simp at hb)) | (try simp at hb)) | ((first | refine hB.out.1 _ _ ?_ | refine hB.out.1 _ ?_ | refine hB.out.2 ⟨rfl, ?_⟩); clear hB C B) | (refine hB.out.2 _ ?_; clear hB C B; (try rfl)))
         | refine rwf_o ?_ | refine rwc_o .n rfl ?_ | refine rwc_o .z rfl ?_ | refine rwc_o .w rfl ?_ | refine rwc_o .b rfl ?_ | refine rwc_o _ rfl ?_)
        all_goals (unfold checkM; rw [if_neg (by rw [ha]; simp), if_pos hno])
    · skip
      (try simp at hk)
      obtain ⟨rfl, h5, hr⟩ := hI
      have hyes : riseB l = true := by
        unfold riseB
        rw [decide_eq_true_eq]
        rw [List.take_of_length_le (by omega)] at hr
        exact hr
      have hno : ¬ (((l.length - 1 + 1 : Nat) : Int) < l.length) := by omega
      repeat' (first
       | (with_reducible first | refine Stp.pf ?_ | refine block_x (by decide) ?_ | refine ret_n ?_)
       | refine tri_reg [] ?_ | refine tri_regc [] [] mixed (by decide +kernel) ?_
       | (refine rwf_nilt rfl (by decide +kernel) fun B hB => ?_; (try simp [*]); refine hB.out _ fun b => ?_; clear hB B)
       | (refine Rul.pf ⟨rfl, rfl⟩ fun B C hB => ?_; (try simp [*, -List.all_eq_true, Tryz.results36]); (try (simp (disch := first | assumption | omega) only [wc, ite_yes]; (try simp [*, -List.all_eq_true, Tryz.results36]))); first | (first | refine hB.out.1 _ (fun hb => ?_) fun hb => ⟨rfl, ?_⟩ | refine hB.out.1 _ (fun hb => ?_) fun hb => ?_) <;> clear hB C B <;> (try simp only [Bool.not_true, Bool.not_false] at hb) <;> (first | (exfalso; simp at hb; done) | (exfalso; simp at hb; omega) | (rw [hb]; (try simp at hb)) | (try simp at hb)) | ((first | refine hB.out.1 _ _ ?_ | refine hB.out.1 _ ?_ | refine hB.out.2 ⟨rfl, ?_⟩); clear hB C B) | (refine hB.out.2 _ ?_; clear hB C B; (try rfl)))
       | refine rwf_o ?_ | refine rwc_o .n rfl ?_ | refine rwc_o .z rfl ?_ | refine rwc_o .w rfl ?_ | refine rwc_o .b rfl ?_ | refine rwc_o _ rfl ?_)
      all_goals (unfold checkM; rw [if_neg (by rw [ha]; simp), if_neg (by rw [hyes]; simp)])
end Go.Proofs.YtemijcjgdgdhjabGreat
