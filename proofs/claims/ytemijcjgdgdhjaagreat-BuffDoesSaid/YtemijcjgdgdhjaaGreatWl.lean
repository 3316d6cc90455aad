/- Loads, and the heaviest part. -/
import Derived.Test.YtemijcjgdgdhjaaGreatWg
import Derived.Test.YtemijcjgdgdhjaaGreatWt
import Derived.Test.YtemijcjgdgdhjaaGreatWh
namespace Go.Proofs.YtemijcjgdgdhjaaGreat
open Go.RowKit
set_option linter.unusedSimpArgs false
set_option maxRecDepth 10000
/-- The weight of each part. -/
def loadsL (l : List Msg) (rs : List (Str × Str)) : List Int := rs.map fun r => mwts (takeM l r.1 r.2 true)
@[simp] theorem loadsL_length (l : List Msg) (rs : List (Str × Str)) : (loadsL l rs).length = rs.length := by simp [loadsL]
theorem loadsL_succ (l : List Msg) {rs : List (Str × Str)} {k : Nat} (h : k < rs.length) : loadsL l (rs.take (k + 1)) = loadsL l (rs.take k) ++ [mwts (takeM l rs[k].1 rs[k].2 true)] := by
  unfold loadsL; rw [List.take_add_one, List.getElem?_eq_getElem h, List.map_append]; rfl
theorem cutM_len (r : Str × Str) (ps : List Str) : (cutM r ps).length ≤ ps.length + 1 := by
  unfold cutM
  split
  · simp
  · have := cutL_len r ps; simp; omega
@[simp] theorem flatR_gets (l : List (Str × Str)) (k : Nat) (h : k < l.length) : List.take 2 (List.drop (k * 2) (flatR l)) = cR l[k] := flatR_seg l k h
theorem bLoads_spec (l : List Msg) (hl : l.length ≤ 900000) (hs : MSmall l) (ps : List Str) (hp : ps.length ≤ 400000) : PSpec Tryz.prog 79 [.fp (cB l) 0, .fs (flatS ps) ps.length] (.fs (flatN (loadsL l (partsM ps))) (loadsL l (partsM ps)).length) := by
  have hc := kCut_spec (⟨#[]⟩, ⟨#[]⟩) ps hp
  have hcl := cutM_len (⟨#[]⟩, ⟨#[]⟩) ps
  change PSpec _ _ _ (.fs (flatR (partsM ps)) (partsM ps).length) at hc
  change (partsM ps).length ≤ _ at hcl
  generalize partsM ps = rs at *
  refine spec_pureFW (by simp) ?_
  refine spec_intro Tryz.func79 good79 rfl (by simp [Tryz.ntmps79]) ?_
  repeat' (first
   | (with_reducible first | refine Stp.pf ?_ | refine block_x (by decide) ?_ | refine ret_n ?_)
   | refine tri_reg [7,27] ?_ | refine tri_regc [7,27] [] mixed (by decide +kernel) ?_
   | (refine rwf_nilt rfl (by decide +kernel) fun B hB => ?_; (try simp [*]); refine hB.out _ fun b => ?_; clear hB B)
   | (refine Rul.pf ⟨rfl, rfl⟩ fun B C hB => ?_; (try simp [*, -List.all_eq_true, Tryz.results79]); (try (simp (disch := first | assumption | omega) only [wc, ite_yes]; (try simp [*, -List.all_eq_true, Tryz.results79]))); first | (first | refine hB.out.1 _ (fun hb => ?_) fun hb => ⟨rfl, ?_⟩ | refine hB.out.1 _ (fun hb => ?_) fun hb => ?_) <;> clear hB C B <;> (try simp only [Bool.not_true, Bool.not_false] at hb) <;> (first | (exfalso; simp at hb; done) | (exfalso; simp at hb; omega) | (rw [hb]; (try simp at hb)) | (try simp at hb)) | ((first | refine hB.out.1 _ _ ?_ | refine hB.out.1 _ ?_ | refine hB.out.2.1 _ _ _ (hc) ?_ | refine hB.out.2.2 _ _ _ (hc) ?_ | refine hB.out.2 ⟨rfl, ?_⟩); clear hB C B) | (refine hB.out.2 _ ?_; clear hB C B; (try rfl)))
   | refine rwf_o ?_ | refine rwc_o .n rfl ?_ | refine rwc_o .z rfl ?_ | refine rwc_o .w rfl ?_ | refine rwc_o .b rfl ?_ | refine rwc_o _ rfl ?_)
  refine tri_for [0, 4, 12, 13] rs.length (fun k e σ => e 14 = .sc (.int .i64 k) ∧ ∃ v, e 5 = v ∧ Own 1 σ v (loadsL l (rs.take k)).length (flatN (loadsL l (rs.take k)))) ?_ (fun k env' σ' hlt hk hI => ?_) (fun env' σ' hk hI => ?_)
  · exact ⟨by simp, _, rfl, by simp; exact .inl ⟨rfl, by simp, by simp [flatN, flatC, loadsL]⟩⟩
  · skip
    (try simp at hk)
    obtain ⟨h14, v, h5, o1⟩ := hI
    have hsu := loadsL_succ l hlt
    have hlen : (loadsL l (rs.take k)).length ≤ rs.length := by simp; omega
    have ht := takeM_len l rs[k].1 rs[k].2 true
    have hm := made_spec (takeM l rs[k].1 rs[k].2 true) (by omega) (fun x hx => hs x (List.mem_filter.1 hx).1)
    repeat' (first
     | (with_reducible first | refine Stp.pf ?_ | refine block_x (by decide) ?_ | refine ret_n ?_)
     | refine tri_reg [27] ?_ | refine tri_regc [27] [] mixed (by decide +kernel) ?_
     | (refine rwf_nilt rfl (by decide +kernel) fun B hB => ?_; (try simp [*]); refine hB.out _ fun b => ?_; clear hB B)
     | (refine Rul.pf ⟨rfl, rfl⟩ fun B C hB => ?_; (try simp [*, -List.all_eq_true, Tryz.results79]); (try (simp (disch := first | assumption | omega) only [wc, ite_yes]; (try simp [*, -List.all_eq_true, Tryz.results79]))); first | (first | refine hB.out.1 _ (fun hb => ?_) fun hb => ⟨rfl, ?_⟩ | refine hB.out.1 _ (fun hb => ?_) fun hb => ?_) <;> clear hB C B <;> (try simp only [Bool.not_true, Bool.not_false] at hb) <;> (first | (exfalso; simp at hb; done) | (exfalso; simp at hb; omega) | (rw [hb]; (try simp at hb)) | (try simp at hb)) | ((first | refine hB.out.1 _ _ ?_ | refine hB.out.1 _ ?_ | refine hB.out.2.1 _ _ _ (bTake_spec l hl _ _) ?_ | refine hB.out.2.2 _ _ _ (bTake_spec l hl _ _) ?_ | refine hB.out.2.1 _ _ _ (hm) ?_ | refine hB.out.2.2 _ _ _ (hm) ?_ | refine hB.out.2 ⟨rfl, ?_⟩); clear hB C B) | (refine hB.out.2 _ ?_; clear hB C B; (try rfl)))
     | refine rwf_o ?_ | refine rwc_o .n rfl ?_ | refine rwc_o .z rfl ?_ | refine rwc_o .w rfl ?_ | refine rwc_o .b rfl ?_ | refine rwc_o _ rfl ?_)
    refine rwf_app rfl rfl elem62 zero3 rfl bytes3 (by decide) slc62 fun G hG => ?_
    (try simp [*, -List.all_eq_true])
    refine hG.out _ _ _ _ _ (o1) (by simp) (by simp) (by omega) fun v1 σ1 q1 q2 => ?_
    clear hG G
    repeat' (first
     | (with_reducible first | refine Stp.pf ?_ | refine block_x (by decide) ?_ | refine ret_n ?_)
     | refine tri_reg [27] ?_ | refine tri_regc [27] [] mixed (by decide +kernel) ?_
     | (refine rwf_nilt rfl (by decide +kernel) fun B hB => ?_; (try simp [*]); refine hB.out _ fun b => ?_; clear hB B)
     | (refine Rul.pf ⟨rfl, rfl⟩ fun B C hB => ?_; (try simp [*, -List.all_eq_true, Tryz.results79]); (try (simp (disch := first | assumption | omega) only [wc, ite_yes]; (try simp [*, -List.all_eq_true, Tryz.results79]))); first | (first | refine hB.out.1 _ (fun hb => ?_) fun hb => ⟨rfl, ?_⟩ | refine hB.out.1 _ (fun hb => ?_) fun hb => ?_) <;> clear hB C B <;> (try simp only [Bool.not_true, Bool.not_false] at hb) <;> (first | (exfalso; simp at hb; done) | (exfalso; simp at hb; omega) | (rw [hb]; (try simp at hb)) | (try simp at hb)) | ((first | refine hB.out.1 _ _ ?_ | refine hB.out.1 _ ?_ | refine hB.out.2 ⟨rfl, ?_⟩); clear hB C B) | (refine hB.out.2 _ ?_; clear hB C B; (try rfl)))
     | refine rwf_o ?_ | refine rwc_o .n rfl ?_ | refine rwc_o .z rfl ?_ | refine rwc_o .w rfl ?_ | refine rwc_o .b rfl ?_ | refine rwc_o _ rfl ?_)
    rw [hsu]
    exact ⟨by simp [*], by simp, v1, by simp, by simpa [flatN_append, flatN, flatC, cN] using q1⟩
  · skip
    (try simp at hk)
    obtain ⟨h14, v, h5, o1⟩ := hI
    rw [List.take_length] at o1
    repeat' (first
     | (with_reducible first | refine Stp.pf ?_ | refine block_x (by decide) ?_ | refine ret_n ?_)
     | refine tri_reg [] ?_ | refine tri_regc [] [] mixed (by decide +kernel) ?_
     | (refine rwf_nilt rfl (by decide +kernel) fun B hB => ?_; (try simp [*]); refine hB.out _ fun b => ?_; clear hB B)
     | (refine Rul.pf ⟨rfl, rfl⟩ fun B C hB => ?_; (try simp [*, -List.all_eq_true, Tryz.results79]); (try (simp (disch := first | assumption | omega) only [wc, ite_yes]; (try simp [*, -List.all_eq_true, Tryz.results79]))); first | (first | refine hB.out.1 _ (fun hb => ?_) fun hb => ⟨rfl, ?_⟩ | refine hB.out.1 _ (fun hb => ?_) fun hb => ?_) <;> clear hB C B <;> (try simp only [Bool.not_true, Bool.not_false] at hb) <;> (first | (exfalso; simp at hb; done) | (exfalso; simp at hb; omega) | (rw [hb]; (try simp at hb)) | (try simp at hb)) | ((first | refine hB.out.1 _ _ ?_ | refine hB.out.1 _ ?_ | refine hB.out.2 ⟨rfl, ?_⟩); clear hB C B) | (refine hB.out.2 _ ?_; clear hB C B; (try rfl)))
     | refine rwf_o ?_ | refine rwc_o .n rfl ?_ | refine rwc_o .z rfl ?_ | refine rwc_o .w rfl ?_ | refine rwc_o .b rfl ?_ | refine rwc_o _ rfl ?_)
    exact out_own o1 (by simp)
/-- Parts, as cells. -/
def cP (x : Int × Int) : List AV := [.sc (.int .i64 x.1), .sc (.int .i64 x.2)]
def flatP (l : List (Int × Int)) : List AV := flatC cP l
@[simp] theorem cP_length (m : Int × Int) : (cP m).length = 2 := rfl
@[simp] theorem cP_flat (r : Int × Int) : flatL (cP r) = true := rfl
@[simp] theorem cP_one (r : Int × Int) : (cP r).all AV.one = true := rfl
@[simp] theorem take_cP (r : Int × Int) : List.take 2 (cP r) = cP r := rfl
@[simp] theorem flatP_length (l : List (Int × Int)) : (flatP l).length = l.length * 2 := flatC_length cP_length l
@[simp] theorem flatP_flat (l : List (Int × Int)) : flatL (flatP l) = true := flatC_flat (fun _ => rfl) l
@[simp] theorem flatP_one (l : List (Int × Int)) : (flatP l).all AV.one = true := flatC_one' (fun _ => rfl) l
theorem flatP_0 (l : List (Int × Int)) (k : Nat) (h : k < l.length) : (flatP l)[k * 2]? = some (.sc (.int .i64 l[k].1)) := flatC_get cP_length l k 0 h (by omega)
theorem flatP_1 (l : List (Int × Int)) (k : Nat) (h : k < l.length) : (flatP l)[k * 2 + 1]? = some (.sc (.int .i64 l[k].2)) := flatC_get cP_length l k 1 h (by omega)
@[simp] theorem flatP_at0 (l : List (Int × Int)) (k : Nat) (h : k * 2 < (flatP l).length) : (flatP l)[k * 2] = .sc (.int .i64 (l[k]'(by simp at h; omega)).1) := by
  have h' : k < l.length := by simp at h; omega
  have := flatP_0 l k h'
  rw [List.getElem?_eq_getElem h] at this
  exact Option.some.inj this
theorem flatP_append (l m : List (Int × Int)) : flatP (l ++ m) = flatP l ++ flatP m := flatC_append l m
theorem pLess_spec (l : List (Int × Int)) (i j : Nat) (hi : i < l.length) (hj : j < l.length) : PSpec Tryz.prog 253 [.fs (flatP l) l.length, .sc (.int .i64 i), .sc (.int .i64 j)] (.sc (.bool (lessP l[i] l[j]))) := by
  have a1 := flatP_0 l i hi
  have a2 := flatP_1 l i hi
  have b1 := flatP_0 l j hj
  have b2 := flatP_1 l j hj
  refine spec_pure (by simp) (by simp) ?_
  refine spec_intro Tryz.func253 good253 rfl (by simp [Tryz.ntmps253]) ?_
  repeat' (first
   | (with_reducible first | refine Stp.pf ?_ | refine block_x (by decide) ?_ | refine ret_n ?_)
   | refine tri_reg [] ?_ | refine tri_regc [] [] mixed (by decide +kernel) ?_
   | (refine rwf_nilt rfl (by decide +kernel) fun B hB => ?_; (try simp [*]); refine hB.out _ fun b => ?_; clear hB B)
   | (refine Rul.pf ⟨rfl, rfl⟩ fun B C hB => ?_; (try simp [*, -List.all_eq_true, Tryz.results253]); (try (simp (disch := first | assumption | omega) only [wc, ite_yes]; (try simp [*, -List.all_eq_true, Tryz.results253]))); first | (first | refine hB.out.1 _ (fun hb => ?_) fun hb => ⟨rfl, ?_⟩ | refine hB.out.1 _ (fun hb => ?_) fun hb => ?_) <;> clear hB C B <;> (try simp only [Bool.not_true, Bool.not_false] at hb) <;> (first | (exfalso; simp at hb; done) | (exfalso; simp at hb; omega) | (rw [hb]; (try simp at hb)) | (try simp at hb)) | ((first | refine hB.out.1 _ _ ?_ | refine hB.out.1 _ ?_ | refine hB.out.2 ⟨rfl, ?_⟩); clear hB C B) | (refine hB.out.2 _ ?_; clear hB C B; (try rfl)))
   | refine rwf_o ?_ | refine rwc_o .n rfl ?_ | refine rwc_o .z rfl ?_ | refine rwc_o .w rfl ?_ | refine rwc_o .b rfl ?_ | refine rwc_o _ rfl ?_)
  all_goals (try simp_all [lessP])
theorem pLen_spec (l : List (Int × Int)) : PSpec Tryz.prog 135 [.fs (flatP l) l.length] (.sc (.int .i64 l.length)) := by
  refine spec_pure (by simp) (by simp) ?_
  refine spec_intro Tryz.func135 good135 rfl (by simp [Tryz.ntmps135]) ?_
  repeat' (first
   | (with_reducible first | refine Stp.pf ?_ | refine block_x (by decide) ?_ | refine ret_n ?_)
   | refine tri_reg [] ?_ | refine tri_regc [] [] mixed (by decide +kernel) ?_
   | (refine rwf_nilt rfl (by decide +kernel) fun B hB => ?_; (try simp [*]); refine hB.out _ fun b => ?_; clear hB B)
   | (refine Rul.pf ⟨rfl, rfl⟩ fun B C hB => ?_; (try simp [*, -List.all_eq_true, Tryz.results135]); (try (simp (disch := first | assumption | omega) only [wc, ite_yes]; (try simp [*, -List.all_eq_true, Tryz.results135]))); first | (first | refine hB.out.1 _ (fun hb => ?_) fun hb => ⟨rfl, ?_⟩ | refine hB.out.1 _ (fun hb => ?_) fun hb => ?_) <;> clear hB C B <;> (try simp only [Bool.not_true, Bool.not_false] at hb) <;> (first | (exfalso; simp at hb; done) | (exfalso; simp at hb; omega) | (rw [hb]; (try simp at hb)) | (try simp at hb)) | ((first | refine hB.out.1 _ _ ?_ | refine hB.out.1 _ ?_ | refine hB.out.2 ⟨rfl, ?_⟩); clear hB C B) | (refine hB.out.2 _ ?_; clear hB C B; (try rfl)))
   | refine rwf_o ?_ | refine rwc_o .n rfl ?_ | refine rwc_o .z rfl ?_ | refine rwc_o .w rfl ?_ | refine rwc_o .b rfl ?_ | refine rwc_o _ rfl ?_)
/-- Where parts stand: a variable of the store, and its row. -/
def PartsAt (p : Nat) (l : List (Int × Int)) (σ : Sto) : Prop := l.length ≤ 500000 ∧ ∃ v fu, σ[p]? = some ⟨[v], 0, false, fu⟩ ∧ RowAt 2 p σ v l.length (flatP l)
theorem rowAt_own {k p : Nat} {σ : Sto} {v : AV} {n : Nat} {cs : List AV} (h : RowAt k p σ v n cs) : Own k σ v n cs ∧ ¬ isH p v := by
  rcases h with h | ⟨i, g, off, c, rfl, h2, h3, h4, h5⟩
  · exact ⟨.inl h, by rw [h.1]; exact isH_nil p⟩
  · exact ⟨.inr ⟨i, g, off, c, rfl, h3, h4, h5⟩, fun h => h2 (isH_ms h).symm⟩
theorem own_rowAt {k p : Nat} {σ : Sto} {v : AV} {n : Nat} {cs : List AV} (h : Own k σ v n cs) (hp : ¬ isH p v) : RowAt k p σ v n cs := by
  rcases h with h | ⟨i, g, off, c, rfl, h3, h4, h5⟩
  · exact .inl h
  · exact .inr ⟨i, g, off, c, rfl, fun e => hp (e ▸ ⟨g, off, n, k, rfl⟩), h3, h4, h5⟩
theorem row_lend {k p : Nat} {σ : Sto} {v : AV} {n : Nat} {cs : List AV} (h : RowAt k p σ v n cs) (hf : flatL cs = true) (ys : List AV) (hy : flatL ys = true) : ∃ ls xs, frzL σ ls 9 (v :: ys) = some xs ∧ WkL xs (.fs cs n :: ys) := by
  have hys : WkL ys ys := ⟨rfl, fun i x y h1 h2 => by rw [h1] at h2; cases h2; exact .refl _⟩
  rcases h with ⟨rfl, rfl, rfl⟩ | ⟨i, g, off, c, rfl, _, h1, h2, h3⟩
  · refine ⟨[], .sc (.slice none 0 0) :: ys, by simp [frzL, AV.flat, flatL, hy], .cons .nil hys⟩
  · refine ⟨[i], .fs cs n :: ys, ?_, .cons (.refl _) hys⟩
    simp [frzL, frz, AV.flat, flatL, h1, h2, h3, hf, hy]
theorem pSwap_spec (l : List (Int × Int)) (i j : Nat) (hi : i < l.length) (hj : j < l.length) (σ : Sto) (q g off : Nat) (c : List AV) (h1 : σ[q]? = some ⟨c, g, false, false⟩) (h2 : off + l.length * 2 ≤ c.length) (h3 : (c.drop off).take (l.length * 2) = flatP l) :
    Spec Tryz.prog 256 [.ms q g off l.length 2, .sc (.int .i64 i), .sc (.int .i64 j)] σ (fun r s => r = .tup [] ∧ ∃ c', s = σ.set q ⟨c', g, false, false⟩ ∧ c'.length = c.length ∧ (c'.drop off).take (l.length * 2) = flatP (swapG l i j)) := by
  have seg : ∀ (k : Nat) (h : k < l.length), List.take 2 (List.drop (off + k * 2) c) = cP l[k] := fun k h => by
    rw [← flatC_seg cP_length l k h, show flatC cP l = flatP l from rfl, ← h3, List.drop_take, List.take_take, List.drop_drop]
    congr 1; omega
  have si := seg i hi
  have sj := seg j hj
  have hw := wr_length c (off + i * 2) (cP l[j]) (by simp; omega)
  refine spec_intro Tryz.func256 good256 rfl (by simp [Tryz.ntmps256]) ?_
  clear seg
  repeat' (first
   | (with_reducible first | refine Stp.pf ?_ | refine block_x (by decide) ?_ | refine ret_n ?_)
   | refine tri_reg [] ?_ | refine tri_regc [] [] mixed (by decide +kernel) ?_
   | (refine rwf_nilt rfl (by decide +kernel) fun B hB => ?_; (try simp [*]); refine hB.out _ fun b => ?_; clear hB B)
   | (refine Rul.pf ⟨rfl, rfl⟩ fun B C hB => ?_; (try simp [*, -List.all_eq_true, Tryz.results256]); (try (simp (disch := first | assumption | omega) only [wc, ite_yes]; (try simp [*, -List.all_eq_true, Tryz.results256]))); first | (first | refine hB.out.1 _ (fun hb => ?_) fun hb => ⟨rfl, ?_⟩ | refine hB.out.1 _ (fun hb => ?_) fun hb => ?_) <;> clear hB C B <;> (try simp only [Bool.not_true, Bool.not_false] at hb) <;> (first | (exfalso; simp at hb; done) | (exfalso; simp at hb; omega) | (rw [hb]; (try simp at hb)) | (try simp at hb)) | ((first | refine hB.out.1 _ _ ?_ | refine hB.out.1 _ ?_ | refine hB.out.2 ⟨rfl, ?_⟩); clear hB C B) | (refine hB.out.2 _ ?_; clear hB C B; (try rfl)))
   | refine rwf_o ?_ | refine rwc_o .n rfl ?_ | refine rwc_o .z rfl ?_ | refine rwc_o .w rfl ?_ | refine rwc_o .b rfl ?_ | refine rwc_o _ rfl ?_)
  have r1 := wr_setC (c := cP) cP_length l[j] i hi h2 h3
  have r2 := wr_setC (c := cP) (cells := wr c (off + i * 2) (cP l[j])) (l := l.set i l[j]) cP_length l[i] j (by simpa using hj) (by rw [hw]; simpa using h2) (by simpa using r1)
  refine ⟨rfl, _, rfl, by rw [wr_length _ _ _ (by rw [hw]; simp; omega), hw], ?_⟩
  unfold swapG
  rw [at_lt hi, at_lt hj]
  simpa [flatP] using r2
theorem pPush_spec (l : List (Int × Int)) (hl : l.length < 500000) (x : Int × Int) (σ : Sto) (p : Nat) (h : PartsAt p l σ) :
    Spec Tryz.prog 255 [.mp p 0 0, .iface 184 (.agg (cP x))] σ (fun r s => r = .tup [] ∧ PartsAt p (l ++ [x]) s) := by
  obtain ⟨hl, v, fu, h1, h2⟩ := h
  refine spec_intro Tryz.func255 good255 rfl (by simp [Tryz.ntmps255]) ?_
  have o1 := (rowAt_own h2).1
  have hp := (rowAt_own h2).2
  repeat' (first
   | (with_reducible first | refine Stp.pf ?_ | refine block_x (by decide) ?_ | refine ret_n ?_)
   | refine tri_reg [11] ?_ | refine tri_regc [11] [] mixed (by decide +kernel) ?_
   | (refine rwf_nilt rfl (by decide +kernel) fun B hB => ?_; (try simp [*]); refine hB.out _ fun b => ?_; clear hB B)
   | (refine Rul.pf ⟨rfl, rfl⟩ fun B C hB => ?_; (try simp [*, -List.all_eq_true, Tryz.results255]); (try (simp (disch := first | assumption | omega) only [wc, ite_yes]; (try simp [*, -List.all_eq_true, Tryz.results255]))); first | (first | refine hB.out.1 _ (fun hb => ?_) fun hb => ⟨rfl, ?_⟩ | refine hB.out.1 _ (fun hb => ?_) fun hb => ?_) <;> clear hB C B <;> (try simp only [Bool.not_true, Bool.not_false] at hb) <;> (first | (exfalso; simp at hb; done) | (exfalso; simp at hb; omega) | (rw [hb]; (try simp at hb)) | (try simp at hb)) | ((first | refine hB.out.1 _ _ ?_ | refine hB.out.1 _ ?_ | refine hB.out.2 ⟨rfl, ?_⟩); clear hB C B) | (refine hB.out.2 _ ?_; clear hB C B; (try rfl)))
   | refine rwf_o ?_ | refine rwc_o .n rfl ?_ | refine rwc_o .z rfl ?_ | refine rwc_o .w rfl ?_ | refine rwc_o .b rfl ?_ | refine rwc_o _ rfl ?_)
  refine rwc_app rfl rfl elem181 zero184 rfl bytes184 (by decide) slc181 fun G hG => ?_
  (try simp [*, -List.all_eq_true])
  refine hG.out _ _ _ _ _ (o1) (by simp) (by simp) (by simp; try omega) fun v1 σ1 q1 q2 => ?_
  clear hG G
  have h3 := q2.1 p _ h1 hp
  have h4 : ¬ isH p v1 := fun h => by
    rcases q2.2.1 p h with h | h
    · exact hp h
    · have := lt_of_get h1; omega
  have q3 := own_rowAt q1 h4
  rcases q1 with ⟨rfl, q4, _⟩ | ⟨i1, g1, off1, c1, rfl, _⟩
  · omega
  have hne : i1 ≠ p := fun e => h4 (e ▸ ⟨_, _, _, _, rfl⟩)
  repeat' (first
   | (with_reducible first | refine Stp.pf ?_ | refine block_x (by decide) ?_ | refine ret_n ?_)
   | refine tri_reg [11] ?_ | refine tri_regc [11] [] mixed (by decide +kernel) ?_
   | (refine rwf_nilt rfl (by decide +kernel) fun B hB => ?_; (try simp [*]); refine hB.out _ fun b => ?_; clear hB B)
   | (refine Rul.pf ⟨rfl, rfl⟩ fun B C hB => ?_; (try simp [*, -List.all_eq_true, Tryz.results255]); (try (simp (disch := first | assumption | omega) only [wc, ite_yes]; (try simp [*, -List.all_eq_true, Tryz.results255]))); first | (first | refine hB.out.1 _ (fun hb => ?_) fun hb => ⟨rfl, ?_⟩ | refine hB.out.1 _ (fun hb => ?_) fun hb => ?_) <;> clear hB C B <;> (try simp only [Bool.not_true, Bool.not_false] at hb) <;> (first | (exfalso; simp at hb; done) | (exfalso; simp at hb; omega) | (rw [hb]; (try simp at hb)) | (try simp at hb)) | ((first | refine hB.out.1 _ _ ?_ | refine hB.out.1 _ ?_ | refine hB.out.2 ⟨rfl, ?_⟩); clear hB C B) | (refine hB.out.2 _ ?_; clear hB C B; (try rfl)))
   | refine rwf_o ?_ | refine rwc_o .n rfl ?_ | refine rwc_o .z rfl ?_ | refine rwc_o .w rfl ?_ | refine rwc_o .b rfl ?_ | refine rwc_o _ rfl ?_)
  refine ⟨rfl, by simp; omega, _, false, by rw [List.getElem?_set_self (lt_of_get h3)], ?_⟩
  rw [show (l ++ [x]).length = l.length + 1 by simp, show flatP (l ++ [x]) = flatP l ++ cP x by simp [flatP_append, flatP, flatC]]
  exact q3.set_p _
theorem mPLen : methA Tryz.prog 179 "Len" = some (135, false) := by kernel_rfl
theorem mPLess : methA Tryz.prog 179 "Less" = some (253, false) := by kernel_rfl
theorem mPSwap : methA Tryz.prog 179 "Swap" = some (256, false) := by kernel_rfl
theorem mPPush : methA Tryz.prog 179 "Push" = some (255, true) := by kernel_rfl
theorem mPPop : methA Tryz.prog 179 "Pop" = some (254, true) := by kernel_rfl
theorem PartsAt.heap (p : Nat) : HeapM Tryz.prog (.iface 179 (.mp p 0 0)) lessP (PartsAt p) where
  len := fun l σ h => by
    obtain ⟨hl, v, fu, h1, h2⟩ := h
    obtain ⟨ls, xs, f1, f2⟩ := row_lend h2 (by simp) [] rfl
    refine ⟨135, [v], by simp [invokeA, mPLen, recvA, h1], ?_⟩
    exact lend ls 9 f1 rfl (pspec_args (pLen_spec l) f2)
  less := fun l σ i j h hi hj => by
    obtain ⟨hl, v, fu, h1, h2⟩ := h
    obtain ⟨ls, xs, f1, f2⟩ := row_lend h2 (by simp) [.sc (.int .i64 i), .sc (.int .i64 j)] rfl
    refine ⟨253, [v, .sc (.int .i64 i), .sc (.int .i64 j)], by simp [invokeA, mPLess, recvA, h1], ?_⟩
    rw [at_lt hi, at_lt hj]
    exact lend ls 9 f1 rfl (pspec_args (pLess_spec l i j hi hj) f2)
  swap := fun l σ i j h hi hj => by
    obtain ⟨hl, v, fu, h1, h2⟩ := h
    rcases h2 with ⟨rfl, h3, _⟩ | ⟨q, g, off, c, rfl, h3, h4, h5, h6⟩
    · omega
    refine ⟨256, [.ms q g off l.length 2, .sc (.int .i64 i), .sc (.int .i64 j)], by simp [invokeA, mPSwap, recvA, h1], ?_⟩
    refine (pSwap_spec l i j hi hj σ q g off c h4 h5 h6).mono fun r s ⟨e1, c', e2, e3, e4⟩ => ⟨e1, ?_⟩
    subst e2
    refine ⟨by simpa using hl, _, fu, by rw [List.getElem?_set_ne h3]; exact h1, .inr ⟨q, g, off, c', by simp, h3, List.getElem?_set_self (lt_of_get h4), by simp; omega, by simpa using e4⟩⟩
theorem pPop_spec (l : List (Int × Int)) (h0 : 0 < l.length) (σ : Sto) (p : Nat) (h : PartsAt p l σ) :
    Spec Tryz.prog 254 [.mp p 0 0] σ (fun r s => r = .iface 184 (.agg (cP (at_ l (l.length - 1)))) ∧ PartsAt p l.dropLast s) := by
  obtain ⟨hl, v, fu, h1, h2⟩ := h
  rcases h2 with ⟨rfl, h3, _⟩ | ⟨q, g, off, c, rfl, h3, h4, h5, h6⟩
  · omega
  have hc : ((l.length : Nat) : Int) - 1 = ((l.length - 1 : Nat) : Int) := by omega
  have hn : l.length - 1 < l.length := by omega
  have seg : List.take 2 (List.drop (off + (l.length - 1) * 2) c) = cP (at_ l (l.length - 1)) := by
    rw [at_lt hn, ← flatC_seg cP_length l (l.length - 1) hn, show flatC cP l = flatP l from rfl, ← h6, List.drop_take, List.take_take, List.drop_drop]
    congr 1; omega
  have hlen : off + (l.length - 1) * 2 + 2 ≤ c.length := by omega
  refine spec_intro Tryz.func254 good254 rfl (by simp [Tryz.ntmps254]) ?_
  repeat' (first
   | (with_reducible first | refine Stp.pf ?_ | refine block_x (by decide) ?_ | refine ret_n ?_)
   | refine tri_reg [] ?_ | refine tri_regc [] [] mixed (by decide +kernel) ?_
   | (refine rwf_nilt rfl (by decide +kernel) fun B hB => ?_; (try simp [*]); refine hB.out _ fun b => ?_; clear hB B)
   | (refine Rul.pf ⟨rfl, rfl⟩ fun B C hB => ?_; (try simp [*, -List.all_eq_true, Tryz.results254]); (try (simp (disch := first | assumption | omega) only [wc, ite_yes]; (try simp [*, -List.all_eq_true, Tryz.results254]))); first | (first | refine hB.out.1 _ (fun hb => ?_) fun hb => ⟨rfl, ?_⟩ | refine hB.out.1 _ (fun hb => ?_) fun hb => ?_) <;> clear hB C B <;> (try simp only [Bool.not_true, Bool.not_false] at hb) <;> (first | (exfalso; simp at hb; done) | (exfalso; simp at hb; omega) | (rw [hb]; (try simp at hb)) | (try simp at hb)) | ((first | refine hB.out.1 _ _ ?_ | refine hB.out.1 _ ?_ | refine hB.out.2 ⟨rfl, ?_⟩); clear hB C B) | (refine hB.out.2 _ ?_; clear hB C B; (try rfl)))
   | refine rwf_o ?_ | refine rwc_o .n rfl ?_ | refine rwc_o .z rfl ?_ | refine rwc_o .w rfl ?_ | refine rwc_o .b rfl ?_ | refine rwc_o _ rfl ?_)
  refine ⟨by rw [at_lt hn], by simp; omega, .ms q g off (l.length - 1) 2, false, by rw [List.getElem?_set_self (lt_of_get h1)], .inr ⟨q, g, off, c, by simp, h3, by rw [List.getElem?_set_ne (Ne.symm h3)]; exact h4, by simp; omega, ?_⟩⟩
  rw [List.length_dropLast, List.dropLast_eq_take, show flatP (l.take (l.length - 1)) = (flatP l).take ((l.length - 1) * 2) from (flatC_take cP_length l _).symm, ← h6, List.take_take]
  congr 1; omega
/-- The heap of the first parts that weigh something. -/
def topsG (ls : List Int) : List (Int × Int) := (enumL ls).foldl (fun h p => if 0 < p.2 then heapPush lessP h p else h) []
def heavG (ls : List Int) : Int := if topsG ls = [] then -1 else (heapPop lessP (topsG ls)).2.1
theorem topsG_succ {ls : List Int} {k : Nat} (h : k < ls.length) : topsG (ls.take (k + 1)) = if 0 < ls[k] then heapPush lessP (topsG (ls.take k)) ((k : Int), ls[k]) else topsG (ls.take k) := by
  unfold topsG enumL
  rw [List.take_add_one, List.getElem?_eq_getElem h]
  rw [List.zipIdx_append, List.map_append, List.foldl_append]
  simp [Nat.min_eq_left (Nat.le_of_lt h)]
theorem heapUp_length {α : Type} [Inhabited α] (lt : α → α → Bool) : ∀ (f : Nat) (l : List α) (j : Nat), (upG lt f l j).length = l.length
  | 0, l, j => rfl
  | f + 1, l, j => by unfold upG; split; rfl; split; rw [heapUp_length lt f]; simp; rfl
theorem downG_length {α : Type} [Inhabited α] (lt : α → α → Bool) : ∀ (f : Nat) (l : List α) (i n : Nat), (downG lt f l i n).1.length = l.length
  | 0, l, i, n => rfl
  | f + 1, l, i, n => by unfold downG; split; rfl; split; rw [downG_length lt f]; simp; rfl
theorem topsG_len (ls : List Int) : ∀ k, (topsG (ls.take k)).length ≤ k
  | 0 => by simp [topsG, enumL]
  | k + 1 => by
    have ih := topsG_len ls k
    rcases Nat.lt_or_ge k ls.length with h | h
    · rw [topsG_succ h]
      split
      · unfold heapPush heapUp; rw [heapUp_length]; simp; exact ih
      · omega
    · rw [List.take_of_length_le (by omega)] at ih ⊢; omega
set_option maxHeartbeats 1000000 in
theorem bHeav_spec (l : List Msg) (hl : l.length ≤ 900000) (hs : MSmall l) (ps : List Str) (hp : ps.length ≤ 300000) : PSpec Tryz.prog 82 [.fp (cB l) 0, .fs (flatS ps) ps.length] (.sc (.int .i64 (heavG (loadsL l (partsM ps))))) := by
  have hlo := bLoads_spec l hl hs ps (by omega)
  have hll : (loadsL l (partsM ps)).length ≤ ps.length + 1 := by rw [loadsL_length]; exact cutM_len _ _
  generalize loadsL l (partsM ps) = ls at *
  refine spec_pure (by simp) (by simp) ?_
  refine spec_intro Tryz.func82 good82 rfl (by simp [Tryz.ntmps82]) ?_
  repeat' (first
   | (with_reducible first | refine Stp.pf ?_ | refine block_x (by decide) ?_ | refine ret_n ?_)
   | refine tri_reg [8,9] ?_ | refine tri_regc [8,9] [] mixed (by decide +kernel) ?_
   | (refine rwf_nilt rfl (by decide +kernel) fun B hB => ?_; (try simp [*]); refine hB.out _ fun b => ?_; clear hB B)
   | (refine Rul.pf ⟨rfl, rfl⟩ fun B C hB => ?_; (try simp [*, -List.all_eq_true, Tryz.results82]); (try (simp (disch := first | assumption | omega) only [wc, ite_yes]; (try simp [*, -List.all_eq_true, Tryz.results82]))); first | (first | refine hB.out.1 _ (fun hb => ?_) fun hb => ⟨rfl, ?_⟩ | refine hB.out.1 _ (fun hb => ?_) fun hb => ?_) <;> clear hB C B <;> (try simp only [Bool.not_true, Bool.not_false] at hb) <;> (first | (exfalso; simp at hb; done) | (exfalso; simp at hb; omega) | (rw [hb]; (try simp at hb)) | (try simp at hb)) | ((first | refine hB.out.1 _ _ ?_ | refine hB.out.1 _ ?_ | refine hB.out.2.1 _ _ _ (hlo) ?_ | refine hB.out.2.2 _ _ _ (hlo) ?_ | refine hB.out.2 ⟨rfl, ?_⟩); clear hB C B) | (refine hB.out.2 _ ?_; clear hB C B; (try rfl)))
   | refine rwf_o ?_ | refine rwc_o .n rfl ?_ | refine rwc_o .z rfl ?_ | refine rwc_o .w rfl ?_ | refine rwc_o .b rfl ?_ | refine rwc_o _ rfl ?_)
  refine tri_for [4, 5, 12, 13] ls.length (fun k e σ => e 14 = .sc (.int .i64 k) ∧ PartsAt 1 (topsG (ls.take k)) σ) ?_ (fun k env' σ' hlt hk hI => ?_) (fun env' σ' hk hI => ?_)
  · exact ⟨by simp, by simp [topsG, enumL], .ms 0 0 0 0 2, false, by simp, .inr ⟨0, 0, 0, [], by simp [topsG, enumL], by omega, by simp, by simp [topsG, enumL], by simp [topsG, enumL, flatP, flatC]⟩⟩
  · skip
    (try simp at hk)
    obtain ⟨h14, iP⟩ := hI
    have htl := topsG_len ls k
    have hsu := topsG_succ hlt
    by_cases hpos : 0 < ls[k]
    · rw [if_pos hpos] at hsu
      repeat' (first
       | (with_reducible first | refine Stp.pf ?_ | refine block_x (by decide) ?_ | refine ret_n ?_)
       | refine tri_reg [] ?_ | refine tri_regc [] [] mixed (by decide +kernel) ?_
       | (refine rwf_nilt rfl (by decide +kernel) fun B hB => ?_; (try simp [*]); refine hB.out _ fun b => ?_; clear hB B)
       | (refine Rul.pf ⟨rfl, rfl⟩ fun B C hB => ?_; (try simp [*, -List.all_eq_true, Tryz.results82]); (try (simp (disch := first | assumption | omega) only [wc, ite_yes]; (try simp [*, -List.all_eq_true, Tryz.results82]))); first | (first | refine hB.out.1 _ (fun hb => ?_) fun hb => ⟨rfl, ?_⟩ | refine hB.out.1 _ (fun hb => ?_) fun hb => ?_) <;> clear hB C B <;> (try simp only [Bool.not_true, Bool.not_false] at hb) <;> (first | (exfalso; simp at hb; done) | (exfalso; simp at hb; omega) | (rw [hb]; (try simp at hb)) | (try simp at hb)) | ((first | refine hB.out.1 _ _ ?_ | refine hB.out.1 _ ?_ | refine hB.out.2 ⟨rfl, ?_⟩); clear hB C B) | (refine hB.out.2 _ ?_; clear hB C B; (try rfl)))
       | refine rwf_o ?_ | refine rwc_o .n rfl ?_ | refine rwc_o .z rfl ?_ | refine rwc_o .w rfl ?_ | refine rwc_o .b rfl ?_ | refine rwc_o _ rfl ?_)
      refine rwf_ca rfl fun C' hC hP => ?_
      clear hP
      (try simp [*, -List.all_eq_true]); (try (simp (disch := first | assumption | omega) only [wrap_id, wrapu_id, wrapb_id, tmod_nn, tdiv_nn, ite_yes, flatM_seg, flatM_0, flatM_1, flatM_2, flatI_seg, flatI_0, flatI_1, flatS_get]; (try simp [*, -List.all_eq_true])))
      refine hC.out _ _ _ (hPush_spec (PartsAt.heap 1) _ (by omega) _ ((k : Int), ls[k]) _ ⟨255, _, by simp [invokeA, mPPush, recvA]; rfl, pPush_spec _ (by omega) (_, _) _ 1 iP⟩) fun r s hq => ?_
      clear hC C'
      obtain ⟨rfl, hq⟩ := hq
      repeat' (first
       | (with_reducible first | refine Stp.pf ?_ | refine block_x (by decide) ?_ | refine ret_n ?_)
       | refine tri_reg [] ?_ | refine tri_regc [] [] mixed (by decide +kernel) ?_
       | (refine rwf_nilt rfl (by decide +kernel) fun B hB => ?_; (try simp [*]); refine hB.out _ fun b => ?_; clear hB B)
       | (refine Rul.pf ⟨rfl, rfl⟩ fun B C hB => ?_; (try simp [*, -List.all_eq_true, Tryz.results82]); (try (simp (disch := first | assumption | omega) only [wc, ite_yes]; (try simp [*, -List.all_eq_true, Tryz.results82]))); first | (first | refine hB.out.1 _ (fun hb => ?_) fun hb => ⟨rfl, ?_⟩ | refine hB.out.1 _ (fun hb => ?_) fun hb => ?_) <;> clear hB C B <;> (try simp only [Bool.not_true, Bool.not_false] at hb) <;> (first | (exfalso; simp at hb; done) | (exfalso; simp at hb; omega) | (rw [hb]; (try simp at hb)) | (try simp at hb)) | ((first | refine hB.out.1 _ _ ?_ | refine hB.out.1 _ ?_ | refine hB.out.2 ⟨rfl, ?_⟩); clear hB C B) | (refine hB.out.2 _ ?_; clear hB C B; (try rfl)))
       | refine rwf_o ?_ | refine rwc_o .n rfl ?_ | refine rwc_o .z rfl ?_ | refine rwc_o .w rfl ?_ | refine rwc_o .b rfl ?_ | refine rwc_o _ rfl ?_)
      rw [hsu]
      exact ⟨by simp [*], by simp, hq⟩
    · rw [if_neg hpos] at hsu
      repeat' (first
       | (with_reducible first | refine Stp.pf ?_ | refine block_x (by decide) ?_ | refine ret_n ?_)
       | refine tri_reg [] ?_ | refine tri_regc [] [] mixed (by decide +kernel) ?_
       | (refine rwf_nilt rfl (by decide +kernel) fun B hB => ?_; (try simp [*]); refine hB.out _ fun b => ?_; clear hB B)
       | (refine Rul.pf ⟨rfl, rfl⟩ fun B C hB => ?_; (try simp [*, -List.all_eq_true, Tryz.results82]); (try (simp (disch := first | assumption | omega) only [wc, ite_yes]; (try simp [*, -List.all_eq_true, Tryz.results82]))); first | (first | refine hB.out.1 _ (fun hb => ?_) fun hb => ⟨rfl, ?_⟩ | refine hB.out.1 _ (fun hb => ?_) fun hb => ?_) <;> clear hB C B <;> (try simp only [Bool.not_true, Bool.not_false] at hb) <;> (first | (exfalso; simp at hb; done) | (exfalso; simp at hb; omega) | (rw [hb]; (try simp at hb)) | (try simp at hb)) | ((first | refine hB.out.1 _ _ ?_ | refine hB.out.1 _ ?_ | refine hB.out.2 ⟨rfl, ?_⟩); clear hB C B) | (refine hB.out.2 _ ?_; clear hB C B; (try rfl)))
       | refine rwf_o ?_ | refine rwc_o .n rfl ?_ | refine rwc_o .z rfl ?_ | refine rwc_o .w rfl ?_ | refine rwc_o .b rfl ?_ | refine rwc_o _ rfl ?_)
      rw [hsu]
      exact ⟨by simp [*], by simp, iP⟩
  · skip
    (try simp at hk)
    obtain ⟨h14, iP⟩ := hI
    rw [List.take_length] at iP
    have htl := topsG_len ls ls.length
    rw [List.take_length] at htl
    have hh : heavG ls = if topsG ls = [] then -1 else (heapPop lessP (topsG ls)).2.1 := rfl
    have iP' := iP
    obtain ⟨_, v, fu, h1, h2⟩ := iP'
    obtain ⟨lf, xs, f1, f2⟩ := row_lend h2 (by simp) [] rfl
    have hlen := lend lf 9 f1 rfl (pspec_args (pLen_spec (topsG ls)) f2)
    by_cases h0 : topsG ls = []
    · rw [if_pos h0] at hh
      rw [hh]
      have h00 : ((topsG ls).length : Int) = 0 := by rw [h0]; rfl
      rw [h00] at hlen
      repeat' (first
       | (with_reducible first | refine Stp.pf ?_ | refine block_x (by decide) ?_ | refine ret_n ?_)
       | refine tri_reg [] ?_ | refine tri_regc [] [] mixed (by decide +kernel) ?_
       | (refine rwf_nilt rfl (by decide +kernel) fun B hB => ?_; (try simp [*]); refine hB.out _ fun b => ?_; clear hB B)
       | (refine Rul.pf ⟨rfl, rfl⟩ fun B C hB => ?_; (try simp [*, -List.all_eq_true, Tryz.results82]); (try (simp (disch := first | assumption | omega) only [wc, ite_yes]; (try simp [*, -List.all_eq_true, Tryz.results82]))); first | (first | refine hB.out.1 _ (fun hb => ?_) fun hb => ⟨rfl, ?_⟩ | refine hB.out.1 _ (fun hb => ?_) fun hb => ?_) <;> clear hB C B <;> (try simp only [Bool.not_true, Bool.not_false] at hb) <;> (first | (exfalso; simp at hb; done) | (exfalso; simp at hb; omega) | (rw [hb]; (try simp at hb)) | (try simp at hb)) | ((first | refine hB.out.1 _ _ ?_ | refine hB.out.1 _ ?_ | refine hB.out.2.1 _ _ _ (hlen) ?_ | refine hB.out.2.2 _ _ _ (hlen) ?_ | refine hB.out.2 ⟨rfl, ?_⟩); clear hB C B) | (refine hB.out.2 _ ?_; clear hB C B; (try rfl)))
       | refine rwf_o ?_ | refine rwc_o .n rfl ?_ | refine rwc_o .z rfl ?_ | refine rwc_o .w rfl ?_ | refine rwc_o .b rfl ?_ | refine rwc_o _ rfl ?_)
    · rw [if_neg h0] at hh
      rw [hh]
      have h00 : ¬ (topsG ls).length = 0 := fun h => h0 (List.length_eq_zero_iff.1 h)
      have hdl : (heapDown lessP (swapG (topsG ls) 0 ((topsG ls).length - 1)) 0 ((topsG ls).length - 1)).1.length = (topsG ls).length := by unfold heapDown; rw [downG_length]; simp
      repeat' (first
       | (with_reducible first | refine Stp.pf ?_ | refine block_x (by decide) ?_ | refine ret_n ?_)
       | refine tri_reg [] ?_ | refine tri_regc [] [] mixed (by decide +kernel) ?_
       | (refine rwf_nilt rfl (by decide +kernel) fun B hB => ?_; (try simp [*]); refine hB.out _ fun b => ?_; clear hB B)
       | (refine Rul.pf ⟨rfl, rfl⟩ fun B C hB => ?_; (try simp [*, -List.all_eq_true, Tryz.results82]); (try (simp (disch := first | assumption | omega) only [wc, ite_yes]; (try simp [*, -List.all_eq_true, Tryz.results82]))); first | (first | refine hB.out.1 _ (fun hb => ?_) fun hb => ⟨rfl, ?_⟩ | refine hB.out.1 _ (fun hb => ?_) fun hb => ?_) <;> clear hB C B <;> (try simp only [Bool.not_true, Bool.not_false] at hb) <;> (first | (exfalso; simp at hb; done) | (exfalso; simp at hb; omega) | (rw [hb]; (try simp at hb)) | (try simp at hb)) | ((first | refine hB.out.1 _ _ ?_ | refine hB.out.1 _ ?_ | refine hB.out.2.1 _ _ _ (hlen) ?_ | refine hB.out.2.2 _ _ _ (hlen) ?_ | refine hB.out.2 ⟨rfl, ?_⟩); clear hB C B) | (refine hB.out.2 _ ?_; clear hB C B; (try rfl)))
       | refine rwf_o ?_ | refine rwc_o .n rfl ?_ | refine rwc_o .z rfl ?_ | refine rwc_o .w rfl ?_ | refine rwc_o .b rfl ?_ | refine rwc_o _ rfl ?_)
      refine rwf_ca rfl fun C' hC hP => ?_
      clear hP
      (try simp [*, -List.all_eq_true]); (try (simp (disch := first | assumption | omega) only [wrap_id, wrapu_id, wrapb_id, tmod_nn, tdiv_nn, ite_yes, flatM_seg, flatM_0, flatM_1, flatM_2, flatI_seg, flatI_0, flatI_1, flatS_get]; (try simp [*, -List.all_eq_true])))
      refine hC.out _ _ _ (hPop_spec (PartsAt.heap 1) _ (by omega) (by omega) _ iP _ (fun s hs => ⟨254, _, by simp [invokeA, mPPop, recvA], pPop_spec _ (by rw [hdl]; omega) s 1 hs⟩)) fun r s hq => ?_
      clear hC C'
      obtain ⟨rfl, hq⟩ := hq
      rw [hdl] at *
      repeat' (first
       | (with_reducible first | refine Stp.pf ?_ | refine block_x (by decide) ?_ | refine ret_n ?_)
       | refine tri_reg [] ?_ | refine tri_regc [] [] mixed (by decide +kernel) ?_
       | (refine rwf_nilt rfl (by decide +kernel) fun B hB => ?_; (try simp [*]); refine hB.out _ fun b => ?_; clear hB B)
       | (refine Rul.pf ⟨rfl, rfl⟩ fun B C hB => ?_; (try simp [*, -List.all_eq_true, Tryz.results82]); (try (simp (disch := first | assumption | omega) only [wc, ite_yes]; (try simp [*, -List.all_eq_true, Tryz.results82]))); first | (first | refine hB.out.1 _ (fun hb => ?_) fun hb => ⟨rfl, ?_⟩ | refine hB.out.1 _ (fun hb => ?_) fun hb => ?_) <;> clear hB C B <;> (try simp only [Bool.not_true, Bool.not_false] at hb) <;> (first | (exfalso; simp at hb; done) | (exfalso; simp at hb; omega) | (rw [hb]; (try simp at hb)) | (try simp at hb)) | ((first | refine hB.out.1 _ _ ?_ | refine hB.out.1 _ ?_ | refine hB.out.2 ⟨rfl, ?_⟩); clear hB C B) | (refine hB.out.2 _ ?_; clear hB C B; (try rfl)))
       | refine rwf_o ?_ | refine rwc_o .n rfl ?_ | refine rwc_o .z rfl ?_ | refine rwc_o .w rfl ?_ | refine rwc_o .b rfl ?_ | refine rwc_o _ rfl ?_)
end Go.Proofs.YtemijcjgdgdhjaaGreat
