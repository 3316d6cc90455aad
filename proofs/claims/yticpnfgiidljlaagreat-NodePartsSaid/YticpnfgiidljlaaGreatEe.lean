/- Leaves: slices.Grow, slices.Concat, Join, Parts. -/
import Derived.Test.YticpnfgiidljlaaGreatEc
import Derived.Test.YticpnfgiidljlaaGreatLw
namespace Go.Proofs.YticpnfgiidljlaaGreat
open Go.RowKit Go.Sort
set_option linter.unusedSimpArgs false
set_option maxRecDepth 10000
/-- How many items have half of the weight. -/
def halfI (l : List Item) : Nat := (List.range (l.length + 1)).findIdx fun n => decide (iwts l ≤ 2 * iwts (l.take n))
theorem halfI_spec (l : List Item) (h0 : 0 ≤ iwts l) : halfI l ≤ l.length ∧ iwts l ≤ 2 * iwts (l.take (halfI l)) ∧ ∀ n, n < halfI l → ¬ iwts l ≤ 2 * iwts (l.take n) := by
  have hlt : halfI l < (List.range (l.length + 1)).length := by
    unfold halfI
    rw [List.findIdx_lt_length]
    exact ⟨l.length, by simp, by simp; omega⟩
  have h1 : iwts l ≤ 2 * iwts (l.take (halfI l)) := by
    have h : decide (iwts l ≤ 2 * iwts (l.take (List.range (l.length + 1))[halfI l])) = true := List.findIdx_getElem (p := fun n => decide (iwts l ≤ 2 * iwts (l.take n))) (w := hlt)
    rw [List.getElem_range] at h
    simpa using h
  refine ⟨by simp at hlt; omega, h1, fun n hn => ?_⟩
  have := List.not_of_lt_findIdx (p := fun n => decide (iwts l ≤ 2 * iwts (l.take n))) (xs := List.range (l.length + 1)) (i := n) hn
  simpa using this
theorem lHalf_spec (l : List Item) (hl : l.length ≤ 900000) (hs : ISmall l) : PSpec Tryz.prog 71 [.fp (cL l) 0] (.sc (.int .i64 (halfI l))) := by
  have hw : ∀ k, 0 ≤ iwts (l.take k) ∧ iwts (l.take k) ≤ 2000002 * l.length := fun k => by
    have := iwts_bd (l.take k) fun x hx => hs x (List.mem_of_mem_take hx)
    have h2 : (l.take k).length ≤ l.length := by simp; omega
    omega
  have hwl := hw l.length
  rw [List.take_length] at hwl
  obtain ⟨h1, h2, h3⟩ := halfI_spec l hwl.1
  replace hs := Lib.hid hs
  replace hw := Lib.hid hw
  replace h3 := Lib.hid h3
  refine spec_pure (by simp) (by simp) ?_
  refine spec_intro Tryz.func71 good71 rfl (by simp [Tryz.ntmps71]) ?_
  refine go1 [] [] (cns Tryz.results71 (cns cL.eq_1 trivial)) ?_
  refine tri_for [0, 2] (halfI l) (fun k e σ => σ = [] ∧ e 3 = .sc (.int .i64 k) ∧ e 4 = .sc (.int .i64 (iwts (l.take k)))) ?_ (fun k env' σ' hlt hk hI => ?_) (fun env' σ' hk hI => ?_)
  · exact ⟨by simp, by simp, by simp [iwts]⟩
  · skip
    (try simp at hk)
    obtain ⟨rfl, h3_, h4⟩ := hI
    have hkl : k < l.length := by omega
    have hm := hs.out l[k] (List.getElem_mem hkl)
    have w0 := hw.out k
    have w1 := hw.out (k + 1)
    have hno := h3.out k hlt
    have h5 := iwts_take l k l[k] (List.getElem?_eq_getElem hkl)
    have sg := flatI_seg l k hkl
    have wsp := iWeight_spec l[k] hm.1 hm.2
    rw [h5] at w1 ⊢
    clear h5 hm h2
    generalize l[k] = x at *
    generalize iwts (l.take k) = W0 at *
    generalize iwt x = w at *
    generalize halfI l = H at *
    refine go1 [] [] (cns wsp (cns Tryz.results71 trivial)) ?_
    exact ⟨by simp [*], rfl, by simp, by simp⟩
  · skip
    (try simp at hk)
    obtain ⟨rfl, h3_, h4⟩ := hI
    have w0 := hw.out (halfI l)
    generalize iwts (l.take (halfI l)) = W0 at *
    generalize halfI l = H at *
    exact go0 [] [] (cns Tryz.results71 trivial)
end Go.Proofs.YticpnfgiidljlaaGreat
namespace Go.Proofs.YticpnfgiidljlaaGreat
open Go.RowKit Go.Sort
set_option linter.unusedSimpArgs false
set_option maxRecDepth 10000
/-- Rows of rows. -/
def cY (l : List Item) : List AV := [.fs (flatI l) l.length]
def flatY (l : List (List Item)) : List AV := flatC cY l
theorem cY_length (r : List Item) : (cY r).length = 1 := rfl
theorem cY_flat (r : List Item) : flatL (cY r) = true := by simp [cY, AV.flat, flatL]
theorem cY_one (r : List Item) : (cY r).all AV.one = true := rfl
@[simp] theorem flatY_length (l : List (List Item)) : (flatY l).length = l.length := by have := flatC_length cY_length l; rw [Nat.mul_one] at this; exact this
@[simp] theorem flatY_flat (l : List (List Item)) : flatL (flatY l) = true := flatC_flat cY_flat l
@[simp] theorem flatY_one (l : List (List Item)) : (flatY l).all AV.one = true := flatC_one' cY_one l
theorem flatY_get (l : List (List Item)) (k : Nat) (h : k < l.length) : (flatY l)[k]? = some (.fs (flatI l[k]) l[k].length) := by have := flatC_get cY_length l k 0 h (by omega); rw [Nat.mul_one] at this; exact this
@[simp] theorem flatY_at (l : List (List Item)) (k : Nat) (h : k < (flatY l).length) : (flatY l)[k] = .fs (flatI (l[k]'(by simpa using h))) (l[k]'(by simpa using h)).length := by
  have := flatY_get l k (by simpa using h)
  rw [List.getElem?_eq_getElem h] at this
  exact Option.some.inj this
/-- All rows, one behind the other. -/
def catI (l : List (List Item)) : List Item := l.flatten
theorem catI_succ {l : List (List Item)} {k : Nat} (h : k < l.length) : catI (l.take (k + 1)) = catI (l.take k) ++ l[k] := by
  unfold catI
  rw [List.take_add_one, List.getElem?_eq_getElem h, List.flatten_append]; simp
theorem cat_le {l : List (List Item)} (k : Nat) : (catI (l.take k)).length ≤ (catI l).length := by
  have : catI l = catI (l.take k) ++ (l.drop k).flatten := by unfold catI; rw [← List.flatten_append, List.take_append_drop]
  rw [this]; simp
theorem growI_spec (n : Nat) (hn : n ≤ 1000000) (σ : Sto) : Spec Tryz.prog 113 [.sc (.slice none 0 0), .sc (.int .i64 n)] σ (fun r s => Own 2 s r 0 [] ∧ ∀ (i : Nat) (o : MO), σ[i]? = some o → s[i]? = some o) := by
  refine spec_intro Tryz.func113 good113 rfl (by simp [Tryz.ntmps113]) ?_
  rcases Nat.eq_zero_or_pos n with rfl | hp
  · skip
    refine go1 [22] [] (cns Tryz.results113 trivial) ?_
    exact ⟨.inl ⟨rfl, rfl, rfl⟩, fun i o h => h⟩
  · have hn0 : ¬ n = 0 := by omega
    refine go1 [22] [] (cns Tryz.results113 trivial) ?_
    exact ⟨.inr ⟨σ.length, 0, 0, _, rfl, List.getElem?_concat_length, by simp, by simp⟩, fun i o h => by rw [List.getElem?_append_left (lt_of_get h)]; exact h⟩
set_option maxHeartbeats 1000000 in
theorem concatI_spec (ls : List (List Item)) (hl : (catI ls).length ≤ 1000000) (hn : ls.length ≤ 1000000) : PSpec Tryz.prog 75 [.fs (flatY ls) ls.length] (.fs (flatI (catI ls)) (catI ls).length) := by
  refine spec_pureFW (by simp) ?_
  refine spec_intro Tryz.func75 good75 rfl (by simp [Tryz.ntmps75]) ?_
  refine go1 [33] [] (cns Tryz.results75 trivial) ?_
  refine tri_for [0, 2, 9, 10] ls.length (fun k e σ => σ = [] ∧ e 11 = .sc (.int .i64 k) ∧ e 3 = .sc (.int .i64 (catI (ls.take k)).length)) ?_ (fun k env' σ' hlt hk hI => ?_) (fun env' σ' hk hI => ?_)
  · exact ⟨by simp, by simp, by simp [catI]⟩
  · skip
    (try simp at hk)
    obtain ⟨rfl, h11, h3⟩ := hI
    have hs := catI_succ hlt
    have h1 := cat_le (l := ls) k
    have h2 := cat_le (l := ls) (k + 1)
    have sg := flatY_get ls k hlt
    rw [hs] at h2 ⊢
    clear hs
    generalize (catI (ls.take k)) = W at *
    rw [List.length_append] at *
    refine go1 [33] [] (cns Tryz.results75 trivial) ?_
    exact ⟨by simp [*], rfl, by simp, by simp⟩
  · skip
    (try simp at hk)
    obtain ⟨rfl, h11, h3⟩ := hI
    rw [List.take_length] at h3
    have hg := growI_spec (catI ls).length hl []
    refine go1 [33] [] (cns Tryz.results75 trivial) ?_
    refine rwf_ca rfl fun C' hC hP => ?_
    clear hP
    (try simp [*, -List.all_eq_true]); (try (simp (disch := first | assumption | omega) only [wrap_id, wrapu_id, wrapb_id, tmod_nn, tdiv_nn, ite_yes, flatM_seg, flatM_0, flatM_1, flatM_2, flatI_seg, flatI_0, flatI_1, flatS_get]; (try simp [*, -List.all_eq_true])))
    refine hC.out _ _ _ (hg) fun r s hq => ?_
    clear hC C'
    obtain ⟨o1, -⟩ := hq
    clear hg
    refine go1 [33] [] (cns Tryz.results75 trivial) ?_
    refine tri_for [2, 25, 26] ls.length (fun k e σ => e 27 = .sc (.int .i64 k) ∧ ∃ v, e 6 = v ∧ Own 2 σ v (catI (ls.take k)).length (flatI (catI (ls.take k)))) ?_ (fun k env' σ' hlt hk hI => ?_) (fun env' σ' hk hI => ?_)
    · exact ⟨by simp, _, by simp; rfl, by simpa [catI, flatI, flatC] using o1⟩
    · clear o1
      (try simp at hk)
      obtain ⟨h27, v, h6, o1⟩ := hI
      have hs := catI_succ hlt
      have h1 := cat_le (l := ls) k
      have h2 := cat_le (l := ls) (k + 1)
      have sg := flatY_get ls k hlt
      rw [hs] at h2 ⊢
      clear hs
      generalize (catI (ls.take k)) = W at *
      rw [List.length_append] at *
      refine go1 [33] [] (cns Tryz.results75 trivial) ?_
      refine rwf_app rfl rfl elem22 zero71 rfl bytes71 (by decide) slc22 fun G hG => ?_
      (try simp [*, -List.all_eq_true])
      refine hG.out _ _ _ _ _ (o1) (by simp) (by simp) (by omega) fun v1 σ1 q1 q2 => ?_
      clear hG G
      refine go1 [33] [] (cns Tryz.results75 trivial) ?_
      exact ⟨by simp [*], by simp, v1, by simp, by simpa [flatI_append] using q1⟩
    · clear o1
      (try simp at hk)
      obtain ⟨h27, v, h6, o1⟩ := hI
      rw [List.take_length] at o1
      refine go1 [33] [] (cns Tryz.results75 trivial) ?_
      exact out_own o1 (by simp)
/-- Whether the one ends ahead of the other. -/
def clashI (a b : List Item) : Bool := match a.getLast?, b with
  | some x, y :: _ => !slt x.key y.key
  | _, _ => false
def joinR (a b : List Item) : AV := if clashI a b = true then .tup [.sc (.pointer none), .sc (.int .i64 11)] else .tup [.fp (cL (a ++ b)) 0, .sc (.int .i64 0)]
theorem clashI_at {a b : List Item} (hbp : 0 < b.length) (j : Nat) (hj : a.length = j + 1) : clashI a b = !slt (a[j]'(by omega)).key (lowK b) := by
  unfold clashI
  cases b with
  | nil => simp at hbp
  | cons y b => rw [List.getLast?_eq_getElem?, show a.length - 1 = j by omega, List.getElem?_eq_getElem (by omega)]; rfl
set_option maxHeartbeats 1000000 in
theorem lJoin_spec (a b : List Item) (hl : a.length + b.length ≤ 900000) (hs : ISmall (a ++ b)) : PSpec Tryz.prog 28 [.fp (cL a) 0, .fp (cL b) 0] (joinR a b) := by
  have hm := lMade_spec (a ++ b) (by simp; omega) hs
  have hc := concatI_spec [a, b] (by unfold catI; simp; omega) (by simp)
  rw [show catI [a, b] = a ++ b by simp [catI], show flatY [a, b] = [.fs (flatI a) a.length, .fs (flatI b) b.length] from rfl] at hc
  have h1 := lLen_spec a
  have h2 := lLen_spec b
  have h3 := lLow_spec b
  have hcl := clashI_at (a := a) (b := b)
  unfold joinR
  clear hs
  have hno1 : a = [] → clashI a b = false := fun h => by subst h; rfl
  have hno2 : b = [] → clashI a b = false := fun h => by subst h; unfold clashI; cases a.getLast? <;> rfl
  generalize a ++ b = ab at *
  generalize clashI a b = cl at *
  generalize lowK b = L at *
  rcases Nat.eq_zero_or_pos a.length with ha | hap
  · obtain rfl := List.length_eq_zero_iff.1 ha
    rw [hno1 rfl]
    clear hcl hno1 hno2
    refine spec_pure (by simp) (by simp) ?_
    refine spec_intro Tryz.func28 good28 rfl (by simp [Tryz.ntmps28]) ?_
    exact go0 [] [] (cns h1 (cns h2 (cns h3 (cns hc (cns hm (cns Tryz.results28 (cns cL.eq_1 trivial)))))))
  · rcases Nat.eq_zero_or_pos b.length with hbn | hbp
    · obtain rfl := List.length_eq_zero_iff.1 hbn
      rw [hno2 rfl]
      clear hcl hno1 hno2
      refine spec_pure (by simp) (by simp) ?_
      refine spec_intro Tryz.func28 good28 rfl (by simp [Tryz.ntmps28]) ?_
      exact go0 [] [] (cns h1 (cns h2 (cns h3 (cns hc (cns hm (cns Tryz.results28 (cns cL.eq_1 trivial)))))))
    · obtain ⟨j, hj⟩ : ∃ j, a.length = j + 1 := ⟨a.length - 1, by omega⟩
      have hjl : j < a.length := by omega
      have e : cl = !slt (a[j]'hjl).key L := hcl hbp j hj
      have e1 : (a.length : Int) - 1 = (j : Nat) := by omega
      subst e
      clear hcl hno1 hno2 hj
      cases hS : slt a[j].key L with
      | true =>
        rw [if_neg (by simp)]
        refine spec_pure (by simp) (by simp) ?_
        refine spec_intro Tryz.func28 good28 rfl (by simp [Tryz.ntmps28]) ?_
        exact go0 [] [] (cns h1 (cns h2 (cns h3 (cns hc (cns hm (cns Tryz.results28 (cns cL.eq_1 trivial)))))))
      | false =>
        rw [if_pos (by simp)]
        refine spec_pure (by simp) (by simp) ?_
        refine spec_intro Tryz.func28 good28 rfl (by simp [Tryz.ntmps28]) ?_
        repeat' (first
         | (with_reducible first | refine Stp.pf ?_ | refine block_x (by decide) ?_ | refine ret_n ?_)
         | refine tri_reg [] ?_ | refine tri_regc [] [] mixed (by decide +kernel) ?_
         | (refine rwf_nilt rfl (by decide +kernel) fun B hB => ?_; (try simp [*]); refine hB.out _ fun b => ?_; clear hB B)
         | (refine Rul.pf ⟨rfl, rfl⟩ fun B C hB => ?_; (try simp [*, -List.all_eq_true, cL, Tryz.results28]); (try (simp (disch := first | assumption | omega) only [wc, ite_yes]; (try simp [*, -List.all_eq_true, cL, Tryz.results28]))); first | (first | refine hB.out.1 _ (fun hb => ?_) fun hb => ⟨rfl, ?_⟩ | refine hB.out.1 _ (fun hb => ?_) fun hb => ?_) <;> clear hB C B <;> (try simp only [Bool.not_true, Bool.not_false] at hb) <;> (first | (exfalso; simp at hb; done) | (exfalso; simp at hb; omega) | (rw [hb]; (try simp at hb)) | (try simp at hb)) | ((first | refine hB.out.1 _ _ ?_ | refine hB.out.1 _ ?_ | refine hB.out.2.1 _ _ _ (h1) ?_ | refine hB.out.2.2 _ _ _ (h1) ?_ | refine hB.out.2.1 _ _ _ (h2) ?_ | refine hB.out.2.2 _ _ _ (h2) ?_ | refine hB.out.2.1 _ _ _ (h3) ?_ | refine hB.out.2.2 _ _ _ (h3) ?_ | refine hB.out.2.1 _ _ _ (hc) ?_ | refine hB.out.2.2 _ _ _ (hc) ?_ | refine hB.out.2.1 _ _ _ (hm) ?_ | refine hB.out.2.2 _ _ _ (hm) ?_ | refine hB.out.2 ⟨rfl, ?_⟩); clear hB C B) | (refine hB.out.2 _ ?_; clear hB C B; (try rfl)))
         | refine rwf_o ?_ | refine rwc_o .n rfl ?_ | refine rwc_o .z rfl ?_ | refine rwc_o .w rfl ?_ | refine rwc_o .b rfl ?_ | refine rwc_o _ rfl ?_)
end Go.Proofs.YticpnfgiidljlaaGreat
