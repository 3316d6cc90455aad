/- Pack: Leaves. -/
import Derived.Test.YtejgopcicenbeaaGreatPke
namespace Go.Proofs.YtejgopcicenbeaaGreat
open Go.RowKit
set_option linter.unusedSimpArgs false
set_option linter.unusedVariables false
set_option maxRecDepth 10000
theorem leafR_rise {l : List Item} (ho : l.all okI = true) (hr : RiseI l) : leafR l = .tup [.fp (cL l) 0, .sc (.int .i64 0)] := by
  unfold leafR
  rw [if_neg (by simp [ho]), ofL_rise hr]
theorem okI_wt {x : Item} (h : okI x = true) : iwt x ≤ 26 := by
  rw [okI_is] at h
  simp [isKey, isVal] at h
  unfold iwt
  omega
/-- A row of leaves. -/
def cP (q : List Item) : List AV := [.fp (cL q) 0]
def flatP (ls : List (List Item)) : List AV := flatC cP ls
@[simp] theorem cP_length (q : List Item) : (cP q).length = 1 := rfl
@[simp] theorem cP_flat (q : List Item) : flatL (cP q) = true := by simp [cP, flatL, AV.flat]
@[simp] theorem cP_one (q : List Item) : (cP q).all AV.one = true := by simp [cP, AV.one]
@[simp] theorem flatP_length (ls : List (List Item)) : (flatP ls).length = ls.length := by have := flatC_length (c := cP) (n := 1) cP_length ls; rw [Nat.mul_one] at this; exact this
@[simp] theorem flatP_flat (ls : List (List Item)) : flatL (flatP ls) = true := flatC_flat cP_flat ls
theorem flatP_snoc (ls : List (List Item)) (q : List Item) : flatP ls ++ [.fp (cL q) 0] = flatP (ls ++ [q]) := by simp [flatP, flatC, cP]
theorem leavesF_more : ∀ (n m : Nat) (l : List Item), l.length ≤ n → l.length ≤ m → (∀ x ∈ l, iwt x ≤ 26) → leavesF n l = leavesF m l
  | 0, m, l, hn, hm, hw => by
    obtain rfl := List.length_eq_zero_iff.1 (show l.length = 0 by omega)
    cases m <;> simp [leavesF]
  | n + 1, 0, l, hn, hm, hw => by
    obtain rfl := List.length_eq_zero_iff.1 (show l.length = 0 by omega)
    simp [leavesF]
  | n + 1, m + 1, l, hn, hm, hw => by
    rw [leavesF, leavesF]
    by_cases hl : l = []
    · rw [if_pos hl, if_pos hl]
    · rw [if_neg hl, if_neg hl]
      have := fillN_pos hl hw
      rw [leavesF_more n m (l.drop (fillN l 0)) (by simp; omega) (by simp; omega) fun x hx => hw x (List.mem_of_mem_drop hx)]
theorem leavesF_step {l : List Item} (hl : l ≠ []) (hw : ∀ x ∈ l, iwt x ≤ 26) : leavesF l.length l = l.take (fillN l 0) :: leavesF (l.drop (fillN l 0)).length (l.drop (fillN l 0)) := by
  obtain ⟨n, hn⟩ : ∃ n, l.length = n + 1 := ⟨l.length - 1, by have := List.length_pos_iff.2 hl; omega⟩
  have hp := fillN_pos hl hw
  rw [hn, leavesF, if_neg hl, leavesF_more n (l.drop (fillN l 0)).length (l.drop (fillN l 0)) (by simp; omega) (Nat.le_refl _) fun x hx => hw x (List.mem_of_mem_drop hx)]
/-- What the rounds to come add. -/
def restP (ls : List (List Item)) (l : List Item) : List (List Item) := if l = [] ∧ ls = [] then [[]] else leavesF l.length l
theorem restP_step {ls : List (List Item)} {l : List Item} (h : l ≠ [] ∨ ls = []) (hw : ∀ x ∈ l, iwt x ≤ 26) : ls ++ restP ls l = (ls ++ [l.take (fillN l 0)]) ++ restP (ls ++ [l.take (fillN l 0)]) (l.drop (fillN l 0)) := by
  unfold restP
  rw [if_neg (show ¬ (l.drop (fillN l 0) = [] ∧ ls ++ [l.take (fillN l 0)] = []) by simp)]
  by_cases hl : l = []
  · subst hl
    rw [if_pos ⟨rfl, by simpa using h⟩]
    simp [leavesF]
  · rw [if_neg (fun q => hl q.1), leavesF_step hl hw]
    simp
/-- What Leaves comes to. -/
def leavesR (l : List Item) : AV := if chkI l = 0 then .tup [.fs (flatP (leavesP l)) (leavesP l).length, .sc (.int .i64 0)] else .tup [.sc (.slice none 0 0), .sc (.int .i64 (chkI l))]
theorem chkI_zero {l : List Item} (h : chkI l = 0) : l.all okI = true ∧ RiseI l := by
  unfold chkI at h
  split at h
  · cases h
  · rename_i h1
    split at h
    · rename_i h2
      exact ⟨by simpa using h1, (upI_rise l).1 h2⟩
    · cases h
theorem all_sub {l : List Item} (h : l.all okI = true) (k : Nat) : (l.take k).all okI = true ∧ (l.drop k).all okI = true :=
  ⟨List.all_eq_true.2 fun x hx => List.all_eq_true.1 h x (List.mem_of_mem_take hx), List.all_eq_true.2 fun x hx => List.all_eq_true.1 h x (List.mem_of_mem_drop hx)⟩
def GoodI (l : List Item) : Prop := l.all okI = true ∧ RiseI l
theorem GoodI.take {l : List Item} (h : GoodI l) (k : Nat) : GoodI (l.take k) := ⟨(all_sub h.1 k).1, h.2.sublist (List.take_sublist _ _)⟩
theorem GoodI.drop {l : List Item} (h : GoodI l) (k : Nat) : GoodI (l.drop k) := ⟨(all_sub h.1 k).2, h.2.sublist (List.drop_sublist _ _)⟩
theorem GoodI.wt {l : List Item} (h : GoodI l) : ∀ x ∈ l, iwt x ≤ 26 := fun x hx => okI_wt (List.all_eq_true.1 h.1 x hx)
theorem GoodI.small {l : List Item} (h : GoodI l) : ISmall l := ok_small (List.all_eq_true.1 h.1)
theorem pLeaves_spec (l : List Item) (hl : l.length ≤ 900000) : PSpec Tryz.prog 12 [.fs (flatI l) l.length] (leavesR l) := by
  have hc := pCheck_spec l (by omega)
  unfold leavesR
  by_cases h0 : chkI l = 0
  · rw [if_pos h0]
    rw [h0] at hc
    have hg : GoodI l := chkI_zero h0
    have hP : leavesP l = restP [] l := by unfold leavesP restP; simp
    rw [hP]
    obtain ⟨L, hL⟩ : ∃ L, L = l.length := ⟨_, rfl⟩
    have hLL : l.length + 1 ≤ 900001 := by omega
    clear hP h0
    refine spec_pureFW (by simp) ?_
    refine spec_intro Tryz.func12 good12 rfl (by simp [Tryz.ntmps12]) ?_
    refine go1 [37] [] (cns hc (cns Tryz.results12 trivial)) ?_
    clear hc
    refine tri_whl [] (l.length + 1) (fun m e σ => ∃ (ls : List (List Item)) (q : List Item) (v : AV), e 0 = .fs (flatI q) q.length ∧ GoodI q ∧ e 5 = v ∧ Own 1 σ v ls.length (flatP ls) ∧ m = q.length + (if ls = [] then 1 else 0) ∧ ls ++ restP ls q = restP [] l ∧ ls.length + q.length ≤ 900000 ∧ (ls = [] → v = .sc (.slice none 0 0))) ?_ (fun m env' σ' hm hk hI => ?_)
    · exact ⟨l.length + 1, Nat.le_refl _, [], l, .sc (.slice none 0 0), by simp, hg, by simp, by simpa [flatP, flatC] using Own.nil 1 _, by simp, by simp, by simp; omega, fun _ => rfl⟩
    · clear hg
      (try simp at hk)
      obtain ⟨ls, q, v, h0, hg, h5, o1, hm1, hr, hls, hv⟩ := hI
      have hw := Lib.hid hg.wt
      have hf := pFill_spec q (by omega) hg.small
      have hfl := fillN_le q 0
      have lo := lOf_spec (q.take (fillN q 0)) (by simp; omega)
      rw [leafR_rise (hg.take _).1 (hg.take _).2, List.length_take, Nat.min_eq_left hfl, ← flatI_take] at lo
      have t2 := flatI_drop q (fillN q 0)
      have l2 : (q.drop (fillN q 0)).length = q.length - fillN q 0 := by simp
      have t3 : List.take ((q.length - fillN q 0) * 2) (flatI (q.drop (fillN q 0))) = flatI (q.drop (fillN q 0)) := List.take_of_length_le (by rw [flatI_length, l2]; omega)
      have hst := fun h => restP_step (ls := ls) (l := q) h hw.out
      have hgd := hg.drop (fillN q 0)
      by_cases hq : q = []
      · subst hq
        by_cases hls0 : ls = []
        · subst hls0
          obtain rfl := hv rfl
          replace hst := Lib.hid (hst (.inr rfl))
          replace hr := Lib.hid hr
          clear hv hgd t2 t3 l2 hls hfl
          have e1 : flatI ([] : List Item) = [] := rfl
          have e2 : fillN ([] : List Item) 0 = 0 := rfl
          simp only [e1, e2, List.take_nil, List.drop_nil, List.length_nil, Nat.zero_mul] at hf lo h0 hst hr o1
          clear e1 e2
          refine go1 [37] [] (cns hf (cns lo (cns Tryz.results12 trivial))) ?_
          exact ⟨by simp [*], 0, by rw [hm1]; simp, [[]], [], _, by simp [flatI, flatC], hg, by simp, .inr ⟨σ'.length, 0, 0, _, rfl, List.getElem?_concat_length, by simp, by simp [flatP, flatC, cP]⟩, by simp, by rw [← hr.out, hst.out]; simp, by simp, fun h => by simp at h⟩
        · have hlp := List.length_pos_iff.2 hls0
          have hr' : ls = restP [] l := by
            rw [← hr]
            simp [restP, hls0, leavesF]
          clear hst hgd hf lo t2 t3 l2 hfl hg hv hw hm1
          rcases id o1 with ⟨_, q2, _⟩ | ⟨i', g', off', c', rfl, -⟩
          · omega
          · replace hr' := Lib.hid hr'
            replace o1 := Lib.hid o1
            have hls1 : ls.length ≠ 0 := by omega
            clear hr hls0
            simp only [List.length_nil] at h0 hls
            refine go1 [37] [] (cns Tryz.results12 trivial) ?_
            rw [← hr'.out]
            exact out_own1 o1.out (flatP_flat ls)
      · have hqp : 0 < q.length := List.length_pos_iff.2 hq
        have hp := fillN_pos hq hw.out
        replace hst := Lib.hid (hst (.inl hq))
        replace hgd := Lib.hid hgd
        replace hr := Lib.hid hr
        replace hv := Lib.hid hv
        clear hg
        generalize q.take (fillN q 0) = A at *
        generalize q.drop (fillN q 0) = B at *
        generalize fillN q 0 = F at *
        refine go1 [37] [] (cns hf (cns lo (cns Tryz.results12 trivial))) ?_
        refine rwf_app rfl rfl elem27 zero31 rfl bytes31 (by decide) slc27 fun G hG => ?_
        (try simp [*, -List.all_eq_true])
        refine hG.out _ _ _ _ _ (o1) (by simp) (by simp) (by omega) fun v1 σ1 q1 q2 => ?_
        clear hG G
        have hqm : q.length ≤ m := by split at hm1 <;> omega
        clear hm1
        refine go1 [37] [] (cns Tryz.results12 trivial) ?_
        exact ⟨by simp [*], B.length, by omega, ls ++ [A], B, v1, by simp [*], hgd.out, by simp, by simpa [flatP_snoc] using q1, by simp, by rw [← hst.out]; exact hr.out, by simp; omega, fun h => by simp at h⟩
  · rw [if_neg h0]
    generalize chkI l = c at *
    have h0' : ¬ (c : Int) = 0 := h0
    refine spec_pureFW (by simp) ?_
    refine spec_intro Tryz.func12 good12 rfl (by simp [Tryz.ntmps12]) ?_
    refine go1 [37] [] (cns hc (cns Tryz.results12 trivial)) ?_
    exact out_flat rfl (.refl _)
end Go.Proofs.YtejgopcicenbeaaGreat
