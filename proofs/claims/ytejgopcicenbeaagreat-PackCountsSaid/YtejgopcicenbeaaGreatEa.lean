/- Leaves: isBad, isTwin, made; slices.ContainsFunc, CompactFunc. -/
import Derived.Test.YtejgopcicenbeaaGreatRd
import Derived.Test.YtejgopcicenbeaaGreatPoi
import Derived.Test.YtejgopcicenbeaaGreatWmg
import Derived.Test.YtejgopcicenbeaaGreatLw
namespace Go.Proofs.YtejgopcicenbeaaGreat
open Go.RowKit Go.Sort
set_option linter.unusedSimpArgs false
set_option maxRecDepth 10000
/-- A leaf. -/
def iwts (l : List Item) : Int := (l.map iwt).sum
def ISmall (l : List Item) : Prop := ∀ x ∈ l, x.key.size ≤ 1000000 ∧ x.val.size ≤ 1000000
def cL (l : List Item) : List AV := [.fs (flatI l) l.length, .sc (.int .i64 (iwts l))]
@[simp] theorem cL_flat (l : List Item) : flatL (cL l) = true := by simp [cL, AV.flat, flatL]
theorem iwts_app (a b : List Item) : iwts (a ++ b) = iwts a + iwts b := by simp [iwts]
theorem iwts_take (l : List Item) (k : Nat) (x : Item) (h : l[k]? = some x) : iwts (l.take (k + 1)) = iwts (l.take k) + iwt x := by
  rw [List.take_add_one, h, iwts_app]; simp [iwts]
theorem iwts_bd (l : List Item) (h : ISmall l) : 0 ≤ iwts l ∧ iwts l ≤ 2000002 * l.length := by
  induction l with
  | nil => simp [iwts]
  | cons x l ih =>
    have := ih fun y hy => h y (by simp [hy])
    have hx := h x (by simp)
    have e : iwts (x :: l) = iwt x + iwts l := by simp [iwts]
    have : iwt x = 2 + (x.key.size : Int) + (x.val.size : Int) := rfl
    simp only [List.length_cons]
    omega
theorem iWeight_spec (x : Item) (h1 : x.key.size ≤ 1000000) (h2 : x.val.size ≤ 1000000) : PSpec Tryz.prog 55 [.agg (cI x)] (.sc (.int .i64 (iwt x))) := by
  refine spec_pure (by simp) (by simp) ?_
  refine spec_intro Tryz.func55 good55 rfl (by simp [Tryz.ntmps55]) ?_
  exact go0 [] [] (cns Tryz.results55 (cns cI.eq_1 trivial))
  all_goals simp [iwt]
theorem lMade_spec (l : List Item) (hl : l.length ≤ 1000000) (hs : ISmall l) : PSpec Tryz.prog 61 [.fs (flatI l) l.length] (.fp (cL l) 0) := by
  have hw : ∀ k, 0 ≤ iwts (l.take k) ∧ iwts (l.take k) ≤ 2000002 * l.length := fun k => by
    have := iwts_bd (l.take k) fun x hx => hs x (List.mem_of_mem_take hx)
    have h2 : (l.take k).length ≤ l.length := by simp; omega
    omega
  replace hs := Lib.hid hs
  replace hw := Lib.hid hw
  refine spec_pureFW (by simp) ?_
  refine spec_intro Tryz.func61 good61 rfl (by simp [Tryz.ntmps61]) ?_
  refine go1 [8] [] (cns Tryz.results61 trivial) ?_
  refine tri_for [2, 3, 9, 10] l.length (fun k e σ => e 11 = .sc (.int .i64 k) ∧ σ = [⟨[.fs (flatI l) l.length, .sc (.int .i64 (iwts (l.take k)))], 0, false, false⟩]) ?_ (fun k env' σ' hlt hk hI => ?_) (fun env' σ' hk hI => ?_)
  · exact ⟨by simp, by simp [iwts]⟩
  · skip
    (try simp at hk)
    obtain ⟨h11, rfl⟩ := hI
    have hm := hs.out l[k] (List.getElem_mem hlt)
    have h0 := hw.out k
    have h1 := hw.out (k + 1)
    have h2 := iwts_take l k l[k] (List.getElem?_eq_getElem hlt)
    have h3 : iwt l[k] = 2 + (l[k].key.size : Int) + (l[k].val.size : Int) := rfl
    have sg := flatI_seg l k hlt
    have wsp := iWeight_spec l[k] hm.1 hm.2
    generalize l[k] = x at *
    generalize iwts (l.take (k + 1)) = W1 at *
    generalize iwts (l.take k) = W0 at *
    generalize iwt x = w at *
    subst h2
    clear h3 hm
    refine go1 [8] [] (cns wsp (cns Tryz.results61 trivial)) ?_
    exact ⟨by simp [*], by simp, by simp⟩
  · skip
    (try simp at hk)
    obtain ⟨h11, rfl⟩ := hI
    refine go1 [8] [] (cns Tryz.results61 trivial) ?_
    exact out_mp rfl (by simp) (.refl _)
theorem iBad_spec (x : Item) : PSpec Tryz.prog 56 [.agg (cI x)] (.sc (.bool (!okI x))) := by
  have h := okI_is x
  cases h1 : isKey x.key with
  | true =>
    rw [h1] at h
    refine spec_pure (by simp) (by simp) ?_
    refine spec_intro Tryz.func56 good56 rfl (by simp [Tryz.ntmps56]) ?_
    refine go1 [] [] (cns (fun x1 => keyIs_spec x1) (cns (fun x1 => isVal_spec x1) (cns Tryz.results56 (cns cI.eq_1 trivial)))) ?_
    all_goals simp_all
  | false =>
    rw [h1] at h
    refine spec_pure (by simp) (by simp) ?_
    refine spec_intro Tryz.func56 good56 rfl (by simp [Tryz.ntmps56]) ?_
    repeat' (first
     | (with_reducible first | refine Stp.pf ?_ | refine block_x (by decide) ?_ | refine ret_n ?_)
     | refine tri_reg [] ?_ | refine tri_regc [] [] mixed (by decide +kernel) ?_
     | (refine rwf_nilt rfl (by decide +kernel) fun B hB => ?_; (try simp [*]); refine hB.out _ fun b => ?_; clear hB B)
     | (refine Rul.pf ⟨rfl, rfl⟩ fun B C hB => ?_; (try simp [*, -List.all_eq_true, cI, Tryz.results56]); (try (simp (disch := first | assumption | omega) only [wc, ite_yes]; (try simp [*, -List.all_eq_true, cI, Tryz.results56]))); first | (first | refine hB.out.1 _ (fun hb => ?_) fun hb => ⟨rfl, ?_⟩ | refine hB.out.1 _ (fun hb => ?_) fun hb => ?_) <;> clear hB C B <;> (try simp only [Bool.not_true, Bool.not_false] at hb) <;> (first | (exfalso; simp at hb; done) | (exfalso; simp at hb; omega) | (rw [hb]; (try simp at hb)) | (try simp at hb)) | ((first | refine hB.out.1 _ _ ?_ | refine hB.out.1 _ ?_ | refine hB.out.2.1 _ _ _ (keyIs_spec _) ?_ | refine hB.out.2.2 _ _ _ (keyIs_spec _) ?_ | refine hB.out.2.1 _ _ _ (isVal_spec _) ?_ | refine hB.out.2.2 _ _ _ (isVal_spec _) ?_ | refine hB.out.2 ⟨rfl, ?_⟩); clear hB C B) | (refine hB.out.2 _ ?_; clear hB C B; (try rfl)))
     | refine rwf_o ?_ | refine rwc_o .n rfl ?_ | refine rwc_o .z rfl ?_ | refine rwc_o .w rfl ?_ | refine rwc_o .b rfl ?_ | refine rwc_o _ rfl ?_)
    all_goals simp_all
theorem iTwin_spec (x y : Item) : PSpec Tryz.prog 60 [.agg (cI x), .agg (cI y)] (.sc (.bool (decide (x.key = y.key)))) := by
  refine spec_pure (by simp) (by simp) ?_
  refine spec_intro Tryz.func60 good60 rfl (by simp [Tryz.ntmps60]) ?_
  exact go0 [] [] (cns Tryz.results60 (cns cI.eq_1 trivial))
def fBad : AV := .fn (.func 56) [] []
def fTwin : AV := .fn (.func 60) [] []
theorem idxI_no (l : List Item) (hl : l.length ≤ 1000000) (h : l.all okI = true) : PSpec Tryz.prog 76 [.fs (flatI l) l.length, fBad] (.sc (.int .i64 (-1))) := by
  unfold fBad
  refine spec_pure (by simp) (by simp) ?_
  refine spec_intro Tryz.func76 good76 rfl (by simp [Tryz.ntmps76]) ?_
  refine go1 [] [] (cns Tryz.results76 trivial) ?_
  refine tri_for [0, 1, 7] l.length (fun k e σ => σ = [] ∧ e 8 = .sc (.int .i64 k)) ?_ (fun k env' σ' hlt hk hI => ?_) (fun env' σ' hk hI => ?_)
  · exact ⟨by simp, by simp⟩
  · skip
    (try simp at hk)
    obtain ⟨rfl, h8⟩ := hI
    have hok := List.all_eq_true.1 h _ (List.getElem_mem hlt)
    have bad := iBad_spec l[k]
    rw [hok, Bool.not_true] at bad
    have sg := flatI_seg l k hlt
    clear hok
    generalize l[k] = x at *
    refine go1 [] [] (cns bad (cns Tryz.results76 trivial)) ?_
    exact ⟨by simp [*], rfl, by simp⟩
  · skip
    (try simp at hk)
    obtain ⟨rfl, h8⟩ := hI
    exact go0 [] [] (cns Tryz.results76 trivial)
theorem idxI_yes (l : List Item) (hl : l.length ≤ 1000000) (h : l.all okI = false) : ∃ k : Nat, PSpec Tryz.prog 76 [.fs (flatI l) l.length, fBad] (.sc (.int .i64 k)) := by
  obtain ⟨j, hj, hb1, hb2⟩ : ∃ j, ∃ hj : j < l.length, okI l[j] = false ∧ ∀ i (hi : i < j), okI (l[i]'(by omega)) = true := by
    have hlt : l.findIdx (fun x => !okI x) < l.length := by
      rw [List.findIdx_lt_length]
      obtain ⟨x, hx, hb⟩ := List.all_eq_false.1 h
      exact ⟨x, hx, by simpa using hb⟩
    refine ⟨_, hlt, ?_, fun i hi => ?_⟩
    · have := List.findIdx_getElem (w := hlt); simpa using this
    · have := List.not_of_lt_findIdx hi; simpa using this
  refine ⟨j, ?_⟩
  replace hb2 := Lib.hid hb2
  unfold fBad
  refine spec_pure (by simp) (by simp) ?_
  refine spec_intro Tryz.func76 good76 rfl (by simp [Tryz.ntmps76]) ?_
  refine go1 [] [] (cns Tryz.results76 trivial) ?_
  refine tri_whl [0, 1, 7] j (fun m e σ => σ = [] ∧ ∃ k : Nat, k ≤ j ∧ m = j - k ∧ e 8 = .sc (.int .i64 k)) ?_ (fun m env' σ' hm hk hI => ?_)
  · exact ⟨j, by omega, rfl, 0, by omega, by omega, by simp⟩
  · skip
    (try simp at hk)
    obtain ⟨rfl, k, hkj, hmk, h8⟩ := hI
    have hkl : k < l.length := by omega
    have sg := flatI_seg l k hkl
    have bad := iBad_spec l[k]
    rcases Nat.lt_or_ge k j with hlt | hge
    · have hok := hb2.out k hlt
      rw [hok, Bool.not_true] at bad
      clear hok hb1
      generalize l[k] = x at *
      refine go1 [] [] (cns bad (cns Tryz.results76 trivial)) ?_
      exact ⟨by simp [*], j - (k + 1), by omega, rfl, k + 1, by omega, rfl, by simp⟩
    · obtain rfl : k = j := by omega
      rw [hb1, Bool.not_false] at bad
      clear hb1
      generalize l[k] = x at *
      exact go0 [] [] (cns bad (cns Tryz.results76 trivial))
theorem contI_spec (l : List Item) (hl : l.length ≤ 1000000) : PSpec Tryz.prog 52 [.fs (flatI l) l.length, fBad] (.sc (.bool (!l.all okI))) := by
  cases h : l.all okI with
  | true =>
    have := idxI_no l hl h
    unfold fBad at *
    refine spec_pure (by simp) (by simp) ?_
    refine spec_intro Tryz.func52 good52 rfl (by simp [Tryz.ntmps52]) ?_
    exact go0 [] [] (cns this (cns Tryz.results52 trivial))
  | false =>
    obtain ⟨k, this⟩ := idxI_yes l hl h
    unfold fBad at *
    refine spec_pure (by simp) (by simp) ?_
    refine spec_intro Tryz.func52 good52 rfl (by simp [Tryz.ntmps52]) ?_
    exact go0 [] [] (cns this (cns Tryz.results52 trivial))
    all_goals simp; omega
theorem compI_no (i g off : Nat) (l : List Item) (c : List AV) (u : Bool) (σ : Sto) (hn : l.length ≤ 100000000) (h1 : σ[i]? = some ⟨c, g, false, u⟩) (h2 : off + l.length * 2 ≤ c.length) (h3 : (c.drop off).take (l.length * 2) = flatI l) (ht : ∀ k (h : k + 1 < l.length), l[k + 1].key ≠ l[k].key) :
    Spec Tryz.prog 59 [.ms i g off l.length 2, fTwin] σ (fun r s => r = .ms i g off l.length 2 ∧ s = σ) := by
  have hsg := segI h3
  replace hsg := Lib.hid hsg
  replace ht := Lib.hid ht
  clear h3
  unfold fTwin
  refine spec_intro Tryz.func59 good59 rfl (by simp [Tryz.ntmps59]) ?_
  by_cases hlt2 : l.length < 2
  · skip
    refine go1 [] [] (cns Tryz.results59 trivial) ?_
    all_goals exact ⟨rfl, rfl⟩
  · generalize hS : σ = S at *
    repeat' (first
     | (with_reducible first | refine Stp.pf ?_ | refine block_x (by decide) ?_ | refine ret_n ?_)
     | refine tri_reg [] ?_ | refine tri_regc [] [] mixed (by decide +kernel) ?_
     | (refine rwf_nilt rfl (by decide +kernel) fun B hB => ?_; (try simp [*]); refine hB.out _ fun b => ?_; clear hB B)
     | (refine Rul.pf ⟨rfl, rfl⟩ fun B C hB => ?_; (try simp [*, -List.all_eq_true, Tryz.results59]); (try (simp (disch := first | assumption | omega) only [wc, ite_yes]; (try simp [*, -List.all_eq_true, Tryz.results59]))); first | (first | refine hB.out.1 _ (fun hb => ?_) fun hb => ⟨rfl, ?_⟩ | refine hB.out.1 _ (fun hb => ?_) fun hb => ?_) <;> clear hB C B <;> (try simp only [Bool.not_true, Bool.not_false] at hb) <;> (first | (exfalso; simp at hb; done) | (exfalso; simp at hb; omega) | (rw [hb]; (try simp at hb)) | (try simp at hb)) | ((first | refine hB.out.1 _ _ ?_ | refine hB.out.1 _ ?_ | refine hB.out.2 ⟨rfl, ?_⟩); clear hB C B) | (refine hB.out.2 _ ?_; clear hB C B; (try rfl)))
     | refine rwf_o ?_ | refine rwc_o .n rfl ?_ | refine rwc_o .z rfl ?_ | refine rwc_o .w rfl ?_ | refine rwc_o .b rfl ?_ | refine rwc_o _ rfl ?_)
    refine tri_whl [0, 1] l.length (fun m e σ => σ = S ∧ ∃ j : Nat, 1 ≤ j ∧ j ≤ l.length ∧ m = l.length - j ∧ e 5 = .sc (.int .i64 j)) ?_ (fun m env' σ' hm hk hI => ?_)
    · exact ⟨l.length - 1, by omega, rfl, 1, by omega, by omega, rfl, by simp⟩
    · skip
      (try simp at hk)
      obtain ⟨rfl, j, hj1, hjn, hmj, h5⟩ := hI
      rcases Nat.lt_or_ge j l.length with hlt | hge
      · obtain ⟨p, rfl⟩ : ∃ p, j = p + 1 := ⟨j - 1, by omega⟩
        have sg1 := hsg.out (p + 1) hlt
        have sg0 := hsg.out p (by omega)
        have hne := ht.out p hlt
        have tw := iTwin_spec l[p + 1] l[p]
        rw [decide_eq_false hne] at tw
        have e1 : ((p + 1 : Nat) : Int) - 1 = (p : Nat) := by omega
        clear hne
        generalize l[p + 1] = x at *
        generalize l[p] = y at *
        generalize hj : p + 1 = j at *
        refine go1 [] [] (cns tw (cns Tryz.results59 trivial)) ?_
        exact ⟨by simp [*], l.length - (j + 1), by omega, rfl, j + 1, by omega, by omega, rfl, by simp⟩
      · skip
        refine go1 [] [] (cns Tryz.results59 trivial) ?_
        all_goals exact ⟨rfl, rfl⟩
end Go.Proofs.YtejgopcicenbeaaGreat
