/- Spaces: what the functions that read come to. -/
import Derived.Test.YtgdefllblcmgpaaZSa
namespace Go.Proofs.Ytgdefllblcmgpaa
open Go.RowKit
set_option linter.unusedSimpArgs false
set_option maxRecDepth 10000
def cSp (n : Int) (e : List Ext) : List AV := [.sc (.int .i64 n), .fs (flatE e) e.length]
@[simp] theorem cSp_flat (n : Int) (e : List Ext) : flatL (cSp n e) = true := by simp [cSp, AV.flat, flatL]
theorem sEnd_spec (x : Ext) (h1 : -9223372036854775808 ≤ xe x) (h2 : xe x ≤ 9223372036854775807) : PSpec Try.prog 35 [.agg (cE x)] (.sc (.int .i64 (xe x))) := by
  unfold xe at *
  refine spec_pure (by simp) (by simp) ?_
  refine spec_intro Try.func35 good35 rfl (by simp [Try.ntmps35]) ?_
  exact go0 [] [] (cns Try.results35 (cns cE.eq_1 trivial))
theorem sFind1_spec (i : Int) (x : Ext) (h1 : -9223372036854775808 ≤ xe x) (h2 : xe x ≤ 9223372036854775807) : PSpec Try.prog 45 [.agg (cE x), .fp [.sc (.int .i64 i)] 0] (.sc (.bool (decide (i < xe x)))) := by
  have h := sEnd_spec x h1 h2
  generalize xe x = z at *
  refine spec_pure (by simp) (by simp) ?_
  refine spec_intro Try.func45 good45 rfl (by simp [Try.ntmps45]) ?_
  by_cases hz : i < z
  · skip
    refine go1 [] [] (cns h (cns Try.results45 trivial)) ?_
    simp [hz]
  · skip
    refine go1 [] [] (cns h (cns Try.results45 trivial)) ?_
    simp [hz]
theorem sIsIn_spec (n : Int) (e : List Ext) (x : Ext) (h0 : 0 ≤ n) (hn : n ≤ 512) : PSpec Try.prog 37 [.fp (cSp n e) 0, .agg (cE x)] (.sc (.bool (isInX n x))) := by
  unfold isInX
  refine spec_pure (by simp) (by simp) ?_
  refine spec_intro Try.func37 good37 rfl (by simp [Try.ntmps37]) ?_
  by_cases h1 : 0 ≤ x.lo
  · by_cases h2 : 1 ≤ x.sz
    · by_cases h3 : x.lo < n
      · by_cases h4 : x.sz ≤ n - x.lo
        · skip
          refine go1 [] [] (cns Try.results37 (cns cE.eq_1 (cns cSp.eq_1 trivial))) ?_
          simp [*]
        · skip
          refine go1 [] [] (cns Try.results37 (cns cE.eq_1 (cns cSp.eq_1 trivial))) ?_
          simp [*]
      · skip
        refine go1 [] [] (cns Try.results37 (cns cE.eq_1 (cns cSp.eq_1 trivial))) ?_
        simp [*]
    · skip
      refine go1 [] [] (cns Try.results37 (cns cE.eq_1 (cns cSp.eq_1 trivial))) ?_
      simp [*]
  · skip
    refine go1 [] [] (cns Try.results37 (cns cE.eq_1 (cns cSp.eq_1 trivial))) ?_
    simp [*]
theorem sLen_spec (n : Int) (e : List Ext) : PSpec Try.prog 21 [.fp (cSp n e) 0] (.sc (.int .i64 n)) := by
  refine spec_pure (by simp) (by simp) ?_
  refine spec_intro Try.func21 good21 rfl (by simp [Try.ntmps21]) ?_
  exact go0 [] [] (cns Try.results21 (cns cSp.eq_1 trivial))
/-- Places that end within the numbers. -/
def Ends (e : List Ext) : Prop := ∀ x ∈ e, -9223372036854775808 ≤ xe x ∧ xe x ≤ 9223372036854775807
def findR (e : List Ext) (i : Int) : Int := if findX e i < e.length then (findX e i : Nat) else -1
theorem idxE_spec (l : List Ext) (i : Int) (hl : l.length ≤ 1000000) (he : Ends l) : PSpec Try.prog 44 [.fs (flatE l) l.length, .fn (.func 45) [] [.fp [.sc (.int .i64 i)] 0]] (.sc (.int .i64 (findR l i))) := by
  replace he := Lib.hid he
  obtain ⟨c1, c2⟩ := find_cut (l := l) i
  have hle := findX_le l i
  have hno : ∀ k, k < findX l i → ∀ h : k < l.length, ¬ i < xe l[k] := fun k hk h => by
    have := c1 l[k] (List.mem_take_iff_getElem.2 ⟨k, by omega, rfl⟩)
    omega
  replace hno := Lib.hid hno
  replace c2 := Lib.hid c2
  clear c1
  unfold findR
  refine spec_pure (by simp) (by simp) ?_
  refine spec_intro Try.func44 good44 rfl (by simp [Try.ntmps44]) ?_
  refine go1 [] [] (cns Try.results44 trivial) ?_
  refine tri_for [0, 1, 7] l.length (fun k e σ => σ = [] ∧ e 8 = .sc (.int .i64 k) ∧ k ≤ findX l i) ?_ (fun k env' σ' hlt hk hI => ?_) (fun env' σ' hk hI => ?_)
  · exact ⟨by simp, by simp, by omega⟩
  · skip
    (try simp at hk)
    obtain ⟨rfl, h8, hk2⟩ := hI
    have sg := flatE_seg l k hlt
    obtain ⟨b1, b2⟩ := he.out l[k] (List.getElem_mem hlt)
    have hf := sFind1_spec i l[k] b1 b2
    by_cases hx : i < xe l[k]
    · have hk3 : findX l i = k := by
        apply Nat.le_antisymm _ hk2
        apply Nat.le_of_not_lt
        intro h
        exact hno.out k h hlt hx
      rw [decide_eq_true hx] at hf
      rw [hk3, if_pos hlt]
      clear hx
      generalize l[k] = y at *
      exact go0 [] [] (cns hf (cns Try.results44 trivial))
    · have hk3 : k + 1 ≤ findX l i := by
        apply Nat.succ_le_of_lt
        apply Nat.lt_of_le_of_ne hk2
        intro h
        subst h
        exact hx (c2.out hlt)
      rw [decide_eq_false hx] at hf
      clear hx
      generalize l[k] = y at *
      refine go1 [] [] (cns hf (cns Try.results44 trivial)) ?_
      exact ⟨by simp [*], rfl, by simp, hk3⟩
  · skip
    (try simp at hk)
    obtain ⟨rfl, h8, hk2⟩ := hI
    rw [if_neg (by omega)]
    exact go0 [] [] (cns Try.results44 trivial)
theorem sFind_spec (n : Int) (e : List Ext) (i : Int) (hl : e.length ≤ 1000000) (he : Ends e) : PSpec Try.prog 31 [.fp (cSp n e) 0, .sc (.int .i64 i)] (.sc (.int .i64 (findR e i))) := by
  have h := idxE_spec e i hl he
  generalize findR e i = F at *
  refine spec_pure (by simp) (by simp) ?_
  refine spec_intro Try.func31 good31 rfl (by simp [Try.ntmps31]) ?_
  exact go0 [] [] (cns h (cns Try.results31 (cns cSp.eq_1 trivial)))
theorem sHas_spec (n : Int) (e : List Ext) (i : Int) (hl : e.length ≤ 1000000) (he : Ends e) (hn : Norm n e) : PSpec Try.prog 13 [.fp (cSp n e) 0, .sc (.int .i64 i)] (.sc (.bool (hasX e i))) := by
  have h := sFind_spec n e i hl he
  rw [has_find hn]
  unfold findR at h
  clear he hn
  rcases Nat.lt_or_ge (findX e i) e.length with hlt | hge
  · rw [if_pos hlt] at h
    have a0 := flatE_0 e (findX e i) hlt
    rw [List.getElem?_eq_getElem hlt]
    generalize findX e i = F at *
    refine spec_pure (by simp) (by simp) ?_
    refine spec_intro Try.func13 good13 rfl (by simp [Try.ntmps13]) ?_
    by_cases hx : e[F].lo ≤ i
    · skip
      refine go1 [] [] (cns h (cns Try.results13 (cns cSp.eq_1 trivial))) ?_
      simp [hx]
    · skip
      refine go1 [] [] (cns h (cns Try.results13 (cns cSp.eq_1 trivial))) ?_
      simp [hx]
  · rw [if_neg (by omega)] at h
    rw [List.getElem?_eq_none hge]
    refine spec_pure (by simp) (by simp) ?_
    refine spec_intro Try.func13 good13 rfl (by simp [Try.ntmps13]) ?_
    exact go0 [] [] (cns h (cns Try.results13 (cns cSp.eq_1 trivial)))
end Go.Proofs.Ytgdefllblcmgpaa
