/- Pack: Build, where there is one leaf. -/
import Derived.Test.YtejgopcicenbeaaGreatPkf
import Derived.Test.YtejgopcicenbeaaGreatPkn
import Derived.Test.YtejgopcicenbeaaGreatNk
namespace Go.Proofs.YtejgopcicenbeaaGreat
open Go.RowKit
set_option linter.unusedSimpArgs false
set_option linter.unusedVariables false
set_option maxRecDepth 10000
def nilS : AV := .sc (.slice none 0 0)
def oLev (r b : AV) : MO := ⟨[r, b], 0, false, false⟩
def oRow (cs : List AV) : MO := ⟨cs, 0, false, false⟩
theorem set_app {σ X : Sto} {q : Nat} {o : MO} (h : q < σ.length) : (σ ++ X).set q o = σ.set q o ++ X := List.set_append_left _ _ h
theorem pLowest_one {q f : Nat} {d : AV} {next : Int} {k r cl g : AV} {es : List Ent} {c : Nat} {σ : Sto} (hq : σ[q]? = some (oNest d f next k r cl g)) (hf : σ[f]? = some (oMap es c)) (x : List Item) (hn : 0 ≤ next ∧ next ≤ 1000000000) :
    Spec Tryz.prog 36 [.mp q 0 0, .fs (flatP [x]) 1] σ fun v s => v = .agg [.ms (σ.length + 2) 0 0 1 1, nilS] ∧
      s = (σ.set q (oNest d f (next + 1) k r cl g)).set f (oMap (putE es c next (.fp (cNl x) 0)).1 (putE es c next (.fp (cNl x) 0)).2) ++ [oLev (.ms (σ.length + 2) 0 0 1 1) nilS, oLev (.ms (σ.length + 2) 0 0 1 1) nilS, oRow [.sc (.int .i64 next)]] := by
  have hql := lt_of_get hq
  have hfl := lt_of_get hf
  have hput : ∀ X, Spec Tryz.prog 64 [.mp q 0 0, .fp (cNl x) 0] (σ ++ X) fun u s => u = .tup [.sc (.int .i64 next), .sc (.int .i64 0)] ∧ s = (σ.set q (oNest d f (next + 1) k r cl g)).set f (oMap (putE es c next (.fp (cNl x) 0)).1 (putE es c next (.fp (cNl x) 0)).2) ++ X := fun X => by
    have := kPut_spec (σ := σ ++ X) (by rw [List.getElem?_append_left hql]; exact hq) (by rw [List.getElem?_append_left hfl]; exact hf) (cNl x) hn
    rw [set_app hql, set_app (by simpa using hfl)] at this
    exact this
  have hlen : ((σ.set q (oNest d f (next + 1) k r cl g)).set f (oMap (putE es c next (.fp (cNl x) 0)).1 (putE es c next (.fp (cNl x) 0)).2)).length = σ.length := by simp
  generalize ((σ.set q (oNest d f (next + 1) k r cl g)).set f (oMap (putE es c next (.fp (cNl x) 0)).1 (putE es c next (.fp (cNl x) 0)).2)) = S1 at *
  have hol := dOfLeaf_spec x
  replace hput := Lib.hid hput
  clear hq hf
  obtain ⟨S, rfl⟩ : ∃ S, S = σ := ⟨_, rfl⟩
  unfold oLev oRow nilS
  have hfl1 : flatP [x] = [.fp (cL x) 0] := rfl
  rw [hfl1]
  refine spec_intro Tryz.func36 good36 rfl (by simp [Tryz.ntmps36]) ?_
  refine go1 [4,5,42] [] (cns Tryz.results36 trivial) ?_
  refine tri_whl [0, 1, 4, 5, 10, 11] 1 (fun m e σ => (m = 1 ∧ e 12 = .sc (.int .i64 0) ∧ σ = S ++ [⟨[.sc (.slice none 0 0), .sc (.slice none 0 0)], 0, false, false⟩, ⟨[.sc (.slice none 0 0), .sc (.slice none 0 0)], 0, false, false⟩]) ∨ (m = 0 ∧ e 12 = .sc (.int .i64 1) ∧ σ = S1 ++ [⟨[.sc (.slice none 0 0), .sc (.slice none 0 0)], 0, false, false⟩, ⟨[.ms (S.length + 2) 0 0 1 1, .sc (.slice none 0 0)], 0, false, false⟩, ⟨[.sc (.int .i64 next)], 0, false, false⟩])) ?_ (fun m env' σ' hm hk hI => ?_)
  · exact ⟨1, by omega, .inl ⟨rfl, by simp, by simp⟩⟩
  · skip
    (try simp at hk)
    obtain hI := hI
    rcases hI with ⟨hm1, h12, rfl⟩ | ⟨hm0, h12, rfl⟩
    · have hp := hput.out
      refine go1 [4,5,42] [] (cns hol (cns Tryz.results36 trivial)) ?_
      refine rwf_ca rfl fun C' hC hP => ?_
      clear hP
      (try simp [*, -List.all_eq_true]); (try (simp (disch := first | assumption | omega) only [wrap_id, wrapu_id, wrapb_id, tmod_nn, tdiv_nn, ite_yes, flatM_seg, flatM_0, flatM_1, flatM_2, flatI_seg, flatI_0, flatI_1, flatS_get]; (try simp [*, -List.all_eq_true])))
      refine hC.out _ _ _ (hp _) fun r s hq => ?_
      clear hC C'
      obtain ⟨rfl, rfl⟩ := hq
      clear hp
      refine go1 [4,5,42] [] (cns Tryz.results36 trivial) ?_
      exact ⟨by simp [*], 0, by omega, .inr ⟨rfl, by simp, by simp [hlen]⟩⟩
    · skip
      refine go1 [4,5,42] [] (cns Tryz.results36 trivial) ?_
      exact ⟨rfl, rfl⟩
/-- What Build leaves, where there is one leaf: that is the root. -/
theorem pBuild_one {q f : Nat} {d : AV} {next : Int} {k r cl g : AV} {es : List Ent} {c : Nat} {σ : Sto} (hq : σ[q]? = some (oNest d f next k r cl g)) (hf : σ[f]? = some (oMap es c)) (l x : List Item) (hl : l.length ≤ 900000) (hc : chkI l = 0) (hx : leavesP l = [x]) (hn : 0 ≤ next ∧ next ≤ 1000000000) :
    Spec Tryz.prog 18 [.mp q 0 0, .fs (flatI l) l.length] σ fun v s => v = .tup [.sc (.int .i64 next), .sc (.int .i64 0)] ∧ ∃ X,
      s = (σ.set q (oNest d f (next + 1) k r cl g)).set f (oMap (putE es c next (.fp (cNl x) 0)).1 (putE es c next (.fp (cNl x) 0)).2) ++ X := by
  have h1 := pLeaves_spec l hl
  have h2 := pLowest_one hq hf x hn
  unfold leavesR at h1
  rw [if_pos hc, hx] at h1
  have hlen : ((σ.set q (oNest d f (next + 1) k r cl g)).set f (oMap (putE es c next (.fp (cNl x) 0)).1 (putE es c next (.fp (cNl x) 0)).2)).length = σ.length := by simp
  generalize ((σ.set q (oNest d f (next + 1) k r cl g)).set f (oMap (putE es c next (.fp (cNl x) 0)).1 (putE es c next (.fp (cNl x) 0)).2)) = S1 at *
  clear hq hf hc hx
  simp only [List.length_cons, List.length_nil] at h1
  unfold oLev oRow nilS at h2
  obtain ⟨S, rfl⟩ : ∃ S, S = σ := ⟨_, rfl⟩
  refine spec_intro Tryz.func18 good18 rfl (by simp [Tryz.ntmps18]) ?_
  refine go1 [8] [] (cns h1 (cns Tryz.results18 trivial)) ?_
  refine rwf_ca rfl fun C' hC hP => ?_
  clear hP
  (try simp [*, -List.all_eq_true]); (try (simp (disch := first | assumption | omega) only [wrap_id, wrapu_id, wrapb_id, tmod_nn, tdiv_nn, ite_yes, flatM_seg, flatM_0, flatM_1, flatM_2, flatI_seg, flatI_0, flatI_1, flatS_get]; (try simp [*, -List.all_eq_true])))
  refine hC.out _ _ _ (h2) fun r s hq => ?_
  clear hC C'
  obtain ⟨rfl, rfl⟩ := hq
  clear h1 h2
  refine go1 [8] [] (cns Tryz.results18 trivial) ?_
  refine tri_whl [0, 4, 5, 8] 0 (fun m e σ => e 8 = .mp (S.length + 3) 0 0 ∧ σ = S1 ++ [⟨[.ms (S.length + 2) 0 0 1 1, .sc (.slice none 0 0)], 0, false, false⟩, ⟨[.ms (S.length + 2) 0 0 1 1, .sc (.slice none 0 0)], 0, false, false⟩, ⟨[.sc (.int .i64 next)], 0, false, false⟩, ⟨[.ms (S.length + 2) 0 0 1 1, .sc (.slice none 0 0)], 0, false, false⟩]) ?_ (fun m env' σ' hm hk hI => ?_)
  · exact ⟨0, by omega, by simp [hlen], by simp [hlen]⟩
  · skip
    (try simp at hk)
    obtain ⟨h8, rfl⟩ := hI
    refine go1 [8] [] (cns Tryz.results18 trivial) ?_
    exact ⟨rfl, _, rfl⟩
/-- Build, where the items can't be. -/
theorem pBuild_no {q : Nat} {σ : Sto} (l : List Item) (hl : l.length ≤ 900000) (hc : chkI l ≠ 0) :
    Spec Tryz.prog 18 [.mp q 0 0, .fs (flatI l) l.length] σ fun v s => v = .tup [.sc (.int .i64 0), .sc (.int .i64 (chkI l))] ∧ s = σ := by
  have h1 := pLeaves_spec l hl
  unfold leavesR at h1
  rw [if_neg hc] at h1
  generalize chkI l = c at *
  refine spec_intro Tryz.func18 good18 rfl (by simp [Tryz.ntmps18]) ?_
  refine go1 [8] [] (cns h1 (cns Tryz.results18 trivial)) ?_
  exact ⟨rfl, rfl⟩
end Go.Proofs.YtejgopcicenbeaaGreat
