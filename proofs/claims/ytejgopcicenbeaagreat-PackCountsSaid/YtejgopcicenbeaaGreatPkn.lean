/- Nests: New, Put, Get of a fresh node. -/
import Derived.Test.YtejgopcicenbeaaGreatLw
import Derived.Test.YtejgopcicenbeaaGreatMp
import Derived.Test.YtejgopcicenbeaaGreatFacts
import Derived.Test.YtejgopcicenbeaaGreatLc
namespace Go.Proofs.YtejgopcicenbeaaGreat
open Go.RowKit
set_option linter.unusedSimpArgs false
set_option linter.unusedVariables false
set_option maxRecDepth 10000
/-- The cells of a device that is new. -/
def cDev (n : Nat) : List AV := [.fs (List.replicate (n * 256) (.sc (.int .u8 0))) (n * 256), .sc (.slice none 0 0), .sc (.bool false), .sc (.int .i64 (-1)), .sc (.slice none 0 0), .sc (.int .i64 0), .sc (.int .i64 0), .sc (.int .i64 0)]
@[simp] theorem cDev_flat (n : Nat) : flatL (cDev n) = true := by
  have : flatL (List.replicate (n * 256) (.sc (.int .u8 0))) = true := (flatL_iff _).2 fun x hx => by rw [(List.mem_replicate.1 hx).2]; rfl
  simp [cDev, flatL, AV.flat, this]
theorem vNew_one : PSpec Tryz.prog 16 [.sc (.int .i64 1)] (.fp (cDev 1) 0) := by
  refine spec_pure (by simp) (by simp) ?_
  refine spec_intro Tryz.func16 good16 rfl (by simp [Tryz.ntmps16]) ?_
  exact go0 [] [] (cns Tryz.results16 (cns cDev.eq_1 trivial))
/-- A nest in the store: its object, and its fresh nodes' map. -/
def oNest (d : AV) (f : Nat) (next : Int) (k r cl g : AV) : MO := ⟨[d, .mm f, .sc (.int .i64 next), k, r, cl, g], 0, false, false⟩
def oMap (es : List Ent) (c : Nat) : MO := ⟨[], 0, false, .sp (.map .i64 es c)⟩
theorem kNew_spec (cs : List AV) (σ : Sto) : Spec Tryz.prog 15 [.fp cs 0] σ fun r s => r = .mp (σ.length + 3) 0 0 ∧ s = σ ++ [oMap [] 0, oMap [] 0, oMap [] 0, oNest (.fp cs 0) σ.length 512 (.mm (σ.length + 1)) (.sc (.slice none 0 0)) (.sc (.int .i64 0)) (.mm (σ.length + 2))] := by
  refine spec_intro Tryz.func15 good15 rfl (by simp [Tryz.ntmps15]) ?_
  refine go1 [10] [] (cns Tryz.results15 trivial) ?_
  exact ⟨rfl, rfl⟩
theorem kIsFresh_spec {q f : Nat} {d : AV} {next : Int} {k r cl g : AV} {es : List Ent} {c : Nat} {σ : Sto} (hq : σ[q]? = some (oNest d f next k r cl g)) (hf : σ[f]? = some (oMap es c)) (ref : Int) :
    Spec Tryz.prog 48 [.mp q 0 0, .sc (.int .i64 ref)] σ fun r s => r = .sc (.bool (getE es ref).isSome) ∧ s = σ := by
  unfold oNest at hq
  unfold oMap at hf
  cases h : getE es ref with
  | none =>
    refine spec_intro Tryz.func48 good48 rfl (by simp [Tryz.ntmps48]) ?_
    refine go1 [] [] (cns Tryz.results48 trivial) ?_
    exact ⟨rfl, rfl⟩
  | some v =>
    refine spec_intro Tryz.func48 good48 rfl (by simp [Tryz.ntmps48]) ?_
    refine go1 [] [] (cns Tryz.results48 trivial) ?_
    exact ⟨rfl, rfl⟩
theorem kPut_spec {q f : Nat} {d : AV} {next : Int} {k r cl g : AV} {es : List Ent} {c : Nat} {σ : Sto} (hq : σ[q]? = some (oNest d f next k r cl g)) (hf : σ[f]? = some (oMap es c)) (cx : List AV) (hn : 0 ≤ next ∧ next ≤ 1000000000) :
    Spec Tryz.prog 64 [.mp q 0 0, .fp cx 0] σ fun x s => x = .tup [.sc (.int .i64 next), .sc (.int .i64 0)] ∧ s = (σ.set q (oNest d f (next + 1) k r cl g)).set f (oMap (putE es c next (.fp cx 0)).1 (putE es c next (.fp cx 0)).2) := by
  have hqf : q ≠ f := by
    rintro rfl
    rw [hq] at hf; simp [oNest, oMap] at hf
  unfold oNest at hq
  unfold oMap at hf
  have hf' : ∀ x, (σ.set q x)[f]? = some ⟨[], 0, false, .sp (.map .i64 es c)⟩ := fun x => by rw [List.getElem?_set_ne hqf]; exact hf
  have w1 : IntKind.i64.wrap (next + 1) = next + 1 := by rw [IntKind.wrap_i64]; omega
  unfold oNest oMap
  refine spec_intro Tryz.func64 good64 rfl (by simp [Tryz.ntmps64]) ?_
  refine go1 [] [] (cns Tryz.results64 trivial) ?_
  exact ⟨rfl, rfl⟩
theorem kGet_spec {q f : Nat} {d : AV} {next : Int} {k r cl g : AV} {es : List Ent} {c : Nat} {σ : Sto} (hq : σ[q]? = some (oNest d f next k r cl g)) (hf : σ[f]? = some (oMap es c)) {ref : Int} {v : AV} (hv : getE es ref = some v) :
    Spec Tryz.prog 27 [.mp q 0 0, .sc (.int .i64 ref)] σ fun x s => x = .tup [v, .sc (.int .i64 0)] ∧ s = σ := by
  have hi := kIsFresh_spec hq hf ref
  rw [hv] at hi
  unfold oNest at hq
  unfold oMap at hf
  refine spec_intro Tryz.func27 good27 rfl (by simp [Tryz.ntmps27]) ?_
  refine go1 [] [] (cns hi (cns Tryz.results27 trivial)) ?_
  exact ⟨rfl, rfl⟩
end Go.Proofs.YtejgopcicenbeaaGreat
