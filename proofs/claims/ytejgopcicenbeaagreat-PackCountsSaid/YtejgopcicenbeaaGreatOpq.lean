/- From what a law's walk comes to, to the law's row: calls at opened arguments. -/
import Derived.Test.YtejgopcicenbeaaGreatOpn
namespace Go.Proofs.YtejgopcicenbeaaGreat
open Go.ChangeShapes Go.WideShapes Go.Deep Go.RowKit
section
variable {H : Type} {enc : TypeId × Value → H} {P : Program} {w : World} {spare : Nat → Bool} {held : Bool}
theorem wrel_none (w : World) : WRel w (ImAll w) [] [] where
  len := rfl
  gen := fun l o p h _ => by simp at h
  im := fun _ h => h
  room := fun l o p h _ => by simp at h
  obj := fun l o p h _ => by simp at h
  sep := fun l o p h _ => by simp at h
  fix := fun l o p h _ => by simp at h
  inj := fun l l' o o' p p' h _ _ _ _ _ _ => by simp at h
  full := fun l o p h _ => by simp at h
/-- A law's call. -/
theorem law_calls {f : FuncId} {xs : List AV} {u : Value} (h : PSpec P f xs (.sc u)) {args : Array Value} (hr : RelL w (ImAll w) [] args.toList xs) : Calls P f args w fun e w' => e = .returned u ∧ Below w.heap.size w w' := by
  refine ((h []).2 w (ImAll w) [] args (wrel_none w) hr).mono fun e w' ⟨v, r, σ', Im', T', h1, h2, h3, h4, h5, h6⟩ => ?_
  subst h5
  cases h2
  refine ⟨h1, ⟨h4.os, h4.tape, h4.output, h4.size, fun b hb => h4.keep b hb ?_⟩⟩
  rintro ⟨l, o, p, q, _⟩
  simp at q
theorem relL_nil : RelL w (ImAll w) [] [] [] := ⟨rfl, fun i x v hx _ => by simp at hx⟩
theorem relL_cons {v : Value} {x : AV} {vs : List Value} {xs : List AV} (h : Rel w (ImAll w) [] v x) (k : RelL w (ImAll w) [] vs xs) : RelL w (ImAll w) [] (v :: vs) (x :: xs) := by
  have := (relL_one h).append k
  simpa using this
end
end Go.Proofs.YtejgopcicenbeaaGreat
