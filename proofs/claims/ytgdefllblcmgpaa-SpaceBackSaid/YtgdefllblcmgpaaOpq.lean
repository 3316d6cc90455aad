/- From what a law's walk comes to, to the law's row: calls at opened arguments. -/
import Derived.Test.YtgdefllblcmgpaaOpn
namespace Go.Proofs.Ytgdefllblcmgpaa
open Go.ChangeShapes Go.WideShapes Go.Deep Go.RowKit
section
variable {H : Type} {enc : TypeId × Value → H} {P : Program} {w : World} {spare : Nat → Bool} {held : Bool}
theorem wrel_none (w : World) : WRel w (ImAll w) [] [] where
  len := rfl
  gen := fun l o p h _ => by simp at h
  im := fun _ h => h
  room := fun l o p h _ => by simp at h
  obj := fun l o p h _ => by simp at h
  sep := fun l o p h _ => by simp at h
  fix := fun l o p h _ => by simp at h
  inj := fun l l' o o' p p' h _ _ _ _ _ _ => by simp at h
  full := fun l o p h _ => by simp at h
/-- A law's call. -/
theorem law_calls {f : FuncId} {xs : List AV} {u : Value} (h : PSpec P f xs (.sc u)) {args : Array Value} (hr : RelL w (ImAll w) [] args.toList xs) : Calls P f args w fun e w' => e = .returned u ∧ Below w.heap.size w w' := by
  refine ((h []).2 w (ImAll w) [] args (wrel_none w) hr).mono fun e w' ⟨v, r, σ', Im', T', h1, h2, h3, h4, h5, h6⟩ => ?_
  subst h5
  cases h2
  refine ⟨h1, ⟨h4.os, h4.tape, h4.output, h4.size, fun b hb => h4.keep b hb ?_⟩⟩
  rintro ⟨l, o, p, q, _⟩
  simp at q
theorem relL_nil : RelL w (ImAll w) [] [] [] := ⟨rfl, fun i x v hx _ => by simp at hx⟩
theorem relL_cons {v : Value} {x : AV} {vs : List Value} {xs : List AV} (h : Rel w (ImAll w) [] v x) (k : RelL w (ImAll w) [] vs xs) : RelL w (ImAll w) [] (v :: vs) (x :: xs) := by
  have := (relL_one h).append k
  simpa using this
theorem open_one (hl : laidOutB P = true) {t : TypeId} (ht : t < P.types.size) {v : Value} {d : DataW H} {ps : List MemPlace} (hv : v.cells.toList = [v]) (h : DataW.Trod enc P w 0 spare held t v d ps) : ∃ x n, Rel w (ImAll w) [] v x ∧ TypA P n t [x] := by
  obtain ⟨fuel, hf⟩ := h
  rw [hv] at hf
  obtain ⟨xs, h1, h2⟩ := opn hl fuel t _ _ ht hf
  have hlen := h1.1
  match xs, hlen with
  | [x], _ => exact ⟨x, fuel, h1.2 0 x v rfl rfl, h2⟩
theorem segs_flat {α : Type} {c : α → List AV} {k : Nat} : ∀ (len : Nat) (cells : List AV), cells.length = len * k → (∀ i, i < len → ∃ a, (cells.drop (i * k)).take k = c a) → ∃ l : List α, l.length = len ∧ cells = flatC c l
  | 0, cells, h, _ => ⟨[], rfl, by simpa [flatC] using h⟩
  | len + 1, cells, h, hs => by
    obtain ⟨a, ha⟩ := hs 0 (by omega)
    rw [Nat.zero_mul, List.drop_zero] at ha
    obtain ⟨l, h1, h2⟩ := segs_flat (c := c) (k := k) len (cells.drop k) (by rw [List.length_drop, h, Nat.add_mul, Nat.one_mul]; omega) fun i hi => by
      obtain ⟨a, h⟩ := hs (i + 1) (by omega)
      rw [Nat.add_mul, Nat.one_mul, Nat.add_comm, ← List.drop_drop] at h
      exact ⟨a, h⟩
    refine ⟨a :: l, by simp [h1], ?_⟩
    rw [← List.take_append_drop k cells, ha, h2]
    simp [flatC]
theorem typ_rows {α : Type} {c : α → List AV} {n : Nat} {t e : TypeId} {x : AV} (hu : P.underlying t = some (.slice e)) (hk : 0 < P.cellsOf e) (h : TypA P n t [x]) (hd : ∀ m ys, TypA P m e ys → ∃ a, ys = c a) : ∃ l : List α, x = .fs (flatC c l) l.length ∧ l.length ≤ 9223372036854775807 := by
  cases n with
  | zero => exact h.elim
  | succ n =>
    unfold TypA at h
    rw [hu] at h
    obtain ⟨cells, len, hx, hm, hc, hs⟩ := h hk
    obtain ⟨l, h1, h2⟩ := segs_flat len cells hc fun i hi => by
      obtain ⟨a, ha⟩ := hd n _ (hs i hi)
      exact ⟨a, ha⟩
    cases hx
    exact ⟨l, by rw [h1, h2], by rw [h1]; exact hm⟩
theorem cells_pos {e : TypeId} {k : Nat} (h : P.cellsOf e = k + 1) : 0 < P.cellsOf e := by omega
theorem typ_int {n : Nat} {t : TypeId} {k : IntKind} {ys : List AV} (hu : P.underlying t = some (.int k)) (h : TypA P n t ys) : ∃ z : Int, ys = [.sc (.int k z)] ∧ (Lit.int k z).wf = true := by
  cases n with
  | zero => exact h.elim
  | succ n => unfold TypA at h; rw [hu] at h; exact h
end
end Go.Proofs.Ytgdefllblcmgpaa
