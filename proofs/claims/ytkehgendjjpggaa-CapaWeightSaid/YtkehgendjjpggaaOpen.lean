/- An argument that is a slice of structs of two strings, opened to its cells. -/
import Derived.Deep.Slices
import Derived.Deep.Fields
import Derived.ChangeSame
import Derived.Test.YtkehgendjjpggaaCapw
namespace Go.Proofs.Ytkehgendjjpggaa
open Go.ChangeShapes Go.WideShapes Go.Deep Go.RowKit

section
variable {H : Type} {enc : TypeId × Value → H} {P : Program} {w : World} {base : Nat} {spare : Nat → Bool} {held : Bool}
theorem open_slice_fields {t e : TypeId} {fs : Array Field} {fuel : Nat} {cs : List Value} {x : DataW H × List MemPlace} (ht : P.underlying t = some (.slice e)) (he : P.underlying e = some (.struct fs))
    (hone : oneCellFields P fs = true) (hC : P.cellsOf e = fs.size) (h : DataW.trod enc P w base spare held fuel t cs = some x) :
    (cs = [.slice none 0 0] ∧ x = (.nil, [])) ∨
    ∃ (a : Addr) (len cap m : Nat) (D : Nat → DataW H) (Pl : Nat → List MemPlace), cs = [.slice (some a) len cap] ∧ base ≤ a.block ∧ len ≤ cap ∧ cap ≤ maxLen ∧ m = (if spare a.block then cap else len) ∧
      x = (.slice ((List.range len).map D) ((List.range (m - len)).map fun j => D (len + j)), MemPlace.row a (m * fs.size) ++ (List.range m).flatMap Pl) ∧
      ∀ i, i < m → ∃ (ys : List (DataW H × List MemPlace)) (n : Nat), D i = .agg (ys.map (·.1)) ∧ Pl i = ys.flatMap (·.2) ∧ ys.length = fs.size ∧
        ∀ (j : Nat) (f : Field), fs[j]? = some f → ∃ (v : Value) (y : DataW H × List MemPlace), w.cell? (a.add (i * fs.size + j)) = some v ∧ ys[j]? = some y ∧ DataW.trod enc P w base spare held n f.type [v] = some y := by
  rcases open_slice ht h with h0 | ⟨a, len, cap, m, n, D, Pl, hcs, hb, hl, hm, hmm, hx, hi⟩
  · exact .inl h0
  · refine .inr ⟨a, len, cap, m, D, Pl, hcs, hb, hl, hm, hmm, by rw [hC] at hx; exact hx, fun i him => ?_⟩
    obtain ⟨cs', hc, ht'⟩ := hi i him
    rw [hC] at hc
    obtain ⟨ys, n', hn', hy, hlen, hyl, hf⟩ := DataW.trod_struct he ht'
    obtain ⟨_, hcl, hat⟩ := World.cells?_some hc
    simp only [Prod.mk.injEq] at hy
    refine ⟨ys, n', hy.1, hy.2, hyl, fun j f hj => ?_⟩
    obtain ⟨ho, hk⟩ := hone_of hone j f hj
    have hjl : j < fs.size := (Array.getElem?_eq_some_iff.1 hj).1
    have hcell := hat j hjl
    have hv : cs'[j]? = some (cs'[j]'(by omega)) := List.getElem?_eq_getElem (by omega)
    have h1 := hf j f hj
    rw [ho, hk] at h1
    have hone' : (cs'.drop j).take 1 = [cs'[j]'(by omega)] := by
      rw [List.drop_eq_getElem_cons (by omega)]
      rfl
    rw [hone'] at h1
    have hys : ys[j]? = some (ys[j]'(by omega)) := List.getElem?_eq_getElem (by omega)
    refine ⟨_, _, ?_, hys, h1.trans hys⟩
    rw [← Go.Deep.add_add, hcell, hv]
end

section
variable {H : Type} {enc : TypeId × Value → H} {P : Program} {w : World} {base : Nat} {held : Bool}
theorem cell_spot {a : Addr} {v : Value} (h : w.cell? a = some v) : a.spot = none ∧ a.block < w.heap.size := by
  unfold World.cell? at h
  cases hb : w.heap[a.block]? with
  | none => simp [hb] at h
  | some o =>
    rw [hb] at h
    refine ⟨?_, blk_lt hb⟩
    cases o <;> simp at h
    cases hs : a.spot <;> simp_all
theorem add_at (b o n : Nat) : (Addr.mk b o none).add n = ⟨b, o + n, none⟩ := by
  unfold Addr.add; split
  · subst n; rfl
  · rfl
theorem list_of_each {α : Type} {p : Nat → α → Prop} : ∀ n : Nat, (∀ i, i < n → ∃ x, p i x) → ∃ l : List α, l.length = n ∧ ∀ i x, l[i]? = some x → p i x
  | 0, _ => ⟨[], rfl, fun i x h => by simp at h⟩
  | n + 1, h => by
    obtain ⟨l, hl, hp⟩ := list_of_each n (fun i hi => h i (by omega))
    obtain ⟨x, hx⟩ := h n (by omega)
    refine ⟨l ++ [x], by simp [hl], fun i y hy => ?_⟩
    by_cases hi : i < l.length
    · rw [List.getElem?_append_left hi] at hy; exact hp i y hy
    · rw [List.getElem?_append_right (by omega)] at hy
      have h0 : i = l.length := by
        by_cases h2 : i = l.length
        · exact h2
        · rw [show i - l.length = (i - l.length - 1) + 1 from by omega] at hy; simp at hy
      subst h0
      simp at hy
      subst hy
      rw [hl]; exact hx
theorem open_items {t e : TypeId} {f0 f1 : Field} {fuel : Nat} {cs : List Value} {x : DataW H × List MemPlace} (ht : P.underlying t = some (.slice e)) (he : P.underlying e = some (.struct #[f0, f1]))
    (hone : oneCellFields P #[f0, f1] = true) (hC : P.cellsOf e = 2) (s0 : P.underlying f0.type = some .string) (s1 : P.underlying f1.type = some .string) (h : DataW.trod enc P w base (fun _ => true) held fuel t cs = some x) :
    ∃ (A : Option Addr) (len cap : Nat) (l : List It), cs = [.slice A len cap] ∧ len ≤ maxLen ∧ l.length = len ∧ Items w A l ∧ ∀ y ∈ l, y.1.size ≤ maxLen ∧ y.2.size ≤ maxLen := by
  rcases open_slice_fields ht he hone hC h with ⟨hcs, _⟩ | ⟨a, len, cap, m, D, Pl, hcs, hb, hl, hm, hmm, hx, hi⟩
  · exact ⟨none, 0, 0, [], hcs, Nat.zero_le _, rfl, fun i x hx => by simp at hx, fun y hy => by simp at hy⟩
  · have each : ∀ i, i < len → ∃ x : It, (∃ b o, some a = some ⟨b, o, none⟩ ∧ b < w.heap.size ∧ w.cell? ⟨b, o + i * 2, none⟩ = some (.string x.1) ∧ w.cell? ⟨b, o + i * 2 + 1, none⟩ = some (.string x.2)) ∧ x.1.size ≤ maxLen ∧ x.2.size ≤ maxLen := by
      intro i hil
      have him : i < m := by rw [hmm]; simp; omega
      obtain ⟨ys, n, _, _, _, hf⟩ := hi i him
      obtain ⟨v0, y0, c0, _, t0⟩ := hf 0 f0 rfl
      obtain ⟨v1, y1, c1, _, t1⟩ := hf 1 f1 rfl
      obtain ⟨k0, e0, _, z0⟩ := DataW.trod_string s0 t0
      obtain ⟨k1, e1, _, z1⟩ := DataW.trod_string s1 t1
      simp only [List.cons.injEq, and_true] at e0 e1
      subst e0 e1
      have hs : a.spot = none := by
        obtain ⟨ys, n, _, _, _, hf⟩ := hi 0 (by omega)
        obtain ⟨v0, y0, c0, _, t0⟩ := hf 0 f0 rfl
        have := (cell_spot c0).1
        simpa [Addr.add] using this
      obtain ⟨b, o, sp⟩ := a
      dsimp only at hs
      subst hs
      rw [add_at] at c0 c1
      exact ⟨(k0, k1), ⟨b, o, rfl, (cell_spot c0).2, c0, c1⟩, z0, z1⟩
    obtain ⟨l, hlen, hl'⟩ := list_of_each len each
    exact ⟨some a, len, cap, l, hcs, by omega, hlen, fun i y hy => (hl' i y hy).1, fun y hy => by obtain ⟨i, hi⟩ := List.getElem?_of_mem hy; exact (hl' i y hi).2⟩
end
end Go.Proofs.Ytkehgendjjpggaa
