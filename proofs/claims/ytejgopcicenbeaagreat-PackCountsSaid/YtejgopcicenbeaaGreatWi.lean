/- slices.Insert of one message. -/
import Derived.Test.YtejgopcicenbeaaGreatWap
import Derived.Test.YtejgopcicenbeaaGreatLw
import Derived.Lib.Overlaps
import Derived.Laws.Externs
namespace Go.Proofs.YtejgopcicenbeaaGreat
open Go.RowKit
set_option linter.unusedSimpArgs false
set_option maxRecDepth 10000
/-- A row of the store, or nil. -/
def RowAt (k p : Nat) (σ : Sto) (v : AV) (n : Nat) (cs : List AV) : Prop :=
  (v = .sc (.slice none 0 0) ∧ n = 0 ∧ cs = []) ∨ ∃ i g off c, v = .ms i g off n k ∧ i ≠ p ∧ σ[i]? = some ⟨c, g, false, false⟩ ∧ off + n * k ≤ c.length ∧ (c.drop off).take (n * k) = cs
theorem RowAt.append {k p : Nat} {σ : Sto} {v : AV} {n : Nat} {cs : List AV} (h : RowAt k p σ v n cs) (X : Sto) : RowAt k p (σ ++ X) v n cs := by
  rcases h with h | ⟨i, g, off, c, h1, h2, h3, h4⟩
  · exact .inl h
  · exact .inr ⟨i, g, off, c, h1, h2, by rw [List.getElem?_append_left (lt_of_get h3)]; exact h3, h4⟩
end Go.Proofs.YtejgopcicenbeaaGreat
