/- slices.Insert of one message. -/
import Derived.Test.YtemijcjgdgdhjabGreatWap
import Derived.Lib.Overlaps
import Derived.Laws.Externs
namespace Go.Proofs.YtemijcjgdgdhjabGreat
open Go.RowKit
set_option linter.unusedSimpArgs false
set_option maxRecDepth 10000
/-- A row of the store, or nil. -/
def RowAt (k p : Nat) (σ : Sto) (v : AV) (n : Nat) (cs : List AV) : Prop :=
  (v = .sc (.slice none 0 0) ∧ n = 0 ∧ cs = []) ∨ ∃ i g off c, v = .ms i g off n k ∧ i ≠ p ∧ σ[i]? = some ⟨c, g, false, false⟩ ∧ off + n * k ≤ c.length ∧ (c.drop off).take (n * k) = cs
theorem RowAt.append {k p : Nat} {σ : Sto} {v : AV} {n : Nat} {cs : List AV} (h : RowAt k p σ v n cs) (X : Sto) : RowAt k p (σ ++ X) v n cs := by
  rcases h with h | ⟨i, g, off, c, h1, h2, h3, h4⟩
  · exact .inl h
  · exact .inr ⟨i, g, off, c, h1, h2, by rw [List.getElem?_append_left (lt_of_get h3)]; exact h3, h4⟩
theorem RowAt.fresh {k p : Nat} {σ : Sto} {v : AV} {n : Nat} {cs : List AV} (h : RowAt k p σ v n cs) (g off n' k' : Nat) : v ≠ .ms σ.length g off n' k' := by
  rcases h with ⟨rfl, _⟩ | ⟨i, g', off', c, rfl, h2, h3, h4⟩
  · simp
  · have := lt_of_get h3
    intro e
    cases e
    omega
theorem wr_end (c : List AV) (off n : Nat) (ys : List AV) (h : off + n + ys.length ≤ c.length) : ((wr c (off + n) ys).drop off).take (n + ys.length) = (c.drop off).take n ++ ys := by
  rw [wr_eq _ _ _ h, List.append_assoc, List.drop_append_of_le_length (by simp; omega), List.drop_take, ← List.append_assoc]
  rw [show off + n - off = n by omega]
  exact List.take_left' (by simp; omega)
theorem wr_fill (A Z B C : List AV) (a b : Nat) (ha : A.length = a) (hb : B.length = b) (hz : Z.length = b + C.length) : wr (wr (A ++ Z) a B) (a + b) C = A ++ B ++ C := by
  subst ha hb
  have h1 : wr (A ++ Z) A.length B = A ++ B ++ Z.drop B.length := by
    rw [wr_eq _ _ _ (by simp; omega), List.take_left' rfl, List.drop_append]
    simp
  rw [h1, wr_eq _ _ _ (by simp; omega), List.take_left' (by simp), List.drop_eq_nil_of_le (by simp; omega), List.append_nil]
theorem wr_shift (c B D : List AV) (off a b d : Nat) (hb : B.length = b) (hd : D.length = d) (h : off + a + b + d ≤ c.length) : ((wr (wr c (off + (a + b)) D) (off + a) B).drop off).take (a + b + d) = (c.drop off).take a ++ B ++ D := by
  subst hb hd
  have h1 : wr c (off + (a + B.length)) D = c.take (off + (a + B.length)) ++ (D ++ c.drop (off + (a + B.length) + D.length)) := by rw [wr_eq _ _ _ (by omega), List.append_assoc]
  have hl : (c.take (off + (a + B.length))).length = off + (a + B.length) := by simp; omega
  have h2 : (wr c (off + (a + B.length)) D).take (off + a) = c.take (off + a) := by
    rw [h1, List.take_append_of_le_length (by omega), List.take_take, show min (off + a) (off + (a + B.length)) = off + a by omega]
  have h3 : (wr c (off + (a + B.length)) D).drop (off + a + B.length) = D ++ c.drop (off + (a + B.length) + D.length) := by
    rw [h1]; exact List.drop_left' (by omega)
  have h4 : (c.take (off + a)).drop off = (c.drop off).take a := by rw [List.drop_take, show off + a - off = a by omega]
  rw [wr_eq _ _ _ (by rw [wr_length _ _ _ (by omega)]; omega), h2, h3, List.append_assoc, List.drop_append_of_le_length (by simp; omega), h4, ← List.append_assoc, ← List.append_assoc]
  exact List.take_left' (by simp; omega)
theorem rowAt_set {k p : Nat} {σ : Sto} {i g off n : Nat} {c cs : List AV} (h1 : i ≠ p) (hi : i < σ.length) (h2 : off + n * k ≤ c.length) (h3 : (c.drop off).take (n * k) = cs) : RowAt k p (σ.set i ⟨c, g, false, false⟩) (.ms i g off n k) n cs ∧ (σ.set i ⟨c, g, false, false⟩)[p]? = σ[p]? :=
  ⟨.inr ⟨i, g, off, c, rfl, h1, List.getElem?_set_self hi, h2, h3⟩, List.getElem?_set_ne h1⟩
theorem rowAt_new {k p : Nat} {σ : Sto} {n : Nat} {c cs : List AV} (hp : p < σ.length) (h2 : n * k ≤ c.length) (h3 : c.take (n * k) = cs) : RowAt k p (σ ++ [⟨c, 0, false, false⟩]) (.ms σ.length 0 0 n k) n cs ∧ (σ ++ [⟨c, 0, false, false⟩])[p]? = σ[p]? :=
  ⟨.inr ⟨σ.length, 0, 0, c, rfl, by omega, by simp, by omega, h3⟩, List.getElem?_append_left hp⟩
end Go.Proofs.YtemijcjgdgdhjabGreat
