/- Heaps, plainly: container/heap's ways over lists. No program. -/
import Derived.Test.YtemijcjgdgdhjaaGreatLa
namespace Go.Proofs.YtemijcjgdgdhjaaGreat
section
variable {α : Type} [Inhabited α] (lt : α → α → Bool)
abbrev at_ (l : List α) (i : Nat) : α := l.getD i default
def swapG (l : List α) (i j : Nat) : List α := (l.set i (at_ l j)).set j (at_ l i)
def par (k : Nat) : Nat := (k - 1) / 2
def upG : Nat → List α → Nat → List α
  | 0, l, _ => l
  | f + 1, l, j => if j = 0 then l else if lt (at_ l j) (at_ l (par j)) = true then upG f (swapG l (par j) j) (par j) else l
def kidG (l : List α) (i n : Nat) : Nat := if 2 * i + 2 < n ∧ lt (at_ l (2 * i + 2)) (at_ l (2 * i + 1)) = true then 2 * i + 2 else 2 * i + 1
def downG : Nat → List α → Nat → Nat → List α × Nat
  | 0, l, i, _ => (l, i)
  | f + 1, l, i, n => if n ≤ 2 * i + 1 then (l, i) else if lt (at_ l (kidG lt l i n)) (at_ l i) = true then downG f (swapG l i (kidG lt l i n)) (kidG lt l i n) n else (l, i)
def heapUp (l : List α) (j : Nat) : List α := upG lt j l j
def heapDown (l : List α) (i n : Nat) : List α × Nat := downG lt n l i n
def heapPush (l : List α) (x : α) : List α := heapUp lt (l ++ [x]) l.length
/-- What is left, and what is told. -/
def heapPop (l : List α) : List α × α :=
  let m := (heapDown lt (swapG l 0 (l.length - 1)) 0 (l.length - 1)).1
  (m.dropLast, at_ m (l.length - 1))
variable {lt}
theorem at_lt {l : List α} {i : Nat} (h : i < l.length) : at_ l i = l[i] := by simp [at_, h]
@[simp] theorem swapG_length (l : List α) (i j : Nat) : (swapG l i j).length = l.length := by simp [swapG]
theorem kidG_two (l : List α) (i n : Nat) : kidG lt l i n = 2 * i + 1 ∨ (kidG lt l i n = 2 * i + 2 ∧ 2 * i + 2 < n) := by
  unfold kidG
  split
  · rename_i h; exact .inr ⟨rfl, h.1⟩
  · exact .inl rfl
end
end Go.Proofs.YtemijcjgdgdhjaaGreat
