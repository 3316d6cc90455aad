/- Leaves: Parts. -/
import Derived.Test.YtemijcjgdgdhjabGreatEc
namespace Go.Proofs.YtemijcjgdgdhjabGreat
open Go.RowKit Go.Sort
set_option linter.unusedSimpArgs false
set_option maxRecDepth 10000
end Go.Proofs.YtemijcjgdgdhjabGreat
namespace Go.Proofs.YtemijcjgdgdhjabGreat
open Go.RowKit Go.Sort
set_option linter.unusedSimpArgs false
set_option maxRecDepth 10000
/-- Rows of rows. -/
def cY (l : List Item) : List AV := [.fs (flatI l) l.length]
def flatY (l : List (List Item)) : List AV := flatC cY l
theorem cY_length (r : List Item) : (cY r).length = 1 := rfl
theorem cY_flat (r : List Item) : flatL (cY r) = true := by simp [cY, AV.flat, flatL]
theorem cY_one (r : List Item) : (cY r).all AV.one = true := rfl
@[simp] theorem flatY_length (l : List (List Item)) : (flatY l).length = l.length := by have := flatC_length cY_length l; rw [Nat.mul_one] at this; exact this
@[simp] theorem flatY_flat (l : List (List Item)) : flatL (flatY l) = true := flatC_flat cY_flat l
@[simp] theorem flatY_one (l : List (List Item)) : (flatY l).all AV.one = true := flatC_one' cY_one l
theorem flatY_get (l : List (List Item)) (k : Nat) (h : k < l.length) : (flatY l)[k]? = some (.fs (flatI l[k]) l[k].length) := by have := flatC_get cY_length l k 0 h (by omega); rw [Nat.mul_one] at this; exact this
@[simp] theorem flatY_at (l : List (List Item)) (k : Nat) (h : k < (flatY l).length) : (flatY l)[k] = .fs (flatI (l[k]'(by simpa using h))) (l[k]'(by simpa using h)).length := by
  have := flatY_get l k (by simpa using h)
  rw [List.getElem?_eq_getElem h] at this
  exact Option.some.inj this
end Go.Proofs.YtemijcjgdgdhjabGreat
namespace Go.Proofs.YtemijcjgdgdhjabGreat
open Go.RowKit Go.Sort
set_option linter.unusedSimpArgs false
set_option maxRecDepth 10000
section
variable {P : Program} {nt : Nat} {mu : List Nat} {ds : List (Option Nat)} {K : Env → Sto → Prop} {d : Nat} {t : TypeId} {pos : String} {after : Array Edge} {l : List Oper} {env : Env} {σ : Sto}
end
/-- Leaves in a row. -/
def cQ (l : List Item) : List AV := [.fp (cL l) 0]
def flatQ (l : List (List Item)) : List AV := flatC cQ l
theorem cQ_length (r : List Item) : (cQ r).length = 1 := rfl
theorem cQ_flat (r : List Item) : flatL (cQ r) = true := by simp [cQ, AV.flat, flatL]
theorem cQ_one (r : List Item) : (cQ r).all AV.one = true := rfl
@[simp] theorem flatQ_length (l : List (List Item)) : (flatQ l).length = l.length := by have := flatC_length cQ_length l; rw [Nat.mul_one] at this; exact this
@[simp] theorem flatQ_flat (l : List (List Item)) : flatL (flatQ l) = true := flatC_flat cQ_flat l
@[simp] theorem flatQ_one (l : List (List Item)) : (flatQ l).all AV.one = true := flatC_one' cQ_one l
theorem flatQ_get (l : List (List Item)) (k : Nat) (h : k < l.length) : (flatQ l)[k]? = some (.fp (cL l[k]) 0) := by have := flatC_get cQ_length l k 0 h (by omega); rw [Nat.mul_one] at this; exact this
@[simp] theorem flatQ_at (l : List (List Item)) (k : Nat) (h : k < (flatQ l).length) : (flatQ l)[k] = .fp (cL (l[k]'(by simpa using h))) 0 := by
  have := flatQ_get l k (by simpa using h)
  rw [List.getElem?_eq_getElem h] at this
  exact Option.some.inj this
/-- Items so light that no one of them is half of a leaf that is too heavy. -/
def Light (l : List Item) : Prop := ∀ x ∈ l, 2 ≤ iwt x ∧ iwt x ≤ 100 ∧ x.key.size ≤ 1000000 ∧ x.val.size ≤ 1000000
theorem Light.take {l : List Item} (h : Light l) (n : Nat) : Light (l.take n) := fun x hx => h x (List.mem_of_mem_take hx)
theorem Light.drop {l : List Item} (h : Light l) (n : Nat) : Light (l.drop n) := fun x hx => h x (List.mem_of_mem_drop hx)
end Go.Proofs.YtemijcjgdgdhjabGreat
