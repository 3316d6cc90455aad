/- Rows of things, as cells. No program. -/
import Derived.Test.YtemijcjgdgdhjaaLogP
import Derived.Test.YtemijcjgdgdhjaaPure
namespace Go.Proofs.Ytemijcjgdgdhjaa
open Go.RowKit

/-- The cells of a row of things, each of so many cells. -/
def flatC {α : Type} (c : α → List AV) (l : List α) : List AV := l.flatMap c
section
variable {α : Type} {c : α → List AV} {n : Nat}
theorem flatC_length (hc : ∀ x, (c x).length = n) (l : List α) : (flatC c l).length = l.length * n := by
  induction l with
  | nil => simp [flatC]
  | cons x l ih => simp only [flatC, List.flatMap_cons, List.length_append, hc, List.length_cons, Nat.add_mul, Nat.one_mul] at *; omega
theorem flatC_drop (hc : ∀ x, (c x).length = n) : ∀ (l : List α) (k : Nat), (flatC c l).drop (k * n) = flatC c (l.drop k)
  | [], k => by simp [flatC]
  | x :: l, 0 => by simp
  | x :: l, k + 1 => by
    have ih := flatC_drop hc l k
    simp only [flatC, List.flatMap_cons, List.drop_succ_cons] at *
    rw [Nat.add_mul, Nat.one_mul, Nat.add_comm, ← List.drop_drop, List.drop_left' (hc x)]
    exact ih
theorem flatC_take (hc : ∀ x, (c x).length = n) : ∀ (l : List α) (k : Nat), (flatC c l).take (k * n) = flatC c (l.take k)
  | [], k => by simp [flatC]
  | x :: l, 0 => by simp [flatC]
  | x :: l, k + 1 => by
    have ih := flatC_take hc l k
    simp only [flatC, List.flatMap_cons, List.take_succ_cons] at *
    rw [Nat.add_mul, Nat.one_mul, Nat.add_comm, List.take_append, hc, List.take_of_length_le (by rw [hc]; omega), Nat.add_sub_cancel_left, ih]
theorem flatC_get (hc : ∀ x, (c x).length = n) (l : List α) (k j : Nat) (h : k < l.length) (hj : j < n) : (flatC c l)[k * n + j]? = (c l[k])[j]? := by
  rw [← List.getElem?_drop, flatC_drop hc, List.drop_eq_getElem_cons h]
  simp only [flatC, List.flatMap_cons]
  rw [List.getElem?_append_left (by rw [hc]; exact hj)]
theorem flatC_seg (hc : ∀ x, (c x).length = n) (l : List α) (k : Nat) (h : k < l.length) : ((flatC c l).drop (k * n)).take n = c l[k] := by
  rw [flatC_drop hc, List.drop_eq_getElem_cons h]
  simp only [flatC, List.flatMap_cons]
  rw [List.take_left' (hc _)]
theorem flatC_append (l m : List α) : flatC c (l ++ m) = flatC c l ++ flatC c m := by simp [flatC]
theorem flatC_one (x : α) : flatC c [x] = c x := by simp [flatC]
theorem flatC_flat (hc : ∀ x, flatL (c x) = true) (l : List α) : flatL (flatC c l) = true := by
  rw [flatL_iff]
  intro y hy
  simp only [flatC, List.mem_flatMap] at hy
  obtain ⟨x, _, hx⟩ := hy
  exact (flatL_iff _).1 (hc x) y hx
theorem flatC_one' (hc : ∀ x, (c x).all AV.one = true) (l : List α) : (flatC c l).all AV.one = true := by
  rw [List.all_eq_true]
  intro y hy
  simp only [flatC, List.mem_flatMap] at hy
  obtain ⟨x, _, hx⟩ := hy
  exact List.all_eq_true.1 (hc x) y hx
end

/-- A message, as cells. -/
def cM (m : Msg) : List AV := [.sc (.int .i64 m.kind), .sc (.string m.key), .sc (.string m.val)]
def flatM (l : List Msg) : List AV := flatC cM l
def sM (l : List Msg) : AV := .fs (flatM l) l.length
@[simp] theorem cM_length (m : Msg) : (cM m).length = 3 := rfl
@[simp] theorem flatM_length (l : List Msg) : (flatM l).length = l.length * 3 := flatC_length cM_length l
@[simp] theorem flatM_flat (l : List Msg) : flatL (flatM l) = true := flatC_flat (fun _ => rfl) l
@[simp] theorem flatM_one (l : List Msg) : (flatM l).all AV.one = true := flatC_one' (fun _ => rfl) l
@[simp] theorem cM_one (m : Msg) : (cM m).all AV.one = true := rfl
@[simp] theorem cM_flat (m : Msg) : flatL (cM m) = true := rfl
theorem flatM_seg (l : List Msg) (k : Nat) (h : k < l.length) : ((flatM l).drop (k * 3)).take 3 = cM l[k] := flatC_seg cM_length l k h
theorem flatM_0 (l : List Msg) (k : Nat) (h : k < l.length) : (flatM l)[k * 3]? = some (.sc (.int .i64 l[k].kind)) := flatC_get cM_length l k 0 h (by omega)
theorem flatM_1 (l : List Msg) (k : Nat) (h : k < l.length) : (flatM l)[k * 3 + 1]? = some (.sc (.string l[k].key)) := flatC_get cM_length l k 1 h (by omega)
theorem flatM_2 (l : List Msg) (k : Nat) (h : k < l.length) : (flatM l)[k * 3 + 2]? = some (.sc (.string l[k].val)) := flatC_get cM_length l k 2 h (by omega)
theorem flatM_append (l m : List Msg) : flatM (l ++ m) = flatM l ++ flatM m := flatC_append l m
theorem flatM_snoc (l : List Msg) (m : Msg) : flatM l ++ cM m = flatM (l ++ [m]) := by rw [flatM_append]; simp [flatM, flatC]
theorem flatM_take (l : List Msg) (k : Nat) : (flatM l).take (k * 3) = flatM (l.take k) := flatC_take cM_length l k
theorem flatM_drop (l : List Msg) (k : Nat) : (flatM l).drop (k * 3) = flatM (l.drop k) := flatC_drop cM_length l k
/-- An item, as cells. -/
def cI (x : Item) : List AV := [.sc (.string x.key), .sc (.string x.val)]
def flatI (l : List Item) : List AV := flatC cI l
def sI (l : List Item) : AV := .fs (flatI l) l.length
@[simp] theorem cI_length (m : Item) : (cI m).length = 2 := rfl
@[simp] theorem flatI_length (l : List Item) : (flatI l).length = l.length * 2 := flatC_length cI_length l
@[simp] theorem flatI_flat (l : List Item) : flatL (flatI l) = true := flatC_flat (fun _ => rfl) l
@[simp] theorem flatI_one (l : List Item) : (flatI l).all AV.one = true := flatC_one' (fun _ => rfl) l
@[simp] theorem cI_one (m : Item) : (cI m).all AV.one = true := rfl
@[simp] theorem cI_flat (m : Item) : flatL (cI m) = true := rfl
theorem flatI_seg (l : List Item) (k : Nat) (h : k < l.length) : ((flatI l).drop (k * 2)).take 2 = cI l[k] := flatC_seg cI_length l k h
theorem flatI_0 (l : List Item) (k : Nat) (h : k < l.length) : (flatI l)[k * 2]? = some (.sc (.string l[k].key)) := flatC_get cI_length l k 0 h (by omega)
theorem flatI_1 (l : List Item) (k : Nat) (h : k < l.length) : (flatI l)[k * 2 + 1]? = some (.sc (.string l[k].val)) := flatC_get cI_length l k 1 h (by omega)
theorem flatI_append (l m : List Item) : flatI (l ++ m) = flatI l ++ flatI m := flatC_append l m
theorem flatI_snoc (l : List Item) (m : Item) : flatI l ++ cI m = flatI (l ++ [m]) := by rw [flatI_append]; simp [flatI, flatC]
theorem flatI_take (l : List Item) (k : Nat) : (flatI l).take (k * 2) = flatI (l.take k) := flatC_take cI_length l k
theorem flatI_drop (l : List Item) (k : Nat) : (flatI l).drop (k * 2) = flatI (l.drop k) := flatC_drop cI_length l k
/-- Texts, as cells. -/
def cS (s : Str) : List AV := [.sc (.string s)]
def flatS (l : List Str) : List AV := flatC cS l
def sS (l : List Str) : AV := .fs (flatS l) l.length
@[simp] theorem cS_length (m : Str) : (cS m).length = 1 := rfl
@[simp] theorem flatS_length (l : List Str) : (flatS l).length = l.length := by have := flatC_length cS_length l; rw [Nat.mul_one] at this; exact this
@[simp] theorem flatS_flat (l : List Str) : flatL (flatS l) = true := flatC_flat (fun _ => rfl) l
theorem flatS_get (l : List Str) (k : Nat) (h : k < l.length) : (flatS l)[k]? = some (.sc (.string l[k])) := by have := flatC_get cS_length l k 0 h (by omega); rw [Nat.mul_one] at this; exact this
@[simp] theorem flatS_at (l : List Str) (k : Nat) (h : k < (flatS l).length) : (flatS l)[k] = .sc (.string (l[k]'(by simpa using h))) := by
  have h' : k < l.length := by simpa using h
  have := flatS_get l k h'
  rw [List.getElem?_eq_getElem h] at this
  exact Option.some.inj this
/-- Numbers, as cells. -/
def cN (x : Int) : List AV := [.sc (.int .i64 x)]
def flatN (l : List Int) : List AV := flatC cN l
@[simp] theorem cN_length (x : Int) : (cN x).length = 1 := rfl
@[simp] theorem flatN_length (l : List Int) : (flatN l).length = l.length := by have := flatC_length cN_length l; rw [Nat.mul_one] at this; exact this
@[simp] theorem flatN_flat (l : List Int) : flatL (flatN l) = true := flatC_flat (fun _ => rfl) l
@[simp] theorem flatN_one (l : List Int) : (flatN l).all AV.one = true := flatC_one' (fun _ => rfl) l
theorem flatN_get (l : List Int) (k : Nat) (h : k < l.length) : (flatN l)[k]? = some (.sc (.int .i64 l[k])) := by have := flatC_get cN_length l k 0 h (by omega); rw [Nat.mul_one] at this; exact this
@[simp] theorem flatN_at (l : List Int) (k : Nat) (h : k < (flatN l).length) : (flatN l)[k] = .sc (.int .i64 (l[k]'(by simpa using h))) := by
  have h' : k < l.length := by simpa using h
  have := flatN_get l k h'
  rw [List.getElem?_eq_getElem h] at this
  exact Option.some.inj this
theorem flatN_append (l m : List Int) : flatN (l ++ m) = flatN l ++ flatN m := flatC_append l m
end Go.Proofs.Ytemijcjgdgdhjaa
