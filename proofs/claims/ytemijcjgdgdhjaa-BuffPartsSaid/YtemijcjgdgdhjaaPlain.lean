/- Plain words: strings in the order of their bytes, messages, items. No program. -/
import Derived.WalkKit
import Derived.Sort.Walk0
import Derived.Below
import Derived.Deep.Draws
import Derived.Lib.Hide
namespace Go.Proofs.Ytemijcjgdgdhjaa
open Go.RowKit

abbrev Str := ByteArray
/-- a < b, byte by byte. -/
def slt (a b : Str) : Bool := decide (a.data.toList < b.data.toList)
theorem slt_irrefl (a : Str) : slt a a = false := by unfold slt; simp
theorem slt_trans {a b c : Str} (h : slt a b = true) (h' : slt b c = true) : slt a c = true := by
  unfold slt at *; simp only [decide_eq_true_eq] at *; exact List.lt_trans h h'
theorem slt_asymm {a b : Str} (h : slt a b = true) : slt b a = false := by
  cases h' : slt b a with
  | false => rfl
  | true => have := slt_trans h h'; rw [slt_irrefl] at this; cases this
theorem str_ext {a b : Str} (h : a.data.toList = b.data.toList) : a = b := by
  cases a; cases b; simp_all
theorem slt_tri {a b : Str} (h : slt a b = false) (h' : slt b a = false) : a = b := by
  unfold slt at *
  simp only [decide_eq_false_iff_not] at *
  exact str_ext (List.le_antisymm (List.not_lt.1 h') (List.not_lt.1 h))
theorem slt_ne {a b : Str} (h : slt a b = true) : a ≠ b := by rintro rfl; rw [slt_irrefl] at h; cases h
/-- cmp.Compare of strings. -/
def scmp (a b : Str) : Int := if slt a b then -1 else if slt b a then 1 else 0
theorem scmp_lt {a b : Str} (h : slt a b = true) : scmp a b = -1 := by unfold scmp; rw [if_pos h]
theorem scmp_gt {a b : Str} (h : slt b a = true) : scmp a b = 1 := by unfold scmp; rw [if_neg (by rw [slt_asymm h]; exact Bool.false_ne_true), if_pos h]
theorem scmp_eq (a : Str) : scmp a a = 0 := by unfold scmp; rw [slt_irrefl]; rfl
theorem less_is (a b : Str) : Op.bytesLess a.toList b.toList = slt a b := by rw [ByteArray.toList_eq, ByteArray.toList_eq]; exact bytesLess_eq _ _
theorem beq_is (a b : Str) : (a.toList == b.toList) = decide (a = b) := by
  rw [ByteArray.toList_eq, ByteArray.toList_eq]; rw [Bool.eq_iff_iff]; simp only [beq_iff_eq, decide_eq_true_eq]; exact ⟨str_ext, fun h => by rw [h]⟩

structure Msg where
  kind : Int
  key : Str
  val : Str
  deriving DecidableEq, Inhabited
structure Item where
  key : Str
  val : Str
  deriving DecidableEq, Inhabited

def isKey (k : Str) : Bool := decide (1 ≤ k.size ∧ k.size ≤ 8)
def isVal (v : Str) : Bool := decide (v.size ≤ 16)
def isMsg (m : Msg) : Bool := isKey m.key && decide ((m.kind = 1 ∧ m.val.size ≤ 16) ∨ (m.kind = 2 ∧ m.val.size = 0) ∨ (m.kind = 3 ∧ m.val.size = 8))
def mwt (m : Msg) : Int := 3 + (m.key.size : Int) + (m.val.size : Int)
def iwt (x : Item) : Int := 2 + (x.key.size : Int) + (x.val.size : Int)

theorem ret_int {k : IntKind} {a b : Int} (h : a = b) : Ending.returned (.int k a) = .returned (.int k b) := by rw [h]
theorem ret_bool {a b : Bool} (h : a = b) : Ending.returned (.bool a) = .returned (.bool b) := by rw [h]
/-- The call hands back v; nothing that was there has turned. -/
def Gives (v : Value) (w : World) (e : Ending) (w' : World) : Prop := e = .returned v ∧ Below w.heap.size w w'
/-- The call hands back v and leaves the world alone. -/
def Tells (v : Value) (w : World) (e : Ending) (w' : World) : Prop := e = .returned v ∧ w = w'
theorem below_drewN {B : Nat} {a w : World} (h : Below B a w) (n : Nat) : Below B a (w.drewN n) := ⟨h.os, h.tape, h.output, h.size, h.block⟩
theorem blk_old {w w' : World} {B b : Nat} {o : Obj} (h : Below B w w') (hb : w.heap[b]? = some o) (hB : b < B) : w'.heap[b]? = some o := (h.block b hB).trans hb
theorem blk_self (w : World) (o : Obj) : (w.alloc o).heap[w.heap.size]? = some o := by show (w.heap.push o)[w.heap.size]? = _; simp
theorem blk_alloc {w : World} {b : Nat} {o o' : Obj} (h : w.heap[b]? = some o) : (w.alloc o').heap[b]? = some o := by
  have : b < w.heap.size := by
    rcases Nat.lt_or_ge b w.heap.size with h1 | h1
    · exact h1
    · rw [Array.getElem?_eq_none h1] at h; cases h
  rw [Below.heap_alloc _ _ _ this]; exact h
theorem blk_new {w w' : World} {B : Nat} {o : Obj} (h : Below B (w.alloc o) w') (hB : w.heap.size < B) : w'.heap[w.heap.size]? = some o := by
  rw [h.block _ hB]; exact blk_self _ _
theorem blk_lt {w : World} {b : Nat} {o : Obj} (h : w.heap[b]? = some o) : b < w.heap.size := by
  rcases Nat.lt_or_ge b w.heap.size with h1 | h1
  · exact h1
  · rw [Array.getElem?_eq_none h1] at h; cases h
theorem blk_set {w : World} {b o : Nat} {cs : Array Value} {t : TypeId} {z : Nat × Nat} {v : Value} (h : w.heap[b]? = some (.cells cs t z)) : (w.setCell ⟨b, o, none⟩ v).heap[b]? = some (.cells (cs.setIfInBounds o v) t z) := by
  simp [World.setCell, Array.getElem?_modify, h]
theorem blk_other {w : World} {b c o : Nat} {x : Obj} {v : Value} (h : w.heap[b]? = some x) (hne : b ≠ c) : (w.setCell ⟨c, o, none⟩ v).heap[b]? = some x := by
  rw [Below.heap_setCell _ _ _ _ hne]; exact h
theorem blk_free {w : World} {b : Nat} {t : TypeId} {a : Array Value} (h : w.heap[b]? = some (.cells a t (0, 0))) (i : Nat) : w.frozen? ⟨b, i, none⟩ = false := by
  simp [World.frozen?, h]
theorem blk_cell {w : World} {b i : Nat} {t : TypeId} {z : Nat × Nat} {cs : Array Value} (h : w.heap[b]? = some (.cells cs t z)) : w.cell? ⟨b, i, none⟩ = cs[i]? := by
  simp [World.cell?, h]

/-- Below block B nothing has turned but the blocks of S; no block has gone. -/
structure Fr (B : Nat) (S : Nat → Prop) (w w' : World) : Prop where
  os : w'.os = w.os
  tape : w'.tape = w.tape
  output : w'.output = w.output
  size : w.heap.size ≤ w'.heap.size
  block : ∀ k, k < B → ¬ S k → w'.heap[k]? = w.heap[k]?
namespace Fr
theorem refl (B : Nat) (S : Nat → Prop) (w : World) : Fr B S w w := ⟨rfl, rfl, rfl, Nat.le_refl _, fun _ _ _ => rfl⟩
theorem trans {B : Nat} {S : Nat → Prop} {a b c : World} (h : Fr B S a b) (k : Fr B S b c) : Fr B S a c :=
  ⟨k.os.trans h.os, k.tape.trans h.tape, k.output.trans h.output, Nat.le_trans h.size k.size, fun i hi hn => (k.block i hi hn).trans (h.block i hi hn)⟩
theorem mono {B B' : Nat} {S S' : Nat → Prop} {w w' : World} (h : Fr B S w w') (hB : B' ≤ B) (hS : ∀ k, k < B' → S k → S' k) : Fr B' S' w w' :=
  ⟨h.os, h.tape, h.output, h.size, fun k hk hn => h.block k (Nat.lt_of_lt_of_le hk hB) (fun hs => hn (hS k hk hs))⟩
theorem of_below {B : Nat} {S : Nat → Prop} {w w' : World} (h : Below B w w') : Fr B S w w' := ⟨h.os, h.tape, h.output, h.size, fun k hk _ => h.block k hk⟩
theorem below {B : Nat} {S : Nat → Prop} {w w' : World} (h : Fr B S w w') {C : Nat} (hC : C ≤ B) (hS : ∀ k, k < C → ¬ S k) : Below C w w' :=
  ⟨h.os, h.tape, h.output, h.size, fun k hk => h.block k (Nat.lt_of_lt_of_le hk hC) (hS k hk)⟩
theorem drew {B : Nat} {S : Nat → Prop} {a w : World} (h : Fr B S a w) : Fr B S a w.drew := ⟨h.os, h.tape, h.output, h.size, h.block⟩
theorem alloc {B : Nat} {S : Nat → Prop} {a w : World} (h : Fr B S a w) (hB : B ≤ w.heap.size) (o : Obj) : Fr B S a (w.alloc o) :=
  h.trans (of_below ((Below.refl _ _).alloc hB o))
theorem setCell {B : Nat} {S : Nat → Prop} {a w : World} (h : Fr B S a w) {p : Addr} (hp : S p.block ∨ B ≤ p.block) (u : Value) : Fr B S a (w.setCell p u) :=
  h.trans ⟨rfl, rfl, rfl, by simp [World.setCell], fun k hk hn => Below.heap_setCell _ _ _ _ (by rintro rfl; rcases hp with hp | hp; exact hn hp; omega)⟩
theorem grown {B : Nat} {S : Nat → Prop} {a w w' : World} {row : Option Nat} (h : Fr B S a w) (hg : w.grownBy w' row) (hB : B ≤ w.heap.size) (hr : ∀ k, row = some k → S k ∨ B ≤ k) : Fr B S a w' :=
  h.trans ⟨hg.os, hg.tape, hg.output, hg.size, fun k hk hn => hg.block k (by omega) (fun e => by rcases hr k e.symm with h | h; exact hn h; omega)⟩
end Fr

/-- Block k is a row of elements of type t. -/
def IsElem (w : World) (t : TypeId) (k : Nat) : Prop := ∃ cs fz, w.heap[k]? = some (.cells cs t fz)
/-- Nothing that was there has turned but block b, and rows of elements of type t from block B on. -/
structure FrT (t : TypeId) (B b : Nat) (w w' : World) : Prop where
  os : w'.os = w.os
  tape : w'.tape = w.tape
  output : w'.output = w.output
  size : w.heap.size ≤ w'.heap.size
  block : ∀ k, k < w.heap.size → k ≠ b → (k < B ∨ ¬ IsElem w t k) → w'.heap[k]? = w.heap[k]?
namespace FrT
variable {t : TypeId} {B b : Nat}
theorem refl (t : TypeId) (B b : Nat) (w : World) : FrT t B b w w := ⟨rfl, rfl, rfl, Nat.le_refl _, fun _ _ _ _ => rfl⟩
theorem trans {x y z : World} (h : FrT t B b x y) (k : FrT t B b y z) : FrT t B b x z :=
  ⟨k.os.trans h.os, k.tape.trans h.tape, k.output.trans h.output, Nat.le_trans h.size k.size, fun i hi hb hn => by
    have e := h.block i hi hb hn
    refine (k.block i (Nat.lt_of_lt_of_le hi h.size) hb ?_).trans e
    rcases hn with hn | hn
    · exact .inl hn
    · exact .inr (fun ⟨cs, fz, hc⟩ => hn ⟨cs, fz, e ▸ hc⟩)⟩
theorem mono {x y : World} {B' : Nat} (h : FrT t B' b x y) (hB : B ≤ B') : FrT t B b x y := ⟨h.os, h.tape, h.output, h.size, fun k hk hb hn => h.block k hk hb (hn.imp (fun h => by omega) id)⟩
theorem of_below {x y : World} (h : Below x.heap.size x y) : FrT t B b x y := ⟨h.os, h.tape, h.output, h.size, fun k hk _ _ => h.block k hk⟩
theorem below {x y : World} (h : FrT t B b x y) {C : Nat} (h1 : C ≤ B) (h2 : C ≤ b) (h3 : C ≤ x.heap.size) : Below C x y :=
  ⟨h.os, h.tape, h.output, h.size, fun k hk => h.block k (by omega) (by omega) (.inl (by omega))⟩
theorem drew {x y : World} (h : FrT t B b x y) : FrT t B b x y.drew := ⟨h.os, h.tape, h.output, h.size, h.block⟩
theorem drewN {x y : World} (h : FrT t B b x y) (n : Nat) : FrT t B b x (y.drewN n) := ⟨h.os, h.tape, h.output, h.size, h.block⟩
theorem alloc {x y : World} (h : FrT t B b x y) (o : Obj) : FrT t B b x (y.alloc o) := h.trans (of_below ((Below.refl _ _).alloc (Nat.le_refl _) o))
theorem setCell {x y : World} (h : FrT t B b x y) (o : Nat) (u : Value) : FrT t B b x (y.setCell ⟨b, o, none⟩ u) :=
  h.trans ⟨rfl, rfl, rfl, by simp [World.setCell], fun k _ hb _ => Below.heap_setCell _ _ _ _ hb⟩
theorem grown {x y z : World} {row : Option Nat} (h : FrT t B b x y) (hg : y.grownBy z row) (hr : ∀ k, row = some k → B ≤ k ∧ IsElem y t k) : FrT t B b x z :=
  h.trans ⟨hg.os, hg.tape, hg.output, hg.size, fun k hk _ hn => hg.block k hk (fun e => by
    have := hr k e.symm
    rcases hn with hn | hn
    · omega
    · exact hn this.2)⟩
/-- Another block is as it was. -/
theorem other {x y : World} (h : FrT t B b x y) {k : Nat} {o : Obj} (ho : x.heap[k]? = some o) (hb : k ≠ b) (hn : k < B ∨ ¬ IsElem x t k) : y.heap[k]? = some o :=
  (h.block k (by
    rcases Nat.lt_or_ge k x.heap.size with h1 | h1
    · exact h1
    · rw [Array.getElem?_eq_none h1] at ho; cases ho) hb hn).trans ho
end FrT
theorem elem_of {w : World} {k : Nat} {cs : Array Value} {t u : TypeId} {z : Nat × Nat} (h : w.heap[k]? = some (.cells cs u z)) (hne : u ≠ t) : ¬ IsElem w t k := by
  rintro ⟨cs', fz, h'⟩
  rw [h] at h'
  simp only [Option.some.injEq, Obj.cells.injEq] at h'
  exact hne h'.2.1
theorem owns_elem {w : World} {B n k : Nat} {e : TypeId} {sz : Nat} {v : Value} {xs : List Value} (h : w.ownsRow B e sz v n xs) (hk : v.ownBlock = some k) : B ≤ k ∧ IsElem w e k := by
  rcases h.2 with ⟨rfl, _⟩ | ⟨g, cap, cur, rfl, hg, hgg, _⟩
  · simp [Value.ownBlock] at hk
  · simp [Value.ownBlock] at hk
    subst hk
    exact ⟨hg, _, _, hgg⟩
theorem ownsRow_move {B : Nat} {e : TypeId} {k n : Nat} {v : Value} {xs : List Value} {w w' : World} (h : w.ownsRow B e k v n xs) (hb : ∀ g, v.ownBlock = some g → w'.heap[g]? = w.heap[g]?) : w'.ownsRow B e k v n xs := by
  obtain ⟨h1, h2⟩ := h
  refine ⟨h1, ?_⟩
  rcases h2 with h2 | ⟨g, cap, cur, rfl, hg, hgg, r⟩
  · exact .inl h2
  · exact .inr ⟨g, cap, cur, rfl, hg, (hb g rfl).trans hgg, r⟩
end Go.Proofs.Ytemijcjgdgdhjaa
