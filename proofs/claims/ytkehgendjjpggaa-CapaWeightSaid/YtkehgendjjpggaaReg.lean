/- A region that draws its order, whose operations only read and whose callees read and lay blocks of their own: walked once, in the order of the text. Worlds: whatever has turned no old block. -/
import Derived.Deep.QuietTactic
import Derived.BigQuiet
import Derived.Below
import Derived.Lib.Hide
import Derived.WalkKit
namespace Go.Proofs.Ytkehgendjjpggaa
open Go.RowKit

structure BelowBy (B : Nat) (w : World) where
  W : World
  h : Below B w W
instance (B : Nat) (w : World) : Inhabited (BelowBy B w) := ⟨⟨w, Below.refl _ _⟩⟩

theorem wp_region_quiet_below {P : Program} {id : Nat} {Q : Exit → Act → World → Prop} {a : Act} {w : World} {l : List Oper} (hm : P.follows .mixedOrders = true) (hB : Region.lexB .any l.toArray = true)
    (h : wpQuiet P l.toArray (fun w' => ∃ p : BelowBy w.heap.size w, w' = p.W) (fun a' => ∀ w', (∃ p : BelowBy w.heap.size w, w' = p.W) → Q .normal a' w') l a) : (Code.region id l.toArray true).wp P Q a w :=
  wp_region_quiet (C := fun w' => ∃ p : BelowBy w.heap.size w, w' = p.W) hm hB ⟨⟨w.drew, (Below.refl _ _).drew⟩, rfl⟩ (by simpa using h)

/-- A cell of an old block, in every world of the class. -/
theorem BelowBy.cell {B : Nat} {w : World} {b o : Nat} {v : Value} (hb : b < B) (h : w.cell? ⟨b, o, none⟩ = some v) : ∀ p : BelowBy B w, p.W.cell? ⟨b, o, none⟩ = some v :=
  fun p => (p.h.cell (p := ⟨b, o, none⟩) hb).trans h
theorem BelowBy.blk {B : Nat} {w : World} {b : Nat} {o : Obj} (hb : b < B) (h : w.heap[b]? = some o) : ∀ p : BelowBy B w, p.W.heap[b]? = some o :=
  fun p => (p.h.block b hb).trans h

/-- A callee's contract, met in a world of the class. -/
theorem calls_below {P : Program} {f : FuncId} {args : Array Value} {w : World} {p : BelowBy w.heap.size w} {v : Value}
    (h : Calls P f args p.W fun e w' => e = .returned v ∧ Below p.W.heap.size p.W w') : Calls P f args p.W fun e w'' => e = .returned v ∧ ∃ q : BelowBy w.heap.size w, w'' = q.W :=
  h.mono fun _ w' ⟨he, hb⟩ => ⟨he, ⟨w', p.h.trans (hb.mono p.h.size)⟩, rfl⟩
theorem calls_same {P : Program} {f : FuncId} {args : Array Value} {w : World} {p : BelowBy w.heap.size w} {v : Value}
    (h : Calls P f args p.W fun e w' => e = .returned v ∧ p.W = w') : Calls P f args p.W fun e w'' => e = .returned v ∧ ∃ q : BelowBy w.heap.size w, w'' = q.W :=
  h.mono fun _ w' ⟨he, hb⟩ => ⟨he, p, hb.symm⟩
end Go.Proofs.Ytkehgendjjpggaa
