/- Contracts: strings compared, keys, values, messages. (joined) -/
import Derived.Test.YtejgopcicenbeaaGreatProg
import Derived.Test.YtejgopcicenbeaaGreatLa
import Derived.WalkLawsBesides
import Derived.Outline
import Derived.Lib.Builder
import Derived.Shelf.Strings.Builder1
import Derived.OwnWalk
import Derived.RowKit3
import Derived.StillTailTactics
import Derived.Laws.BitsLemmas
import Derived.Lib.ConvBytes
import Derived.Deep.RegionHeld3
namespace Go.Proofs.YtejgopcicenbeaaGreat.Old
open Go.RowKit
end Go.Proofs.YtejgopcicenbeaaGreat.Old
/- Contracts: which messages can be, what they weigh. -/
namespace Go.Proofs.YtejgopcicenbeaaGreat.Old
open Go.RowKit
theorem isMsg_put {k v : Str} : isMsg ⟨1, k, v⟩ = (isKey k && isVal v) := by simp [isMsg, isVal]
end Go.Proofs.YtejgopcicenbeaaGreat.Old
/- msg.Then where it refuses, or the second message is all. -/
namespace Go.Proofs.YtejgopcicenbeaaGreat.Old
open Go.RowKit
end Go.Proofs.YtejgopcicenbeaaGreat.Old
/- Contracts of strings.Builder, wherever it lies at the head of a block of its own. -/
namespace Go.Proofs.YtejgopcicenbeaaGreat.Old
open Go.RowKit
/-- The builder in block b, its buffer's row in blocks from B on. -/
def BAt (T : TypeId) (B b : Nat) (bs : List Value) (w : World) : Prop :=
  ∃ p v, (p = .pointer none ∨ p = .pointer (some ⟨b, 0, none⟩)) ∧ w.heap[b]? = some (.cells #[p, v] T (0, 0)) ∧ w.ownsRow B 5 1 v bs.length bs ∧ v.ownBlock ≠ some b
end Go.Proofs.YtejgopcicenbeaaGreat.Old
/- Contracts of pen: numbers as bytes, written. -/
namespace Go.Proofs.YtejgopcicenbeaaGreat.Old
open Go.RowKit
/-- A row of whole numbers in memory. -/
def Ints (w : World) (A : Option Addr) (l : List Int) : Prop :=
  ∀ (i : Nat) (x : Int), l[i]? = some x → ∃ b o, A = some ⟨b, o, none⟩ ∧ b < w.heap.size ∧ w.cell? ⟨b, o + i, none⟩ = some (.int .i64 x)
theorem Ints.keep {w w' : World} {A : Option Addr} {l : List Int} (h : Ints w A l) (hb : ∀ b o, A = some ⟨b, o, none⟩ → b < w.heap.size → l ≠ [] → w'.heap[b]? = w.heap[b]?) (hs : w.heap.size ≤ w'.heap.size) : Ints w' A l := by
  intro i x hx
  obtain ⟨b, o, hA, hlt, h1⟩ := h i x hx
  exact ⟨b, o, hA, by omega, (World.cell?_of_block (w := w) (hb b o hA hlt (by rintro rfl; simp at hx))).trans h1⟩
/-- What Num's loops carry: the builder, its bytes so far, what has turned, the captured width, the list. -/
def NumAt (wd : Nat) (T : TypeId) (B b g : Nat) (A : Option Addr) (zs : List Int) (bs : List UInt8) (w0 w : World) : Prop :=
  BAt T B b (Lib.byteCells bs) w ∧ FrT 5 B b w0 w ∧ w.heap[g]? = some (.cells #[.int .i64 wd] 3 (0, 0)) ∧ Ints w A zs ∧ B ≤ w.heap.size
theorem NumAt.drew {wd : Nat} {T : TypeId} {B b g : Nat} {A : Option Addr} {zs : List Int} {bs : List UInt8} {w0 w : World} (h : NumAt wd T B b g A zs bs w0 w) : NumAt wd T B b g A zs bs w0 w.drew := ⟨h.1, h.2.1.drew, h.2.2.1, h.2.2.2.1, h.2.2.2.2⟩
end Go.Proofs.YtejgopcicenbeaaGreat.Old
/- (*pen.Out).Num of numbers that fit: their bytes are written, the highest first. -/
namespace Go.Proofs.YtejgopcicenbeaaGreat.Old
open Go.RowKit
end Go.Proofs.YtejgopcicenbeaaGreat.Old
/- key.Value: a number's eight bytes. -/
namespace Go.Proofs.YtejgopcicenbeaaGreat.Old
open Go.RowKit
theorem wraps_u64 (n : Int) (h₀ : 0 ≤ n) (h₁ : n < 2 ^ 64) : IntKind.u64.wrap n = n := by
  show (if (IntKind.u64.signed && decide (n % 2 ^ 64 ≥ 2 ^ 63)) = true then n % 2 ^ 64 - 2 ^ 64 else n % 2 ^ 64) = n
  simp [IntKind.signed]; omega
end Go.Proofs.YtejgopcicenbeaaGreat.Old
/- Contracts of pen.In: a text that is read. -/
namespace Go.Proofs.YtejgopcicenbeaaGreat.Old
open Go.RowKit
/-- The reader in block b. -/
def InAt (b : Nat) (s : Str) (bad : Bool) (w : World) : Prop := w.heap[b]? = some (.cells #[.string s, .bool bad] 172 (0, 0))
theorem InAt.lt {b : Nat} {s : Str} {bad : Bool} {w : World} (h : InAt b s bad w) : b < w.heap.size := blk_lt h
end Go.Proofs.YtejgopcicenbeaaGreat.Old
/- key.Number: the number of an eight-byte value. -/
namespace Go.Proofs.YtejgopcicenbeaaGreat.Old
open Go.RowKit
end Go.Proofs.YtejgopcicenbeaaGreat.Old
/- msg.sum: a number's value, and so much more. -/
namespace Go.Proofs.YtejgopcicenbeaaGreat.Old
open Go.RowKit
end Go.Proofs.YtejgopcicenbeaaGreat.Old
