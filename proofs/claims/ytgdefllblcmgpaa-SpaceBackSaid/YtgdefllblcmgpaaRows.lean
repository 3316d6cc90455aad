/-
  No cell of these rows narrows 'for every input' (looked for: loops, veiled, ifaces, maps, wideKeys, modest, calm, conditions, laid).
  DERIVED. THE GIVEN ROWS OF THIS SEAT. 4 by the template 'for every input the law returns true; each argument reads behind the call as it read before'; 0 by the template 'total and deterministic' (their statements: YtgdefllblcmgpaaTotals.lean).
  GIVEN WITH THE SEED: the statements are not yours to turn. If you find one false, say at which input.
  Laid BY PROGRAM, IN A SANDBOX (cutbox-rows.mjs): the forced cells as the released guide's own fill.sh prints them over the translation 551547de3e0d044f… (all of the seat's roots in one cut). By AI agents, Wed Nov 11 2026. No macro, syntax, notation, axiom, sorry.
-/
import Derived.Test.YtgdefllblcmgpaaChecked
import GoSem.Claim
import GoSem.ClaimJoined
import GoSem.ClaimMapViews
import Derived.JoinedTies
import Derived.KernelRfl
namespace Go.Proofs.Ytgdefllblcmgpaa
/- THE CELL 'sum', in the pinned program and in every row, IS THE sha256 OF THE DUMP (.gsa) THAT YtgdefllblcmgpaaProg.lean LOADS. Nothing in Lean hashes anything: it is a label: what it is worth is what the hold of that sum in a sandbox is worth. -/
noncomputable def Try.pinned : Pinned := { name := "ytgdefllblcmgpaa", sum := "551547de3e0d044fe3571bc22c34419a6e5655a1a75d8e0cf01f884d545fa088", checked := Try.checked }
namespace Rows
def none {H : Type} : Left H := { results := [], args := [] }

/-- 'grangerlaw05.SpaceApart': WHATEVER THE INPUT: true; the input reads as it did. -/
def spaceApartSpec : ChangeSpec := { name := "spaceApart", fn := fun _ => fun
  | [d1, d2, d3] => { results := [.lit (.bool true)], args := [d1, d2, d3] }
  | _ => none }
def spaceApartRow : OpenClaim := { program := "ytgdefllblcmgpaa", sum := "551547de3e0d044fe3571bc22c34419a6e5655a1a75d8e0cf01f884d545fa088", func := "granger/grangerlaw05.SpaceApart", spec := "spaceApart", inPlace := ["slices.overlaps[granger/api.Extent]"], unfollowed := true, recurses := true, apart := false }
def SpaceApartSaid : Prop := spaceApartRow.holds Try.pinned (OpenSpec.ofChange spaceApartSpec)

/-- ITS FALSE NEIGHBOUR: 'it returns false'. Refute it at one input. -/
def spaceApartWrong : ChangeSpec := { name := "spaceApart", fn := fun _ => fun
  | [d1, d2, d3] => { results := [.lit (.bool false)], args := [d1, d2, d3] }
  | _ => none }
def SpaceApartWrongFalsely : Prop := spaceApartRow.holds Try.pinned (OpenSpec.ofChange spaceApartWrong)

/-- 'grangerlaw05.SpaceExact': WHATEVER THE INPUT: true; the input reads as it did. -/
def spaceExactSpec : ChangeSpec := { name := "spaceExact", fn := fun _ => fun
  | [d1, d2] => { results := [.lit (.bool true)], args := [d1, d2] }
  | _ => none }
def spaceExactRow : OpenClaim := { program := "ytgdefllblcmgpaa", sum := "551547de3e0d044fe3571bc22c34419a6e5655a1a75d8e0cf01f884d545fa088", func := "granger/grangerlaw05.SpaceExact", spec := "spaceExact", inPlace := ["slices.overlaps[granger/api.Extent]"], unfollowed := true, recurses := true, apart := false }
def SpaceExactSaid : Prop := spaceExactRow.holds Try.pinned (OpenSpec.ofChange spaceExactSpec)

/-- ITS FALSE NEIGHBOUR: 'it returns false'. Refute it at one input. -/
def spaceExactWrong : ChangeSpec := { name := "spaceExact", fn := fun _ => fun
  | [d1, d2] => { results := [.lit (.bool false)], args := [d1, d2] }
  | _ => none }
def SpaceExactWrongFalsely : Prop := spaceExactRow.holds Try.pinned (OpenSpec.ofChange spaceExactWrong)

/-- 'grangerlaw05.SpaceParse': WHATEVER THE INPUT: true; the input reads as it did. -/
def spaceParseSpec : ChangeSpec := { name := "spaceParse", fn := fun _ => fun
  | [d1, d2] => { results := [.lit (.bool true)], args := [d1, d2] }
  | _ => none }
def spaceParseRow : OpenClaim := { program := "ytgdefllblcmgpaa", sum := "551547de3e0d044fe3571bc22c34419a6e5655a1a75d8e0cf01f884d545fa088", func := "granger/grangerlaw05.SpaceParse", spec := "spaceParse", inPlace := ["slices.overlaps[granger/api.Extent]"], unfollowed := true, recurses := true, apart := false }
def SpaceParseSaid : Prop := spaceParseRow.holds Try.pinned (OpenSpec.ofChange spaceParseSpec)

/-- ITS FALSE NEIGHBOUR: 'it returns false'. Refute it at one input. -/
def spaceParseWrong : ChangeSpec := { name := "spaceParse", fn := fun _ => fun
  | [d1, d2] => { results := [.lit (.bool false)], args := [d1, d2] }
  | _ => none }
def SpaceParseWrongFalsely : Prop := spaceParseRow.holds Try.pinned (OpenSpec.ofChange spaceParseWrong)

/-- 'grangerlaw05.SpaceBack': WHATEVER THE INPUT: true; the input reads as it did. -/
def spaceBackSpec : ChangeSpec := { name := "spaceBack", fn := fun _ => fun
  | [d1, d2, d3] => { results := [.lit (.bool true)], args := [d1, d2, d3] }
  | _ => none }
def spaceBackRow : OpenClaim := { program := "ytgdefllblcmgpaa", sum := "551547de3e0d044fe3571bc22c34419a6e5655a1a75d8e0cf01f884d545fa088", func := "granger/grangerlaw05.SpaceBack", spec := "spaceBack", inPlace := ["slices.overlaps[granger/api.Extent]"], unfollowed := true, recurses := true, apart := false }
def SpaceBackSaid : Prop := spaceBackRow.holds Try.pinned (OpenSpec.ofChange spaceBackSpec)

/-- ITS FALSE NEIGHBOUR: 'it returns false'. Refute it at one input. -/
def spaceBackWrong : ChangeSpec := { name := "spaceBack", fn := fun _ => fun
  | [d1, d2, d3] => { results := [.lit (.bool false)], args := [d1, d2, d3] }
  | _ => none }
def SpaceBackWrongFalsely : Prop := spaceBackRow.holds Try.pinned (OpenSpec.ofChange spaceBackWrong)

/- THE SECOND FORM. 'bulk': how many values and letters a reading holds, each counted each time it is reached (what is shared counts as often as it is met; a slice's spare places count too). A statement '..UptoSaid' is the law's where the arguments, and the package variables that the reading takes, are together of bulk at most 1048576: NARROWER than '..Said'. Prove '..Said' where nothing that the law and all that it calls make is longer than what came in: it says more and counts as full. Else prove '..UptoSaid'. A law counts once. -/
mutual
def uptoBulk {H : Type} : DataW H → Nat
  | .lit (.string bytes) => bytes.length + 1
  | .lit _ => 1
  | .nil => 1
  | .ptr d => uptoBulk d + 1
  | .slice elems spare => uptoBulkAll elems + uptoBulkAll spare + 1
  | .agg parts => uptoBulkAll parts + 1
  | .iface _ d => uptoBulk d + 1
  | .map entries => uptoBulkEntries entries + 1
  | .held _ => 1
def uptoBulkAll {H : Type} : List (DataW H) → Nat
  | [] => 0
  | d :: r => uptoBulk d + uptoBulkAll r
def uptoBulkEntries {H : Type} : List (Lit × DataW H) → Nat
  | [] => 0
  | x :: r => uptoBulkEntry x + uptoBulkEntries r
def uptoBulkEntry {H : Type} : Lit × DataW H → Nat
  | (.string bytes, d) => bytes.length + uptoBulk d + 1
  | (_, d) => uptoBulk d + 1
 end
def uptoSmall : (H : Type) → List (DataW H) → Bool := fun _ ds => decide (uptoBulkAll ds ≤ 1048576)
def OpenSpec.upto (s : _root_.Go.ChangeSpec) : _root_.Go.OpenSpec := { _root_.Go.OpenSpec.ofChange s with cond := some uptoSmall }

/-- 'grangerlaw05.SpaceApart', WHERE WHAT IT READS IS OF BULK AT MOST 1048576: true; the input reads as it did. -/
def spaceApartUptoRow : OpenClaim := { program := "ytgdefllblcmgpaa", sum := "551547de3e0d044fe3571bc22c34419a6e5655a1a75d8e0cf01f884d545fa088", func := "granger/grangerlaw05.SpaceApart", spec := "spaceApart", inPlace := ["slices.overlaps[granger/api.Extent]"], unfollowed := true, recurses := true, apart := false, narrowed := true }
def SpaceApartUptoSaid : Prop := spaceApartUptoRow.holds Try.pinned (OpenSpec.upto spaceApartSpec)

/-- 'grangerlaw05.SpaceExact', WHERE WHAT IT READS IS OF BULK AT MOST 1048576: true; the input reads as it did. -/
def spaceExactUptoRow : OpenClaim := { program := "ytgdefllblcmgpaa", sum := "551547de3e0d044fe3571bc22c34419a6e5655a1a75d8e0cf01f884d545fa088", func := "granger/grangerlaw05.SpaceExact", spec := "spaceExact", inPlace := ["slices.overlaps[granger/api.Extent]"], unfollowed := true, recurses := true, apart := false, narrowed := true }
def SpaceExactUptoSaid : Prop := spaceExactUptoRow.holds Try.pinned (OpenSpec.upto spaceExactSpec)

/-- 'grangerlaw05.SpaceParse', WHERE WHAT IT READS IS OF BULK AT MOST 1048576: true; the input reads as it did. -/
def spaceParseUptoRow : OpenClaim := { program := "ytgdefllblcmgpaa", sum := "551547de3e0d044fe3571bc22c34419a6e5655a1a75d8e0cf01f884d545fa088", func := "granger/grangerlaw05.SpaceParse", spec := "spaceParse", inPlace := ["slices.overlaps[granger/api.Extent]"], unfollowed := true, recurses := true, apart := false, narrowed := true }
def SpaceParseUptoSaid : Prop := spaceParseUptoRow.holds Try.pinned (OpenSpec.upto spaceParseSpec)

/-- 'grangerlaw05.SpaceBack', WHERE WHAT IT READS IS OF BULK AT MOST 1048576: true; the input reads as it did. -/
def spaceBackUptoRow : OpenClaim := { program := "ytgdefllblcmgpaa", sum := "551547de3e0d044fe3571bc22c34419a6e5655a1a75d8e0cf01f884d545fa088", func := "granger/grangerlaw05.SpaceBack", spec := "spaceBack", inPlace := ["slices.overlaps[granger/api.Extent]"], unfollowed := true, recurses := true, apart := false, narrowed := true }
def SpaceBackUptoSaid : Prop := spaceBackUptoRow.holds Try.pinned (OpenSpec.upto spaceBackSpec)

end Rows
end Go.Proofs.Ytgdefllblcmgpaa
