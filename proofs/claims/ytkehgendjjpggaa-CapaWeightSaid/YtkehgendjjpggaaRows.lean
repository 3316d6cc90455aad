/-
  No cell of these rows narrows 'for every input' (looked for: loops, veiled, ifaces, maps, wideKeys, modest, calm, conditions, laid).
  DERIVED. THE GIVEN ROWS OF THIS SEAT. 5 by the template 'for every input the law returns true; each argument reads behind the call as it read before'; 0 by the template 'total and deterministic' (their statements: YtkehgendjjpggaaTotals.lean).
  GIVEN WITH THE SEED: the statements are not yours to turn. If you find one false, say at which input.
  Laid BY PROGRAM, IN A SANDBOX (cutbox-rows.mjs): the forced cells as the released guide's own fill.sh prints them over the translation 7e6cfe0681f83828… (all of the seat's roots in one cut). By AI agents, Wed Nov 11 2026. No macro, syntax, notation, axiom, sorry.
-/
import Derived.Test.YtkehgendjjpggaaChecked
import GoSem.Claim
import GoSem.ClaimJoined
import GoSem.ClaimMapViews
import Derived.JoinedTies
import Derived.KernelRfl
namespace Go.Proofs.Ytkehgendjjpggaa
/- THE CELL 'sum', in the pinned program and in every row, IS THE sha256 OF THE DUMP (.gsa) THAT YtkehgendjjpggaaProg.lean LOADS. Nothing in Lean hashes anything: it is a label: what it is worth is what the hold of that sum in a sandbox is worth. -/
noncomputable def Try.pinned : Pinned := { name := "ytkehgendjjpggaa", sum := "7e6cfe0681f8382814cd46978aef3f4eacd93e181f8d69ab1336fdde1b03aea0", checked := Try.checked }
namespace Rows
def none {H : Type} : Left H := { results := [], args := [] }

/-- 'grangerlaw20.CapaGreat': WHATEVER THE INPUT: true; the input reads as it did. -/
def capaGreatSpec : ChangeSpec := { name := "capaGreat", fn := fun _ => fun
  | [d] => { results := [.lit (.bool true)], args := [d] }
  | _ => none }
def capaGreatRow : OpenClaim := { program := "ytkehgendjjpggaa", sum := "7e6cfe0681f8382814cd46978aef3f4eacd93e181f8d69ab1336fdde1b03aea0", func := "granger/grangerlaw20.CapaGreat", spec := "capaGreat", apart := false }
def CapaGreatSaid : Prop := capaGreatRow.holds Try.pinned (OpenSpec.ofChange capaGreatSpec)

/-- ITS FALSE NEIGHBOUR: 'it returns false'. Refute it at one input. -/
def capaGreatWrong : ChangeSpec := { name := "capaGreat", fn := fun _ => fun
  | [d] => { results := [.lit (.bool false)], args := [d] }
  | _ => none }
def CapaGreatWrongFalsely : Prop := capaGreatRow.holds Try.pinned (OpenSpec.ofChange capaGreatWrong)

/-- 'grangerlaw20.CapaKinds': WHATEVER THE INPUT: true; the input reads as it did. -/
def capaKindsSpec : ChangeSpec := { name := "capaKinds", fn := fun _ => fun
  | [d] => { results := [.lit (.bool true)], args := [d] }
  | _ => none }
def capaKindsRow : OpenClaim := { program := "ytkehgendjjpggaa", sum := "7e6cfe0681f8382814cd46978aef3f4eacd93e181f8d69ab1336fdde1b03aea0", func := "granger/grangerlaw20.CapaKinds", spec := "capaKinds", apart := false }
def CapaKindsSaid : Prop := capaKindsRow.holds Try.pinned (OpenSpec.ofChange capaKindsSpec)

/-- ITS FALSE NEIGHBOUR: 'it returns false'. Refute it at one input. -/
def capaKindsWrong : ChangeSpec := { name := "capaKinds", fn := fun _ => fun
  | [d] => { results := [.lit (.bool false)], args := [d] }
  | _ => none }
def CapaKindsWrongFalsely : Prop := capaKindsRow.holds Try.pinned (OpenSpec.ofChange capaKindsWrong)

/-- 'grangerlaw20.CapaWeight': WHATEVER THE INPUT: true; the input reads as it did. -/
def capaWeightSpec : ChangeSpec := { name := "capaWeight", fn := fun _ => fun
  | [d] => { results := [.lit (.bool true)], args := [d] }
  | _ => none }
def capaWeightRow : OpenClaim := { program := "ytkehgendjjpggaa", sum := "7e6cfe0681f8382814cd46978aef3f4eacd93e181f8d69ab1336fdde1b03aea0", func := "granger/grangerlaw20.CapaWeight", spec := "capaWeight", unfollowed := true, recurses := true, apart := false }
def CapaWeightSaid : Prop := capaWeightRow.holds Try.pinned (OpenSpec.ofChange capaWeightSpec)

/-- ITS FALSE NEIGHBOUR: 'it returns false'. Refute it at one input. -/
def capaWeightWrong : ChangeSpec := { name := "capaWeight", fn := fun _ => fun
  | [d] => { results := [.lit (.bool false)], args := [d] }
  | _ => none }
def CapaWeightWrongFalsely : Prop := capaWeightRow.holds Try.pinned (OpenSpec.ofChange capaWeightWrong)

/-- 'grangerlaw20.CapaExact': WHATEVER THE INPUT: true; the input reads as it did. -/
def capaExactSpec : ChangeSpec := { name := "capaExact", fn := fun _ => fun
  | [d1, d2, d3] => { results := [.lit (.bool true)], args := [d1, d2, d3] }
  | _ => none }
def capaExactRow : OpenClaim := { program := "ytkehgendjjpggaa", sum := "7e6cfe0681f8382814cd46978aef3f4eacd93e181f8d69ab1336fdde1b03aea0", func := "granger/grangerlaw20.CapaExact", spec := "capaExact", apart := false }
def CapaExactSaid : Prop := capaExactRow.holds Try.pinned (OpenSpec.ofChange capaExactSpec)

/-- ITS FALSE NEIGHBOUR: 'it returns false'. Refute it at one input. -/
def capaExactWrong : ChangeSpec := { name := "capaExact", fn := fun _ => fun
  | [d1, d2, d3] => { results := [.lit (.bool false)], args := [d1, d2, d3] }
  | _ => none }
def CapaExactWrongFalsely : Prop := capaExactRow.holds Try.pinned (OpenSpec.ofChange capaExactWrong)

/-- 'grangerlaw20.CapaRoom': WHATEVER THE INPUT: true; the input reads as it did. -/
def capaRoomSpec : ChangeSpec := { name := "capaRoom", fn := fun _ => fun
  | [d1, d2] => { results := [.lit (.bool true)], args := [d1, d2] }
  | _ => none }
def capaRoomRow : OpenClaim := { program := "ytkehgendjjpggaa", sum := "7e6cfe0681f8382814cd46978aef3f4eacd93e181f8d69ab1336fdde1b03aea0", func := "granger/grangerlaw20.CapaRoom", spec := "capaRoom", apart := false }
def CapaRoomSaid : Prop := capaRoomRow.holds Try.pinned (OpenSpec.ofChange capaRoomSpec)

/-- ITS FALSE NEIGHBOUR: 'it returns false'. Refute it at one input. -/
def capaRoomWrong : ChangeSpec := { name := "capaRoom", fn := fun _ => fun
  | [d1, d2] => { results := [.lit (.bool false)], args := [d1, d2] }
  | _ => none }
def CapaRoomWrongFalsely : Prop := capaRoomRow.holds Try.pinned (OpenSpec.ofChange capaRoomWrong)

/- THE SECOND FORM. 'bulk': how many values and letters a reading holds, each counted each time it is reached (what is shared counts as often as it is met; a slice's spare places count too). A statement '..UptoSaid' is the law's where the arguments, and the package variables that the reading takes, are together of bulk at most 1048576: NARROWER than '..Said'. Prove '..Said' where nothing that the law and all that it calls make is longer than what came in: it says more and counts as full. Else prove '..UptoSaid'. A law counts once. -/
mutual
def uptoBulk {H : Type} : DataW H → Nat
  | .lit (.string bytes) => bytes.length + 1
  | .lit _ => 1
  | .nil => 1
  | .ptr d => uptoBulk d + 1
  | .slice elems spare => uptoBulkAll elems + uptoBulkAll spare + 1
  | .agg parts => uptoBulkAll parts + 1
  | .iface _ d => uptoBulk d + 1
  | .map entries => uptoBulkEntries entries + 1
  | .held _ => 1
def uptoBulkAll {H : Type} : List (DataW H) → Nat
  | [] => 0
  | d :: r => uptoBulk d + uptoBulkAll r
def uptoBulkEntries {H : Type} : List (Lit × DataW H) → Nat
  | [] => 0
  | x :: r => uptoBulkEntry x + uptoBulkEntries r
def uptoBulkEntry {H : Type} : Lit × DataW H → Nat
  | (.string bytes, d) => bytes.length + uptoBulk d + 1
  | (_, d) => uptoBulk d + 1
 end
def uptoSmall : (H : Type) → List (DataW H) → Bool := fun _ ds => decide (uptoBulkAll ds ≤ 1048576)
def OpenSpec.upto (s : _root_.Go.ChangeSpec) : _root_.Go.OpenSpec := { _root_.Go.OpenSpec.ofChange s with cond := some uptoSmall }

/-- 'grangerlaw20.CapaGreat', WHERE WHAT IT READS IS OF BULK AT MOST 1048576: true; the input reads as it did. -/
def capaGreatUptoRow : OpenClaim := { program := "ytkehgendjjpggaa", sum := "7e6cfe0681f8382814cd46978aef3f4eacd93e181f8d69ab1336fdde1b03aea0", func := "granger/grangerlaw20.CapaGreat", spec := "capaGreat", apart := false, narrowed := true }
def CapaGreatUptoSaid : Prop := capaGreatUptoRow.holds Try.pinned (OpenSpec.upto capaGreatSpec)

/-- 'grangerlaw20.CapaKinds', WHERE WHAT IT READS IS OF BULK AT MOST 1048576: true; the input reads as it did. -/
def capaKindsUptoRow : OpenClaim := { program := "ytkehgendjjpggaa", sum := "7e6cfe0681f8382814cd46978aef3f4eacd93e181f8d69ab1336fdde1b03aea0", func := "granger/grangerlaw20.CapaKinds", spec := "capaKinds", apart := false, narrowed := true }
def CapaKindsUptoSaid : Prop := capaKindsUptoRow.holds Try.pinned (OpenSpec.upto capaKindsSpec)

/-- 'grangerlaw20.CapaWeight', WHERE WHAT IT READS IS OF BULK AT MOST 1048576: true; the input reads as it did. -/
def capaWeightUptoRow : OpenClaim := { program := "ytkehgendjjpggaa", sum := "7e6cfe0681f8382814cd46978aef3f4eacd93e181f8d69ab1336fdde1b03aea0", func := "granger/grangerlaw20.CapaWeight", spec := "capaWeight", unfollowed := true, recurses := true, apart := false, narrowed := true }
def CapaWeightUptoSaid : Prop := capaWeightUptoRow.holds Try.pinned (OpenSpec.upto capaWeightSpec)

/-- 'grangerlaw20.CapaExact', WHERE WHAT IT READS IS OF BULK AT MOST 1048576: true; the input reads as it did. -/
def capaExactUptoRow : OpenClaim := { program := "ytkehgendjjpggaa", sum := "7e6cfe0681f8382814cd46978aef3f4eacd93e181f8d69ab1336fdde1b03aea0", func := "granger/grangerlaw20.CapaExact", spec := "capaExact", apart := false, narrowed := true }
def CapaExactUptoSaid : Prop := capaExactUptoRow.holds Try.pinned (OpenSpec.upto capaExactSpec)

/-- 'grangerlaw20.CapaRoom', WHERE WHAT IT READS IS OF BULK AT MOST 1048576: true; the input reads as it did. -/
def capaRoomUptoRow : OpenClaim := { program := "ytkehgendjjpggaa", sum := "7e6cfe0681f8382814cd46978aef3f4eacd93e181f8d69ab1336fdde1b03aea0", func := "granger/grangerlaw20.CapaRoom", spec := "capaRoom", apart := false, narrowed := true }
def CapaRoomUptoSaid : Prop := capaRoomUptoRow.holds Try.pinned (OpenSpec.upto capaRoomSpec)

end Rows
end Go.Proofs.Ytkehgendjjpggaa
