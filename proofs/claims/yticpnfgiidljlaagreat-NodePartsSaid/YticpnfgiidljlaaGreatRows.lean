/-
  No cell of these rows narrows 'for every input' (looked for: loops, veiled, ifaces, maps, wideKeys, modest, calm, conditions, laid).
  DERIVED. THE GIVEN ROWS OF THIS SEAT. 4 by the template 'for every input the law returns true; each argument reads behind the call as it read before'; 0 by the template 'total and deterministic' (their statements: YticpnfgiidljlaaGreatTotals.lean).
  GIVEN WITH THE SEED: the statements are not yours to turn. If you find one false, say at which input.
  Laid BY PROGRAM, IN A SANDBOX (cutbox-rows.mjs): the forced cells as the released guide's own fill.sh prints them over the translation a4f29aba2c9363ae… (all of the seat's roots in one cut). By AI agents, Wed Nov 11 2026. No macro, syntax, notation, axiom, sorry.
-/
import Derived.Test.YticpnfgiidljlaaGreatChecked
import GoSem.Claim
import GoSem.ClaimJoined
import GoSem.ClaimMapViews
import Derived.JoinedTies
import Derived.KernelRfl
namespace Go.Proofs.YticpnfgiidljlaaGreat
/- THE CELL 'sum', in the pinned program and in every row, IS THE sha256 OF THE DUMP (.gsa) THAT YticpnfgiidljlaaGreatProg.lean LOADS. Nothing in Lean hashes anything: it is a label: what it is worth is what the hold of that sum in a sandbox is worth. -/
noncomputable def Tryz.pinned : Pinned := { name := "yticpnfgiidljlaagreat", sum := "a4f29aba2c9363aea46b82684adafdf39a20681585fbf3047682d4b9a330b8bd", checked := Tryz.checked }
namespace Rows
def none {H : Type} : Left H := { results := [], args := [] }

/-- 'grangerlaw12.NodeBack': WHATEVER THE INPUT: true; the input reads as it did. -/
def nodeBackSpec : ChangeSpec := { name := "nodeBack", fn := fun _ => fun
  | [d1, d2] => { results := [.lit (.bool true)], args := [d1, d2] }
  | _ => none }
def nodeBackRow : OpenClaim := { program := "yticpnfgiidljlaagreat", sum := "a4f29aba2c9363aea46b82684adafdf39a20681585fbf3047682d4b9a330b8bd", func := "granger/grangerlaw12.NodeBack", spec := "nodeBack", inPlace := ["internal/abi.NoEscape", "slices.overlaps[granger/api.Msg]"], unfollowed := true, recurses := true, apart := false }
def NodeBackSaid : Prop := nodeBackRow.holds Tryz.pinned (OpenSpec.ofChange nodeBackSpec)

/-- ITS FALSE NEIGHBOUR: 'it returns false'. Refute it at one input. -/
def nodeBackWrong : ChangeSpec := { name := "nodeBack", fn := fun _ => fun
  | [d1, d2] => { results := [.lit (.bool false)], args := [d1, d2] }
  | _ => none }
def NodeBackWrongFalsely : Prop := nodeBackRow.holds Tryz.pinned (OpenSpec.ofChange nodeBackWrong)

/-- 'grangerlaw12.NodeParse': WHATEVER THE INPUT: true; the input reads as it did. -/
def nodeParseSpec : ChangeSpec := { name := "nodeParse", fn := fun _ => fun
  | [d] => { results := [.lit (.bool true)], args := [d] }
  | _ => none }
def nodeParseRow : OpenClaim := { program := "yticpnfgiidljlaagreat", sum := "a4f29aba2c9363aea46b82684adafdf39a20681585fbf3047682d4b9a330b8bd", func := "granger/grangerlaw12.NodeParse", spec := "nodeParse", inPlace := ["internal/abi.NoEscape", "slices.overlaps[granger/api.Msg]"], unfollowed := true, recurses := true, apart := false }
def NodeParseSaid : Prop := nodeParseRow.holds Tryz.pinned (OpenSpec.ofChange nodeParseSpec)

/-- ITS FALSE NEIGHBOUR: 'it returns false'. Refute it at one input. -/
def nodeParseWrong : ChangeSpec := { name := "nodeParse", fn := fun _ => fun
  | [d] => { results := [.lit (.bool false)], args := [d] }
  | _ => none }
def NodeParseWrongFalsely : Prop := nodeParseRow.holds Tryz.pinned (OpenSpec.ofChange nodeParseWrong)

/-- 'grangerlaw12.NodeBytes': WHATEVER THE INPUT: true; the input reads as it did. -/
def nodeBytesSpec : ChangeSpec := { name := "nodeBytes", fn := fun _ => fun
  | [d1, d2] => { results := [.lit (.bool true)], args := [d1, d2] }
  | _ => none }
def nodeBytesRow : OpenClaim := { program := "yticpnfgiidljlaagreat", sum := "a4f29aba2c9363aea46b82684adafdf39a20681585fbf3047682d4b9a330b8bd", func := "granger/grangerlaw12.NodeBytes", spec := "nodeBytes", inPlace := ["internal/abi.NoEscape", "slices.overlaps[granger/api.Msg]"], unfollowed := true, recurses := true, apart := false }
def NodeBytesSaid : Prop := nodeBytesRow.holds Tryz.pinned (OpenSpec.ofChange nodeBytesSpec)

/-- ITS FALSE NEIGHBOUR: 'it returns false'. Refute it at one input. -/
def nodeBytesWrong : ChangeSpec := { name := "nodeBytes", fn := fun _ => fun
  | [d1, d2] => { results := [.lit (.bool false)], args := [d1, d2] }
  | _ => none }
def NodeBytesWrongFalsely : Prop := nodeBytesRow.holds Tryz.pinned (OpenSpec.ofChange nodeBytesWrong)

/-- 'grangerlaw12.NodeParts': WHATEVER THE INPUT: true; the input reads as it did. -/
def nodePartsSpec : ChangeSpec := { name := "nodeParts", fn := fun _ => fun
  | [d] => { results := [.lit (.bool true)], args := [d] }
  | _ => none }
def nodePartsRow : OpenClaim := { program := "yticpnfgiidljlaagreat", sum := "a4f29aba2c9363aea46b82684adafdf39a20681585fbf3047682d4b9a330b8bd", func := "granger/grangerlaw12.NodeParts", spec := "nodeParts", inPlace := ["internal/abi.NoEscape", "slices.overlaps[granger/api.Msg]"], unfollowed := true, recurses := true, apart := false }
def NodePartsSaid : Prop := nodePartsRow.holds Tryz.pinned (OpenSpec.ofChange nodePartsSpec)

/-- ITS FALSE NEIGHBOUR: 'it returns false'. Refute it at one input. -/
def nodePartsWrong : ChangeSpec := { name := "nodeParts", fn := fun _ => fun
  | [d] => { results := [.lit (.bool false)], args := [d] }
  | _ => none }
def NodePartsWrongFalsely : Prop := nodePartsRow.holds Tryz.pinned (OpenSpec.ofChange nodePartsWrong)

/- THE SECOND FORM. 'bulk': how many values and letters a reading holds, each counted each time it is reached (what is shared counts as often as it is met; a slice's spare places count too). A statement '..UptoSaid' is the law's where the arguments, and the package variables that the reading takes, are together of bulk at most 1048576: NARROWER than '..Said'. Prove '..Said' where nothing that the law and all that it calls make is longer than what came in: it says more and counts as full. Else prove '..UptoSaid'. A law counts once. -/
mutual
def uptoBulk {H : Type} : DataW H → Nat
  | .lit (.string bytes) => bytes.length + 1
  | .lit _ => 1
  | .nil => 1
  | .ptr d => uptoBulk d + 1
  | .slice elems spare => uptoBulkAll elems + uptoBulkAll spare + 1
  | .agg parts => uptoBulkAll parts + 1
  | .iface _ d => uptoBulk d + 1
  | .map entries => uptoBulkEntries entries + 1
  | .held _ => 1
def uptoBulkAll {H : Type} : List (DataW H) → Nat
  | [] => 0
  | d :: r => uptoBulk d + uptoBulkAll r
def uptoBulkEntries {H : Type} : List (Lit × DataW H) → Nat
  | [] => 0
  | x :: r => uptoBulkEntry x + uptoBulkEntries r
def uptoBulkEntry {H : Type} : Lit × DataW H → Nat
  | (.string bytes, d) => bytes.length + uptoBulk d + 1
  | (_, d) => uptoBulk d + 1
 end
def uptoSmall : (H : Type) → List (DataW H) → Bool := fun _ ds => decide (uptoBulkAll ds ≤ 1048576)
def OpenSpec.upto (s : _root_.Go.ChangeSpec) : _root_.Go.OpenSpec := { _root_.Go.OpenSpec.ofChange s with cond := some uptoSmall }

/-- 'grangerlaw12.NodeBack', WHERE WHAT IT READS IS OF BULK AT MOST 1048576: true; the input reads as it did. -/
def nodeBackUptoRow : OpenClaim := { program := "yticpnfgiidljlaagreat", sum := "a4f29aba2c9363aea46b82684adafdf39a20681585fbf3047682d4b9a330b8bd", func := "granger/grangerlaw12.NodeBack", spec := "nodeBack", inPlace := ["internal/abi.NoEscape", "slices.overlaps[granger/api.Msg]"], unfollowed := true, recurses := true, apart := false, narrowed := true }
def NodeBackUptoSaid : Prop := nodeBackUptoRow.holds Tryz.pinned (OpenSpec.upto nodeBackSpec)

/-- 'grangerlaw12.NodeParse', WHERE WHAT IT READS IS OF BULK AT MOST 1048576: true; the input reads as it did. -/
def nodeParseUptoRow : OpenClaim := { program := "yticpnfgiidljlaagreat", sum := "a4f29aba2c9363aea46b82684adafdf39a20681585fbf3047682d4b9a330b8bd", func := "granger/grangerlaw12.NodeParse", spec := "nodeParse", inPlace := ["internal/abi.NoEscape", "slices.overlaps[granger/api.Msg]"], unfollowed := true, recurses := true, apart := false, narrowed := true }
def NodeParseUptoSaid : Prop := nodeParseUptoRow.holds Tryz.pinned (OpenSpec.upto nodeParseSpec)

/-- 'grangerlaw12.NodeBytes', WHERE WHAT IT READS IS OF BULK AT MOST 1048576: true; the input reads as it did. -/
def nodeBytesUptoRow : OpenClaim := { program := "yticpnfgiidljlaagreat", sum := "a4f29aba2c9363aea46b82684adafdf39a20681585fbf3047682d4b9a330b8bd", func := "granger/grangerlaw12.NodeBytes", spec := "nodeBytes", inPlace := ["internal/abi.NoEscape", "slices.overlaps[granger/api.Msg]"], unfollowed := true, recurses := true, apart := false, narrowed := true }
def NodeBytesUptoSaid : Prop := nodeBytesUptoRow.holds Tryz.pinned (OpenSpec.upto nodeBytesSpec)

/-- 'grangerlaw12.NodeParts', WHERE WHAT IT READS IS OF BULK AT MOST 1048576: true; the input reads as it did. -/
def nodePartsUptoRow : OpenClaim := { program := "yticpnfgiidljlaagreat", sum := "a4f29aba2c9363aea46b82684adafdf39a20681585fbf3047682d4b9a330b8bd", func := "granger/grangerlaw12.NodeParts", spec := "nodeParts", inPlace := ["internal/abi.NoEscape", "slices.overlaps[granger/api.Msg]"], unfollowed := true, recurses := true, apart := false, narrowed := true }
def NodePartsUptoSaid : Prop := nodePartsUptoRow.holds Tryz.pinned (OpenSpec.upto nodePartsSpec)

end Rows
end Go.Proofs.YticpnfgiidljlaaGreat
