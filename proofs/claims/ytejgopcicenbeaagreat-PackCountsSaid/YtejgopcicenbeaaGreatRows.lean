/-
  No cell of these rows narrows 'for every input' (looked for: loops, veiled, ifaces, maps, wideKeys, modest, calm, conditions, laid).
  DERIVED. THE GIVEN ROWS OF THIS SEAT. 5 by the template 'for every input the law returns true; each argument reads behind the call as it read before'; 0 by the template 'total and deterministic' (their statements: YtejgopcicenbeaaGreatTotals.lean).
  GIVEN WITH THE SEED: the statements are not yours to turn. If you find one false, say at which input.
  Laid BY PROGRAM, IN A SANDBOX (cutbox-rows.mjs): the forced cells as the released guide's own fill.sh prints them over the translation 67b819e1509526e7… (all of the seat's roots in one cut). By AI agents, Wed Nov 11 2026. No macro, syntax, notation, axiom, sorry.
-/
import Derived.Test.YtejgopcicenbeaaGreatChecked
import GoSem.Claim
import GoSem.ClaimJoined
import GoSem.ClaimMapViews
import Derived.JoinedTies
import Derived.KernelRfl
namespace Go.Proofs.YtejgopcicenbeaaGreat
/- THE CELL 'sum', in the pinned program and in every row, IS THE sha256 OF THE DUMP (.gsa) THAT YtejgopcicenbeaaGreatProg.lean LOADS. Nothing in Lean hashes anything: it is a label: what it is worth is what the hold of that sum in a sandbox is worth. -/
noncomputable def Tryz.pinned : Pinned := { name := "ytejgopcicenbeaagreat", sum := "67b819e1509526e7eb8697473cd3b10509df6609a09495476ea0495dd35c5225", checked := Tryz.checked }
namespace Rows
def none {H : Type} : Left H := { results := [], args := [] }

/-- 'grangerlaw15.PackCounts': WHATEVER THE INPUT: true; the input reads as it did. -/
def packCountsSpec : ChangeSpec := { name := "packCounts", fn := fun _ => fun
  | [d] => { results := [.lit (.bool true)], args := [d] }
  | _ => none }
def packCountsRow : OpenClaim := { program := "ytejgopcicenbeaagreat", sum := "67b819e1509526e7eb8697473cd3b10509df6609a09495476ea0495dd35c5225", func := "granger/grangerlaw15.PackCounts", spec := "packCounts", inPlace := ["slices.overlaps[granger/api.Msg]", "internal/abi.NoEscape", "internal/bytealg.MakeNoZero"], unfollowed := true, recurses := true, apart := false }
def PackCountsSaid : Prop := packCountsRow.holds Tryz.pinned (OpenSpec.ofChange packCountsSpec)

/-- ITS FALSE NEIGHBOUR: 'it returns false'. Refute it at one input. -/
def packCountsWrong : ChangeSpec := { name := "packCounts", fn := fun _ => fun
  | [d] => { results := [.lit (.bool false)], args := [d] }
  | _ => none }
def PackCountsWrongFalsely : Prop := packCountsRow.holds Tryz.pinned (OpenSpec.ofChange packCountsWrong)

/-- 'grangerlaw15.PackTight': WHATEVER THE INPUT: true; the input reads as it did. -/
def packTightSpec : ChangeSpec := { name := "packTight", fn := fun _ => fun
  | [d] => { results := [.lit (.bool true)], args := [d] }
  | _ => none }
def packTightRow : OpenClaim := { program := "ytejgopcicenbeaagreat", sum := "67b819e1509526e7eb8697473cd3b10509df6609a09495476ea0495dd35c5225", func := "granger/grangerlaw15.PackTight", spec := "packTight", inPlace := ["slices.overlaps[granger/api.Msg]", "internal/abi.NoEscape", "internal/bytealg.MakeNoZero"], unfollowed := true, recurses := true, apart := false }
def PackTightSaid : Prop := packTightRow.holds Tryz.pinned (OpenSpec.ofChange packTightSpec)

/-- ITS FALSE NEIGHBOUR: 'it returns false'. Refute it at one input. -/
def packTightWrong : ChangeSpec := { name := "packTight", fn := fun _ => fun
  | [d] => { results := [.lit (.bool false)], args := [d] }
  | _ => none }
def PackTightWrongFalsely : Prop := packTightRow.holds Tryz.pinned (OpenSpec.ofChange packTightWrong)

/-- 'grangerlaw15.PackSteps': WHATEVER THE INPUT: true; the input reads as it did. -/
def packStepsSpec : ChangeSpec := { name := "packSteps", fn := fun _ => fun
  | [d] => { results := [.lit (.bool true)], args := [d] }
  | _ => none }
def packStepsRow : OpenClaim := { program := "ytejgopcicenbeaagreat", sum := "67b819e1509526e7eb8697473cd3b10509df6609a09495476ea0495dd35c5225", func := "granger/grangerlaw15.PackSteps", spec := "packSteps", inPlace := ["slices.overlaps[granger/api.Msg]", "internal/abi.NoEscape", "internal/bytealg.MakeNoZero"], unfollowed := true, recurses := true, apart := false }
def PackStepsSaid : Prop := packStepsRow.holds Tryz.pinned (OpenSpec.ofChange packStepsSpec)

/-- ITS FALSE NEIGHBOUR: 'it returns false'. Refute it at one input. -/
def packStepsWrong : ChangeSpec := { name := "packSteps", fn := fun _ => fun
  | [d] => { results := [.lit (.bool false)], args := [d] }
  | _ => none }
def PackStepsWrongFalsely : Prop := packStepsRow.holds Tryz.pinned (OpenSpec.ofChange packStepsWrong)

/-- 'grangerlaw15.PackExact': WHATEVER THE INPUT: true; the input reads as it did. -/
def packExactSpec : ChangeSpec := { name := "packExact", fn := fun _ => fun
  | [d] => { results := [.lit (.bool true)], args := [d] }
  | _ => none }
def packExactRow : OpenClaim := { program := "ytejgopcicenbeaagreat", sum := "67b819e1509526e7eb8697473cd3b10509df6609a09495476ea0495dd35c5225", func := "granger/grangerlaw15.PackExact", spec := "packExact", inPlace := ["slices.overlaps[granger/api.Msg]", "internal/abi.NoEscape", "internal/bytealg.MakeNoZero"], unfollowed := true, recurses := true, apart := false }
def PackExactSaid : Prop := packExactRow.holds Tryz.pinned (OpenSpec.ofChange packExactSpec)

/-- ITS FALSE NEIGHBOUR: 'it returns false'. Refute it at one input. -/
def packExactWrong : ChangeSpec := { name := "packExact", fn := fun _ => fun
  | [d] => { results := [.lit (.bool false)], args := [d] }
  | _ => none }
def PackExactWrongFalsely : Prop := packExactRow.holds Tryz.pinned (OpenSpec.ofChange packExactWrong)

/-- 'grangerlaw15.PackLeads': WHATEVER THE INPUT: true; the input reads as it did. -/
def packLeadsSpec : ChangeSpec := { name := "packLeads", fn := fun _ => fun
  | [d1, d2] => { results := [.lit (.bool true)], args := [d1, d2] }
  | _ => none }
def packLeadsRow : OpenClaim := { program := "ytejgopcicenbeaagreat", sum := "67b819e1509526e7eb8697473cd3b10509df6609a09495476ea0495dd35c5225", func := "granger/grangerlaw15.PackLeads", spec := "packLeads", inPlace := ["slices.overlaps[granger/api.Msg]", "internal/abi.NoEscape", "internal/bytealg.MakeNoZero"], unfollowed := true, recurses := true, apart := false }
def PackLeadsSaid : Prop := packLeadsRow.holds Tryz.pinned (OpenSpec.ofChange packLeadsSpec)

/-- ITS FALSE NEIGHBOUR: 'it returns false'. Refute it at one input. -/
def packLeadsWrong : ChangeSpec := { name := "packLeads", fn := fun _ => fun
  | [d1, d2] => { results := [.lit (.bool false)], args := [d1, d2] }
  | _ => none }
def PackLeadsWrongFalsely : Prop := packLeadsRow.holds Tryz.pinned (OpenSpec.ofChange packLeadsWrong)

/- THE SECOND FORM. 'bulk': how many values and letters a reading holds, each counted each time it is reached (what is shared counts as often as it is met; a slice's spare places count too). A statement '..UptoSaid' is the law's where the arguments, and the package variables that the reading takes, are together of bulk at most 1048576: NARROWER than '..Said'. Prove '..Said' where nothing that the law and all that it calls make is longer than what came in: it says more and counts as full. Else prove '..UptoSaid'. A law counts once. -/
mutual
def uptoBulk {H : Type} : DataW H → Nat
  | .lit (.string bytes) => bytes.length + 1
  | .lit _ => 1
  | .nil => 1
  | .ptr d => uptoBulk d + 1
  | .slice elems spare => uptoBulkAll elems + uptoBulkAll spare + 1
  | .agg parts => uptoBulkAll parts + 1
  | .iface _ d => uptoBulk d + 1
  | .map entries => uptoBulkEntries entries + 1
  | .held _ => 1
def uptoBulkAll {H : Type} : List (DataW H) → Nat
  | [] => 0
  | d :: r => uptoBulk d + uptoBulkAll r
def uptoBulkEntries {H : Type} : List (Lit × DataW H) → Nat
  | [] => 0
  | x :: r => uptoBulkEntry x + uptoBulkEntries r
def uptoBulkEntry {H : Type} : Lit × DataW H → Nat
  | (.string bytes, d) => bytes.length + uptoBulk d + 1
  | (_, d) => uptoBulk d + 1
 end
def uptoSmall : (H : Type) → List (DataW H) → Bool := fun _ ds => decide (uptoBulkAll ds ≤ 1048576)
def OpenSpec.upto (s : _root_.Go.ChangeSpec) : _root_.Go.OpenSpec := { _root_.Go.OpenSpec.ofChange s with cond := some uptoSmall }

/-- 'grangerlaw15.PackCounts', WHERE WHAT IT READS IS OF BULK AT MOST 1048576: true; the input reads as it did. -/
def packCountsUptoRow : OpenClaim := { program := "ytejgopcicenbeaagreat", sum := "67b819e1509526e7eb8697473cd3b10509df6609a09495476ea0495dd35c5225", func := "granger/grangerlaw15.PackCounts", spec := "packCounts", inPlace := ["slices.overlaps[granger/api.Msg]", "internal/abi.NoEscape", "internal/bytealg.MakeNoZero"], unfollowed := true, recurses := true, apart := false, narrowed := true }
def PackCountsUptoSaid : Prop := packCountsUptoRow.holds Tryz.pinned (OpenSpec.upto packCountsSpec)

/-- 'grangerlaw15.PackTight', WHERE WHAT IT READS IS OF BULK AT MOST 1048576: true; the input reads as it did. -/
def packTightUptoRow : OpenClaim := { program := "ytejgopcicenbeaagreat", sum := "67b819e1509526e7eb8697473cd3b10509df6609a09495476ea0495dd35c5225", func := "granger/grangerlaw15.PackTight", spec := "packTight", inPlace := ["slices.overlaps[granger/api.Msg]", "internal/abi.NoEscape", "internal/bytealg.MakeNoZero"], unfollowed := true, recurses := true, apart := false, narrowed := true }
def PackTightUptoSaid : Prop := packTightUptoRow.holds Tryz.pinned (OpenSpec.upto packTightSpec)

/-- 'grangerlaw15.PackSteps', WHERE WHAT IT READS IS OF BULK AT MOST 1048576: true; the input reads as it did. -/
def packStepsUptoRow : OpenClaim := { program := "ytejgopcicenbeaagreat", sum := "67b819e1509526e7eb8697473cd3b10509df6609a09495476ea0495dd35c5225", func := "granger/grangerlaw15.PackSteps", spec := "packSteps", inPlace := ["slices.overlaps[granger/api.Msg]", "internal/abi.NoEscape", "internal/bytealg.MakeNoZero"], unfollowed := true, recurses := true, apart := false, narrowed := true }
def PackStepsUptoSaid : Prop := packStepsUptoRow.holds Tryz.pinned (OpenSpec.upto packStepsSpec)

/-- 'grangerlaw15.PackExact', WHERE WHAT IT READS IS OF BULK AT MOST 1048576: true; the input reads as it did. -/
def packExactUptoRow : OpenClaim := { program := "ytejgopcicenbeaagreat", sum := "67b819e1509526e7eb8697473cd3b10509df6609a09495476ea0495dd35c5225", func := "granger/grangerlaw15.PackExact", spec := "packExact", inPlace := ["slices.overlaps[granger/api.Msg]", "internal/abi.NoEscape", "internal/bytealg.MakeNoZero"], unfollowed := true, recurses := true, apart := false, narrowed := true }
def PackExactUptoSaid : Prop := packExactUptoRow.holds Tryz.pinned (OpenSpec.upto packExactSpec)

/-- 'grangerlaw15.PackLeads', WHERE WHAT IT READS IS OF BULK AT MOST 1048576: true; the input reads as it did. -/
def packLeadsUptoRow : OpenClaim := { program := "ytejgopcicenbeaagreat", sum := "67b819e1509526e7eb8697473cd3b10509df6609a09495476ea0495dd35c5225", func := "granger/grangerlaw15.PackLeads", spec := "packLeads", inPlace := ["slices.overlaps[granger/api.Msg]", "internal/abi.NoEscape", "internal/bytealg.MakeNoZero"], unfollowed := true, recurses := true, apart := false, narrowed := true }
def PackLeadsUptoSaid : Prop := packLeadsUptoRow.holds Tryz.pinned (OpenSpec.upto packLeadsSpec)

end Rows
end Go.Proofs.YtejgopcicenbeaaGreat
