/-
  No cell of these rows narrows 'for every input' (looked for: loops, veiled, ifaces, maps, wideKeys, modest, calm, conditions, laid).
  DERIVED. THE GIVEN ROWS OF THIS SEAT. 9 by the template 'for every input the law returns true; each argument reads behind the call as it read before'; 0 by the template 'total and deterministic' (their statements: YtemijcjgdgdhjaaTotals.lean).
  GIVEN WITH THE SEED: the statements are not yours to turn. If you find one false, say at which input.
  Laid BY PROGRAM, IN A SANDBOX (cutbox-rows.mjs): the forced cells as the released guide's own fill.sh prints them over the translation fe1a4f3574277411… (all of the seat's roots in one cut). By AI agents, Wed Nov 11 2026. No macro, syntax, notation, axiom, sorry.
-/
import Derived.Test.YtemijcjgdgdhjaaChecked
import GoSem.Claim
import GoSem.ClaimJoined
import GoSem.ClaimMapViews
import Derived.JoinedTies
import Derived.KernelRfl
namespace Go.Proofs.Ytemijcjgdgdhjaa
/- THE CELL 'sum', in the pinned program and in every row, IS THE sha256 OF THE DUMP (.gsa) THAT YtemijcjgdgdhjaaProg.lean LOADS. Nothing in Lean hashes anything: it is a label: what it is worth is what the hold of that sum in a sandbox is worth. -/
noncomputable def Try.pinned : Pinned := { name := "ytemijcjgdgdhjaa", sum := "fe1a4f35742774114937fbd53b62d2ede66e53628472ede8533796bc999d77e5", checked := Try.checked }
namespace Rows
def none {H : Type} : Left H := { results := [], args := [] }

/-- 'grangerlaw10.BuffExact': WHATEVER THE INPUT: true; the input reads as it did. -/
def buffExactSpec : ChangeSpec := { name := "buffExact", fn := fun _ => fun
  | [d1, d2, d3, d4] => { results := [.lit (.bool true)], args := [d1, d2, d3, d4] }
  | _ => none }
def buffExactRow : OpenClaim := { program := "ytemijcjgdgdhjaa", sum := "fe1a4f35742774114937fbd53b62d2ede66e53628472ede8533796bc999d77e5", func := "granger/grangerlaw10.BuffExact", spec := "buffExact", inPlace := ["slices.overlaps[granger/api.Msg]", "internal/abi.NoEscape"], unfollowed := true, recurses := true, apart := false }
def BuffExactSaid : Prop := buffExactRow.holds Try.pinned (OpenSpec.ofChange buffExactSpec)

/-- ITS FALSE NEIGHBOUR: 'it returns false'. Refute it at one input. -/
def buffExactWrong : ChangeSpec := { name := "buffExact", fn := fun _ => fun
  | [d1, d2, d3, d4] => { results := [.lit (.bool false)], args := [d1, d2, d3, d4] }
  | _ => none }
def BuffExactWrongFalsely : Prop := buffExactRow.holds Try.pinned (OpenSpec.ofChange buffExactWrong)

/-- 'grangerlaw10.BuffParts': WHATEVER THE INPUT: true; the input reads as it did. -/
def buffPartsSpec : ChangeSpec := { name := "buffParts", fn := fun _ => fun
  | [d1, d2] => { results := [.lit (.bool true)], args := [d1, d2] }
  | _ => none }
def buffPartsRow : OpenClaim := { program := "ytemijcjgdgdhjaa", sum := "fe1a4f35742774114937fbd53b62d2ede66e53628472ede8533796bc999d77e5", func := "granger/grangerlaw10.BuffParts", spec := "buffParts", inPlace := ["slices.overlaps[granger/api.Msg]", "internal/abi.NoEscape"], unfollowed := true, recurses := true, apart := false }
def BuffPartsSaid : Prop := buffPartsRow.holds Try.pinned (OpenSpec.ofChange buffPartsSpec)

/-- ITS FALSE NEIGHBOUR: 'it returns false'. Refute it at one input. -/
def buffPartsWrong : ChangeSpec := { name := "buffParts", fn := fun _ => fun
  | [d1, d2] => { results := [.lit (.bool false)], args := [d1, d2] }
  | _ => none }
def BuffPartsWrongFalsely : Prop := buffPartsRow.holds Try.pinned (OpenSpec.ofChange buffPartsWrong)

/-- 'grangerlaw13.MergeExact': WHATEVER THE INPUT: true; the input reads as it did. -/
def mergeExactSpec : ChangeSpec := { name := "mergeExact", fn := fun _ => fun
  | [d] => { results := [.lit (.bool true)], args := [d] }
  | _ => none }
def mergeExactRow : OpenClaim := { program := "ytemijcjgdgdhjaa", sum := "fe1a4f35742774114937fbd53b62d2ede66e53628472ede8533796bc999d77e5", func := "granger/grangerlaw13.MergeExact", spec := "mergeExact", inPlace := ["internal/abi.NoEscape"], unfollowed := true, recurses := true, apart := false }
def MergeExactSaid : Prop := mergeExactRow.holds Try.pinned (OpenSpec.ofChange mergeExactSpec)

/-- ITS FALSE NEIGHBOUR: 'it returns false'. Refute it at one input. -/
def mergeExactWrong : ChangeSpec := { name := "mergeExact", fn := fun _ => fun
  | [d] => { results := [.lit (.bool false)], args := [d] }
  | _ => none }
def MergeExactWrongFalsely : Prop := mergeExactRow.holds Try.pinned (OpenSpec.ofChange mergeExactWrong)

/-- 'grangerlaw13.MergeOver': WHATEVER THE INPUT: true; the input reads as it did. -/
def mergeOverSpec : ChangeSpec := { name := "mergeOver", fn := fun _ => fun
  | [d1, d2] => { results := [.lit (.bool true)], args := [d1, d2] }
  | _ => none }
def mergeOverRow : OpenClaim := { program := "ytemijcjgdgdhjaa", sum := "fe1a4f35742774114937fbd53b62d2ede66e53628472ede8533796bc999d77e5", func := "granger/grangerlaw13.MergeOver", spec := "mergeOver", inPlace := ["internal/abi.NoEscape"], unfollowed := true, recurses := true, apart := false }
def MergeOverSaid : Prop := mergeOverRow.holds Try.pinned (OpenSpec.ofChange mergeOverSpec)

/-- ITS FALSE NEIGHBOUR: 'it returns false'. Refute it at one input. -/
def mergeOverWrong : ChangeSpec := { name := "mergeOver", fn := fun _ => fun
  | [d1, d2] => { results := [.lit (.bool false)], args := [d1, d2] }
  | _ => none }
def MergeOverWrongFalsely : Prop := mergeOverRow.holds Try.pinned (OpenSpec.ofChange mergeOverWrong)

/-- 'grangerlaw13.MergeAny': WHATEVER THE INPUT: true; the input reads as it did. -/
def mergeAnySpec : ChangeSpec := { name := "mergeAny", fn := fun _ => fun
  | [d1, d2] => { results := [.lit (.bool true)], args := [d1, d2] }
  | _ => none }
def mergeAnyRow : OpenClaim := { program := "ytemijcjgdgdhjaa", sum := "fe1a4f35742774114937fbd53b62d2ede66e53628472ede8533796bc999d77e5", func := "granger/grangerlaw13.MergeAny", spec := "mergeAny", inPlace := ["internal/abi.NoEscape"], unfollowed := true, recurses := true, apart := false }
def MergeAnySaid : Prop := mergeAnyRow.holds Try.pinned (OpenSpec.ofChange mergeAnySpec)

/-- ITS FALSE NEIGHBOUR: 'it returns false'. Refute it at one input. -/
def mergeAnyWrong : ChangeSpec := { name := "mergeAny", fn := fun _ => fun
  | [d1, d2] => { results := [.lit (.bool false)], args := [d1, d2] }
  | _ => none }
def MergeAnyWrongFalsely : Prop := mergeAnyRow.holds Try.pinned (OpenSpec.ofChange mergeAnyWrong)

/-- 'grangerlaw09.LeafKeys': WHATEVER THE INPUT: true; the input reads as it did. -/
def leafKeysSpec : ChangeSpec := { name := "leafKeys", fn := fun _ => fun
  | [d1, d2, d3] => { results := [.lit (.bool true)], args := [d1, d2, d3] }
  | _ => none }
def leafKeysRow : OpenClaim := { program := "ytemijcjgdgdhjaa", sum := "fe1a4f35742774114937fbd53b62d2ede66e53628472ede8533796bc999d77e5", func := "granger/grangerlaw09.LeafKeys", spec := "leafKeys", inPlace := ["internal/abi.NoEscape", "slices.overlaps[granger/api.Item]"], unfollowed := true, recurses := true, apart := false }
def LeafKeysSaid : Prop := leafKeysRow.holds Try.pinned (OpenSpec.ofChange leafKeysSpec)

/-- ITS FALSE NEIGHBOUR: 'it returns false'. Refute it at one input. -/
def leafKeysWrong : ChangeSpec := { name := "leafKeys", fn := fun _ => fun
  | [d1, d2, d3] => { results := [.lit (.bool false)], args := [d1, d2, d3] }
  | _ => none }
def LeafKeysWrongFalsely : Prop := leafKeysRow.holds Try.pinned (OpenSpec.ofChange leafKeysWrong)

/-- 'grangerlaw09.LeafLight': WHATEVER THE INPUT: true; the input reads as it did. -/
def leafLightSpec : ChangeSpec := { name := "leafLight", fn := fun _ => fun
  | [d] => { results := [.lit (.bool true)], args := [d] }
  | _ => none }
def leafLightRow : OpenClaim := { program := "ytemijcjgdgdhjaa", sum := "fe1a4f35742774114937fbd53b62d2ede66e53628472ede8533796bc999d77e5", func := "granger/grangerlaw09.LeafLight", spec := "leafLight", inPlace := ["internal/abi.NoEscape", "slices.overlaps[granger/api.Item]"], unfollowed := true, recurses := true, apart := false }
def LeafLightSaid : Prop := leafLightRow.holds Try.pinned (OpenSpec.ofChange leafLightSpec)

/-- ITS FALSE NEIGHBOUR: 'it returns false'. Refute it at one input. -/
def leafLightWrong : ChangeSpec := { name := "leafLight", fn := fun _ => fun
  | [d] => { results := [.lit (.bool false)], args := [d] }
  | _ => none }
def LeafLightWrongFalsely : Prop := leafLightRow.holds Try.pinned (OpenSpec.ofChange leafLightWrong)

/-- 'grangerlaw09.LeafParts': WHATEVER THE INPUT: true; the input reads as it did. -/
def leafPartsSpec : ChangeSpec := { name := "leafParts", fn := fun _ => fun
  | [d1, d2] => { results := [.lit (.bool true)], args := [d1, d2] }
  | _ => none }
def leafPartsRow : OpenClaim := { program := "ytemijcjgdgdhjaa", sum := "fe1a4f35742774114937fbd53b62d2ede66e53628472ede8533796bc999d77e5", func := "granger/grangerlaw09.LeafParts", spec := "leafParts", inPlace := ["internal/abi.NoEscape", "slices.overlaps[granger/api.Item]"], unfollowed := true, recurses := true, apart := false }
def LeafPartsSaid : Prop := leafPartsRow.holds Try.pinned (OpenSpec.ofChange leafPartsSpec)

/-- ITS FALSE NEIGHBOUR: 'it returns false'. Refute it at one input. -/
def leafPartsWrong : ChangeSpec := { name := "leafParts", fn := fun _ => fun
  | [d1, d2] => { results := [.lit (.bool false)], args := [d1, d2] }
  | _ => none }
def LeafPartsWrongFalsely : Prop := leafPartsRow.holds Try.pinned (OpenSpec.ofChange leafPartsWrong)

/-- 'grangerlaw09.LeafCut': WHATEVER THE INPUT: true; the input reads as it did. -/
def leafCutSpec : ChangeSpec := { name := "leafCut", fn := fun _ => fun
  | [d1, d2, d3] => { results := [.lit (.bool true)], args := [d1, d2, d3] }
  | _ => none }
def leafCutRow : OpenClaim := { program := "ytemijcjgdgdhjaa", sum := "fe1a4f35742774114937fbd53b62d2ede66e53628472ede8533796bc999d77e5", func := "granger/grangerlaw09.LeafCut", spec := "leafCut", inPlace := ["internal/abi.NoEscape", "slices.overlaps[granger/api.Item]"], unfollowed := true, recurses := true, apart := false }
def LeafCutSaid : Prop := leafCutRow.holds Try.pinned (OpenSpec.ofChange leafCutSpec)

/-- ITS FALSE NEIGHBOUR: 'it returns false'. Refute it at one input. -/
def leafCutWrong : ChangeSpec := { name := "leafCut", fn := fun _ => fun
  | [d1, d2, d3] => { results := [.lit (.bool false)], args := [d1, d2, d3] }
  | _ => none }
def LeafCutWrongFalsely : Prop := leafCutRow.holds Try.pinned (OpenSpec.ofChange leafCutWrong)

/- THE SECOND FORM. 'bulk': how many values and letters a reading holds, each counted each time it is reached (what is shared counts as often as it is met; a slice's spare places count too). A statement '..UptoSaid' is the law's where the arguments, and the package variables that the reading takes, are together of bulk at most 1048576: NARROWER than '..Said'. Prove '..Said' where nothing that the law and all that it calls make is longer than what came in: it says more and counts as full. Else prove '..UptoSaid'. A law counts once. -/
mutual
def uptoBulk {H : Type} : DataW H → Nat
  | .lit (.string bytes) => bytes.length + 1
  | .lit _ => 1
  | .nil => 1
  | .ptr d => uptoBulk d + 1
  | .slice elems spare => uptoBulkAll elems + uptoBulkAll spare + 1
  | .agg parts => uptoBulkAll parts + 1
  | .iface _ d => uptoBulk d + 1
  | .map entries => uptoBulkEntries entries + 1
  | .held _ => 1
def uptoBulkAll {H : Type} : List (DataW H) → Nat
  | [] => 0
  | d :: r => uptoBulk d + uptoBulkAll r
def uptoBulkEntries {H : Type} : List (Lit × DataW H) → Nat
  | [] => 0
  | x :: r => uptoBulkEntry x + uptoBulkEntries r
def uptoBulkEntry {H : Type} : Lit × DataW H → Nat
  | (.string bytes, d) => bytes.length + uptoBulk d + 1
  | (_, d) => uptoBulk d + 1
 end
def uptoSmall : (H : Type) → List (DataW H) → Bool := fun _ ds => decide (uptoBulkAll ds ≤ 1048576)
def OpenSpec.upto (s : _root_.Go.ChangeSpec) : _root_.Go.OpenSpec := { _root_.Go.OpenSpec.ofChange s with cond := some uptoSmall }

/-- 'grangerlaw10.BuffExact', WHERE WHAT IT READS IS OF BULK AT MOST 1048576: true; the input reads as it did. -/
def buffExactUptoRow : OpenClaim := { program := "ytemijcjgdgdhjaa", sum := "fe1a4f35742774114937fbd53b62d2ede66e53628472ede8533796bc999d77e5", func := "granger/grangerlaw10.BuffExact", spec := "buffExact", inPlace := ["slices.overlaps[granger/api.Msg]", "internal/abi.NoEscape"], unfollowed := true, recurses := true, apart := false, narrowed := true }
def BuffExactUptoSaid : Prop := buffExactUptoRow.holds Try.pinned (OpenSpec.upto buffExactSpec)

/-- 'grangerlaw10.BuffParts', WHERE WHAT IT READS IS OF BULK AT MOST 1048576: true; the input reads as it did. -/
def buffPartsUptoRow : OpenClaim := { program := "ytemijcjgdgdhjaa", sum := "fe1a4f35742774114937fbd53b62d2ede66e53628472ede8533796bc999d77e5", func := "granger/grangerlaw10.BuffParts", spec := "buffParts", inPlace := ["slices.overlaps[granger/api.Msg]", "internal/abi.NoEscape"], unfollowed := true, recurses := true, apart := false, narrowed := true }
def BuffPartsUptoSaid : Prop := buffPartsUptoRow.holds Try.pinned (OpenSpec.upto buffPartsSpec)

/-- 'grangerlaw13.MergeExact', WHERE WHAT IT READS IS OF BULK AT MOST 1048576: true; the input reads as it did. -/
def mergeExactUptoRow : OpenClaim := { program := "ytemijcjgdgdhjaa", sum := "fe1a4f35742774114937fbd53b62d2ede66e53628472ede8533796bc999d77e5", func := "granger/grangerlaw13.MergeExact", spec := "mergeExact", inPlace := ["internal/abi.NoEscape"], unfollowed := true, recurses := true, apart := false, narrowed := true }
def MergeExactUptoSaid : Prop := mergeExactUptoRow.holds Try.pinned (OpenSpec.upto mergeExactSpec)

/-- 'grangerlaw13.MergeOver', WHERE WHAT IT READS IS OF BULK AT MOST 1048576: true; the input reads as it did. -/
def mergeOverUptoRow : OpenClaim := { program := "ytemijcjgdgdhjaa", sum := "fe1a4f35742774114937fbd53b62d2ede66e53628472ede8533796bc999d77e5", func := "granger/grangerlaw13.MergeOver", spec := "mergeOver", inPlace := ["internal/abi.NoEscape"], unfollowed := true, recurses := true, apart := false, narrowed := true }
def MergeOverUptoSaid : Prop := mergeOverUptoRow.holds Try.pinned (OpenSpec.upto mergeOverSpec)

/-- 'grangerlaw13.MergeAny', WHERE WHAT IT READS IS OF BULK AT MOST 1048576: true; the input reads as it did. -/
def mergeAnyUptoRow : OpenClaim := { program := "ytemijcjgdgdhjaa", sum := "fe1a4f35742774114937fbd53b62d2ede66e53628472ede8533796bc999d77e5", func := "granger/grangerlaw13.MergeAny", spec := "mergeAny", inPlace := ["internal/abi.NoEscape"], unfollowed := true, recurses := true, apart := false, narrowed := true }
def MergeAnyUptoSaid : Prop := mergeAnyUptoRow.holds Try.pinned (OpenSpec.upto mergeAnySpec)

/-- 'grangerlaw09.LeafKeys', WHERE WHAT IT READS IS OF BULK AT MOST 1048576: true; the input reads as it did. -/
def leafKeysUptoRow : OpenClaim := { program := "ytemijcjgdgdhjaa", sum := "fe1a4f35742774114937fbd53b62d2ede66e53628472ede8533796bc999d77e5", func := "granger/grangerlaw09.LeafKeys", spec := "leafKeys", inPlace := ["internal/abi.NoEscape", "slices.overlaps[granger/api.Item]"], unfollowed := true, recurses := true, apart := false, narrowed := true }
def LeafKeysUptoSaid : Prop := leafKeysUptoRow.holds Try.pinned (OpenSpec.upto leafKeysSpec)

/-- 'grangerlaw09.LeafLight', WHERE WHAT IT READS IS OF BULK AT MOST 1048576: true; the input reads as it did. -/
def leafLightUptoRow : OpenClaim := { program := "ytemijcjgdgdhjaa", sum := "fe1a4f35742774114937fbd53b62d2ede66e53628472ede8533796bc999d77e5", func := "granger/grangerlaw09.LeafLight", spec := "leafLight", inPlace := ["internal/abi.NoEscape", "slices.overlaps[granger/api.Item]"], unfollowed := true, recurses := true, apart := false, narrowed := true }
def LeafLightUptoSaid : Prop := leafLightUptoRow.holds Try.pinned (OpenSpec.upto leafLightSpec)

/-- 'grangerlaw09.LeafParts', WHERE WHAT IT READS IS OF BULK AT MOST 1048576: true; the input reads as it did. -/
def leafPartsUptoRow : OpenClaim := { program := "ytemijcjgdgdhjaa", sum := "fe1a4f35742774114937fbd53b62d2ede66e53628472ede8533796bc999d77e5", func := "granger/grangerlaw09.LeafParts", spec := "leafParts", inPlace := ["internal/abi.NoEscape", "slices.overlaps[granger/api.Item]"], unfollowed := true, recurses := true, apart := false, narrowed := true }
def LeafPartsUptoSaid : Prop := leafPartsUptoRow.holds Try.pinned (OpenSpec.upto leafPartsSpec)

/-- 'grangerlaw09.LeafCut', WHERE WHAT IT READS IS OF BULK AT MOST 1048576: true; the input reads as it did. -/
def leafCutUptoRow : OpenClaim := { program := "ytemijcjgdgdhjaa", sum := "fe1a4f35742774114937fbd53b62d2ede66e53628472ede8533796bc999d77e5", func := "granger/grangerlaw09.LeafCut", spec := "leafCut", inPlace := ["internal/abi.NoEscape", "slices.overlaps[granger/api.Item]"], unfollowed := true, recurses := true, apart := false, narrowed := true }
def LeafCutUptoSaid : Prop := leafCutUptoRow.holds Try.pinned (OpenSpec.upto leafCutSpec)

end Rows
end Go.Proofs.Ytemijcjgdgdhjaa
