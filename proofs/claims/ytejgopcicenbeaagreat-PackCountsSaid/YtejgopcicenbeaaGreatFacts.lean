/- What the logic asks of this seat's types and functions, by the kernel. Printed by wip/tools/genfacts.py. -/
import Derived.Test.YtejgopcicenbeaaGreatProg
import Derived.Test.YtejgopcicenbeaaGreatLb
namespace Go.Proofs.YtejgopcicenbeaaGreat
open Go.RowKit
@[simp] theorem agg1 : isAggT Tryz.prog 1 = some false := by kernel_rfl
@[simp] theorem size1 : sizeT Tryz.prog 1 = some 1 := by kernel_rfl
@[simp] theorem zero1 : zeroA Tryz.prog 1 = some [.sc .nilFunc] := by kernel_rfl
@[simp] theorem bytes1 : bytesT Tryz.prog 1 = some 8 := by kernel_rfl
@[simp] theorem conc1 : Tryz.prog.concrete 1 = true := by kernel_rfl
@[simp] theorem agg2 : isAggT Tryz.prog 2 = some false := by kernel_rfl
@[simp] theorem size2 : sizeT Tryz.prog 2 = some 1 := by kernel_rfl
@[simp] theorem zero2 : zeroA Tryz.prog 2 = some [.sc (.int .i64 0)] := by kernel_rfl
@[simp] theorem bytes2 : bytesT Tryz.prog 2 = some 8 := by kernel_rfl
@[simp] theorem conc2 : Tryz.prog.concrete 2 = true := by kernel_rfl
@[simp] theorem slc2 : notIntT Tryz.prog 2 = false := by kernel_rfl
@[simp] theorem int2 : intT Tryz.prog 2 = true := by kernel_rfl
@[simp] theorem agg3 : isAggT Tryz.prog 3 = some false := by kernel_rfl
@[simp] theorem size3 : sizeT Tryz.prog 3 = some 1 := by kernel_rfl
@[simp] theorem zero3 : zeroA Tryz.prog 3 = some [.sc (.int .i64 0)] := by kernel_rfl
@[simp] theorem bytes3 : bytesT Tryz.prog 3 = some 8 := by kernel_rfl
@[simp] theorem conc3 : Tryz.prog.concrete 3 = true := by kernel_rfl
@[simp] theorem slc3 : notIntT Tryz.prog 3 = false := by kernel_rfl
@[simp] theorem int3 : intT Tryz.prog 3 = true := by kernel_rfl
@[simp] theorem agg4 : isAggT Tryz.prog 4 = some false := by kernel_rfl
@[simp] theorem size4 : sizeT Tryz.prog 4 = some 1 := by kernel_rfl
@[simp] theorem zero4 : zeroA Tryz.prog 4 = some [.sc (.bool false)] := by kernel_rfl
@[simp] theorem bytes4 : bytesT Tryz.prog 4 = some 1 := by kernel_rfl
@[simp] theorem conc4 : Tryz.prog.concrete 4 = true := by kernel_rfl
@[simp] theorem agg5 : isAggT Tryz.prog 5 = some false := by kernel_rfl
@[simp] theorem size5 : sizeT Tryz.prog 5 = some 1 := by kernel_rfl
@[simp] theorem zero5 : zeroA Tryz.prog 5 = some [.sc (.int .u8 0)] := by kernel_rfl
@[simp] theorem bytes5 : bytesT Tryz.prog 5 = some 1 := by kernel_rfl
@[simp] theorem conc5 : Tryz.prog.concrete 5 = true := by kernel_rfl
@[simp] theorem slc5 : notIntT Tryz.prog 5 = false := by kernel_rfl
@[simp] theorem int5 : intT Tryz.prog 5 = true := by kernel_rfl
@[simp] theorem agg6 : isAggT Tryz.prog 6 = some false := by kernel_rfl
@[simp] theorem size6 : sizeT Tryz.prog 6 = some 1 := by kernel_rfl
@[simp] theorem zero6 : zeroA Tryz.prog 6 = some [.sc (.int .u8 0)] := by kernel_rfl
@[simp] theorem bytes6 : bytesT Tryz.prog 6 = some 1 := by kernel_rfl
@[simp] theorem conc6 : Tryz.prog.concrete 6 = true := by kernel_rfl
@[simp] theorem slc6 : notIntT Tryz.prog 6 = false := by kernel_rfl
@[simp] theorem int6 : intT Tryz.prog 6 = true := by kernel_rfl
@[simp] theorem agg7 : isAggT Tryz.prog 7 = some true := by kernel_rfl
@[simp] theorem size7 : sizeT Tryz.prog 7 = some 4 := by kernel_rfl
@[simp] theorem zero7 : zeroA Tryz.prog 7 = some [.sc (.int .i64 0), .sc (.int .i64 0), .sc (.bool false), .sc (.int .u8 0)] := by kernel_rfl
@[simp] theorem bytes7 : bytesT Tryz.prog 7 = some 24 := by kernel_rfl
@[simp] theorem conc7 : Tryz.prog.concrete 7 = true := by kernel_rfl
@[simp] theorem places7 : placesT Tryz.prog 7 = some [(0, 1), (1, 1), (2, 1), (3, 1)] := by kernel_rfl
@[simp] theorem held7 : Tryz.prog.stoodInHeld 7 = false := by kernel_rfl
@[simp] theorem eqg7 : Tryz.prog.eqGuardType Tryz.prog.depth 7 = false := by kernel_rfl
@[simp] theorem fld7_0 (x : AV) : fieldAddrA Tryz.prog 7 x 0 = (match x with | .fp cs off => some (.fp cs (off + 0)) | .mp l g off => some (.mp l g (off + 0)) | _ => none) := by cases x <;> kernel_rfl
@[simp] theorem fld7_1 (x : AV) : fieldAddrA Tryz.prog 7 x 1 = (match x with | .fp cs off => some (.fp cs (off + 1)) | .mp l g off => some (.mp l g (off + 1)) | _ => none) := by cases x <;> kernel_rfl
@[simp] theorem fld7_2 (x : AV) : fieldAddrA Tryz.prog 7 x 2 = (match x with | .fp cs off => some (.fp cs (off + 2)) | .mp l g off => some (.mp l g (off + 2)) | _ => none) := by cases x <;> kernel_rfl
@[simp] theorem fld7_3 (x : AV) : fieldAddrA Tryz.prog 7 x 3 = (match x with | .fp cs off => some (.fp cs (off + 3)) | .mp l g off => some (.mp l g (off + 3)) | _ => none) := by cases x <;> kernel_rfl
@[simp] theorem agg8 : isAggT Tryz.prog 8 = some true := by kernel_rfl
@[simp] theorem size8 : sizeT Tryz.prog 8 = some 4 := by kernel_rfl
@[simp] theorem zero8 : zeroA Tryz.prog 8 = some [.sc (.int .i64 0), .sc (.int .i64 0), .sc (.bool false), .sc (.int .u8 0)] := by kernel_rfl
@[simp] theorem bytes8 : bytesT Tryz.prog 8 = some 24 := by kernel_rfl
@[simp] theorem conc8 : Tryz.prog.concrete 8 = true := by kernel_rfl
@[simp] theorem places8 : placesT Tryz.prog 8 = some [(0, 1), (1, 1), (2, 1), (3, 1)] := by kernel_rfl
@[simp] theorem held8 : Tryz.prog.stoodInHeld 8 = false := by kernel_rfl
@[simp] theorem eqg8 : Tryz.prog.eqGuardType Tryz.prog.depth 8 = false := by kernel_rfl
@[simp] theorem fld8_0 (x : AV) : fieldAddrA Tryz.prog 8 x 0 = (match x with | .fp cs off => some (.fp cs (off + 0)) | .mp l g off => some (.mp l g (off + 0)) | _ => none) := by cases x <;> kernel_rfl
@[simp] theorem fld8_1 (x : AV) : fieldAddrA Tryz.prog 8 x 1 = (match x with | .fp cs off => some (.fp cs (off + 1)) | .mp l g off => some (.mp l g (off + 1)) | _ => none) := by cases x <;> kernel_rfl
@[simp] theorem fld8_2 (x : AV) : fieldAddrA Tryz.prog 8 x 2 = (match x with | .fp cs off => some (.fp cs (off + 2)) | .mp l g off => some (.mp l g (off + 2)) | _ => none) := by cases x <;> kernel_rfl
@[simp] theorem fld8_3 (x : AV) : fieldAddrA Tryz.prog 8 x 3 = (match x with | .fp cs off => some (.fp cs (off + 3)) | .mp l g off => some (.mp l g (off + 3)) | _ => none) := by cases x <;> kernel_rfl
@[simp] theorem agg9 : isAggT Tryz.prog 9 = some false := by kernel_rfl
@[simp] theorem size9 : sizeT Tryz.prog 9 = some 1 := by kernel_rfl
@[simp] theorem zero9 : zeroA Tryz.prog 9 = some [.sc (.string ⟨#[]⟩)] := by kernel_rfl
@[simp] theorem bytes9 : bytesT Tryz.prog 9 = some 16 := by kernel_rfl
@[simp] theorem conc9 : Tryz.prog.concrete 9 = true := by kernel_rfl
@[simp] theorem slc9 : notIntT Tryz.prog 9 = true := by kernel_rfl
@[simp] theorem agg10 : isAggT Tryz.prog 10 = some false := by kernel_rfl
@[simp] theorem size10 : sizeT Tryz.prog 10 = some 1 := by kernel_rfl
@[simp] theorem zero10 : zeroA Tryz.prog 10 = some [.sc (.string ⟨#[]⟩)] := by kernel_rfl
@[simp] theorem bytes10 : bytesT Tryz.prog 10 = some 16 := by kernel_rfl
@[simp] theorem conc10 : Tryz.prog.concrete 10 = true := by kernel_rfl
@[simp] theorem slc10 : notIntT Tryz.prog 10 = true := by kernel_rfl
@[simp] theorem agg11 : isAggT Tryz.prog 11 = some false := by kernel_rfl
@[simp] theorem size11 : sizeT Tryz.prog 11 = some 1 := by kernel_rfl
@[simp] theorem zero11 : zeroA Tryz.prog 11 = some [.sc (.string ⟨#[]⟩)] := by kernel_rfl
@[simp] theorem bytes11 : bytesT Tryz.prog 11 = some 16 := by kernel_rfl
@[simp] theorem conc11 : Tryz.prog.concrete 11 = true := by kernel_rfl
@[simp] theorem slc11 : notIntT Tryz.prog 11 = true := by kernel_rfl
@[simp] theorem agg12 : isAggT Tryz.prog 12 = some false := by kernel_rfl
@[simp] theorem size12 : sizeT Tryz.prog 12 = some 1 := by kernel_rfl
@[simp] theorem zero12 : zeroA Tryz.prog 12 = some [.sc (.int .u64 0)] := by kernel_rfl
@[simp] theorem bytes12 : bytesT Tryz.prog 12 = some 8 := by kernel_rfl
@[simp] theorem conc12 : Tryz.prog.concrete 12 = true := by kernel_rfl
@[simp] theorem slc12 : notIntT Tryz.prog 12 = false := by kernel_rfl
@[simp] theorem int12 : intT Tryz.prog 12 = true := by kernel_rfl
@[simp] theorem agg13 : isAggT Tryz.prog 13 = some true := by kernel_rfl
@[simp] theorem size13 : sizeT Tryz.prog 13 = some 2 := by kernel_rfl
@[simp] theorem zero13 : zeroA Tryz.prog 13 = some [.sc (.string ⟨#[]⟩), .sc (.int .u64 0)] := by kernel_rfl
@[simp] theorem bytes13 : bytesT Tryz.prog 13 = some 24 := by kernel_rfl
@[simp] theorem conc13 : Tryz.prog.concrete 13 = true := by kernel_rfl
@[simp] theorem places13 : placesT Tryz.prog 13 = some [(0, 1), (1, 1)] := by kernel_rfl
@[simp] theorem eqg13 : Tryz.prog.eqGuardType Tryz.prog.depth 13 = false := by kernel_rfl
@[simp] theorem fld13_0 (x : AV) : fieldAddrA Tryz.prog 13 x 0 = (match x with | .fp cs off => some (.fp cs (off + 0)) | .mp l g off => some (.mp l g (off + 0)) | _ => none) := by cases x <;> kernel_rfl
@[simp] theorem fld13_1 (x : AV) : fieldAddrA Tryz.prog 13 x 1 = (match x with | .fp cs off => some (.fp cs (off + 1)) | .mp l g off => some (.mp l g (off + 1)) | _ => none) := by cases x <;> kernel_rfl
@[simp] theorem agg14 : isAggT Tryz.prog 14 = some true := by kernel_rfl
@[simp] theorem size14 : sizeT Tryz.prog 14 = some 2 := by kernel_rfl
@[simp] theorem zero14 : zeroA Tryz.prog 14 = some [.sc (.string ⟨#[]⟩), .sc (.int .u64 0)] := by kernel_rfl
@[simp] theorem bytes14 : bytesT Tryz.prog 14 = some 24 := by kernel_rfl
@[simp] theorem conc14 : Tryz.prog.concrete 14 = true := by kernel_rfl
@[simp] theorem places14 : placesT Tryz.prog 14 = some [(0, 1), (1, 1)] := by kernel_rfl
@[simp] theorem eqg14 : Tryz.prog.eqGuardType Tryz.prog.depth 14 = false := by kernel_rfl
@[simp] theorem fld14_0 (x : AV) : fieldAddrA Tryz.prog 14 x 0 = (match x with | .fp cs off => some (.fp cs (off + 0)) | .mp l g off => some (.mp l g (off + 0)) | _ => none) := by cases x <;> kernel_rfl
@[simp] theorem fld14_1 (x : AV) : fieldAddrA Tryz.prog 14 x 1 = (match x with | .fp cs off => some (.fp cs (off + 1)) | .mp l g off => some (.mp l g (off + 1)) | _ => none) := by cases x <;> kernel_rfl
@[simp] theorem agg15 : isAggT Tryz.prog 15 = some false := by kernel_rfl
@[simp] theorem size15 : sizeT Tryz.prog 15 = some 1 := by kernel_rfl
@[simp] theorem zero15 : zeroA Tryz.prog 15 = some [.sc (.pointer none)] := by kernel_rfl
@[simp] theorem bytes15 : bytesT Tryz.prog 15 = some 8 := by kernel_rfl
@[simp] theorem conc15 : Tryz.prog.concrete 15 = true := by kernel_rfl
@[simp] theorem agg16 : isAggT Tryz.prog 16 = some false := by kernel_rfl
@[simp] theorem size16 : sizeT Tryz.prog 16 = some 1 := by kernel_rfl
@[simp] theorem zero16 : zeroA Tryz.prog 16 = some [.sc (.pointer none)] := by kernel_rfl
@[simp] theorem bytes16 : bytesT Tryz.prog 16 = some 8 := by kernel_rfl
@[simp] theorem conc16 : Tryz.prog.concrete 16 = true := by kernel_rfl
@[simp] theorem agg17 : isAggT Tryz.prog 17 = some false := by kernel_rfl
@[simp] theorem size17 : sizeT Tryz.prog 17 = some 1 := by kernel_rfl
@[simp] theorem zero17 : zeroA Tryz.prog 17 = some [.sc (.pointer none)] := by kernel_rfl
@[simp] theorem bytes17 : bytesT Tryz.prog 17 = some 8 := by kernel_rfl
@[simp] theorem conc17 : Tryz.prog.concrete 17 = true := by kernel_rfl
@[simp] theorem agg18 : isAggT Tryz.prog 18 = some true := by kernel_rfl
@[simp] theorem size18 : sizeT Tryz.prog 18 = some 1 := by kernel_rfl
@[simp] theorem zero18 : zeroA Tryz.prog 18 = some [.sc (.pointer none)] := by kernel_rfl
@[simp] theorem bytes18 : bytesT Tryz.prog 18 = some 8 := by kernel_rfl
@[simp] theorem conc18 : Tryz.prog.concrete 18 = true := by kernel_rfl
@[simp] theorem places18 : placesT Tryz.prog 18 = some [(0, 1)] := by kernel_rfl
@[simp] theorem eqg18 : Tryz.prog.eqGuardType Tryz.prog.depth 18 = false := by kernel_rfl
@[simp] theorem fld18_0 (x : AV) : fieldAddrA Tryz.prog 18 x 0 = (match x with | .fp cs off => some (.fp cs (off + 0)) | .mp l g off => some (.mp l g (off + 0)) | _ => none) := by cases x <;> kernel_rfl
@[simp] theorem agg19 : isAggT Tryz.prog 19 = some true := by kernel_rfl
@[simp] theorem size19 : sizeT Tryz.prog 19 = some 1 := by kernel_rfl
@[simp] theorem zero19 : zeroA Tryz.prog 19 = some [.sc (.pointer none)] := by kernel_rfl
@[simp] theorem bytes19 : bytesT Tryz.prog 19 = some 8 := by kernel_rfl
@[simp] theorem conc19 : Tryz.prog.concrete 19 = true := by kernel_rfl
@[simp] theorem places19 : placesT Tryz.prog 19 = some [(0, 1)] := by kernel_rfl
@[simp] theorem eqg19 : Tryz.prog.eqGuardType Tryz.prog.depth 19 = false := by kernel_rfl
@[simp] theorem fld19_0 (x : AV) : fieldAddrA Tryz.prog 19 x 0 = (match x with | .fp cs off => some (.fp cs (off + 0)) | .mp l g off => some (.mp l g (off + 0)) | _ => none) := by cases x <;> kernel_rfl
@[simp] theorem agg20 : isAggT Tryz.prog 20 = some false := by kernel_rfl
@[simp] theorem size20 : sizeT Tryz.prog 20 = some 1 := by kernel_rfl
@[simp] theorem zero20 : zeroA Tryz.prog 20 = some [.sc .nilIface] := by kernel_rfl
@[simp] theorem bytes20 : bytesT Tryz.prog 20 = some 16 := by kernel_rfl
@[simp] theorem agg21 : isAggT Tryz.prog 21 = some false := by kernel_rfl
@[simp] theorem size21 : sizeT Tryz.prog 21 = some 1 := by kernel_rfl
@[simp] theorem zero21 : zeroA Tryz.prog 21 = some [.sc (.int .i32 0)] := by kernel_rfl
@[simp] theorem bytes21 : bytesT Tryz.prog 21 = some 4 := by kernel_rfl
@[simp] theorem conc21 : Tryz.prog.concrete 21 = true := by kernel_rfl
@[simp] theorem slc21 : notIntT Tryz.prog 21 = false := by kernel_rfl
@[simp] theorem int21 : intT Tryz.prog 21 = true := by kernel_rfl
@[simp] theorem agg22 : isAggT Tryz.prog 22 = some false := by kernel_rfl
@[simp] theorem size22 : sizeT Tryz.prog 22 = some 1 := by kernel_rfl
@[simp] theorem zero22 : zeroA Tryz.prog 22 = some [.sc .nilFunc] := by kernel_rfl
@[simp] theorem bytes22 : bytesT Tryz.prog 22 = some 8 := by kernel_rfl
@[simp] theorem conc22 : Tryz.prog.concrete 22 = true := by kernel_rfl
@[simp] theorem agg23 : isAggT Tryz.prog 23 = some false := by kernel_rfl
@[simp] theorem size23 : sizeT Tryz.prog 23 = some 1 := by kernel_rfl
@[simp] theorem zero23 : zeroA Tryz.prog 23 = some [.sc .nilFunc] := by kernel_rfl
@[simp] theorem bytes23 : bytesT Tryz.prog 23 = some 8 := by kernel_rfl
@[simp] theorem conc23 : Tryz.prog.concrete 23 = true := by kernel_rfl
@[simp] theorem agg24 : isAggT Tryz.prog 24 = some false := by kernel_rfl
@[simp] theorem size24 : sizeT Tryz.prog 24 = some 1 := by kernel_rfl
@[simp] theorem zero24 : zeroA Tryz.prog 24 = some [.sc .nilFunc] := by kernel_rfl
@[simp] theorem bytes24 : bytesT Tryz.prog 24 = some 8 := by kernel_rfl
@[simp] theorem conc24 : Tryz.prog.concrete 24 = true := by kernel_rfl
@[simp] theorem agg25 : isAggT Tryz.prog 25 = some false := by kernel_rfl
@[simp] theorem size25 : sizeT Tryz.prog 25 = some 1 := by kernel_rfl
@[simp] theorem zero25 : zeroA Tryz.prog 25 = some [.sc (.slice none 0 0)] := by kernel_rfl
@[simp] theorem bytes25 : bytesT Tryz.prog 25 = some 24 := by kernel_rfl
@[simp] theorem conc25 : Tryz.prog.concrete 25 = true := by kernel_rfl
@[simp] theorem elem25 : elemOfT Tryz.prog 25 = some (52, 2) := by kernel_rfl
@[simp] theorem slc25 : notIntT Tryz.prog 25 = true := by kernel_rfl
@[simp] theorem agg26 : isAggT Tryz.prog 26 = some false := by kernel_rfl
@[simp] theorem size26 : sizeT Tryz.prog 26 = some 1 := by kernel_rfl
@[simp] theorem zero26 : zeroA Tryz.prog 26 = some [.sc .nilFunc] := by kernel_rfl
@[simp] theorem bytes26 : bytesT Tryz.prog 26 = some 8 := by kernel_rfl
@[simp] theorem conc26 : Tryz.prog.concrete 26 = true := by kernel_rfl
@[simp] theorem agg27 : isAggT Tryz.prog 27 = some false := by kernel_rfl
@[simp] theorem size27 : sizeT Tryz.prog 27 = some 1 := by kernel_rfl
@[simp] theorem zero27 : zeroA Tryz.prog 27 = some [.sc (.slice none 0 0)] := by kernel_rfl
@[simp] theorem bytes27 : bytesT Tryz.prog 27 = some 24 := by kernel_rfl
@[simp] theorem conc27 : Tryz.prog.concrete 27 = true := by kernel_rfl
@[simp] theorem elem27 : elemOfT Tryz.prog 27 = some (31, 1) := by kernel_rfl
@[simp] theorem slc27 : notIntT Tryz.prog 27 = true := by kernel_rfl
@[simp] theorem agg28 : isAggT Tryz.prog 28 = some false := by kernel_rfl
@[simp] theorem size28 : sizeT Tryz.prog 28 = some 1 := by kernel_rfl
@[simp] theorem zero28 : zeroA Tryz.prog 28 = some [.sc (.int .i64 0)] := by kernel_rfl
@[simp] theorem bytes28 : bytesT Tryz.prog 28 = some 8 := by kernel_rfl
@[simp] theorem conc28 : Tryz.prog.concrete 28 = true := by kernel_rfl
@[simp] theorem slc28 : notIntT Tryz.prog 28 = false := by kernel_rfl
@[simp] theorem int28 : intT Tryz.prog 28 = true := by kernel_rfl
@[simp] theorem agg30 : isAggT Tryz.prog 30 = some false := by kernel_rfl
@[simp] theorem size30 : sizeT Tryz.prog 30 = some 1 := by kernel_rfl
@[simp] theorem zero30 : zeroA Tryz.prog 30 = some [.sc .nilFunc] := by kernel_rfl
@[simp] theorem bytes30 : bytesT Tryz.prog 30 = some 8 := by kernel_rfl
@[simp] theorem conc30 : Tryz.prog.concrete 30 = true := by kernel_rfl
@[simp] theorem agg31 : isAggT Tryz.prog 31 = some false := by kernel_rfl
@[simp] theorem size31 : sizeT Tryz.prog 31 = some 1 := by kernel_rfl
@[simp] theorem zero31 : zeroA Tryz.prog 31 = some [.sc (.pointer none)] := by kernel_rfl
@[simp] theorem bytes31 : bytesT Tryz.prog 31 = some 8 := by kernel_rfl
@[simp] theorem conc31 : Tryz.prog.concrete 31 = true := by kernel_rfl
@[simp] theorem agg32 : isAggT Tryz.prog 32 = some false := by kernel_rfl
@[simp] theorem size32 : sizeT Tryz.prog 32 = some 1 := by kernel_rfl
@[simp] theorem zero32 : zeroA Tryz.prog 32 = some [.sc .nilFunc] := by kernel_rfl
@[simp] theorem bytes32 : bytesT Tryz.prog 32 = some 8 := by kernel_rfl
@[simp] theorem conc32 : Tryz.prog.concrete 32 = true := by kernel_rfl
@[simp] theorem agg33 : isAggT Tryz.prog 33 = some false := by kernel_rfl
@[simp] theorem size33 : sizeT Tryz.prog 33 = some 1 := by kernel_rfl
@[simp] theorem zero33 : zeroA Tryz.prog 33 = some [.sc (.int .u64 0)] := by kernel_rfl
@[simp] theorem bytes33 : bytesT Tryz.prog 33 = some 8 := by kernel_rfl
@[simp] theorem conc33 : Tryz.prog.concrete 33 = true := by kernel_rfl
@[simp] theorem slc33 : notIntT Tryz.prog 33 = false := by kernel_rfl
@[simp] theorem int33 : intT Tryz.prog 33 = true := by kernel_rfl
@[simp] theorem agg34 : isAggT Tryz.prog 34 = some false := by kernel_rfl
@[simp] theorem size34 : sizeT Tryz.prog 34 = some 1 := by kernel_rfl
@[simp] theorem zero34 : zeroA Tryz.prog 34 = some [.sc (.pointer none)] := by kernel_rfl
@[simp] theorem bytes34 : bytesT Tryz.prog 34 = some 8 := by kernel_rfl
@[simp] theorem conc34 : Tryz.prog.concrete 34 = true := by kernel_rfl
@[simp] theorem agg35 : isAggT Tryz.prog 35 = some false := by kernel_rfl
@[simp] theorem size35 : sizeT Tryz.prog 35 = some 1 := by kernel_rfl
@[simp] theorem zero35 : zeroA Tryz.prog 35 = some [.sc .nilFunc] := by kernel_rfl
@[simp] theorem bytes35 : bytesT Tryz.prog 35 = some 8 := by kernel_rfl
@[simp] theorem conc35 : Tryz.prog.concrete 35 = true := by kernel_rfl
@[simp] theorem agg36 : isAggT Tryz.prog 36 = some false := by kernel_rfl
@[simp] theorem size36 : sizeT Tryz.prog 36 = some 1 := by kernel_rfl
@[simp] theorem zero36 : zeroA Tryz.prog 36 = some [.sc (.pointer none)] := by kernel_rfl
@[simp] theorem bytes36 : bytesT Tryz.prog 36 = some 8 := by kernel_rfl
@[simp] theorem conc36 : Tryz.prog.concrete 36 = true := by kernel_rfl
@[simp] theorem agg37 : isAggT Tryz.prog 37 = some false := by kernel_rfl
@[simp] theorem size37 : sizeT Tryz.prog 37 = some 1 := by kernel_rfl
@[simp] theorem zero37 : zeroA Tryz.prog 37 = some [.sc .nilFunc] := by kernel_rfl
@[simp] theorem bytes37 : bytesT Tryz.prog 37 = some 8 := by kernel_rfl
@[simp] theorem conc37 : Tryz.prog.concrete 37 = true := by kernel_rfl
@[simp] theorem agg38 : isAggT Tryz.prog 38 = some false := by kernel_rfl
@[simp] theorem size38 : sizeT Tryz.prog 38 = some 1 := by kernel_rfl
@[simp] theorem zero38 : zeroA Tryz.prog 38 = some [.sc (.slice none 0 0)] := by kernel_rfl
@[simp] theorem bytes38 : bytesT Tryz.prog 38 = some 24 := by kernel_rfl
@[simp] theorem conc38 : Tryz.prog.concrete 38 = true := by kernel_rfl
@[simp] theorem elem38 : elemOfT Tryz.prog 38 = some (25, 1) := by kernel_rfl
@[simp] theorem slc38 : notIntT Tryz.prog 38 = true := by kernel_rfl
@[simp] theorem agg40 : isAggT Tryz.prog 40 = some false := by kernel_rfl
@[simp] theorem size40 : sizeT Tryz.prog 40 = some 1 := by kernel_rfl
@[simp] theorem zero40 : zeroA Tryz.prog 40 = some [.sc .nilFunc] := by kernel_rfl
@[simp] theorem bytes40 : bytesT Tryz.prog 40 = some 8 := by kernel_rfl
@[simp] theorem conc40 : Tryz.prog.concrete 40 = true := by kernel_rfl
@[simp] theorem agg42 : isAggT Tryz.prog 42 = some false := by kernel_rfl
@[simp] theorem size42 : sizeT Tryz.prog 42 = some 1 := by kernel_rfl
@[simp] theorem zero42 : zeroA Tryz.prog 42 = some [.sc .nilFunc] := by kernel_rfl
@[simp] theorem bytes42 : bytesT Tryz.prog 42 = some 8 := by kernel_rfl
@[simp] theorem conc42 : Tryz.prog.concrete 42 = true := by kernel_rfl
@[simp] theorem agg43 : isAggT Tryz.prog 43 = some false := by kernel_rfl
@[simp] theorem size43 : sizeT Tryz.prog 43 = some 1 := by kernel_rfl
@[simp] theorem zero43 : zeroA Tryz.prog 43 = some [.sc .nilFunc] := by kernel_rfl
@[simp] theorem bytes43 : bytesT Tryz.prog 43 = some 8 := by kernel_rfl
@[simp] theorem conc43 : Tryz.prog.concrete 43 = true := by kernel_rfl
@[simp] theorem agg44 : isAggT Tryz.prog 44 = some false := by kernel_rfl
@[simp] theorem size44 : sizeT Tryz.prog 44 = some 1 := by kernel_rfl
@[simp] theorem zero44 : zeroA Tryz.prog 44 = some [.sc .nilFunc] := by kernel_rfl
@[simp] theorem bytes44 : bytesT Tryz.prog 44 = some 8 := by kernel_rfl
@[simp] theorem conc44 : Tryz.prog.concrete 44 = true := by kernel_rfl
@[simp] theorem agg45 : isAggT Tryz.prog 45 = some false := by kernel_rfl
@[simp] theorem size45 : sizeT Tryz.prog 45 = some 1 := by kernel_rfl
@[simp] theorem zero45 : zeroA Tryz.prog 45 = some [.sc (.pointer none)] := by kernel_rfl
@[simp] theorem bytes45 : bytesT Tryz.prog 45 = some 8 := by kernel_rfl
@[simp] theorem conc45 : Tryz.prog.concrete 45 = true := by kernel_rfl
@[simp] theorem agg47 : isAggT Tryz.prog 47 = some false := by kernel_rfl
@[simp] theorem size47 : sizeT Tryz.prog 47 = some 1 := by kernel_rfl
@[simp] theorem zero47 : zeroA Tryz.prog 47 = some [.sc .nilFunc] := by kernel_rfl
@[simp] theorem bytes47 : bytesT Tryz.prog 47 = some 8 := by kernel_rfl
@[simp] theorem conc47 : Tryz.prog.concrete 47 = true := by kernel_rfl
@[simp] theorem agg48 : isAggT Tryz.prog 48 = some false := by kernel_rfl
@[simp] theorem size48 : sizeT Tryz.prog 48 = some 1 := by kernel_rfl
@[simp] theorem zero48 : zeroA Tryz.prog 48 = some [.sc .nilFunc] := by kernel_rfl
@[simp] theorem bytes48 : bytesT Tryz.prog 48 = some 8 := by kernel_rfl
@[simp] theorem conc48 : Tryz.prog.concrete 48 = true := by kernel_rfl
@[simp] theorem agg50 : isAggT Tryz.prog 50 = some false := by kernel_rfl
@[simp] theorem size50 : sizeT Tryz.prog 50 = some 1 := by kernel_rfl
@[simp] theorem zero50 : zeroA Tryz.prog 50 = some [.sc .nilFunc] := by kernel_rfl
@[simp] theorem bytes50 : bytesT Tryz.prog 50 = some 8 := by kernel_rfl
@[simp] theorem conc50 : Tryz.prog.concrete 50 = true := by kernel_rfl
@[simp] theorem agg51 : isAggT Tryz.prog 51 = some true := by kernel_rfl
@[simp] theorem size51 : sizeT Tryz.prog 51 = some 2 := by kernel_rfl
@[simp] theorem zero51 : zeroA Tryz.prog 51 = some [.sc (.string ⟨#[]⟩), .sc (.string ⟨#[]⟩)] := by kernel_rfl
@[simp] theorem bytes51 : bytesT Tryz.prog 51 = some 32 := by kernel_rfl
@[simp] theorem conc51 : Tryz.prog.concrete 51 = true := by kernel_rfl
@[simp] theorem places51 : placesT Tryz.prog 51 = some [(0, 1), (1, 1)] := by kernel_rfl
@[simp] theorem held51 : Tryz.prog.stoodInHeld 51 = false := by kernel_rfl
@[simp] theorem eqg51 : Tryz.prog.eqGuardType Tryz.prog.depth 51 = false := by kernel_rfl
@[simp] theorem fld51_0 (x : AV) : fieldAddrA Tryz.prog 51 x 0 = (match x with | .fp cs off => some (.fp cs (off + 0)) | .mp l g off => some (.mp l g (off + 0)) | _ => none) := by cases x <;> kernel_rfl
@[simp] theorem fld51_1 (x : AV) : fieldAddrA Tryz.prog 51 x 1 = (match x with | .fp cs off => some (.fp cs (off + 1)) | .mp l g off => some (.mp l g (off + 1)) | _ => none) := by cases x <;> kernel_rfl
@[simp] theorem agg52 : isAggT Tryz.prog 52 = some true := by kernel_rfl
@[simp] theorem size52 : sizeT Tryz.prog 52 = some 2 := by kernel_rfl
@[simp] theorem zero52 : zeroA Tryz.prog 52 = some [.sc (.string ⟨#[]⟩), .sc (.string ⟨#[]⟩)] := by kernel_rfl
@[simp] theorem bytes52 : bytesT Tryz.prog 52 = some 32 := by kernel_rfl
@[simp] theorem conc52 : Tryz.prog.concrete 52 = true := by kernel_rfl
@[simp] theorem places52 : placesT Tryz.prog 52 = some [(0, 1), (1, 1)] := by kernel_rfl
@[simp] theorem held52 : Tryz.prog.stoodInHeld 52 = false := by kernel_rfl
@[simp] theorem eqg52 : Tryz.prog.eqGuardType Tryz.prog.depth 52 = false := by kernel_rfl
@[simp] theorem fld52_0 (x : AV) : fieldAddrA Tryz.prog 52 x 0 = (match x with | .fp cs off => some (.fp cs (off + 0)) | .mp l g off => some (.mp l g (off + 0)) | _ => none) := by cases x <;> kernel_rfl
@[simp] theorem fld52_1 (x : AV) : fieldAddrA Tryz.prog 52 x 1 = (match x with | .fp cs off => some (.fp cs (off + 1)) | .mp l g off => some (.mp l g (off + 1)) | _ => none) := by cases x <;> kernel_rfl
@[simp] theorem agg53 : isAggT Tryz.prog 53 = some false := by kernel_rfl
@[simp] theorem size53 : sizeT Tryz.prog 53 = some 1 := by kernel_rfl
@[simp] theorem zero53 : zeroA Tryz.prog 53 = some [.sc .nilFunc] := by kernel_rfl
@[simp] theorem bytes53 : bytesT Tryz.prog 53 = some 8 := by kernel_rfl
@[simp] theorem conc53 : Tryz.prog.concrete 53 = true := by kernel_rfl
@[simp] theorem agg54 : isAggT Tryz.prog 54 = some false := by kernel_rfl
@[simp] theorem size54 : sizeT Tryz.prog 54 = some 1 := by kernel_rfl
@[simp] theorem zero54 : zeroA Tryz.prog 54 = some [.sc (.pointer none)] := by kernel_rfl
@[simp] theorem bytes54 : bytesT Tryz.prog 54 = some 8 := by kernel_rfl
@[simp] theorem conc54 : Tryz.prog.concrete 54 = true := by kernel_rfl
@[simp] theorem agg56 : isAggT Tryz.prog 56 = some false := by kernel_rfl
@[simp] theorem size56 : sizeT Tryz.prog 56 = some 1 := by kernel_rfl
@[simp] theorem zero56 : zeroA Tryz.prog 56 = some [.sc .nilFunc] := by kernel_rfl
@[simp] theorem bytes56 : bytesT Tryz.prog 56 = some 8 := by kernel_rfl
@[simp] theorem conc56 : Tryz.prog.concrete 56 = true := by kernel_rfl
@[simp] theorem agg57 : isAggT Tryz.prog 57 = some false := by kernel_rfl
@[simp] theorem size57 : sizeT Tryz.prog 57 = some 1 := by kernel_rfl
@[simp] theorem zero57 : zeroA Tryz.prog 57 = some [.sc .nilFunc] := by kernel_rfl
@[simp] theorem bytes57 : bytesT Tryz.prog 57 = some 8 := by kernel_rfl
@[simp] theorem conc57 : Tryz.prog.concrete 57 = true := by kernel_rfl
@[simp] theorem agg58 : isAggT Tryz.prog 58 = some false := by kernel_rfl
@[simp] theorem size58 : sizeT Tryz.prog 58 = some 1 := by kernel_rfl
@[simp] theorem zero58 : zeroA Tryz.prog 58 = some [.sc .nilFunc] := by kernel_rfl
@[simp] theorem bytes58 : bytesT Tryz.prog 58 = some 8 := by kernel_rfl
@[simp] theorem conc58 : Tryz.prog.concrete 58 = true := by kernel_rfl
@[simp] theorem agg59 : isAggT Tryz.prog 59 = some false := by kernel_rfl
@[simp] theorem size59 : sizeT Tryz.prog 59 = some 1 := by kernel_rfl
@[simp] theorem zero59 : zeroA Tryz.prog 59 = some [.sc .nilFunc] := by kernel_rfl
@[simp] theorem bytes59 : bytesT Tryz.prog 59 = some 8 := by kernel_rfl
@[simp] theorem conc59 : Tryz.prog.concrete 59 = true := by kernel_rfl
@[simp] theorem agg61 : isAggT Tryz.prog 61 = some false := by kernel_rfl
@[simp] theorem size61 : sizeT Tryz.prog 61 = some 1 := by kernel_rfl
@[simp] theorem zero61 : zeroA Tryz.prog 61 = some [.sc .nilFunc] := by kernel_rfl
@[simp] theorem bytes61 : bytesT Tryz.prog 61 = some 8 := by kernel_rfl
@[simp] theorem conc61 : Tryz.prog.concrete 61 = true := by kernel_rfl
@[simp] theorem agg62 : isAggT Tryz.prog 62 = some true := by kernel_rfl
@[simp] theorem size62 : sizeT Tryz.prog 62 = some 2 := by kernel_rfl
@[simp] theorem zero62 : zeroA Tryz.prog 62 = some [.sc (.slice none 0 0), .sc (.int .i64 0)] := by kernel_rfl
@[simp] theorem bytes62 : bytesT Tryz.prog 62 = some 32 := by kernel_rfl
@[simp] theorem conc62 : Tryz.prog.concrete 62 = true := by kernel_rfl
@[simp] theorem places62 : placesT Tryz.prog 62 = some [(0, 1), (1, 1)] := by kernel_rfl
@[simp] theorem held62 : Tryz.prog.stoodInHeld 62 = false := by kernel_rfl
@[simp] theorem eqg62 : Tryz.prog.eqGuardType Tryz.prog.depth 62 = false := by kernel_rfl
@[simp] theorem fld62_0 (x : AV) : fieldAddrA Tryz.prog 62 x 0 = (match x with | .fp cs off => some (.fp cs (off + 0)) | .mp l g off => some (.mp l g (off + 0)) | _ => none) := by cases x <;> kernel_rfl
@[simp] theorem fld62_1 (x : AV) : fieldAddrA Tryz.prog 62 x 1 = (match x with | .fp cs off => some (.fp cs (off + 1)) | .mp l g off => some (.mp l g (off + 1)) | _ => none) := by cases x <;> kernel_rfl
@[simp] theorem agg63 : isAggT Tryz.prog 63 = some true := by kernel_rfl
@[simp] theorem size63 : sizeT Tryz.prog 63 = some 2 := by kernel_rfl
@[simp] theorem zero63 : zeroA Tryz.prog 63 = some [.sc (.slice none 0 0), .sc (.int .i64 0)] := by kernel_rfl
@[simp] theorem bytes63 : bytesT Tryz.prog 63 = some 32 := by kernel_rfl
@[simp] theorem conc63 : Tryz.prog.concrete 63 = true := by kernel_rfl
@[simp] theorem places63 : placesT Tryz.prog 63 = some [(0, 1), (1, 1)] := by kernel_rfl
@[simp] theorem held63 : Tryz.prog.stoodInHeld 63 = false := by kernel_rfl
@[simp] theorem eqg63 : Tryz.prog.eqGuardType Tryz.prog.depth 63 = false := by kernel_rfl
@[simp] theorem fld63_0 (x : AV) : fieldAddrA Tryz.prog 63 x 0 = (match x with | .fp cs off => some (.fp cs (off + 0)) | .mp l g off => some (.mp l g (off + 0)) | _ => none) := by cases x <;> kernel_rfl
@[simp] theorem fld63_1 (x : AV) : fieldAddrA Tryz.prog 63 x 1 = (match x with | .fp cs off => some (.fp cs (off + 1)) | .mp l g off => some (.mp l g (off + 1)) | _ => none) := by cases x <;> kernel_rfl
@[simp] theorem agg64 : isAggT Tryz.prog 64 = some false := by kernel_rfl
@[simp] theorem size64 : sizeT Tryz.prog 64 = some 1 := by kernel_rfl
@[simp] theorem zero64 : zeroA Tryz.prog 64 = some [.sc (.map none)] := by kernel_rfl
@[simp] theorem bytes64 : bytesT Tryz.prog 64 = some 8 := by kernel_rfl
@[simp] theorem conc64 : Tryz.prog.concrete 64 = true := by kernel_rfl
@[simp] theorem mapt64 : mapT Tryz.prog 64 = some (.i64, 54) := by kernel_rfl
@[simp] theorem zo64 : zeroOne Tryz.prog 54 = some (.sc (.pointer none)) := by kernel_rfl
@[simp] theorem agg65 : isAggT Tryz.prog 65 = some false := by kernel_rfl
@[simp] theorem size65 : sizeT Tryz.prog 65 = some 1 := by kernel_rfl
@[simp] theorem zero65 : zeroA Tryz.prog 65 = some [.sc (.map none)] := by kernel_rfl
@[simp] theorem bytes65 : bytesT Tryz.prog 65 = some 8 := by kernel_rfl
@[simp] theorem conc65 : Tryz.prog.concrete 65 = true := by kernel_rfl
@[simp] theorem mapt65 : mapT Tryz.prog 65 = some (.i64, 101) := by kernel_rfl
@[simp] theorem zo65 : zeroOne Tryz.prog 101 = some (.sc (.pointer none)) := by kernel_rfl
@[simp] theorem agg66 : isAggT Tryz.prog 66 = some false := by kernel_rfl
@[simp] theorem size66 : sizeT Tryz.prog 66 = some 1 := by kernel_rfl
@[simp] theorem zero66 : zeroA Tryz.prog 66 = some [.sc (.map none)] := by kernel_rfl
@[simp] theorem bytes66 : bytesT Tryz.prog 66 = some 8 := by kernel_rfl
@[simp] theorem conc66 : Tryz.prog.concrete 66 = true := by kernel_rfl
@[simp] theorem mapt66 : mapT Tryz.prog 66 = some (.i64, 3) := by kernel_rfl
@[simp] theorem zo66 : zeroOne Tryz.prog 3 = some (.sc (.int .i64 0)) := by kernel_rfl
@[simp] theorem agg67 : isAggT Tryz.prog 67 = some false := by kernel_rfl
@[simp] theorem size67 : sizeT Tryz.prog 67 = some 1 := by kernel_rfl
@[simp] theorem zero67 : zeroA Tryz.prog 67 = some [.sc (.slice none 0 0)] := by kernel_rfl
@[simp] theorem bytes67 : bytesT Tryz.prog 67 = some 24 := by kernel_rfl
@[simp] theorem conc67 : Tryz.prog.concrete 67 = true := by kernel_rfl
@[simp] theorem elem67 : elemOfT Tryz.prog 67 = some (101, 1) := by kernel_rfl
@[simp] theorem slc67 : notIntT Tryz.prog 67 = true := by kernel_rfl
@[simp] theorem agg68 : isAggT Tryz.prog 68 = some false := by kernel_rfl
@[simp] theorem size68 : sizeT Tryz.prog 68 = some 1 := by kernel_rfl
@[simp] theorem zero68 : zeroA Tryz.prog 68 = some [.sc (.slice none 0 0)] := by kernel_rfl
@[simp] theorem bytes68 : bytesT Tryz.prog 68 = some 24 := by kernel_rfl
@[simp] theorem conc68 : Tryz.prog.concrete 68 = true := by kernel_rfl
@[simp] theorem elem68 : elemOfT Tryz.prog 68 = some (101, 1) := by kernel_rfl
@[simp] theorem slc68 : notIntT Tryz.prog 68 = true := by kernel_rfl
@[simp] theorem agg69 : isAggT Tryz.prog 69 = some true := by kernel_rfl
@[simp] theorem size69 : sizeT Tryz.prog 69 = some 7 := by kernel_rfl
@[simp] theorem zero69 : zeroA Tryz.prog 69 = some [.sc (.pointer none), .sc (.map none), .sc (.int .i64 0), .sc (.map none), .sc (.slice none 0 0), .sc (.int .i64 0), .sc (.map none)] := by kernel_rfl
@[simp] theorem bytes69 : bytesT Tryz.prog 69 = some 72 := by kernel_rfl
@[simp] theorem conc69 : Tryz.prog.concrete 69 = true := by kernel_rfl
@[simp] theorem places69 : placesT Tryz.prog 69 = some [(0, 1), (1, 1), (2, 1), (3, 1), (4, 1), (5, 1), (6, 1)] := by kernel_rfl
@[simp] theorem held69 : Tryz.prog.stoodInHeld 69 = false := by kernel_rfl
@[simp] theorem eqg69 : Tryz.prog.eqGuardType Tryz.prog.depth 69 = false := by kernel_rfl
@[simp] theorem fld69_0 (x : AV) : fieldAddrA Tryz.prog 69 x 0 = (match x with | .fp cs off => some (.fp cs (off + 0)) | .mp l g off => some (.mp l g (off + 0)) | _ => none) := by cases x <;> kernel_rfl
@[simp] theorem fld69_1 (x : AV) : fieldAddrA Tryz.prog 69 x 1 = (match x with | .fp cs off => some (.fp cs (off + 1)) | .mp l g off => some (.mp l g (off + 1)) | _ => none) := by cases x <;> kernel_rfl
@[simp] theorem fld69_2 (x : AV) : fieldAddrA Tryz.prog 69 x 2 = (match x with | .fp cs off => some (.fp cs (off + 2)) | .mp l g off => some (.mp l g (off + 2)) | _ => none) := by cases x <;> kernel_rfl
@[simp] theorem fld69_3 (x : AV) : fieldAddrA Tryz.prog 69 x 3 = (match x with | .fp cs off => some (.fp cs (off + 3)) | .mp l g off => some (.mp l g (off + 3)) | _ => none) := by cases x <;> kernel_rfl
@[simp] theorem fld69_4 (x : AV) : fieldAddrA Tryz.prog 69 x 4 = (match x with | .fp cs off => some (.fp cs (off + 4)) | .mp l g off => some (.mp l g (off + 4)) | _ => none) := by cases x <;> kernel_rfl
@[simp] theorem fld69_5 (x : AV) : fieldAddrA Tryz.prog 69 x 5 = (match x with | .fp cs off => some (.fp cs (off + 5)) | .mp l g off => some (.mp l g (off + 5)) | _ => none) := by cases x <;> kernel_rfl
@[simp] theorem fld69_6 (x : AV) : fieldAddrA Tryz.prog 69 x 6 = (match x with | .fp cs off => some (.fp cs (off + 6)) | .mp l g off => some (.mp l g (off + 6)) | _ => none) := by cases x <;> kernel_rfl
@[simp] theorem agg70 : isAggT Tryz.prog 70 = some true := by kernel_rfl
@[simp] theorem size70 : sizeT Tryz.prog 70 = some 7 := by kernel_rfl
@[simp] theorem zero70 : zeroA Tryz.prog 70 = some [.sc (.pointer none), .sc (.map none), .sc (.int .i64 0), .sc (.map none), .sc (.slice none 0 0), .sc (.int .i64 0), .sc (.map none)] := by kernel_rfl
@[simp] theorem bytes70 : bytesT Tryz.prog 70 = some 72 := by kernel_rfl
@[simp] theorem conc70 : Tryz.prog.concrete 70 = true := by kernel_rfl
@[simp] theorem places70 : placesT Tryz.prog 70 = some [(0, 1), (1, 1), (2, 1), (3, 1), (4, 1), (5, 1), (6, 1)] := by kernel_rfl
@[simp] theorem held70 : Tryz.prog.stoodInHeld 70 = false := by kernel_rfl
@[simp] theorem eqg70 : Tryz.prog.eqGuardType Tryz.prog.depth 70 = false := by kernel_rfl
@[simp] theorem fld70_0 (x : AV) : fieldAddrA Tryz.prog 70 x 0 = (match x with | .fp cs off => some (.fp cs (off + 0)) | .mp l g off => some (.mp l g (off + 0)) | _ => none) := by cases x <;> kernel_rfl
@[simp] theorem fld70_1 (x : AV) : fieldAddrA Tryz.prog 70 x 1 = (match x with | .fp cs off => some (.fp cs (off + 1)) | .mp l g off => some (.mp l g (off + 1)) | _ => none) := by cases x <;> kernel_rfl
@[simp] theorem fld70_2 (x : AV) : fieldAddrA Tryz.prog 70 x 2 = (match x with | .fp cs off => some (.fp cs (off + 2)) | .mp l g off => some (.mp l g (off + 2)) | _ => none) := by cases x <;> kernel_rfl
@[simp] theorem fld70_3 (x : AV) : fieldAddrA Tryz.prog 70 x 3 = (match x with | .fp cs off => some (.fp cs (off + 3)) | .mp l g off => some (.mp l g (off + 3)) | _ => none) := by cases x <;> kernel_rfl
@[simp] theorem fld70_4 (x : AV) : fieldAddrA Tryz.prog 70 x 4 = (match x with | .fp cs off => some (.fp cs (off + 4)) | .mp l g off => some (.mp l g (off + 4)) | _ => none) := by cases x <;> kernel_rfl
@[simp] theorem fld70_5 (x : AV) : fieldAddrA Tryz.prog 70 x 5 = (match x with | .fp cs off => some (.fp cs (off + 5)) | .mp l g off => some (.mp l g (off + 5)) | _ => none) := by cases x <;> kernel_rfl
@[simp] theorem fld70_6 (x : AV) : fieldAddrA Tryz.prog 70 x 6 = (match x with | .fp cs off => some (.fp cs (off + 6)) | .mp l g off => some (.mp l g (off + 6)) | _ => none) := by cases x <;> kernel_rfl
@[simp] theorem agg71 : isAggT Tryz.prog 71 = some false := by kernel_rfl
@[simp] theorem size71 : sizeT Tryz.prog 71 = some 1 := by kernel_rfl
@[simp] theorem zero71 : zeroA Tryz.prog 71 = some [.sc (.slice none 0 0)] := by kernel_rfl
@[simp] theorem bytes71 : bytesT Tryz.prog 71 = some 24 := by kernel_rfl
@[simp] theorem conc71 : Tryz.prog.concrete 71 = true := by kernel_rfl
@[simp] theorem elem71 : elemOfT Tryz.prog 71 = some (5, 1) := by kernel_rfl
@[simp] theorem slc71 : notIntT Tryz.prog 71 = true := by kernel_rfl
@[simp] theorem agg72 : isAggT Tryz.prog 72 = some false := by kernel_rfl
@[simp] theorem size72 : sizeT Tryz.prog 72 = some 1 := by kernel_rfl
@[simp] theorem zero72 : zeroA Tryz.prog 72 = some [.sc (.slice none 0 0)] := by kernel_rfl
@[simp] theorem bytes72 : bytesT Tryz.prog 72 = some 24 := by kernel_rfl
@[simp] theorem conc72 : Tryz.prog.concrete 72 = true := by kernel_rfl
@[simp] theorem elem72 : elemOfT Tryz.prog 72 = some (156, 2) := by kernel_rfl
@[simp] theorem slc72 : notIntT Tryz.prog 72 = true := by kernel_rfl
@[simp] theorem agg73 : isAggT Tryz.prog 73 = some false := by kernel_rfl
@[simp] theorem size73 : sizeT Tryz.prog 73 = some 1 := by kernel_rfl
@[simp] theorem zero73 : zeroA Tryz.prog 73 = some [.sc (.slice none 0 0)] := by kernel_rfl
@[simp] theorem bytes73 : bytesT Tryz.prog 73 = some 24 := by kernel_rfl
@[simp] theorem conc73 : Tryz.prog.concrete 73 = true := by kernel_rfl
@[simp] theorem elem73 : elemOfT Tryz.prog 73 = some (4, 1) := by kernel_rfl
@[simp] theorem slc73 : notIntT Tryz.prog 73 = true := by kernel_rfl
@[simp] theorem agg74 : isAggT Tryz.prog 74 = some true := by kernel_rfl
@[simp] theorem size74 : sizeT Tryz.prog 74 = some 3 := by kernel_rfl
@[simp] theorem zero74 : zeroA Tryz.prog 74 = some [.sc (.int .i64 0), .sc (.int .i64 0), .sc (.int .i64 0)] := by kernel_rfl
@[simp] theorem bytes74 : bytesT Tryz.prog 74 = some 24 := by kernel_rfl
@[simp] theorem conc74 : Tryz.prog.concrete 74 = true := by kernel_rfl
@[simp] theorem places74 : placesT Tryz.prog 74 = some [(0, 1), (1, 1), (2, 1)] := by kernel_rfl
@[simp] theorem held74 : Tryz.prog.stoodInHeld 74 = false := by kernel_rfl
@[simp] theorem eqg74 : Tryz.prog.eqGuardType Tryz.prog.depth 74 = false := by kernel_rfl
@[simp] theorem fld74_0 (x : AV) : fieldAddrA Tryz.prog 74 x 0 = (match x with | .fp cs off => some (.fp cs (off + 0)) | .mp l g off => some (.mp l g (off + 0)) | _ => none) := by cases x <;> kernel_rfl
@[simp] theorem fld74_1 (x : AV) : fieldAddrA Tryz.prog 74 x 1 = (match x with | .fp cs off => some (.fp cs (off + 1)) | .mp l g off => some (.mp l g (off + 1)) | _ => none) := by cases x <;> kernel_rfl
@[simp] theorem fld74_2 (x : AV) : fieldAddrA Tryz.prog 74 x 2 = (match x with | .fp cs off => some (.fp cs (off + 2)) | .mp l g off => some (.mp l g (off + 2)) | _ => none) := by cases x <;> kernel_rfl
@[simp] theorem agg75 : isAggT Tryz.prog 75 = some true := by kernel_rfl
@[simp] theorem size75 : sizeT Tryz.prog 75 = some 3 := by kernel_rfl
@[simp] theorem zero75 : zeroA Tryz.prog 75 = some [.sc (.int .i64 0), .sc (.int .i64 0), .sc (.int .i64 0)] := by kernel_rfl
@[simp] theorem bytes75 : bytesT Tryz.prog 75 = some 24 := by kernel_rfl
@[simp] theorem conc75 : Tryz.prog.concrete 75 = true := by kernel_rfl
@[simp] theorem places75 : placesT Tryz.prog 75 = some [(0, 1), (1, 1), (2, 1)] := by kernel_rfl
@[simp] theorem held75 : Tryz.prog.stoodInHeld 75 = false := by kernel_rfl
@[simp] theorem eqg75 : Tryz.prog.eqGuardType Tryz.prog.depth 75 = false := by kernel_rfl
@[simp] theorem fld75_0 (x : AV) : fieldAddrA Tryz.prog 75 x 0 = (match x with | .fp cs off => some (.fp cs (off + 0)) | .mp l g off => some (.mp l g (off + 0)) | _ => none) := by cases x <;> kernel_rfl
@[simp] theorem fld75_1 (x : AV) : fieldAddrA Tryz.prog 75 x 1 = (match x with | .fp cs off => some (.fp cs (off + 1)) | .mp l g off => some (.mp l g (off + 1)) | _ => none) := by cases x <;> kernel_rfl
@[simp] theorem fld75_2 (x : AV) : fieldAddrA Tryz.prog 75 x 2 = (match x with | .fp cs off => some (.fp cs (off + 2)) | .mp l g off => some (.mp l g (off + 2)) | _ => none) := by cases x <;> kernel_rfl
@[simp] theorem agg76 : isAggT Tryz.prog 76 = some true := by kernel_rfl
@[simp] theorem size76 : sizeT Tryz.prog 76 = some 8 := by kernel_rfl
@[simp] theorem zero76 : zeroA Tryz.prog 76 = some [.sc (.slice none 0 0), .sc (.slice none 0 0), .sc (.bool false), .sc (.int .i64 0), .sc (.slice none 0 0), .sc (.int .i64 0), .sc (.int .i64 0), .sc (.int .i64 0)] := by kernel_rfl
@[simp] theorem bytes76 : bytesT Tryz.prog 76 = some 112 := by kernel_rfl
@[simp] theorem conc76 : Tryz.prog.concrete 76 = true := by kernel_rfl
@[simp] theorem places76 : placesT Tryz.prog 76 = some [(0, 1), (1, 1), (2, 1), (3, 1), (4, 1), (5, 3)] := by kernel_rfl
@[simp] theorem held76 : Tryz.prog.stoodInHeld 76 = false := by kernel_rfl
@[simp] theorem eqg76 : Tryz.prog.eqGuardType Tryz.prog.depth 76 = false := by kernel_rfl
@[simp] theorem fld76_0 (x : AV) : fieldAddrA Tryz.prog 76 x 0 = (match x with | .fp cs off => some (.fp cs (off + 0)) | .mp l g off => some (.mp l g (off + 0)) | _ => none) := by cases x <;> kernel_rfl
@[simp] theorem fld76_1 (x : AV) : fieldAddrA Tryz.prog 76 x 1 = (match x with | .fp cs off => some (.fp cs (off + 1)) | .mp l g off => some (.mp l g (off + 1)) | _ => none) := by cases x <;> kernel_rfl
@[simp] theorem fld76_2 (x : AV) : fieldAddrA Tryz.prog 76 x 2 = (match x with | .fp cs off => some (.fp cs (off + 2)) | .mp l g off => some (.mp l g (off + 2)) | _ => none) := by cases x <;> kernel_rfl
@[simp] theorem fld76_3 (x : AV) : fieldAddrA Tryz.prog 76 x 3 = (match x with | .fp cs off => some (.fp cs (off + 3)) | .mp l g off => some (.mp l g (off + 3)) | _ => none) := by cases x <;> kernel_rfl
@[simp] theorem fld76_4 (x : AV) : fieldAddrA Tryz.prog 76 x 4 = (match x with | .fp cs off => some (.fp cs (off + 4)) | .mp l g off => some (.mp l g (off + 4)) | _ => none) := by cases x <;> kernel_rfl
@[simp] theorem fld76_5 (x : AV) : fieldAddrA Tryz.prog 76 x 5 = (match x with | .fp cs off => some (.fp cs (off + 5)) | .mp l g off => some (.mp l g (off + 5)) | _ => none) := by cases x <;> kernel_rfl
@[simp] theorem agg77 : isAggT Tryz.prog 77 = some true := by kernel_rfl
@[simp] theorem size77 : sizeT Tryz.prog 77 = some 8 := by kernel_rfl
@[simp] theorem zero77 : zeroA Tryz.prog 77 = some [.sc (.slice none 0 0), .sc (.slice none 0 0), .sc (.bool false), .sc (.int .i64 0), .sc (.slice none 0 0), .sc (.int .i64 0), .sc (.int .i64 0), .sc (.int .i64 0)] := by kernel_rfl
@[simp] theorem bytes77 : bytesT Tryz.prog 77 = some 112 := by kernel_rfl
@[simp] theorem conc77 : Tryz.prog.concrete 77 = true := by kernel_rfl
@[simp] theorem places77 : placesT Tryz.prog 77 = some [(0, 1), (1, 1), (2, 1), (3, 1), (4, 1), (5, 3)] := by kernel_rfl
@[simp] theorem held77 : Tryz.prog.stoodInHeld 77 = false := by kernel_rfl
@[simp] theorem eqg77 : Tryz.prog.eqGuardType Tryz.prog.depth 77 = false := by kernel_rfl
@[simp] theorem fld77_0 (x : AV) : fieldAddrA Tryz.prog 77 x 0 = (match x with | .fp cs off => some (.fp cs (off + 0)) | .mp l g off => some (.mp l g (off + 0)) | _ => none) := by cases x <;> kernel_rfl
@[simp] theorem fld77_1 (x : AV) : fieldAddrA Tryz.prog 77 x 1 = (match x with | .fp cs off => some (.fp cs (off + 1)) | .mp l g off => some (.mp l g (off + 1)) | _ => none) := by cases x <;> kernel_rfl
@[simp] theorem fld77_2 (x : AV) : fieldAddrA Tryz.prog 77 x 2 = (match x with | .fp cs off => some (.fp cs (off + 2)) | .mp l g off => some (.mp l g (off + 2)) | _ => none) := by cases x <;> kernel_rfl
@[simp] theorem fld77_3 (x : AV) : fieldAddrA Tryz.prog 77 x 3 = (match x with | .fp cs off => some (.fp cs (off + 3)) | .mp l g off => some (.mp l g (off + 3)) | _ => none) := by cases x <;> kernel_rfl
@[simp] theorem fld77_4 (x : AV) : fieldAddrA Tryz.prog 77 x 4 = (match x with | .fp cs off => some (.fp cs (off + 4)) | .mp l g off => some (.mp l g (off + 4)) | _ => none) := by cases x <;> kernel_rfl
@[simp] theorem fld77_5 (x : AV) : fieldAddrA Tryz.prog 77 x 5 = (match x with | .fp cs off => some (.fp cs (off + 5)) | .mp l g off => some (.mp l g (off + 5)) | _ => none) := by cases x <;> kernel_rfl
@[simp] theorem agg79 : isAggT Tryz.prog 79 = some false := by kernel_rfl
@[simp] theorem size79 : sizeT Tryz.prog 79 = some 1 := by kernel_rfl
@[simp] theorem zero79 : zeroA Tryz.prog 79 = some [.sc .nilFunc] := by kernel_rfl
@[simp] theorem bytes79 : bytesT Tryz.prog 79 = some 8 := by kernel_rfl
@[simp] theorem conc79 : Tryz.prog.concrete 79 = true := by kernel_rfl
@[simp] theorem agg80 : isAggT Tryz.prog 80 = some false := by kernel_rfl
@[simp] theorem size80 : sizeT Tryz.prog 80 = some 1 := by kernel_rfl
@[simp] theorem zero80 : zeroA Tryz.prog 80 = some [.sc (.slice none 0 0)] := by kernel_rfl
@[simp] theorem bytes80 : bytesT Tryz.prog 80 = some 24 := by kernel_rfl
@[simp] theorem conc80 : Tryz.prog.concrete 80 = true := by kernel_rfl
@[simp] theorem elem80 : elemOfT Tryz.prog 80 = some (3, 1) := by kernel_rfl
@[simp] theorem slc80 : notIntT Tryz.prog 80 = true := by kernel_rfl
@[simp] theorem agg81 : isAggT Tryz.prog 81 = some false := by kernel_rfl
@[simp] theorem size81 : sizeT Tryz.prog 81 = some 1 := by kernel_rfl
@[simp] theorem zero81 : zeroA Tryz.prog 81 = some [.sc (.slice none 0 0)] := by kernel_rfl
@[simp] theorem bytes81 : bytesT Tryz.prog 81 = some 24 := by kernel_rfl
@[simp] theorem conc81 : Tryz.prog.concrete 81 = true := by kernel_rfl
@[simp] theorem elem81 : elemOfT Tryz.prog 81 = some (9, 1) := by kernel_rfl
@[simp] theorem slc81 : notIntT Tryz.prog 81 = true := by kernel_rfl
@[simp] theorem agg82 : isAggT Tryz.prog 82 = some true := by kernel_rfl
@[simp] theorem size82 : sizeT Tryz.prog 82 = some 2 := by kernel_rfl
@[simp] theorem zero82 : zeroA Tryz.prog 82 = some [.sc (.slice none 0 0), .sc (.slice none 0 0)] := by kernel_rfl
@[simp] theorem bytes82 : bytesT Tryz.prog 82 = some 48 := by kernel_rfl
@[simp] theorem conc82 : Tryz.prog.concrete 82 = true := by kernel_rfl
@[simp] theorem places82 : placesT Tryz.prog 82 = some [(0, 1), (1, 1)] := by kernel_rfl
@[simp] theorem held82 : Tryz.prog.stoodInHeld 82 = false := by kernel_rfl
@[simp] theorem eqg82 : Tryz.prog.eqGuardType Tryz.prog.depth 82 = false := by kernel_rfl
@[simp] theorem fld82_0 (x : AV) : fieldAddrA Tryz.prog 82 x 0 = (match x with | .fp cs off => some (.fp cs (off + 0)) | .mp l g off => some (.mp l g (off + 0)) | _ => none) := by cases x <;> kernel_rfl
@[simp] theorem fld82_1 (x : AV) : fieldAddrA Tryz.prog 82 x 1 = (match x with | .fp cs off => some (.fp cs (off + 1)) | .mp l g off => some (.mp l g (off + 1)) | _ => none) := by cases x <;> kernel_rfl
@[simp] theorem agg83 : isAggT Tryz.prog 83 = some true := by kernel_rfl
@[simp] theorem size83 : sizeT Tryz.prog 83 = some 2 := by kernel_rfl
@[simp] theorem zero83 : zeroA Tryz.prog 83 = some [.sc (.slice none 0 0), .sc (.slice none 0 0)] := by kernel_rfl
@[simp] theorem bytes83 : bytesT Tryz.prog 83 = some 48 := by kernel_rfl
@[simp] theorem conc83 : Tryz.prog.concrete 83 = true := by kernel_rfl
@[simp] theorem places83 : placesT Tryz.prog 83 = some [(0, 1), (1, 1)] := by kernel_rfl
@[simp] theorem held83 : Tryz.prog.stoodInHeld 83 = false := by kernel_rfl
@[simp] theorem eqg83 : Tryz.prog.eqGuardType Tryz.prog.depth 83 = false := by kernel_rfl
@[simp] theorem fld83_0 (x : AV) : fieldAddrA Tryz.prog 83 x 0 = (match x with | .fp cs off => some (.fp cs (off + 0)) | .mp l g off => some (.mp l g (off + 0)) | _ => none) := by cases x <;> kernel_rfl
@[simp] theorem fld83_1 (x : AV) : fieldAddrA Tryz.prog 83 x 1 = (match x with | .fp cs off => some (.fp cs (off + 1)) | .mp l g off => some (.mp l g (off + 1)) | _ => none) := by cases x <;> kernel_rfl
@[simp] theorem agg84 : isAggT Tryz.prog 84 = some false := by kernel_rfl
@[simp] theorem size84 : sizeT Tryz.prog 84 = some 1 := by kernel_rfl
@[simp] theorem zero84 : zeroA Tryz.prog 84 = some [.sc .nilFunc] := by kernel_rfl
@[simp] theorem bytes84 : bytesT Tryz.prog 84 = some 8 := by kernel_rfl
@[simp] theorem conc84 : Tryz.prog.concrete 84 = true := by kernel_rfl
@[simp] theorem agg85 : isAggT Tryz.prog 85 = some false := by kernel_rfl
@[simp] theorem size85 : sizeT Tryz.prog 85 = some 1 := by kernel_rfl
@[simp] theorem zero85 : zeroA Tryz.prog 85 = some [.sc .nilFunc] := by kernel_rfl
@[simp] theorem bytes85 : bytesT Tryz.prog 85 = some 8 := by kernel_rfl
@[simp] theorem conc85 : Tryz.prog.concrete 85 = true := by kernel_rfl
@[simp] theorem agg86 : isAggT Tryz.prog 86 = some false := by kernel_rfl
@[simp] theorem size86 : sizeT Tryz.prog 86 = some 1 := by kernel_rfl
@[simp] theorem zero86 : zeroA Tryz.prog 86 = some [.sc .nilFunc] := by kernel_rfl
@[simp] theorem bytes86 : bytesT Tryz.prog 86 = some 8 := by kernel_rfl
@[simp] theorem conc86 : Tryz.prog.concrete 86 = true := by kernel_rfl
@[simp] theorem agg87 : isAggT Tryz.prog 87 = some false := by kernel_rfl
@[simp] theorem size87 : sizeT Tryz.prog 87 = some 1 := by kernel_rfl
@[simp] theorem zero87 : zeroA Tryz.prog 87 = some [.sc (.slice none 0 0)] := by kernel_rfl
@[simp] theorem bytes87 : bytesT Tryz.prog 87 = some 24 := by kernel_rfl
@[simp] theorem conc87 : Tryz.prog.concrete 87 = true := by kernel_rfl
@[simp] theorem elem87 : elemOfT Tryz.prog 87 = some (45, 1) := by kernel_rfl
@[simp] theorem slc87 : notIntT Tryz.prog 87 = true := by kernel_rfl
@[simp] theorem agg88 : isAggT Tryz.prog 88 = some false := by kernel_rfl
@[simp] theorem size88 : sizeT Tryz.prog 88 = some 1 := by kernel_rfl
@[simp] theorem zero88 : zeroA Tryz.prog 88 = some [.sc (.slice none 0 0)] := by kernel_rfl
@[simp] theorem bytes88 : bytesT Tryz.prog 88 = some 24 := by kernel_rfl
@[simp] theorem conc88 : Tryz.prog.concrete 88 = true := by kernel_rfl
@[simp] theorem elem88 : elemOfT Tryz.prog 88 = some (194, 3) := by kernel_rfl
@[simp] theorem slc88 : notIntT Tryz.prog 88 = true := by kernel_rfl
@[simp] theorem agg89 : isAggT Tryz.prog 89 = some true := by kernel_rfl
@[simp] theorem size89 : sizeT Tryz.prog 89 = some 5 := by kernel_rfl
@[simp] theorem zero89 : zeroA Tryz.prog 89 = some [.sc (.bool false), .sc (.slice none 0 0), .sc (.slice none 0 0), .sc (.slice none 0 0), .sc (.slice none 0 0)] := by kernel_rfl
@[simp] theorem bytes89 : bytesT Tryz.prog 89 = some 104 := by kernel_rfl
@[simp] theorem conc89 : Tryz.prog.concrete 89 = true := by kernel_rfl
@[simp] theorem places89 : placesT Tryz.prog 89 = some [(0, 1), (1, 1), (2, 1), (3, 1), (4, 1)] := by kernel_rfl
@[simp] theorem held89 : Tryz.prog.stoodInHeld 89 = false := by kernel_rfl
@[simp] theorem eqg89 : Tryz.prog.eqGuardType Tryz.prog.depth 89 = false := by kernel_rfl
@[simp] theorem fld89_0 (x : AV) : fieldAddrA Tryz.prog 89 x 0 = (match x with | .fp cs off => some (.fp cs (off + 0)) | .mp l g off => some (.mp l g (off + 0)) | _ => none) := by cases x <;> kernel_rfl
@[simp] theorem fld89_1 (x : AV) : fieldAddrA Tryz.prog 89 x 1 = (match x with | .fp cs off => some (.fp cs (off + 1)) | .mp l g off => some (.mp l g (off + 1)) | _ => none) := by cases x <;> kernel_rfl
@[simp] theorem fld89_2 (x : AV) : fieldAddrA Tryz.prog 89 x 2 = (match x with | .fp cs off => some (.fp cs (off + 2)) | .mp l g off => some (.mp l g (off + 2)) | _ => none) := by cases x <;> kernel_rfl
@[simp] theorem fld89_3 (x : AV) : fieldAddrA Tryz.prog 89 x 3 = (match x with | .fp cs off => some (.fp cs (off + 3)) | .mp l g off => some (.mp l g (off + 3)) | _ => none) := by cases x <;> kernel_rfl
@[simp] theorem fld89_4 (x : AV) : fieldAddrA Tryz.prog 89 x 4 = (match x with | .fp cs off => some (.fp cs (off + 4)) | .mp l g off => some (.mp l g (off + 4)) | _ => none) := by cases x <;> kernel_rfl
@[simp] theorem agg90 : isAggT Tryz.prog 90 = some true := by kernel_rfl
@[simp] theorem size90 : sizeT Tryz.prog 90 = some 5 := by kernel_rfl
@[simp] theorem zero90 : zeroA Tryz.prog 90 = some [.sc (.bool false), .sc (.slice none 0 0), .sc (.slice none 0 0), .sc (.slice none 0 0), .sc (.slice none 0 0)] := by kernel_rfl
@[simp] theorem bytes90 : bytesT Tryz.prog 90 = some 104 := by kernel_rfl
@[simp] theorem conc90 : Tryz.prog.concrete 90 = true := by kernel_rfl
@[simp] theorem places90 : placesT Tryz.prog 90 = some [(0, 1), (1, 1), (2, 1), (3, 1), (4, 1)] := by kernel_rfl
@[simp] theorem held90 : Tryz.prog.stoodInHeld 90 = false := by kernel_rfl
@[simp] theorem eqg90 : Tryz.prog.eqGuardType Tryz.prog.depth 90 = false := by kernel_rfl
@[simp] theorem fld90_0 (x : AV) : fieldAddrA Tryz.prog 90 x 0 = (match x with | .fp cs off => some (.fp cs (off + 0)) | .mp l g off => some (.mp l g (off + 0)) | _ => none) := by cases x <;> kernel_rfl
@[simp] theorem fld90_1 (x : AV) : fieldAddrA Tryz.prog 90 x 1 = (match x with | .fp cs off => some (.fp cs (off + 1)) | .mp l g off => some (.mp l g (off + 1)) | _ => none) := by cases x <;> kernel_rfl
@[simp] theorem fld90_2 (x : AV) : fieldAddrA Tryz.prog 90 x 2 = (match x with | .fp cs off => some (.fp cs (off + 2)) | .mp l g off => some (.mp l g (off + 2)) | _ => none) := by cases x <;> kernel_rfl
@[simp] theorem fld90_3 (x : AV) : fieldAddrA Tryz.prog 90 x 3 = (match x with | .fp cs off => some (.fp cs (off + 3)) | .mp l g off => some (.mp l g (off + 3)) | _ => none) := by cases x <;> kernel_rfl
@[simp] theorem fld90_4 (x : AV) : fieldAddrA Tryz.prog 90 x 4 = (match x with | .fp cs off => some (.fp cs (off + 4)) | .mp l g off => some (.mp l g (off + 4)) | _ => none) := by cases x <;> kernel_rfl
@[simp] theorem agg91 : isAggT Tryz.prog 91 = some false := by kernel_rfl
@[simp] theorem size91 : sizeT Tryz.prog 91 = some 1 := by kernel_rfl
@[simp] theorem zero91 : zeroA Tryz.prog 91 = some [.sc .nilFunc] := by kernel_rfl
@[simp] theorem bytes91 : bytesT Tryz.prog 91 = some 8 := by kernel_rfl
@[simp] theorem conc91 : Tryz.prog.concrete 91 = true := by kernel_rfl
@[simp] theorem agg92 : isAggT Tryz.prog 92 = some false := by kernel_rfl
@[simp] theorem size92 : sizeT Tryz.prog 92 = some 1 := by kernel_rfl
@[simp] theorem zero92 : zeroA Tryz.prog 92 = some [.sc .nilFunc] := by kernel_rfl
@[simp] theorem bytes92 : bytesT Tryz.prog 92 = some 8 := by kernel_rfl
@[simp] theorem conc92 : Tryz.prog.concrete 92 = true := by kernel_rfl
@[simp] theorem agg93 : isAggT Tryz.prog 93 = some false := by kernel_rfl
@[simp] theorem size93 : sizeT Tryz.prog 93 = some 1 := by kernel_rfl
@[simp] theorem zero93 : zeroA Tryz.prog 93 = some [.sc (.pointer none)] := by kernel_rfl
@[simp] theorem bytes93 : bytesT Tryz.prog 93 = some 8 := by kernel_rfl
@[simp] theorem conc93 : Tryz.prog.concrete 93 = true := by kernel_rfl
@[simp] theorem agg94 : isAggT Tryz.prog 94 = some false := by kernel_rfl
@[simp] theorem size94 : sizeT Tryz.prog 94 = some 1 := by kernel_rfl
@[simp] theorem zero94 : zeroA Tryz.prog 94 = some [.sc (.pointer none)] := by kernel_rfl
@[simp] theorem bytes94 : bytesT Tryz.prog 94 = some 8 := by kernel_rfl
@[simp] theorem conc94 : Tryz.prog.concrete 94 = true := by kernel_rfl
@[simp] theorem agg95 : isAggT Tryz.prog 95 = some false := by kernel_rfl
@[simp] theorem size95 : sizeT Tryz.prog 95 = some 1 := by kernel_rfl
@[simp] theorem zero95 : zeroA Tryz.prog 95 = some [.sc .nilFunc] := by kernel_rfl
@[simp] theorem bytes95 : bytesT Tryz.prog 95 = some 8 := by kernel_rfl
@[simp] theorem conc95 : Tryz.prog.concrete 95 = true := by kernel_rfl
@[simp] theorem agg96 : isAggT Tryz.prog 96 = some false := by kernel_rfl
@[simp] theorem size96 : sizeT Tryz.prog 96 = some 1 := by kernel_rfl
@[simp] theorem zero96 : zeroA Tryz.prog 96 = some [.sc .nilFunc] := by kernel_rfl
@[simp] theorem bytes96 : bytesT Tryz.prog 96 = some 8 := by kernel_rfl
@[simp] theorem conc96 : Tryz.prog.concrete 96 = true := by kernel_rfl
@[simp] theorem agg97 : isAggT Tryz.prog 97 = some false := by kernel_rfl
@[simp] theorem size97 : sizeT Tryz.prog 97 = some 1 := by kernel_rfl
@[simp] theorem zero97 : zeroA Tryz.prog 97 = some [.sc .nilFunc] := by kernel_rfl
@[simp] theorem bytes97 : bytesT Tryz.prog 97 = some 8 := by kernel_rfl
@[simp] theorem conc97 : Tryz.prog.concrete 97 = true := by kernel_rfl
@[simp] theorem agg98 : isAggT Tryz.prog 98 = some false := by kernel_rfl
@[simp] theorem size98 : sizeT Tryz.prog 98 = some 1 := by kernel_rfl
@[simp] theorem zero98 : zeroA Tryz.prog 98 = some [.sc .nilFunc] := by kernel_rfl
@[simp] theorem bytes98 : bytesT Tryz.prog 98 = some 8 := by kernel_rfl
@[simp] theorem conc98 : Tryz.prog.concrete 98 = true := by kernel_rfl
@[simp] theorem agg99 : isAggT Tryz.prog 99 = some false := by kernel_rfl
@[simp] theorem size99 : sizeT Tryz.prog 99 = some 1 := by kernel_rfl
@[simp] theorem zero99 : zeroA Tryz.prog 99 = some [.sc .nilFunc] := by kernel_rfl
@[simp] theorem bytes99 : bytesT Tryz.prog 99 = some 8 := by kernel_rfl
@[simp] theorem conc99 : Tryz.prog.concrete 99 = true := by kernel_rfl
@[simp] theorem agg100 : isAggT Tryz.prog 100 = some false := by kernel_rfl
@[simp] theorem size100 : sizeT Tryz.prog 100 = some 1 := by kernel_rfl
@[simp] theorem zero100 : zeroA Tryz.prog 100 = some [.sc .nilFunc] := by kernel_rfl
@[simp] theorem bytes100 : bytesT Tryz.prog 100 = some 8 := by kernel_rfl
@[simp] theorem conc100 : Tryz.prog.concrete 100 = true := by kernel_rfl
@[simp] theorem agg101 : isAggT Tryz.prog 101 = some false := by kernel_rfl
@[simp] theorem size101 : sizeT Tryz.prog 101 = some 1 := by kernel_rfl
@[simp] theorem zero101 : zeroA Tryz.prog 101 = some [.sc (.pointer none)] := by kernel_rfl
@[simp] theorem bytes101 : bytesT Tryz.prog 101 = some 8 := by kernel_rfl
@[simp] theorem conc101 : Tryz.prog.concrete 101 = true := by kernel_rfl
@[simp] theorem agg103 : isAggT Tryz.prog 103 = some false := by kernel_rfl
@[simp] theorem size103 : sizeT Tryz.prog 103 = some 1 := by kernel_rfl
@[simp] theorem zero103 : zeroA Tryz.prog 103 = some [.sc .nilFunc] := by kernel_rfl
@[simp] theorem bytes103 : bytesT Tryz.prog 103 = some 8 := by kernel_rfl
@[simp] theorem conc103 : Tryz.prog.concrete 103 = true := by kernel_rfl
@[simp] theorem agg104 : isAggT Tryz.prog 104 = some true := by kernel_rfl
@[simp] theorem size104 : sizeT Tryz.prog 104 = some 4 := by kernel_rfl
@[simp] theorem zero104 : zeroA Tryz.prog 104 = some [.sc (.int .i64 0), .sc (.pointer none), .sc (.int .i64 0), .sc (.int .i64 0)] := by kernel_rfl
@[simp] theorem bytes104 : bytesT Tryz.prog 104 = some 32 := by kernel_rfl
@[simp] theorem conc104 : Tryz.prog.concrete 104 = true := by kernel_rfl
@[simp] theorem places104 : placesT Tryz.prog 104 = some [(0, 1), (1, 1), (2, 1), (3, 1)] := by kernel_rfl
@[simp] theorem held104 : Tryz.prog.stoodInHeld 104 = false := by kernel_rfl
@[simp] theorem eqg104 : Tryz.prog.eqGuardType Tryz.prog.depth 104 = false := by kernel_rfl
@[simp] theorem fld104_0 (x : AV) : fieldAddrA Tryz.prog 104 x 0 = (match x with | .fp cs off => some (.fp cs (off + 0)) | .mp l g off => some (.mp l g (off + 0)) | _ => none) := by cases x <;> kernel_rfl
@[simp] theorem fld104_1 (x : AV) : fieldAddrA Tryz.prog 104 x 1 = (match x with | .fp cs off => some (.fp cs (off + 1)) | .mp l g off => some (.mp l g (off + 1)) | _ => none) := by cases x <;> kernel_rfl
@[simp] theorem fld104_2 (x : AV) : fieldAddrA Tryz.prog 104 x 2 = (match x with | .fp cs off => some (.fp cs (off + 2)) | .mp l g off => some (.mp l g (off + 2)) | _ => none) := by cases x <;> kernel_rfl
@[simp] theorem fld104_3 (x : AV) : fieldAddrA Tryz.prog 104 x 3 = (match x with | .fp cs off => some (.fp cs (off + 3)) | .mp l g off => some (.mp l g (off + 3)) | _ => none) := by cases x <;> kernel_rfl
@[simp] theorem agg105 : isAggT Tryz.prog 105 = some true := by kernel_rfl
@[simp] theorem size105 : sizeT Tryz.prog 105 = some 4 := by kernel_rfl
@[simp] theorem zero105 : zeroA Tryz.prog 105 = some [.sc (.int .i64 0), .sc (.pointer none), .sc (.int .i64 0), .sc (.int .i64 0)] := by kernel_rfl
@[simp] theorem bytes105 : bytesT Tryz.prog 105 = some 32 := by kernel_rfl
@[simp] theorem conc105 : Tryz.prog.concrete 105 = true := by kernel_rfl
@[simp] theorem places105 : placesT Tryz.prog 105 = some [(0, 1), (1, 1), (2, 1), (3, 1)] := by kernel_rfl
@[simp] theorem held105 : Tryz.prog.stoodInHeld 105 = false := by kernel_rfl
@[simp] theorem eqg105 : Tryz.prog.eqGuardType Tryz.prog.depth 105 = false := by kernel_rfl
@[simp] theorem fld105_0 (x : AV) : fieldAddrA Tryz.prog 105 x 0 = (match x with | .fp cs off => some (.fp cs (off + 0)) | .mp l g off => some (.mp l g (off + 0)) | _ => none) := by cases x <;> kernel_rfl
@[simp] theorem fld105_1 (x : AV) : fieldAddrA Tryz.prog 105 x 1 = (match x with | .fp cs off => some (.fp cs (off + 1)) | .mp l g off => some (.mp l g (off + 1)) | _ => none) := by cases x <;> kernel_rfl
@[simp] theorem fld105_2 (x : AV) : fieldAddrA Tryz.prog 105 x 2 = (match x with | .fp cs off => some (.fp cs (off + 2)) | .mp l g off => some (.mp l g (off + 2)) | _ => none) := by cases x <;> kernel_rfl
@[simp] theorem fld105_3 (x : AV) : fieldAddrA Tryz.prog 105 x 3 = (match x with | .fp cs off => some (.fp cs (off + 3)) | .mp l g off => some (.mp l g (off + 3)) | _ => none) := by cases x <;> kernel_rfl
@[simp] theorem agg106 : isAggT Tryz.prog 106 = some true := by kernel_rfl
@[simp] theorem size106 : sizeT Tryz.prog 106 = some 2 := by kernel_rfl
@[simp] theorem zero106 : zeroA Tryz.prog 106 = some [.sc (.pointer none), .sc (.pointer none)] := by kernel_rfl
@[simp] theorem bytes106 : bytesT Tryz.prog 106 = some 16 := by kernel_rfl
@[simp] theorem conc106 : Tryz.prog.concrete 106 = true := by kernel_rfl
@[simp] theorem places106 : placesT Tryz.prog 106 = some [(0, 1), (1, 1)] := by kernel_rfl
@[simp] theorem held106 : Tryz.prog.stoodInHeld 106 = false := by kernel_rfl
@[simp] theorem eqg106 : Tryz.prog.eqGuardType Tryz.prog.depth 106 = false := by kernel_rfl
@[simp] theorem fld106_0 (x : AV) : fieldAddrA Tryz.prog 106 x 0 = (match x with | .fp cs off => some (.fp cs (off + 0)) | .mp l g off => some (.mp l g (off + 0)) | _ => none) := by cases x <;> kernel_rfl
@[simp] theorem fld106_1 (x : AV) : fieldAddrA Tryz.prog 106 x 1 = (match x with | .fp cs off => some (.fp cs (off + 1)) | .mp l g off => some (.mp l g (off + 1)) | _ => none) := by cases x <;> kernel_rfl
@[simp] theorem agg107 : isAggT Tryz.prog 107 = some true := by kernel_rfl
@[simp] theorem size107 : sizeT Tryz.prog 107 = some 2 := by kernel_rfl
@[simp] theorem zero107 : zeroA Tryz.prog 107 = some [.sc (.pointer none), .sc (.pointer none)] := by kernel_rfl
@[simp] theorem bytes107 : bytesT Tryz.prog 107 = some 16 := by kernel_rfl
@[simp] theorem conc107 : Tryz.prog.concrete 107 = true := by kernel_rfl
@[simp] theorem places107 : placesT Tryz.prog 107 = some [(0, 1), (1, 1)] := by kernel_rfl
@[simp] theorem held107 : Tryz.prog.stoodInHeld 107 = false := by kernel_rfl
@[simp] theorem eqg107 : Tryz.prog.eqGuardType Tryz.prog.depth 107 = false := by kernel_rfl
@[simp] theorem fld107_0 (x : AV) : fieldAddrA Tryz.prog 107 x 0 = (match x with | .fp cs off => some (.fp cs (off + 0)) | .mp l g off => some (.mp l g (off + 0)) | _ => none) := by cases x <;> kernel_rfl
@[simp] theorem fld107_1 (x : AV) : fieldAddrA Tryz.prog 107 x 1 = (match x with | .fp cs off => some (.fp cs (off + 1)) | .mp l g off => some (.mp l g (off + 1)) | _ => none) := by cases x <;> kernel_rfl
@[simp] theorem agg108 : isAggT Tryz.prog 108 = some false := by kernel_rfl
@[simp] theorem size108 : sizeT Tryz.prog 108 = some 1 := by kernel_rfl
@[simp] theorem zero108 : zeroA Tryz.prog 108 = some [.sc .nilFunc] := by kernel_rfl
@[simp] theorem bytes108 : bytesT Tryz.prog 108 = some 8 := by kernel_rfl
@[simp] theorem conc108 : Tryz.prog.concrete 108 = true := by kernel_rfl
@[simp] theorem agg109 : isAggT Tryz.prog 109 = some false := by kernel_rfl
@[simp] theorem size109 : sizeT Tryz.prog 109 = some 1 := by kernel_rfl
@[simp] theorem zero109 : zeroA Tryz.prog 109 = some [.sc .nilFunc] := by kernel_rfl
@[simp] theorem bytes109 : bytesT Tryz.prog 109 = some 8 := by kernel_rfl
@[simp] theorem conc109 : Tryz.prog.concrete 109 = true := by kernel_rfl
@[simp] theorem agg110 : isAggT Tryz.prog 110 = some false := by kernel_rfl
@[simp] theorem size110 : sizeT Tryz.prog 110 = some 1 := by kernel_rfl
@[simp] theorem zero110 : zeroA Tryz.prog 110 = some [.sc .nilFunc] := by kernel_rfl
@[simp] theorem bytes110 : bytesT Tryz.prog 110 = some 8 := by kernel_rfl
@[simp] theorem conc110 : Tryz.prog.concrete 110 = true := by kernel_rfl
@[simp] theorem agg111 : isAggT Tryz.prog 111 = some false := by kernel_rfl
@[simp] theorem size111 : sizeT Tryz.prog 111 = some 1 := by kernel_rfl
@[simp] theorem zero111 : zeroA Tryz.prog 111 = some [.sc .nilFunc] := by kernel_rfl
@[simp] theorem bytes111 : bytesT Tryz.prog 111 = some 8 := by kernel_rfl
@[simp] theorem conc111 : Tryz.prog.concrete 111 = true := by kernel_rfl
@[simp] theorem agg112 : isAggT Tryz.prog 112 = some false := by kernel_rfl
@[simp] theorem size112 : sizeT Tryz.prog 112 = some 1 := by kernel_rfl
@[simp] theorem zero112 : zeroA Tryz.prog 112 = some [.sc .nilFunc] := by kernel_rfl
@[simp] theorem bytes112 : bytesT Tryz.prog 112 = some 8 := by kernel_rfl
@[simp] theorem conc112 : Tryz.prog.concrete 112 = true := by kernel_rfl
@[simp] theorem agg113 : isAggT Tryz.prog 113 = some false := by kernel_rfl
@[simp] theorem size113 : sizeT Tryz.prog 113 = some 1 := by kernel_rfl
@[simp] theorem zero113 : zeroA Tryz.prog 113 = some [.sc .nilFunc] := by kernel_rfl
@[simp] theorem bytes113 : bytesT Tryz.prog 113 = some 8 := by kernel_rfl
@[simp] theorem conc113 : Tryz.prog.concrete 113 = true := by kernel_rfl
@[simp] theorem agg114 : isAggT Tryz.prog 114 = some false := by kernel_rfl
@[simp] theorem size114 : sizeT Tryz.prog 114 = some 1 := by kernel_rfl
@[simp] theorem zero114 : zeroA Tryz.prog 114 = some [.sc .nilFunc] := by kernel_rfl
@[simp] theorem bytes114 : bytesT Tryz.prog 114 = some 8 := by kernel_rfl
@[simp] theorem conc114 : Tryz.prog.concrete 114 = true := by kernel_rfl
@[simp] theorem agg115 : isAggT Tryz.prog 115 = some false := by kernel_rfl
@[simp] theorem size115 : sizeT Tryz.prog 115 = some 1 := by kernel_rfl
@[simp] theorem zero115 : zeroA Tryz.prog 115 = some [.sc .nilFunc] := by kernel_rfl
@[simp] theorem bytes115 : bytesT Tryz.prog 115 = some 8 := by kernel_rfl
@[simp] theorem conc115 : Tryz.prog.concrete 115 = true := by kernel_rfl
@[simp] theorem agg116 : isAggT Tryz.prog 116 = some false := by kernel_rfl
@[simp] theorem size116 : sizeT Tryz.prog 116 = some 1 := by kernel_rfl
@[simp] theorem zero116 : zeroA Tryz.prog 116 = some [.sc .nilFunc] := by kernel_rfl
@[simp] theorem bytes116 : bytesT Tryz.prog 116 = some 8 := by kernel_rfl
@[simp] theorem conc116 : Tryz.prog.concrete 116 = true := by kernel_rfl
@[simp] theorem agg117 : isAggT Tryz.prog 117 = some false := by kernel_rfl
@[simp] theorem size117 : sizeT Tryz.prog 117 = some 1 := by kernel_rfl
@[simp] theorem zero117 : zeroA Tryz.prog 117 = some [.sc .nilFunc] := by kernel_rfl
@[simp] theorem bytes117 : bytesT Tryz.prog 117 = some 8 := by kernel_rfl
@[simp] theorem conc117 : Tryz.prog.concrete 117 = true := by kernel_rfl
@[simp] theorem agg118 : isAggT Tryz.prog 118 = some false := by kernel_rfl
@[simp] theorem size118 : sizeT Tryz.prog 118 = some 1 := by kernel_rfl
@[simp] theorem zero118 : zeroA Tryz.prog 118 = some [.sc .nilFunc] := by kernel_rfl
@[simp] theorem bytes118 : bytesT Tryz.prog 118 = some 8 := by kernel_rfl
@[simp] theorem conc118 : Tryz.prog.concrete 118 = true := by kernel_rfl
@[simp] theorem agg119 : isAggT Tryz.prog 119 = some false := by kernel_rfl
@[simp] theorem size119 : sizeT Tryz.prog 119 = some 1 := by kernel_rfl
@[simp] theorem zero119 : zeroA Tryz.prog 119 = some [.sc .nilFunc] := by kernel_rfl
@[simp] theorem bytes119 : bytesT Tryz.prog 119 = some 8 := by kernel_rfl
@[simp] theorem conc119 : Tryz.prog.concrete 119 = true := by kernel_rfl
@[simp] theorem agg120 : isAggT Tryz.prog 120 = some false := by kernel_rfl
@[simp] theorem size120 : sizeT Tryz.prog 120 = some 1 := by kernel_rfl
@[simp] theorem zero120 : zeroA Tryz.prog 120 = some [.sc .nilFunc] := by kernel_rfl
@[simp] theorem bytes120 : bytesT Tryz.prog 120 = some 8 := by kernel_rfl
@[simp] theorem conc120 : Tryz.prog.concrete 120 = true := by kernel_rfl
@[simp] theorem agg121 : isAggT Tryz.prog 121 = some false := by kernel_rfl
@[simp] theorem size121 : sizeT Tryz.prog 121 = some 1 := by kernel_rfl
@[simp] theorem zero121 : zeroA Tryz.prog 121 = some [.sc .nilFunc] := by kernel_rfl
@[simp] theorem bytes121 : bytesT Tryz.prog 121 = some 8 := by kernel_rfl
@[simp] theorem conc121 : Tryz.prog.concrete 121 = true := by kernel_rfl
@[simp] theorem agg122 : isAggT Tryz.prog 122 = some false := by kernel_rfl
@[simp] theorem size122 : sizeT Tryz.prog 122 = some 1 := by kernel_rfl
@[simp] theorem zero122 : zeroA Tryz.prog 122 = some [.sc .nilFunc] := by kernel_rfl
@[simp] theorem bytes122 : bytesT Tryz.prog 122 = some 8 := by kernel_rfl
@[simp] theorem conc122 : Tryz.prog.concrete 122 = true := by kernel_rfl
@[simp] theorem agg124 : isAggT Tryz.prog 124 = some false := by kernel_rfl
@[simp] theorem size124 : sizeT Tryz.prog 124 = some 1 := by kernel_rfl
@[simp] theorem zero124 : zeroA Tryz.prog 124 = some [.sc .nilFunc] := by kernel_rfl
@[simp] theorem bytes124 : bytesT Tryz.prog 124 = some 8 := by kernel_rfl
@[simp] theorem conc124 : Tryz.prog.concrete 124 = true := by kernel_rfl
@[simp] theorem agg125 : isAggT Tryz.prog 125 = some false := by kernel_rfl
@[simp] theorem size125 : sizeT Tryz.prog 125 = some 1 := by kernel_rfl
@[simp] theorem zero125 : zeroA Tryz.prog 125 = some [.sc .nilFunc] := by kernel_rfl
@[simp] theorem bytes125 : bytesT Tryz.prog 125 = some 8 := by kernel_rfl
@[simp] theorem conc125 : Tryz.prog.concrete 125 = true := by kernel_rfl
@[simp] theorem agg126 : isAggT Tryz.prog 126 = some true := by kernel_rfl
@[simp] theorem size126 : sizeT Tryz.prog 126 = some 3 := by kernel_rfl
@[simp] theorem zero126 : zeroA Tryz.prog 126 = some [.sc (.slice none 0 0), .sc (.slice none 0 0), .sc (.pointer none)] := by kernel_rfl
@[simp] theorem bytes126 : bytesT Tryz.prog 126 = some 56 := by kernel_rfl
@[simp] theorem conc126 : Tryz.prog.concrete 126 = true := by kernel_rfl
@[simp] theorem places126 : placesT Tryz.prog 126 = some [(0, 1), (1, 1), (2, 1)] := by kernel_rfl
@[simp] theorem held126 : Tryz.prog.stoodInHeld 126 = false := by kernel_rfl
@[simp] theorem eqg126 : Tryz.prog.eqGuardType Tryz.prog.depth 126 = false := by kernel_rfl
@[simp] theorem fld126_0 (x : AV) : fieldAddrA Tryz.prog 126 x 0 = (match x with | .fp cs off => some (.fp cs (off + 0)) | .mp l g off => some (.mp l g (off + 0)) | _ => none) := by cases x <;> kernel_rfl
@[simp] theorem fld126_1 (x : AV) : fieldAddrA Tryz.prog 126 x 1 = (match x with | .fp cs off => some (.fp cs (off + 1)) | .mp l g off => some (.mp l g (off + 1)) | _ => none) := by cases x <;> kernel_rfl
@[simp] theorem fld126_2 (x : AV) : fieldAddrA Tryz.prog 126 x 2 = (match x with | .fp cs off => some (.fp cs (off + 2)) | .mp l g off => some (.mp l g (off + 2)) | _ => none) := by cases x <;> kernel_rfl
@[simp] theorem agg127 : isAggT Tryz.prog 127 = some true := by kernel_rfl
@[simp] theorem size127 : sizeT Tryz.prog 127 = some 3 := by kernel_rfl
@[simp] theorem zero127 : zeroA Tryz.prog 127 = some [.sc (.slice none 0 0), .sc (.slice none 0 0), .sc (.pointer none)] := by kernel_rfl
@[simp] theorem bytes127 : bytesT Tryz.prog 127 = some 56 := by kernel_rfl
@[simp] theorem conc127 : Tryz.prog.concrete 127 = true := by kernel_rfl
@[simp] theorem places127 : placesT Tryz.prog 127 = some [(0, 1), (1, 1), (2, 1)] := by kernel_rfl
@[simp] theorem held127 : Tryz.prog.stoodInHeld 127 = false := by kernel_rfl
@[simp] theorem eqg127 : Tryz.prog.eqGuardType Tryz.prog.depth 127 = false := by kernel_rfl
@[simp] theorem fld127_0 (x : AV) : fieldAddrA Tryz.prog 127 x 0 = (match x with | .fp cs off => some (.fp cs (off + 0)) | .mp l g off => some (.mp l g (off + 0)) | _ => none) := by cases x <;> kernel_rfl
@[simp] theorem fld127_1 (x : AV) : fieldAddrA Tryz.prog 127 x 1 = (match x with | .fp cs off => some (.fp cs (off + 1)) | .mp l g off => some (.mp l g (off + 1)) | _ => none) := by cases x <;> kernel_rfl
@[simp] theorem fld127_2 (x : AV) : fieldAddrA Tryz.prog 127 x 2 = (match x with | .fp cs off => some (.fp cs (off + 2)) | .mp l g off => some (.mp l g (off + 2)) | _ => none) := by cases x <;> kernel_rfl
@[simp] theorem agg128 : isAggT Tryz.prog 128 = some true := by kernel_rfl
@[simp] theorem size128 : sizeT Tryz.prog 128 = some 2 := by kernel_rfl
@[simp] theorem zero128 : zeroA Tryz.prog 128 = some [.sc (.slice none 0 0), .sc (.int .i64 0)] := by kernel_rfl
@[simp] theorem bytes128 : bytesT Tryz.prog 128 = some 32 := by kernel_rfl
@[simp] theorem conc128 : Tryz.prog.concrete 128 = true := by kernel_rfl
@[simp] theorem places128 : placesT Tryz.prog 128 = some [(0, 1), (1, 1)] := by kernel_rfl
@[simp] theorem held128 : Tryz.prog.stoodInHeld 128 = false := by kernel_rfl
@[simp] theorem eqg128 : Tryz.prog.eqGuardType Tryz.prog.depth 128 = false := by kernel_rfl
@[simp] theorem fld128_0 (x : AV) : fieldAddrA Tryz.prog 128 x 0 = (match x with | .fp cs off => some (.fp cs (off + 0)) | .mp l g off => some (.mp l g (off + 0)) | _ => none) := by cases x <;> kernel_rfl
@[simp] theorem fld128_1 (x : AV) : fieldAddrA Tryz.prog 128 x 1 = (match x with | .fp cs off => some (.fp cs (off + 1)) | .mp l g off => some (.mp l g (off + 1)) | _ => none) := by cases x <;> kernel_rfl
@[simp] theorem agg129 : isAggT Tryz.prog 129 = some true := by kernel_rfl
@[simp] theorem size129 : sizeT Tryz.prog 129 = some 2 := by kernel_rfl
@[simp] theorem zero129 : zeroA Tryz.prog 129 = some [.sc (.slice none 0 0), .sc (.int .i64 0)] := by kernel_rfl
@[simp] theorem bytes129 : bytesT Tryz.prog 129 = some 32 := by kernel_rfl
@[simp] theorem conc129 : Tryz.prog.concrete 129 = true := by kernel_rfl
@[simp] theorem places129 : placesT Tryz.prog 129 = some [(0, 1), (1, 1)] := by kernel_rfl
@[simp] theorem held129 : Tryz.prog.stoodInHeld 129 = false := by kernel_rfl
@[simp] theorem eqg129 : Tryz.prog.eqGuardType Tryz.prog.depth 129 = false := by kernel_rfl
@[simp] theorem fld129_0 (x : AV) : fieldAddrA Tryz.prog 129 x 0 = (match x with | .fp cs off => some (.fp cs (off + 0)) | .mp l g off => some (.mp l g (off + 0)) | _ => none) := by cases x <;> kernel_rfl
@[simp] theorem fld129_1 (x : AV) : fieldAddrA Tryz.prog 129 x 1 = (match x with | .fp cs off => some (.fp cs (off + 1)) | .mp l g off => some (.mp l g (off + 1)) | _ => none) := by cases x <;> kernel_rfl
@[simp] theorem agg130 : isAggT Tryz.prog 130 = some false := by kernel_rfl
@[simp] theorem size130 : sizeT Tryz.prog 130 = some 1 := by kernel_rfl
@[simp] theorem zero130 : zeroA Tryz.prog 130 = some [.sc .nilFunc] := by kernel_rfl
@[simp] theorem bytes130 : bytesT Tryz.prog 130 = some 8 := by kernel_rfl
@[simp] theorem conc130 : Tryz.prog.concrete 130 = true := by kernel_rfl
@[simp] theorem agg132 : isAggT Tryz.prog 132 = some false := by kernel_rfl
@[simp] theorem size132 : sizeT Tryz.prog 132 = some 1 := by kernel_rfl
@[simp] theorem zero132 : zeroA Tryz.prog 132 = some [.sc .nilFunc] := by kernel_rfl
@[simp] theorem bytes132 : bytesT Tryz.prog 132 = some 8 := by kernel_rfl
@[simp] theorem conc132 : Tryz.prog.concrete 132 = true := by kernel_rfl
@[simp] theorem agg134 : isAggT Tryz.prog 134 = some false := by kernel_rfl
@[simp] theorem size134 : sizeT Tryz.prog 134 = some 1 := by kernel_rfl
@[simp] theorem zero134 : zeroA Tryz.prog 134 = some [.sc .nilFunc] := by kernel_rfl
@[simp] theorem bytes134 : bytesT Tryz.prog 134 = some 8 := by kernel_rfl
@[simp] theorem conc134 : Tryz.prog.concrete 134 = true := by kernel_rfl
@[simp] theorem agg135 : isAggT Tryz.prog 135 = some false := by kernel_rfl
@[simp] theorem size135 : sizeT Tryz.prog 135 = some 1 := by kernel_rfl
@[simp] theorem zero135 : zeroA Tryz.prog 135 = some [.sc (.pointer none)] := by kernel_rfl
@[simp] theorem bytes135 : bytesT Tryz.prog 135 = some 8 := by kernel_rfl
@[simp] theorem conc135 : Tryz.prog.concrete 135 = true := by kernel_rfl
@[simp] theorem agg136 : isAggT Tryz.prog 136 = some false := by kernel_rfl
@[simp] theorem size136 : sizeT Tryz.prog 136 = some 1 := by kernel_rfl
@[simp] theorem zero136 : zeroA Tryz.prog 136 = some [.sc .nilFunc] := by kernel_rfl
@[simp] theorem bytes136 : bytesT Tryz.prog 136 = some 8 := by kernel_rfl
@[simp] theorem conc136 : Tryz.prog.concrete 136 = true := by kernel_rfl
@[simp] theorem agg138 : isAggT Tryz.prog 138 = some false := by kernel_rfl
@[simp] theorem size138 : sizeT Tryz.prog 138 = some 1 := by kernel_rfl
@[simp] theorem zero138 : zeroA Tryz.prog 138 = some [.sc .nilFunc] := by kernel_rfl
@[simp] theorem bytes138 : bytesT Tryz.prog 138 = some 8 := by kernel_rfl
@[simp] theorem conc138 : Tryz.prog.concrete 138 = true := by kernel_rfl
@[simp] theorem agg139 : isAggT Tryz.prog 139 = some false := by kernel_rfl
@[simp] theorem size139 : sizeT Tryz.prog 139 = some 1 := by kernel_rfl
@[simp] theorem zero139 : zeroA Tryz.prog 139 = some [.sc .nilFunc] := by kernel_rfl
@[simp] theorem bytes139 : bytesT Tryz.prog 139 = some 8 := by kernel_rfl
@[simp] theorem conc139 : Tryz.prog.concrete 139 = true := by kernel_rfl
@[simp] theorem agg140 : isAggT Tryz.prog 140 = some false := by kernel_rfl
@[simp] theorem size140 : sizeT Tryz.prog 140 = some 1 := by kernel_rfl
@[simp] theorem zero140 : zeroA Tryz.prog 140 = some [.sc .nilFunc] := by kernel_rfl
@[simp] theorem bytes140 : bytesT Tryz.prog 140 = some 8 := by kernel_rfl
@[simp] theorem conc140 : Tryz.prog.concrete 140 = true := by kernel_rfl
@[simp] theorem agg141 : isAggT Tryz.prog 141 = some false := by kernel_rfl
@[simp] theorem size141 : sizeT Tryz.prog 141 = some 1 := by kernel_rfl
@[simp] theorem zero141 : zeroA Tryz.prog 141 = some [.sc .nilFunc] := by kernel_rfl
@[simp] theorem bytes141 : bytesT Tryz.prog 141 = some 8 := by kernel_rfl
@[simp] theorem conc141 : Tryz.prog.concrete 141 = true := by kernel_rfl
@[simp] theorem agg142 : isAggT Tryz.prog 142 = some false := by kernel_rfl
@[simp] theorem size142 : sizeT Tryz.prog 142 = some 1 := by kernel_rfl
@[simp] theorem zero142 : zeroA Tryz.prog 142 = some [.sc .nilFunc] := by kernel_rfl
@[simp] theorem bytes142 : bytesT Tryz.prog 142 = some 8 := by kernel_rfl
@[simp] theorem conc142 : Tryz.prog.concrete 142 = true := by kernel_rfl
@[simp] theorem agg143 : isAggT Tryz.prog 143 = some false := by kernel_rfl
@[simp] theorem size143 : sizeT Tryz.prog 143 = some 1 := by kernel_rfl
@[simp] theorem zero143 : zeroA Tryz.prog 143 = some [.sc .nilFunc] := by kernel_rfl
@[simp] theorem bytes143 : bytesT Tryz.prog 143 = some 8 := by kernel_rfl
@[simp] theorem conc143 : Tryz.prog.concrete 143 = true := by kernel_rfl
@[simp] theorem agg144 : isAggT Tryz.prog 144 = some false := by kernel_rfl
@[simp] theorem size144 : sizeT Tryz.prog 144 = some 1 := by kernel_rfl
@[simp] theorem zero144 : zeroA Tryz.prog 144 = some [.sc .nilFunc] := by kernel_rfl
@[simp] theorem bytes144 : bytesT Tryz.prog 144 = some 8 := by kernel_rfl
@[simp] theorem conc144 : Tryz.prog.concrete 144 = true := by kernel_rfl
@[simp] theorem agg145 : isAggT Tryz.prog 145 = some false := by kernel_rfl
@[simp] theorem size145 : sizeT Tryz.prog 145 = some 1 := by kernel_rfl
@[simp] theorem zero145 : zeroA Tryz.prog 145 = some [.sc .nilFunc] := by kernel_rfl
@[simp] theorem bytes145 : bytesT Tryz.prog 145 = some 8 := by kernel_rfl
@[simp] theorem conc145 : Tryz.prog.concrete 145 = true := by kernel_rfl
@[simp] theorem agg147 : isAggT Tryz.prog 147 = some false := by kernel_rfl
@[simp] theorem size147 : sizeT Tryz.prog 147 = some 1 := by kernel_rfl
@[simp] theorem zero147 : zeroA Tryz.prog 147 = some [.sc .nilFunc] := by kernel_rfl
@[simp] theorem bytes147 : bytesT Tryz.prog 147 = some 8 := by kernel_rfl
@[simp] theorem conc147 : Tryz.prog.concrete 147 = true := by kernel_rfl
@[simp] theorem agg148 : isAggT Tryz.prog 148 = some false := by kernel_rfl
@[simp] theorem size148 : sizeT Tryz.prog 148 = some 1 := by kernel_rfl
@[simp] theorem zero148 : zeroA Tryz.prog 148 = some [.sc .nilFunc] := by kernel_rfl
@[simp] theorem bytes148 : bytesT Tryz.prog 148 = some 8 := by kernel_rfl
@[simp] theorem conc148 : Tryz.prog.concrete 148 = true := by kernel_rfl
@[simp] theorem agg149 : isAggT Tryz.prog 149 = some false := by kernel_rfl
@[simp] theorem size149 : sizeT Tryz.prog 149 = some 1 := by kernel_rfl
@[simp] theorem zero149 : zeroA Tryz.prog 149 = some [.sc .nilFunc] := by kernel_rfl
@[simp] theorem bytes149 : bytesT Tryz.prog 149 = some 8 := by kernel_rfl
@[simp] theorem conc149 : Tryz.prog.concrete 149 = true := by kernel_rfl
@[simp] theorem agg150 : isAggT Tryz.prog 150 = some false := by kernel_rfl
@[simp] theorem size150 : sizeT Tryz.prog 150 = some 1 := by kernel_rfl
@[simp] theorem zero150 : zeroA Tryz.prog 150 = some [.sc .nilFunc] := by kernel_rfl
@[simp] theorem bytes150 : bytesT Tryz.prog 150 = some 8 := by kernel_rfl
@[simp] theorem conc150 : Tryz.prog.concrete 150 = true := by kernel_rfl
@[simp] theorem agg151 : isAggT Tryz.prog 151 = some false := by kernel_rfl
@[simp] theorem size151 : sizeT Tryz.prog 151 = some 1 := by kernel_rfl
@[simp] theorem zero151 : zeroA Tryz.prog 151 = some [.sc .nilIface] := by kernel_rfl
@[simp] theorem bytes151 : bytesT Tryz.prog 151 = some 16 := by kernel_rfl
@[simp] theorem agg152 : isAggT Tryz.prog 152 = some false := by kernel_rfl
@[simp] theorem size152 : sizeT Tryz.prog 152 = some 1 := by kernel_rfl
@[simp] theorem zero152 : zeroA Tryz.prog 152 = some [.sc .nilIface] := by kernel_rfl
@[simp] theorem bytes152 : bytesT Tryz.prog 152 = some 16 := by kernel_rfl
@[simp] theorem agg153 : isAggT Tryz.prog 153 = some false := by kernel_rfl
@[simp] theorem size153 : sizeT Tryz.prog 153 = some 1 := by kernel_rfl
@[simp] theorem zero153 : zeroA Tryz.prog 153 = some [.sc .nilFunc] := by kernel_rfl
@[simp] theorem bytes153 : bytesT Tryz.prog 153 = some 8 := by kernel_rfl
@[simp] theorem conc153 : Tryz.prog.concrete 153 = true := by kernel_rfl
@[simp] theorem agg154 : isAggT Tryz.prog 154 = some false := by kernel_rfl
@[simp] theorem size154 : sizeT Tryz.prog 154 = some 1 := by kernel_rfl
@[simp] theorem zero154 : zeroA Tryz.prog 154 = some [.sc .nilFunc] := by kernel_rfl
@[simp] theorem bytes154 : bytesT Tryz.prog 154 = some 8 := by kernel_rfl
@[simp] theorem conc154 : Tryz.prog.concrete 154 = true := by kernel_rfl
@[simp] theorem agg155 : isAggT Tryz.prog 155 = some true := by kernel_rfl
@[simp] theorem size155 : sizeT Tryz.prog 155 = some 2 := by kernel_rfl
@[simp] theorem zero155 : zeroA Tryz.prog 155 = some [.sc (.int .i64 0), .sc (.string ⟨#[]⟩)] := by kernel_rfl
@[simp] theorem bytes155 : bytesT Tryz.prog 155 = some 24 := by kernel_rfl
@[simp] theorem conc155 : Tryz.prog.concrete 155 = true := by kernel_rfl
@[simp] theorem places155 : placesT Tryz.prog 155 = some [(0, 1), (1, 1)] := by kernel_rfl
@[simp] theorem held155 : Tryz.prog.stoodInHeld 155 = false := by kernel_rfl
@[simp] theorem eqg155 : Tryz.prog.eqGuardType Tryz.prog.depth 155 = false := by kernel_rfl
@[simp] theorem fld155_0 (x : AV) : fieldAddrA Tryz.prog 155 x 0 = (match x with | .fp cs off => some (.fp cs (off + 0)) | .mp l g off => some (.mp l g (off + 0)) | _ => none) := by cases x <;> kernel_rfl
@[simp] theorem fld155_1 (x : AV) : fieldAddrA Tryz.prog 155 x 1 = (match x with | .fp cs off => some (.fp cs (off + 1)) | .mp l g off => some (.mp l g (off + 1)) | _ => none) := by cases x <;> kernel_rfl
@[simp] theorem agg156 : isAggT Tryz.prog 156 = some true := by kernel_rfl
@[simp] theorem size156 : sizeT Tryz.prog 156 = some 2 := by kernel_rfl
@[simp] theorem zero156 : zeroA Tryz.prog 156 = some [.sc (.int .i64 0), .sc (.string ⟨#[]⟩)] := by kernel_rfl
@[simp] theorem bytes156 : bytesT Tryz.prog 156 = some 24 := by kernel_rfl
@[simp] theorem conc156 : Tryz.prog.concrete 156 = true := by kernel_rfl
@[simp] theorem places156 : placesT Tryz.prog 156 = some [(0, 1), (1, 1)] := by kernel_rfl
@[simp] theorem held156 : Tryz.prog.stoodInHeld 156 = false := by kernel_rfl
@[simp] theorem eqg156 : Tryz.prog.eqGuardType Tryz.prog.depth 156 = false := by kernel_rfl
@[simp] theorem fld156_0 (x : AV) : fieldAddrA Tryz.prog 156 x 0 = (match x with | .fp cs off => some (.fp cs (off + 0)) | .mp l g off => some (.mp l g (off + 0)) | _ => none) := by cases x <;> kernel_rfl
@[simp] theorem fld156_1 (x : AV) : fieldAddrA Tryz.prog 156 x 1 = (match x with | .fp cs off => some (.fp cs (off + 1)) | .mp l g off => some (.mp l g (off + 1)) | _ => none) := by cases x <;> kernel_rfl
@[simp] theorem agg157 : isAggT Tryz.prog 157 = some false := by kernel_rfl
@[simp] theorem size157 : sizeT Tryz.prog 157 = some 1 := by kernel_rfl
@[simp] theorem zero157 : zeroA Tryz.prog 157 = some [.sc (.pointer none)] := by kernel_rfl
@[simp] theorem bytes157 : bytesT Tryz.prog 157 = some 8 := by kernel_rfl
@[simp] theorem conc157 : Tryz.prog.concrete 157 = true := by kernel_rfl
@[simp] theorem agg158 : isAggT Tryz.prog 158 = some false := by kernel_rfl
@[simp] theorem size158 : sizeT Tryz.prog 158 = some 1 := by kernel_rfl
@[simp] theorem zero158 : zeroA Tryz.prog 158 = some [.sc .nilFunc] := by kernel_rfl
@[simp] theorem bytes158 : bytesT Tryz.prog 158 = some 8 := by kernel_rfl
@[simp] theorem conc158 : Tryz.prog.concrete 158 = true := by kernel_rfl
@[simp] theorem agg159 : isAggT Tryz.prog 159 = some false := by kernel_rfl
@[simp] theorem size159 : sizeT Tryz.prog 159 = some 1 := by kernel_rfl
@[simp] theorem zero159 : zeroA Tryz.prog 159 = some [.sc .nilFunc] := by kernel_rfl
@[simp] theorem bytes159 : bytesT Tryz.prog 159 = some 8 := by kernel_rfl
@[simp] theorem conc159 : Tryz.prog.concrete 159 = true := by kernel_rfl
@[simp] theorem agg160 : isAggT Tryz.prog 160 = some false := by kernel_rfl
@[simp] theorem size160 : sizeT Tryz.prog 160 = some 1 := by kernel_rfl
@[simp] theorem zero160 : zeroA Tryz.prog 160 = some [.sc .nilFunc] := by kernel_rfl
@[simp] theorem bytes160 : bytesT Tryz.prog 160 = some 8 := by kernel_rfl
@[simp] theorem conc160 : Tryz.prog.concrete 160 = true := by kernel_rfl
@[simp] theorem agg161 : isAggT Tryz.prog 161 = some false := by kernel_rfl
@[simp] theorem size161 : sizeT Tryz.prog 161 = some 1 := by kernel_rfl
@[simp] theorem zero161 : zeroA Tryz.prog 161 = some [.sc .nilFunc] := by kernel_rfl
@[simp] theorem bytes161 : bytesT Tryz.prog 161 = some 8 := by kernel_rfl
@[simp] theorem conc161 : Tryz.prog.concrete 161 = true := by kernel_rfl
@[simp] theorem agg162 : isAggT Tryz.prog 162 = some false := by kernel_rfl
@[simp] theorem size162 : sizeT Tryz.prog 162 = some 1 := by kernel_rfl
@[simp] theorem zero162 : zeroA Tryz.prog 162 = some [.sc .nilFunc] := by kernel_rfl
@[simp] theorem bytes162 : bytesT Tryz.prog 162 = some 8 := by kernel_rfl
@[simp] theorem conc162 : Tryz.prog.concrete 162 = true := by kernel_rfl
@[simp] theorem agg163 : isAggT Tryz.prog 163 = some false := by kernel_rfl
@[simp] theorem size163 : sizeT Tryz.prog 163 = some 1 := by kernel_rfl
@[simp] theorem zero163 : zeroA Tryz.prog 163 = some [.sc .nilFunc] := by kernel_rfl
@[simp] theorem bytes163 : bytesT Tryz.prog 163 = some 8 := by kernel_rfl
@[simp] theorem conc163 : Tryz.prog.concrete 163 = true := by kernel_rfl
@[simp] theorem agg164 : isAggT Tryz.prog 164 = some false := by kernel_rfl
@[simp] theorem size164 : sizeT Tryz.prog 164 = some 1 := by kernel_rfl
@[simp] theorem zero164 : zeroA Tryz.prog 164 = some [.sc .nilFunc] := by kernel_rfl
@[simp] theorem bytes164 : bytesT Tryz.prog 164 = some 8 := by kernel_rfl
@[simp] theorem conc164 : Tryz.prog.concrete 164 = true := by kernel_rfl
@[simp] theorem agg165 : isAggT Tryz.prog 165 = some false := by kernel_rfl
@[simp] theorem size165 : sizeT Tryz.prog 165 = some 1 := by kernel_rfl
@[simp] theorem zero165 : zeroA Tryz.prog 165 = some [.sc .nilFunc] := by kernel_rfl
@[simp] theorem bytes165 : bytesT Tryz.prog 165 = some 8 := by kernel_rfl
@[simp] theorem conc165 : Tryz.prog.concrete 165 = true := by kernel_rfl
@[simp] theorem agg166 : isAggT Tryz.prog 166 = some false := by kernel_rfl
@[simp] theorem size166 : sizeT Tryz.prog 166 = some 1 := by kernel_rfl
@[simp] theorem zero166 : zeroA Tryz.prog 166 = some [.sc .nilFunc] := by kernel_rfl
@[simp] theorem bytes166 : bytesT Tryz.prog 166 = some 8 := by kernel_rfl
@[simp] theorem conc166 : Tryz.prog.concrete 166 = true := by kernel_rfl
@[simp] theorem agg167 : isAggT Tryz.prog 167 = some false := by kernel_rfl
@[simp] theorem size167 : sizeT Tryz.prog 167 = some 1 := by kernel_rfl
@[simp] theorem zero167 : zeroA Tryz.prog 167 = some [.sc .nilFunc] := by kernel_rfl
@[simp] theorem bytes167 : bytesT Tryz.prog 167 = some 8 := by kernel_rfl
@[simp] theorem conc167 : Tryz.prog.concrete 167 = true := by kernel_rfl
@[simp] theorem agg168 : isAggT Tryz.prog 168 = some false := by kernel_rfl
@[simp] theorem size168 : sizeT Tryz.prog 168 = some 1 := by kernel_rfl
@[simp] theorem zero168 : zeroA Tryz.prog 168 = some [.sc .nilFunc] := by kernel_rfl
@[simp] theorem bytes168 : bytesT Tryz.prog 168 = some 8 := by kernel_rfl
@[simp] theorem conc168 : Tryz.prog.concrete 168 = true := by kernel_rfl
@[simp] theorem agg169 : isAggT Tryz.prog 169 = some false := by kernel_rfl
@[simp] theorem size169 : sizeT Tryz.prog 169 = some 1 := by kernel_rfl
@[simp] theorem zero169 : zeroA Tryz.prog 169 = some [.sc .nilFunc] := by kernel_rfl
@[simp] theorem bytes169 : bytesT Tryz.prog 169 = some 8 := by kernel_rfl
@[simp] theorem conc169 : Tryz.prog.concrete 169 = true := by kernel_rfl
@[simp] theorem agg170 : isAggT Tryz.prog 170 = some false := by kernel_rfl
@[simp] theorem size170 : sizeT Tryz.prog 170 = some 1 := by kernel_rfl
@[simp] theorem zero170 : zeroA Tryz.prog 170 = some [.sc .nilFunc] := by kernel_rfl
@[simp] theorem bytes170 : bytesT Tryz.prog 170 = some 8 := by kernel_rfl
@[simp] theorem conc170 : Tryz.prog.concrete 170 = true := by kernel_rfl
@[simp] theorem agg171 : isAggT Tryz.prog 171 = some true := by kernel_rfl
@[simp] theorem size171 : sizeT Tryz.prog 171 = some 2 := by kernel_rfl
@[simp] theorem zero171 : zeroA Tryz.prog 171 = some [.sc (.string ⟨#[]⟩), .sc (.bool false)] := by kernel_rfl
@[simp] theorem bytes171 : bytesT Tryz.prog 171 = some 24 := by kernel_rfl
@[simp] theorem conc171 : Tryz.prog.concrete 171 = true := by kernel_rfl
@[simp] theorem places171 : placesT Tryz.prog 171 = some [(0, 1), (1, 1)] := by kernel_rfl
@[simp] theorem held171 : Tryz.prog.stoodInHeld 171 = false := by kernel_rfl
@[simp] theorem eqg171 : Tryz.prog.eqGuardType Tryz.prog.depth 171 = false := by kernel_rfl
@[simp] theorem fld171_0 (x : AV) : fieldAddrA Tryz.prog 171 x 0 = (match x with | .fp cs off => some (.fp cs (off + 0)) | .mp l g off => some (.mp l g (off + 0)) | _ => none) := by cases x <;> kernel_rfl
@[simp] theorem fld171_1 (x : AV) : fieldAddrA Tryz.prog 171 x 1 = (match x with | .fp cs off => some (.fp cs (off + 1)) | .mp l g off => some (.mp l g (off + 1)) | _ => none) := by cases x <;> kernel_rfl
@[simp] theorem agg172 : isAggT Tryz.prog 172 = some true := by kernel_rfl
@[simp] theorem size172 : sizeT Tryz.prog 172 = some 2 := by kernel_rfl
@[simp] theorem zero172 : zeroA Tryz.prog 172 = some [.sc (.string ⟨#[]⟩), .sc (.bool false)] := by kernel_rfl
@[simp] theorem bytes172 : bytesT Tryz.prog 172 = some 24 := by kernel_rfl
@[simp] theorem conc172 : Tryz.prog.concrete 172 = true := by kernel_rfl
@[simp] theorem places172 : placesT Tryz.prog 172 = some [(0, 1), (1, 1)] := by kernel_rfl
@[simp] theorem held172 : Tryz.prog.stoodInHeld 172 = false := by kernel_rfl
@[simp] theorem eqg172 : Tryz.prog.eqGuardType Tryz.prog.depth 172 = false := by kernel_rfl
@[simp] theorem fld172_0 (x : AV) : fieldAddrA Tryz.prog 172 x 0 = (match x with | .fp cs off => some (.fp cs (off + 0)) | .mp l g off => some (.mp l g (off + 0)) | _ => none) := by cases x <;> kernel_rfl
@[simp] theorem fld172_1 (x : AV) : fieldAddrA Tryz.prog 172 x 1 = (match x with | .fp cs off => some (.fp cs (off + 1)) | .mp l g off => some (.mp l g (off + 1)) | _ => none) := by cases x <;> kernel_rfl
@[simp] theorem agg173 : isAggT Tryz.prog 173 = some false := by kernel_rfl
@[simp] theorem size173 : sizeT Tryz.prog 173 = some 1 := by kernel_rfl
@[simp] theorem zero173 : zeroA Tryz.prog 173 = some [.sc .nilFunc] := by kernel_rfl
@[simp] theorem bytes173 : bytesT Tryz.prog 173 = some 8 := by kernel_rfl
@[simp] theorem conc173 : Tryz.prog.concrete 173 = true := by kernel_rfl
@[simp] theorem agg174 : isAggT Tryz.prog 174 = some false := by kernel_rfl
@[simp] theorem size174 : sizeT Tryz.prog 174 = some 1 := by kernel_rfl
@[simp] theorem zero174 : zeroA Tryz.prog 174 = some [.sc (.pointer none)] := by kernel_rfl
@[simp] theorem bytes174 : bytesT Tryz.prog 174 = some 8 := by kernel_rfl
@[simp] theorem conc174 : Tryz.prog.concrete 174 = true := by kernel_rfl
@[simp] theorem agg175 : isAggT Tryz.prog 175 = some true := by kernel_rfl
@[simp] theorem size175 : sizeT Tryz.prog 175 = some 2 := by kernel_rfl
@[simp] theorem zero175 : zeroA Tryz.prog 175 = some [.sc (.pointer none), .sc (.slice none 0 0)] := by kernel_rfl
@[simp] theorem bytes175 : bytesT Tryz.prog 175 = some 32 := by kernel_rfl
@[simp] theorem conc175 : Tryz.prog.concrete 175 = true := by kernel_rfl
@[simp] theorem places175 : placesT Tryz.prog 175 = some [(0, 1), (1, 1)] := by kernel_rfl
@[simp] theorem held175 : Tryz.prog.stoodInHeld 175 = false := by kernel_rfl
@[simp] theorem eqg175 : Tryz.prog.eqGuardType Tryz.prog.depth 175 = false := by kernel_rfl
@[simp] theorem fld175_0 (x : AV) : fieldAddrA Tryz.prog 175 x 0 = (match x with | .fp cs off => some (.fp cs (off + 0)) | .mp l g off => some (.mp l g (off + 0)) | _ => none) := by cases x <;> kernel_rfl
@[simp] theorem fld175_1 (x : AV) : fieldAddrA Tryz.prog 175 x 1 = (match x with | .fp cs off => some (.fp cs (off + 1)) | .mp l g off => some (.mp l g (off + 1)) | _ => none) := by cases x <;> kernel_rfl
@[simp] theorem agg176 : isAggT Tryz.prog 176 = some true := by kernel_rfl
@[simp] theorem size176 : sizeT Tryz.prog 176 = some 2 := by kernel_rfl
@[simp] theorem zero176 : zeroA Tryz.prog 176 = some [.sc (.pointer none), .sc (.slice none 0 0)] := by kernel_rfl
@[simp] theorem bytes176 : bytesT Tryz.prog 176 = some 32 := by kernel_rfl
@[simp] theorem conc176 : Tryz.prog.concrete 176 = true := by kernel_rfl
@[simp] theorem places176 : placesT Tryz.prog 176 = some [(0, 1), (1, 1)] := by kernel_rfl
@[simp] theorem held176 : Tryz.prog.stoodInHeld 176 = false := by kernel_rfl
@[simp] theorem eqg176 : Tryz.prog.eqGuardType Tryz.prog.depth 176 = false := by kernel_rfl
@[simp] theorem fld176_0 (x : AV) : fieldAddrA Tryz.prog 176 x 0 = (match x with | .fp cs off => some (.fp cs (off + 0)) | .mp l g off => some (.mp l g (off + 0)) | _ => none) := by cases x <;> kernel_rfl
@[simp] theorem fld176_1 (x : AV) : fieldAddrA Tryz.prog 176 x 1 = (match x with | .fp cs off => some (.fp cs (off + 1)) | .mp l g off => some (.mp l g (off + 1)) | _ => none) := by cases x <;> kernel_rfl
@[simp] theorem agg177 : isAggT Tryz.prog 177 = some true := by kernel_rfl
@[simp] theorem size177 : sizeT Tryz.prog 177 = some 2 := by kernel_rfl
@[simp] theorem zero177 : zeroA Tryz.prog 177 = some [.sc (.pointer none), .sc (.slice none 0 0)] := by kernel_rfl
@[simp] theorem bytes177 : bytesT Tryz.prog 177 = some 32 := by kernel_rfl
@[simp] theorem conc177 : Tryz.prog.concrete 177 = true := by kernel_rfl
@[simp] theorem places177 : placesT Tryz.prog 177 = some [(0, 2)] := by kernel_rfl
@[simp] theorem held177 : Tryz.prog.stoodInHeld 177 = false := by kernel_rfl
@[simp] theorem eqg177 : Tryz.prog.eqGuardType Tryz.prog.depth 177 = false := by kernel_rfl
@[simp] theorem fld177_0 (x : AV) : fieldAddrA Tryz.prog 177 x 0 = (match x with | .fp cs off => some (.fp cs (off + 0)) | .mp l g off => some (.mp l g (off + 0)) | _ => none) := by cases x <;> kernel_rfl
@[simp] theorem agg178 : isAggT Tryz.prog 178 = some true := by kernel_rfl
@[simp] theorem size178 : sizeT Tryz.prog 178 = some 2 := by kernel_rfl
@[simp] theorem zero178 : zeroA Tryz.prog 178 = some [.sc (.pointer none), .sc (.slice none 0 0)] := by kernel_rfl
@[simp] theorem bytes178 : bytesT Tryz.prog 178 = some 32 := by kernel_rfl
@[simp] theorem conc178 : Tryz.prog.concrete 178 = true := by kernel_rfl
@[simp] theorem places178 : placesT Tryz.prog 178 = some [(0, 2)] := by kernel_rfl
@[simp] theorem held178 : Tryz.prog.stoodInHeld 178 = false := by kernel_rfl
@[simp] theorem eqg178 : Tryz.prog.eqGuardType Tryz.prog.depth 178 = false := by kernel_rfl
@[simp] theorem fld178_0 (x : AV) : fieldAddrA Tryz.prog 178 x 0 = (match x with | .fp cs off => some (.fp cs (off + 0)) | .mp l g off => some (.mp l g (off + 0)) | _ => none) := by cases x <;> kernel_rfl
@[simp] theorem agg179 : isAggT Tryz.prog 179 = some false := by kernel_rfl
@[simp] theorem size179 : sizeT Tryz.prog 179 = some 1 := by kernel_rfl
@[simp] theorem zero179 : zeroA Tryz.prog 179 = some [.sc .nilFunc] := by kernel_rfl
@[simp] theorem bytes179 : bytesT Tryz.prog 179 = some 8 := by kernel_rfl
@[simp] theorem conc179 : Tryz.prog.concrete 179 = true := by kernel_rfl
@[simp] theorem agg180 : isAggT Tryz.prog 180 = some false := by kernel_rfl
@[simp] theorem size180 : sizeT Tryz.prog 180 = some 1 := by kernel_rfl
@[simp] theorem zero180 : zeroA Tryz.prog 180 = some [.sc (.pointer none)] := by kernel_rfl
@[simp] theorem bytes180 : bytesT Tryz.prog 180 = some 8 := by kernel_rfl
@[simp] theorem conc180 : Tryz.prog.concrete 180 = true := by kernel_rfl
@[simp] theorem agg181 : isAggT Tryz.prog 181 = some false := by kernel_rfl
@[simp] theorem size181 : sizeT Tryz.prog 181 = some 1 := by kernel_rfl
@[simp] theorem zero181 : zeroA Tryz.prog 181 = some [.sc .nilFunc] := by kernel_rfl
@[simp] theorem bytes181 : bytesT Tryz.prog 181 = some 8 := by kernel_rfl
@[simp] theorem conc181 : Tryz.prog.concrete 181 = true := by kernel_rfl
@[simp] theorem agg182 : isAggT Tryz.prog 182 = some false := by kernel_rfl
@[simp] theorem size182 : sizeT Tryz.prog 182 = some 1 := by kernel_rfl
@[simp] theorem zero182 : zeroA Tryz.prog 182 = some [.sc .nilFunc] := by kernel_rfl
@[simp] theorem bytes182 : bytesT Tryz.prog 182 = some 8 := by kernel_rfl
@[simp] theorem conc182 : Tryz.prog.concrete 182 = true := by kernel_rfl
@[simp] theorem agg183 : isAggT Tryz.prog 183 = some false := by kernel_rfl
@[simp] theorem size183 : sizeT Tryz.prog 183 = some 1 := by kernel_rfl
@[simp] theorem zero183 : zeroA Tryz.prog 183 = some [.sc (.int .i64 0)] := by kernel_rfl
@[simp] theorem bytes183 : bytesT Tryz.prog 183 = some 8 := by kernel_rfl
@[simp] theorem conc183 : Tryz.prog.concrete 183 = true := by kernel_rfl
@[simp] theorem slc183 : notIntT Tryz.prog 183 = false := by kernel_rfl
@[simp] theorem int183 : intT Tryz.prog 183 = true := by kernel_rfl
@[simp] theorem agg185 : isAggT Tryz.prog 185 = some false := by kernel_rfl
@[simp] theorem size185 : sizeT Tryz.prog 185 = some 1 := by kernel_rfl
@[simp] theorem zero185 : zeroA Tryz.prog 185 = some [.sc .nilFunc] := by kernel_rfl
@[simp] theorem bytes185 : bytesT Tryz.prog 185 = some 8 := by kernel_rfl
@[simp] theorem conc185 : Tryz.prog.concrete 185 = true := by kernel_rfl
@[simp] theorem agg186 : isAggT Tryz.prog 186 = some false := by kernel_rfl
@[simp] theorem size186 : sizeT Tryz.prog 186 = some 1 := by kernel_rfl
@[simp] theorem zero186 : zeroA Tryz.prog 186 = some [.sc .nilFunc] := by kernel_rfl
@[simp] theorem bytes186 : bytesT Tryz.prog 186 = some 8 := by kernel_rfl
@[simp] theorem conc186 : Tryz.prog.concrete 186 = true := by kernel_rfl
@[simp] theorem agg187 : isAggT Tryz.prog 187 = some false := by kernel_rfl
@[simp] theorem size187 : sizeT Tryz.prog 187 = some 1 := by kernel_rfl
@[simp] theorem zero187 : zeroA Tryz.prog 187 = some [.sc .nilFunc] := by kernel_rfl
@[simp] theorem bytes187 : bytesT Tryz.prog 187 = some 8 := by kernel_rfl
@[simp] theorem conc187 : Tryz.prog.concrete 187 = true := by kernel_rfl
@[simp] theorem agg188 : isAggT Tryz.prog 188 = some false := by kernel_rfl
@[simp] theorem size188 : sizeT Tryz.prog 188 = some 1 := by kernel_rfl
@[simp] theorem zero188 : zeroA Tryz.prog 188 = some [.sc .nilFunc] := by kernel_rfl
@[simp] theorem bytes188 : bytesT Tryz.prog 188 = some 8 := by kernel_rfl
@[simp] theorem conc188 : Tryz.prog.concrete 188 = true := by kernel_rfl
@[simp] theorem agg189 : isAggT Tryz.prog 189 = some false := by kernel_rfl
@[simp] theorem size189 : sizeT Tryz.prog 189 = some 1 := by kernel_rfl
@[simp] theorem zero189 : zeroA Tryz.prog 189 = some [.sc .nilFunc] := by kernel_rfl
@[simp] theorem bytes189 : bytesT Tryz.prog 189 = some 8 := by kernel_rfl
@[simp] theorem conc189 : Tryz.prog.concrete 189 = true := by kernel_rfl
@[simp] theorem agg190 : isAggT Tryz.prog 190 = some false := by kernel_rfl
@[simp] theorem size190 : sizeT Tryz.prog 190 = some 1 := by kernel_rfl
@[simp] theorem zero190 : zeroA Tryz.prog 190 = some [.sc (.int .u32 0)] := by kernel_rfl
@[simp] theorem bytes190 : bytesT Tryz.prog 190 = some 4 := by kernel_rfl
@[simp] theorem conc190 : Tryz.prog.concrete 190 = true := by kernel_rfl
@[simp] theorem slc190 : notIntT Tryz.prog 190 = false := by kernel_rfl
@[simp] theorem int190 : intT Tryz.prog 190 = true := by kernel_rfl
@[simp] theorem agg191 : isAggT Tryz.prog 191 = some false := by kernel_rfl
@[simp] theorem size191 : sizeT Tryz.prog 191 = some 1 := by kernel_rfl
@[simp] theorem zero191 : zeroA Tryz.prog 191 = some [.sc .nilFunc] := by kernel_rfl
@[simp] theorem bytes191 : bytesT Tryz.prog 191 = some 8 := by kernel_rfl
@[simp] theorem conc191 : Tryz.prog.concrete 191 = true := by kernel_rfl
@[simp] theorem agg192 : isAggT Tryz.prog 192 = some false := by kernel_rfl
@[simp] theorem size192 : sizeT Tryz.prog 192 = some 1 := by kernel_rfl
@[simp] theorem zero192 : zeroA Tryz.prog 192 = some [.sc (.int .u64 0)] := by kernel_rfl
@[simp] theorem bytes192 : bytesT Tryz.prog 192 = some 8 := by kernel_rfl
@[simp] theorem conc192 : Tryz.prog.concrete 192 = true := by kernel_rfl
@[simp] theorem slc192 : notIntT Tryz.prog 192 = false := by kernel_rfl
@[simp] theorem int192 : intT Tryz.prog 192 = true := by kernel_rfl
@[simp] theorem agg193 : isAggT Tryz.prog 193 = some true := by kernel_rfl
@[simp] theorem size193 : sizeT Tryz.prog 193 = some 3 := by kernel_rfl
@[simp] theorem zero193 : zeroA Tryz.prog 193 = some [.sc (.int .i64 0), .sc (.string ⟨#[]⟩), .sc (.string ⟨#[]⟩)] := by kernel_rfl
@[simp] theorem bytes193 : bytesT Tryz.prog 193 = some 40 := by kernel_rfl
@[simp] theorem conc193 : Tryz.prog.concrete 193 = true := by kernel_rfl
@[simp] theorem places193 : placesT Tryz.prog 193 = some [(0, 1), (1, 1), (2, 1)] := by kernel_rfl
@[simp] theorem held193 : Tryz.prog.stoodInHeld 193 = false := by kernel_rfl
@[simp] theorem eqg193 : Tryz.prog.eqGuardType Tryz.prog.depth 193 = false := by kernel_rfl
@[simp] theorem fld193_0 (x : AV) : fieldAddrA Tryz.prog 193 x 0 = (match x with | .fp cs off => some (.fp cs (off + 0)) | .mp l g off => some (.mp l g (off + 0)) | _ => none) := by cases x <;> kernel_rfl
@[simp] theorem fld193_1 (x : AV) : fieldAddrA Tryz.prog 193 x 1 = (match x with | .fp cs off => some (.fp cs (off + 1)) | .mp l g off => some (.mp l g (off + 1)) | _ => none) := by cases x <;> kernel_rfl
@[simp] theorem fld193_2 (x : AV) : fieldAddrA Tryz.prog 193 x 2 = (match x with | .fp cs off => some (.fp cs (off + 2)) | .mp l g off => some (.mp l g (off + 2)) | _ => none) := by cases x <;> kernel_rfl
@[simp] theorem agg194 : isAggT Tryz.prog 194 = some true := by kernel_rfl
@[simp] theorem size194 : sizeT Tryz.prog 194 = some 3 := by kernel_rfl
@[simp] theorem zero194 : zeroA Tryz.prog 194 = some [.sc (.int .i64 0), .sc (.string ⟨#[]⟩), .sc (.string ⟨#[]⟩)] := by kernel_rfl
@[simp] theorem bytes194 : bytesT Tryz.prog 194 = some 40 := by kernel_rfl
@[simp] theorem conc194 : Tryz.prog.concrete 194 = true := by kernel_rfl
@[simp] theorem places194 : placesT Tryz.prog 194 = some [(0, 1), (1, 1), (2, 1)] := by kernel_rfl
@[simp] theorem held194 : Tryz.prog.stoodInHeld 194 = false := by kernel_rfl
@[simp] theorem eqg194 : Tryz.prog.eqGuardType Tryz.prog.depth 194 = false := by kernel_rfl
@[simp] theorem fld194_0 (x : AV) : fieldAddrA Tryz.prog 194 x 0 = (match x with | .fp cs off => some (.fp cs (off + 0)) | .mp l g off => some (.mp l g (off + 0)) | _ => none) := by cases x <;> kernel_rfl
@[simp] theorem fld194_1 (x : AV) : fieldAddrA Tryz.prog 194 x 1 = (match x with | .fp cs off => some (.fp cs (off + 1)) | .mp l g off => some (.mp l g (off + 1)) | _ => none) := by cases x <;> kernel_rfl
@[simp] theorem fld194_2 (x : AV) : fieldAddrA Tryz.prog 194 x 2 = (match x with | .fp cs off => some (.fp cs (off + 2)) | .mp l g off => some (.mp l g (off + 2)) | _ => none) := by cases x <;> kernel_rfl
@[simp] theorem agg195 : isAggT Tryz.prog 195 = some false := by kernel_rfl
@[simp] theorem size195 : sizeT Tryz.prog 195 = some 1 := by kernel_rfl
@[simp] theorem zero195 : zeroA Tryz.prog 195 = some [.sc .nilFunc] := by kernel_rfl
@[simp] theorem bytes195 : bytesT Tryz.prog 195 = some 8 := by kernel_rfl
@[simp] theorem conc195 : Tryz.prog.concrete 195 = true := by kernel_rfl
@[simp] theorem agg196 : isAggT Tryz.prog 196 = some false := by kernel_rfl
@[simp] theorem size196 : sizeT Tryz.prog 196 = some 1 := by kernel_rfl
@[simp] theorem zero196 : zeroA Tryz.prog 196 = some [.sc .nilFunc] := by kernel_rfl
@[simp] theorem bytes196 : bytesT Tryz.prog 196 = some 8 := by kernel_rfl
@[simp] theorem conc196 : Tryz.prog.concrete 196 = true := by kernel_rfl
@[simp] theorem agg197 : isAggT Tryz.prog 197 = some false := by kernel_rfl
@[simp] theorem size197 : sizeT Tryz.prog 197 = some 1 := by kernel_rfl
@[simp] theorem zero197 : zeroA Tryz.prog 197 = some [.sc .nilFunc] := by kernel_rfl
@[simp] theorem bytes197 : bytesT Tryz.prog 197 = some 8 := by kernel_rfl
@[simp] theorem conc197 : Tryz.prog.concrete 197 = true := by kernel_rfl
@[simp] theorem agg198 : isAggT Tryz.prog 198 = some false := by kernel_rfl
@[simp] theorem size198 : sizeT Tryz.prog 198 = some 1 := by kernel_rfl
@[simp] theorem zero198 : zeroA Tryz.prog 198 = some [.sc .nilFunc] := by kernel_rfl
@[simp] theorem bytes198 : bytesT Tryz.prog 198 = some 8 := by kernel_rfl
@[simp] theorem conc198 : Tryz.prog.concrete 198 = true := by kernel_rfl
@[simp] theorem agg199 : isAggT Tryz.prog 199 = some false := by kernel_rfl
@[simp] theorem size199 : sizeT Tryz.prog 199 = some 1 := by kernel_rfl
@[simp] theorem zero199 : zeroA Tryz.prog 199 = some [.sc .nilFunc] := by kernel_rfl
@[simp] theorem bytes199 : bytesT Tryz.prog 199 = some 8 := by kernel_rfl
@[simp] theorem conc199 : Tryz.prog.concrete 199 = true := by kernel_rfl
@[simp] theorem agg200 : isAggT Tryz.prog 200 = some false := by kernel_rfl
@[simp] theorem size200 : sizeT Tryz.prog 200 = some 1 := by kernel_rfl
@[simp] theorem zero200 : zeroA Tryz.prog 200 = some [.sc .nilFunc] := by kernel_rfl
@[simp] theorem bytes200 : bytesT Tryz.prog 200 = some 8 := by kernel_rfl
@[simp] theorem conc200 : Tryz.prog.concrete 200 = true := by kernel_rfl
@[simp] theorem agg201 : isAggT Tryz.prog 201 = some false := by kernel_rfl
@[simp] theorem size201 : sizeT Tryz.prog 201 = some 1 := by kernel_rfl
@[simp] theorem zero201 : zeroA Tryz.prog 201 = some [.sc .nilFunc] := by kernel_rfl
@[simp] theorem bytes201 : bytesT Tryz.prog 201 = some 8 := by kernel_rfl
@[simp] theorem conc201 : Tryz.prog.concrete 201 = true := by kernel_rfl
@[simp] theorem agg202 : isAggT Tryz.prog 202 = some false := by kernel_rfl
@[simp] theorem size202 : sizeT Tryz.prog 202 = some 1 := by kernel_rfl
@[simp] theorem zero202 : zeroA Tryz.prog 202 = some [.sc .nilFunc] := by kernel_rfl
@[simp] theorem bytes202 : bytesT Tryz.prog 202 = some 8 := by kernel_rfl
@[simp] theorem conc202 : Tryz.prog.concrete 202 = true := by kernel_rfl
@[simp] theorem agg203 : isAggT Tryz.prog 203 = some false := by kernel_rfl
@[simp] theorem size203 : sizeT Tryz.prog 203 = some 1 := by kernel_rfl
@[simp] theorem zero203 : zeroA Tryz.prog 203 = some [.sc .nilFunc] := by kernel_rfl
@[simp] theorem bytes203 : bytesT Tryz.prog 203 = some 8 := by kernel_rfl
@[simp] theorem conc203 : Tryz.prog.concrete 203 = true := by kernel_rfl
@[simp] theorem agg204 : isAggT Tryz.prog 204 = some false := by kernel_rfl
@[simp] theorem size204 : sizeT Tryz.prog 204 = some 1 := by kernel_rfl
@[simp] theorem zero204 : zeroA Tryz.prog 204 = some [.sc .nilFunc] := by kernel_rfl
@[simp] theorem bytes204 : bytesT Tryz.prog 204 = some 8 := by kernel_rfl
@[simp] theorem conc204 : Tryz.prog.concrete 204 = true := by kernel_rfl
@[simp] theorem agg205 : isAggT Tryz.prog 205 = some false := by kernel_rfl
@[simp] theorem size205 : sizeT Tryz.prog 205 = some 1 := by kernel_rfl
@[simp] theorem zero205 : zeroA Tryz.prog 205 = some [.sc .nilFunc] := by kernel_rfl
@[simp] theorem bytes205 : bytesT Tryz.prog 205 = some 8 := by kernel_rfl
@[simp] theorem conc205 : Tryz.prog.concrete 205 = true := by kernel_rfl
@[simp] theorem agg206 : isAggT Tryz.prog 206 = some false := by kernel_rfl
@[simp] theorem size206 : sizeT Tryz.prog 206 = some 1 := by kernel_rfl
@[simp] theorem zero206 : zeroA Tryz.prog 206 = some [.sc .nilFunc] := by kernel_rfl
@[simp] theorem bytes206 : bytesT Tryz.prog 206 = some 8 := by kernel_rfl
@[simp] theorem conc206 : Tryz.prog.concrete 206 = true := by kernel_rfl
@[simp] theorem agg207 : isAggT Tryz.prog 207 = some false := by kernel_rfl
@[simp] theorem size207 : sizeT Tryz.prog 207 = some 1 := by kernel_rfl
@[simp] theorem zero207 : zeroA Tryz.prog 207 = some [.sc (.int .u64 0)] := by kernel_rfl
@[simp] theorem bytes207 : bytesT Tryz.prog 207 = some 8 := by kernel_rfl
@[simp] theorem conc207 : Tryz.prog.concrete 207 = true := by kernel_rfl
@[simp] theorem slc207 : notIntT Tryz.prog 207 = false := by kernel_rfl
@[simp] theorem int207 : intT Tryz.prog 207 = true := by kernel_rfl
@[simp] theorem agg208 : isAggT Tryz.prog 208 = some false := by kernel_rfl
@[simp] theorem size208 : sizeT Tryz.prog 208 = some 1 := by kernel_rfl
@[simp] theorem zero208 : zeroA Tryz.prog 208 = some [.sc .nilFunc] := by kernel_rfl
@[simp] theorem bytes208 : bytesT Tryz.prog 208 = some 8 := by kernel_rfl
@[simp] theorem conc208 : Tryz.prog.concrete 208 = true := by kernel_rfl
@[simp] theorem agg209 : isAggT Tryz.prog 209 = some false := by kernel_rfl
@[simp] theorem size209 : sizeT Tryz.prog 209 = some 1 := by kernel_rfl
@[simp] theorem zero209 : zeroA Tryz.prog 209 = some [.sc .nilFunc] := by kernel_rfl
@[simp] theorem bytes209 : bytesT Tryz.prog 209 = some 8 := by kernel_rfl
@[simp] theorem conc209 : Tryz.prog.concrete 209 = true := by kernel_rfl
@[simp] theorem agg210 : isAggT Tryz.prog 210 = some false := by kernel_rfl
@[simp] theorem size210 : sizeT Tryz.prog 210 = some 1 := by kernel_rfl
@[simp] theorem zero210 : zeroA Tryz.prog 210 = some [.sc .nilFunc] := by kernel_rfl
@[simp] theorem bytes210 : bytesT Tryz.prog 210 = some 8 := by kernel_rfl
@[simp] theorem conc210 : Tryz.prog.concrete 210 = true := by kernel_rfl
@[simp] theorem agg211 : isAggT Tryz.prog 211 = some false := by kernel_rfl
@[simp] theorem size211 : sizeT Tryz.prog 211 = some 1 := by kernel_rfl
@[simp] theorem zero211 : zeroA Tryz.prog 211 = some [.sc (.pointer none)] := by kernel_rfl
@[simp] theorem bytes211 : bytesT Tryz.prog 211 = some 8 := by kernel_rfl
@[simp] theorem conc211 : Tryz.prog.concrete 211 = true := by kernel_rfl
@[simp] theorem agg212 : isAggT Tryz.prog 212 = some false := by kernel_rfl
@[simp] theorem size212 : sizeT Tryz.prog 212 = some 1 := by kernel_rfl
@[simp] theorem zero212 : zeroA Tryz.prog 212 = some [.sc .nilFunc] := by kernel_rfl
@[simp] theorem bytes212 : bytesT Tryz.prog 212 = some 8 := by kernel_rfl
@[simp] theorem conc212 : Tryz.prog.concrete 212 = true := by kernel_rfl
@[simp] theorem agg213 : isAggT Tryz.prog 213 = some false := by kernel_rfl
@[simp] theorem size213 : sizeT Tryz.prog 213 = some 1 := by kernel_rfl
@[simp] theorem zero213 : zeroA Tryz.prog 213 = some [.sc .nilFunc] := by kernel_rfl
@[simp] theorem bytes213 : bytesT Tryz.prog 213 = some 8 := by kernel_rfl
@[simp] theorem conc213 : Tryz.prog.concrete 213 = true := by kernel_rfl
@[simp] theorem agg214 : isAggT Tryz.prog 214 = some false := by kernel_rfl
@[simp] theorem size214 : sizeT Tryz.prog 214 = some 1 := by kernel_rfl
@[simp] theorem zero214 : zeroA Tryz.prog 214 = some [.sc .nilFunc] := by kernel_rfl
@[simp] theorem bytes214 : bytesT Tryz.prog 214 = some 8 := by kernel_rfl
@[simp] theorem conc214 : Tryz.prog.concrete 214 = true := by kernel_rfl
@[simp] theorem agg216 : isAggT Tryz.prog 216 = some false := by kernel_rfl
@[simp] theorem size216 : sizeT Tryz.prog 216 = some 1 := by kernel_rfl
@[simp] theorem zero216 : zeroA Tryz.prog 216 = some [.sc .nilFunc] := by kernel_rfl
@[simp] theorem bytes216 : bytesT Tryz.prog 216 = some 8 := by kernel_rfl
@[simp] theorem conc216 : Tryz.prog.concrete 216 = true := by kernel_rfl
@[simp] theorem agg217 : isAggT Tryz.prog 217 = some false := by kernel_rfl
@[simp] theorem size217 : sizeT Tryz.prog 217 = some 1 := by kernel_rfl
@[simp] theorem zero217 : zeroA Tryz.prog 217 = some [.sc .nilIface] := by kernel_rfl
@[simp] theorem bytes217 : bytesT Tryz.prog 217 = some 16 := by kernel_rfl
@[simp] theorem agg218 : isAggT Tryz.prog 218 = some false := by kernel_rfl
@[simp] theorem size218 : sizeT Tryz.prog 218 = some 1 := by kernel_rfl
@[simp] theorem zero218 : zeroA Tryz.prog 218 = some [.sc .nilIface] := by kernel_rfl
@[simp] theorem bytes218 : bytesT Tryz.prog 218 = some 16 := by kernel_rfl
@[simp] theorem agg219 : isAggT Tryz.prog 219 = some false := by kernel_rfl
@[simp] theorem size219 : sizeT Tryz.prog 219 = some 1 := by kernel_rfl
@[simp] theorem zero219 : zeroA Tryz.prog 219 = some [.sc .nilFunc] := by kernel_rfl
@[simp] theorem bytes219 : bytesT Tryz.prog 219 = some 8 := by kernel_rfl
@[simp] theorem conc219 : Tryz.prog.concrete 219 = true := by kernel_rfl
@[simp] theorem agg221 : isAggT Tryz.prog 221 = some false := by kernel_rfl
@[simp] theorem size221 : sizeT Tryz.prog 221 = some 1 := by kernel_rfl
@[simp] theorem zero221 : zeroA Tryz.prog 221 = some [.sc .nilFunc] := by kernel_rfl
@[simp] theorem bytes221 : bytesT Tryz.prog 221 = some 8 := by kernel_rfl
@[simp] theorem conc221 : Tryz.prog.concrete 221 = true := by kernel_rfl
@[simp] theorem agg223 : isAggT Tryz.prog 223 = some false := by kernel_rfl
@[simp] theorem size223 : sizeT Tryz.prog 223 = some 1 := by kernel_rfl
@[simp] theorem zero223 : zeroA Tryz.prog 223 = some [.sc .nilFunc] := by kernel_rfl
@[simp] theorem bytes223 : bytesT Tryz.prog 223 = some 8 := by kernel_rfl
@[simp] theorem conc223 : Tryz.prog.concrete 223 = true := by kernel_rfl
@[simp] theorem agg224 : isAggT Tryz.prog 224 = some false := by kernel_rfl
@[simp] theorem size224 : sizeT Tryz.prog 224 = some 1 := by kernel_rfl
@[simp] theorem zero224 : zeroA Tryz.prog 224 = some [.sc .nilFunc] := by kernel_rfl
@[simp] theorem bytes224 : bytesT Tryz.prog 224 = some 8 := by kernel_rfl
@[simp] theorem conc224 : Tryz.prog.concrete 224 = true := by kernel_rfl
@[simp] theorem agg225 : isAggT Tryz.prog 225 = some false := by kernel_rfl
@[simp] theorem size225 : sizeT Tryz.prog 225 = some 1 := by kernel_rfl
@[simp] theorem zero225 : zeroA Tryz.prog 225 = some [.sc .nilFunc] := by kernel_rfl
@[simp] theorem bytes225 : bytesT Tryz.prog 225 = some 8 := by kernel_rfl
@[simp] theorem conc225 : Tryz.prog.concrete 225 = true := by kernel_rfl
@[simp] theorem agg226 : isAggT Tryz.prog 226 = some false := by kernel_rfl
@[simp] theorem size226 : sizeT Tryz.prog 226 = some 1 := by kernel_rfl
@[simp] theorem zero226 : zeroA Tryz.prog 226 = some [.sc .nilFunc] := by kernel_rfl
@[simp] theorem bytes226 : bytesT Tryz.prog 226 = some 8 := by kernel_rfl
@[simp] theorem conc226 : Tryz.prog.concrete 226 = true := by kernel_rfl
@[simp] theorem agg227 : isAggT Tryz.prog 227 = some false := by kernel_rfl
@[simp] theorem size227 : sizeT Tryz.prog 227 = some 1 := by kernel_rfl
@[simp] theorem zero227 : zeroA Tryz.prog 227 = some [.sc .nilFunc] := by kernel_rfl
@[simp] theorem bytes227 : bytesT Tryz.prog 227 = some 8 := by kernel_rfl
@[simp] theorem conc227 : Tryz.prog.concrete 227 = true := by kernel_rfl
@[simp] theorem agg228 : isAggT Tryz.prog 228 = some false := by kernel_rfl
@[simp] theorem size228 : sizeT Tryz.prog 228 = some 1 := by kernel_rfl
@[simp] theorem zero228 : zeroA Tryz.prog 228 = some [.sc .nilFunc] := by kernel_rfl
@[simp] theorem bytes228 : bytesT Tryz.prog 228 = some 8 := by kernel_rfl
@[simp] theorem conc228 : Tryz.prog.concrete 228 = true := by kernel_rfl
@[simp] theorem agg229 : isAggT Tryz.prog 229 = some false := by kernel_rfl
@[simp] theorem size229 : sizeT Tryz.prog 229 = some 1 := by kernel_rfl
@[simp] theorem zero229 : zeroA Tryz.prog 229 = some [.sc (.pointer none)] := by kernel_rfl
@[simp] theorem bytes229 : bytesT Tryz.prog 229 = some 8 := by kernel_rfl
@[simp] theorem conc229 : Tryz.prog.concrete 229 = true := by kernel_rfl
@[simp] theorem agg230 : isAggT Tryz.prog 230 = some false := by kernel_rfl
@[simp] theorem size230 : sizeT Tryz.prog 230 = some 1 := by kernel_rfl
@[simp] theorem zero230 : zeroA Tryz.prog 230 = some [.sc (.pointer none)] := by kernel_rfl
@[simp] theorem bytes230 : bytesT Tryz.prog 230 = some 8 := by kernel_rfl
@[simp] theorem conc230 : Tryz.prog.concrete 230 = true := by kernel_rfl
@[simp] theorem agg234 : isAggT Tryz.prog 234 = some false := by kernel_rfl
@[simp] theorem size234 : sizeT Tryz.prog 234 = some 1 := by kernel_rfl
@[simp] theorem zero234 : zeroA Tryz.prog 234 = some [.sc .nilFunc] := by kernel_rfl
@[simp] theorem bytes234 : bytesT Tryz.prog 234 = some 8 := by kernel_rfl
@[simp] theorem conc234 : Tryz.prog.concrete 234 = true := by kernel_rfl
@[simp] theorem agg235 : isAggT Tryz.prog 235 = some false := by kernel_rfl
@[simp] theorem size235 : sizeT Tryz.prog 235 = some 1 := by kernel_rfl
@[simp] theorem zero235 : zeroA Tryz.prog 235 = some [.sc .nilFunc] := by kernel_rfl
@[simp] theorem bytes235 : bytesT Tryz.prog 235 = some 8 := by kernel_rfl
@[simp] theorem conc235 : Tryz.prog.concrete 235 = true := by kernel_rfl
@[simp] theorem agg240 : isAggT Tryz.prog 240 = some false := by kernel_rfl
@[simp] theorem size240 : sizeT Tryz.prog 240 = some 1 := by kernel_rfl
@[simp] theorem zero240 : zeroA Tryz.prog 240 = some [.sc .nilFunc] := by kernel_rfl
@[simp] theorem bytes240 : bytesT Tryz.prog 240 = some 8 := by kernel_rfl
@[simp] theorem conc240 : Tryz.prog.concrete 240 = true := by kernel_rfl
@[simp] theorem agg242 : isAggT Tryz.prog 242 = some false := by kernel_rfl
@[simp] theorem size242 : sizeT Tryz.prog 242 = some 1 := by kernel_rfl
@[simp] theorem zero242 : zeroA Tryz.prog 242 = some [.sc .nilFunc] := by kernel_rfl
@[simp] theorem bytes242 : bytesT Tryz.prog 242 = some 8 := by kernel_rfl
@[simp] theorem conc242 : Tryz.prog.concrete 242 = true := by kernel_rfl
@[simp] theorem agg244 : isAggT Tryz.prog 244 = some false := by kernel_rfl
@[simp] theorem size244 : sizeT Tryz.prog 244 = some 1 := by kernel_rfl
@[simp] theorem zero244 : zeroA Tryz.prog 244 = some [.sc .nilFunc] := by kernel_rfl
@[simp] theorem bytes244 : bytesT Tryz.prog 244 = some 8 := by kernel_rfl
@[simp] theorem conc244 : Tryz.prog.concrete 244 = true := by kernel_rfl
@[simp] theorem agg246 : isAggT Tryz.prog 246 = some false := by kernel_rfl
@[simp] theorem size246 : sizeT Tryz.prog 246 = some 1 := by kernel_rfl
@[simp] theorem zero246 : zeroA Tryz.prog 246 = some [.sc .nilFunc] := by kernel_rfl
@[simp] theorem bytes246 : bytesT Tryz.prog 246 = some 8 := by kernel_rfl
@[simp] theorem conc246 : Tryz.prog.concrete 246 = true := by kernel_rfl
@[simp] theorem agg248 : isAggT Tryz.prog 248 = some false := by kernel_rfl
@[simp] theorem size248 : sizeT Tryz.prog 248 = some 1 := by kernel_rfl
@[simp] theorem zero248 : zeroA Tryz.prog 248 = some [.sc .nilFunc] := by kernel_rfl
@[simp] theorem bytes248 : bytesT Tryz.prog 248 = some 8 := by kernel_rfl
@[simp] theorem conc248 : Tryz.prog.concrete 248 = true := by kernel_rfl
@[simp] theorem agg249 : isAggT Tryz.prog 249 = some false := by kernel_rfl
@[simp] theorem size249 : sizeT Tryz.prog 249 = some 1 := by kernel_rfl
@[simp] theorem zero249 : zeroA Tryz.prog 249 = some [.sc .nilFunc] := by kernel_rfl
@[simp] theorem bytes249 : bytesT Tryz.prog 249 = some 8 := by kernel_rfl
@[simp] theorem conc249 : Tryz.prog.concrete 249 = true := by kernel_rfl
@[simp] theorem agg251 : isAggT Tryz.prog 251 = some false := by kernel_rfl
@[simp] theorem size251 : sizeT Tryz.prog 251 = some 1 := by kernel_rfl
@[simp] theorem zero251 : zeroA Tryz.prog 251 = some [.sc .nilFunc] := by kernel_rfl
@[simp] theorem bytes251 : bytesT Tryz.prog 251 = some 8 := by kernel_rfl
@[simp] theorem conc251 : Tryz.prog.concrete 251 = true := by kernel_rfl
@[simp] theorem fld254_0 (x : AV) : fieldAddrA Tryz.prog 254 x 0 = (match x with | .fp cs off => some (.fp cs (off + 0)) | .mp l g off => some (.mp l g (off + 0)) | _ => none) := by cases x <;> kernel_rfl
@[simp] theorem fld254_1 (x : AV) : fieldAddrA Tryz.prog 254 x 1 = (match x with | .fp cs off => some (.fp cs (off + 1)) | .mp l g off => some (.mp l g (off + 1)) | _ => none) := by cases x <;> kernel_rfl
@[simp] theorem fld254_2 (x : AV) : fieldAddrA Tryz.prog 254 x 2 = (match x with | .fp cs off => some (.fp cs (off + 2)) | .mp l g off => some (.mp l g (off + 2)) | _ => none) := by cases x <;> kernel_rfl
@[simp] theorem fld254_3 (x : AV) : fieldAddrA Tryz.prog 254 x 3 = (match x with | .fp cs off => some (.fp cs (off + 3)) | .mp l g off => some (.mp l g (off + 3)) | _ => none) := by cases x <;> kernel_rfl
@[simp] theorem agg255 : isAggT Tryz.prog 255 = some true := by kernel_rfl
@[simp] theorem size255 : sizeT Tryz.prog 255 = some 4 := by kernel_rfl
@[simp] theorem zero255 : zeroA Tryz.prog 255 = some [.sc (.pointer none), .sc (.pointer none), .sc (.pointer none), .sc (.string ⟨#[]⟩)] := by kernel_rfl
@[simp] theorem bytes255 : bytesT Tryz.prog 255 = some 40 := by kernel_rfl
@[simp] theorem conc255 : Tryz.prog.concrete 255 = true := by kernel_rfl
@[simp] theorem places255 : placesT Tryz.prog 255 = some [(0, 1), (1, 1), (2, 1), (3, 1)] := by kernel_rfl
@[simp] theorem eqg255 : Tryz.prog.eqGuardType Tryz.prog.depth 255 = false := by kernel_rfl
@[simp] theorem fld255_0 (x : AV) : fieldAddrA Tryz.prog 255 x 0 = (match x with | .fp cs off => some (.fp cs (off + 0)) | .mp l g off => some (.mp l g (off + 0)) | _ => none) := by cases x <;> kernel_rfl
@[simp] theorem fld255_1 (x : AV) : fieldAddrA Tryz.prog 255 x 1 = (match x with | .fp cs off => some (.fp cs (off + 1)) | .mp l g off => some (.mp l g (off + 1)) | _ => none) := by cases x <;> kernel_rfl
@[simp] theorem fld255_2 (x : AV) : fieldAddrA Tryz.prog 255 x 2 = (match x with | .fp cs off => some (.fp cs (off + 2)) | .mp l g off => some (.mp l g (off + 2)) | _ => none) := by cases x <;> kernel_rfl
@[simp] theorem fld255_3 (x : AV) : fieldAddrA Tryz.prog 255 x 3 = (match x with | .fp cs off => some (.fp cs (off + 3)) | .mp l g off => some (.mp l g (off + 3)) | _ => none) := by cases x <;> kernel_rfl
@[simp] theorem agg260 : isAggT Tryz.prog 260 = some false := by kernel_rfl
@[simp] theorem size260 : sizeT Tryz.prog 260 = some 1 := by kernel_rfl
@[simp] theorem zero260 : zeroA Tryz.prog 260 = some [.sc (.int .u8 0)] := by kernel_rfl
@[simp] theorem bytes260 : bytesT Tryz.prog 260 = some 1 := by kernel_rfl
@[simp] theorem conc260 : Tryz.prog.concrete 260 = true := by kernel_rfl
@[simp] theorem slc260 : notIntT Tryz.prog 260 = false := by kernel_rfl
@[simp] theorem int260 : intT Tryz.prog 260 = true := by kernel_rfl
@[simp] theorem agg261 : isAggT Tryz.prog 261 = some false := by kernel_rfl
@[simp] theorem size261 : sizeT Tryz.prog 261 = some 1 := by kernel_rfl
@[simp] theorem zero261 : zeroA Tryz.prog 261 = some [.sc .nilFunc] := by kernel_rfl
@[simp] theorem bytes261 : bytesT Tryz.prog 261 = some 8 := by kernel_rfl
@[simp] theorem conc261 : Tryz.prog.concrete 261 = true := by kernel_rfl
@[simp] theorem agg262 : isAggT Tryz.prog 262 = some false := by kernel_rfl
@[simp] theorem size262 : sizeT Tryz.prog 262 = some 1 := by kernel_rfl
@[simp] theorem zero262 : zeroA Tryz.prog 262 = some [.sc (.int .i32 0)] := by kernel_rfl
@[simp] theorem bytes262 : bytesT Tryz.prog 262 = some 4 := by kernel_rfl
@[simp] theorem conc262 : Tryz.prog.concrete 262 = true := by kernel_rfl
@[simp] theorem slc262 : notIntT Tryz.prog 262 = false := by kernel_rfl
@[simp] theorem int262 : intT Tryz.prog 262 = true := by kernel_rfl
@[simp] theorem agg263 : isAggT Tryz.prog 263 = some false := by kernel_rfl
@[simp] theorem size263 : sizeT Tryz.prog 263 = some 1 := by kernel_rfl
@[simp] theorem zero263 : zeroA Tryz.prog 263 = some [.sc (.int .i32 0)] := by kernel_rfl
@[simp] theorem bytes263 : bytesT Tryz.prog 263 = some 4 := by kernel_rfl
@[simp] theorem conc263 : Tryz.prog.concrete 263 = true := by kernel_rfl
@[simp] theorem slc263 : notIntT Tryz.prog 263 = false := by kernel_rfl
@[simp] theorem int263 : intT Tryz.prog 263 = true := by kernel_rfl
@[simp] theorem fld264_0 (x : AV) : fieldAddrA Tryz.prog 264 x 0 = (match x with | .fp cs off => some (.fp cs (off + 0)) | .mp l g off => some (.mp l g (off + 0)) | _ => none) := by cases x <;> kernel_rfl
@[simp] theorem fld264_1 (x : AV) : fieldAddrA Tryz.prog 264 x 1 = (match x with | .fp cs off => some (.fp cs (off + 1)) | .mp l g off => some (.mp l g (off + 1)) | _ => none) := by cases x <;> kernel_rfl
@[simp] theorem fld264_2 (x : AV) : fieldAddrA Tryz.prog 264 x 2 = (match x with | .fp cs off => some (.fp cs (off + 2)) | .mp l g off => some (.mp l g (off + 2)) | _ => none) := by cases x <;> kernel_rfl
@[simp] theorem fld264_3 (x : AV) : fieldAddrA Tryz.prog 264 x 3 = (match x with | .fp cs off => some (.fp cs (off + 3)) | .mp l g off => some (.mp l g (off + 3)) | _ => none) := by cases x <;> kernel_rfl
@[simp] theorem fld264_4 (x : AV) : fieldAddrA Tryz.prog 264 x 4 = (match x with | .fp cs off => some (.fp cs (off + 4)) | .mp l g off => some (.mp l g (off + 4)) | _ => none) := by cases x <;> kernel_rfl
@[simp] theorem fld264_5 (x : AV) : fieldAddrA Tryz.prog 264 x 5 = (match x with | .fp cs off => some (.fp cs (off + 5)) | .mp l g off => some (.mp l g (off + 5)) | _ => none) := by cases x <;> kernel_rfl
@[simp] theorem fld264_6 (x : AV) : fieldAddrA Tryz.prog 264 x 6 = (match x with | .fp cs off => some (.fp cs (off + 6)) | .mp l g off => some (.mp l g (off + 6)) | _ => none) := by cases x <;> kernel_rfl
@[simp] theorem fld264_7 (x : AV) : fieldAddrA Tryz.prog 264 x 7 = (match x with | .fp cs off => some (.fp cs (off + 7)) | .mp l g off => some (.mp l g (off + 7)) | _ => none) := by cases x <;> kernel_rfl
@[simp] theorem fld264_8 (x : AV) : fieldAddrA Tryz.prog 264 x 8 = (match x with | .fp cs off => some (.fp cs (off + 8)) | .mp l g off => some (.mp l g (off + 8)) | _ => none) := by cases x <;> kernel_rfl
@[simp] theorem fld264_9 (x : AV) : fieldAddrA Tryz.prog 264 x 9 = (match x with | .fp cs off => some (.fp cs (off + 9)) | .mp l g off => some (.mp l g (off + 9)) | _ => none) := by cases x <;> kernel_rfl
@[simp] theorem fld264_10 (x : AV) : fieldAddrA Tryz.prog 264 x 10 = (match x with | .fp cs off => some (.fp cs (off + 10)) | .mp l g off => some (.mp l g (off + 10)) | _ => none) := by cases x <;> kernel_rfl
@[simp] theorem agg265 : isAggT Tryz.prog 265 = some true := by kernel_rfl
@[simp] theorem size265 : sizeT Tryz.prog 265 = some 11 := by kernel_rfl
@[simp] theorem zero265 : zeroA Tryz.prog 265 = some [.sc (.int .u64 0), .sc (.int .u64 0), .sc (.int .u32 0), .sc (.int .u8 0), .sc (.int .u8 0), .sc (.int .u8 0), .sc (.int .u8 0), .sc .nilFunc, .sc (.pointer none), .sc (.int .i32 0), .sc (.int .i32 0)] := by kernel_rfl
@[simp] theorem bytes265 : bytesT Tryz.prog 265 = some 48 := by kernel_rfl
@[simp] theorem conc265 : Tryz.prog.concrete 265 = true := by kernel_rfl
@[simp] theorem places265 : placesT Tryz.prog 265 = some [(0, 1), (1, 1), (2, 1), (3, 1), (4, 1), (5, 1), (6, 1), (7, 1), (8, 1), (9, 1), (10, 1)] := by kernel_rfl
@[simp] theorem eqg265 : Tryz.prog.eqGuardType Tryz.prog.depth 265 = false := by kernel_rfl
@[simp] theorem fld265_0 (x : AV) : fieldAddrA Tryz.prog 265 x 0 = (match x with | .fp cs off => some (.fp cs (off + 0)) | .mp l g off => some (.mp l g (off + 0)) | _ => none) := by cases x <;> kernel_rfl
@[simp] theorem fld265_1 (x : AV) : fieldAddrA Tryz.prog 265 x 1 = (match x with | .fp cs off => some (.fp cs (off + 1)) | .mp l g off => some (.mp l g (off + 1)) | _ => none) := by cases x <;> kernel_rfl
@[simp] theorem fld265_2 (x : AV) : fieldAddrA Tryz.prog 265 x 2 = (match x with | .fp cs off => some (.fp cs (off + 2)) | .mp l g off => some (.mp l g (off + 2)) | _ => none) := by cases x <;> kernel_rfl
@[simp] theorem fld265_3 (x : AV) : fieldAddrA Tryz.prog 265 x 3 = (match x with | .fp cs off => some (.fp cs (off + 3)) | .mp l g off => some (.mp l g (off + 3)) | _ => none) := by cases x <;> kernel_rfl
@[simp] theorem fld265_4 (x : AV) : fieldAddrA Tryz.prog 265 x 4 = (match x with | .fp cs off => some (.fp cs (off + 4)) | .mp l g off => some (.mp l g (off + 4)) | _ => none) := by cases x <;> kernel_rfl
@[simp] theorem fld265_5 (x : AV) : fieldAddrA Tryz.prog 265 x 5 = (match x with | .fp cs off => some (.fp cs (off + 5)) | .mp l g off => some (.mp l g (off + 5)) | _ => none) := by cases x <;> kernel_rfl
@[simp] theorem fld265_6 (x : AV) : fieldAddrA Tryz.prog 265 x 6 = (match x with | .fp cs off => some (.fp cs (off + 6)) | .mp l g off => some (.mp l g (off + 6)) | _ => none) := by cases x <;> kernel_rfl
@[simp] theorem fld265_7 (x : AV) : fieldAddrA Tryz.prog 265 x 7 = (match x with | .fp cs off => some (.fp cs (off + 7)) | .mp l g off => some (.mp l g (off + 7)) | _ => none) := by cases x <;> kernel_rfl
@[simp] theorem fld265_8 (x : AV) : fieldAddrA Tryz.prog 265 x 8 = (match x with | .fp cs off => some (.fp cs (off + 8)) | .mp l g off => some (.mp l g (off + 8)) | _ => none) := by cases x <;> kernel_rfl
@[simp] theorem fld265_9 (x : AV) : fieldAddrA Tryz.prog 265 x 9 = (match x with | .fp cs off => some (.fp cs (off + 9)) | .mp l g off => some (.mp l g (off + 9)) | _ => none) := by cases x <;> kernel_rfl
@[simp] theorem fld265_10 (x : AV) : fieldAddrA Tryz.prog 265 x 10 = (match x with | .fp cs off => some (.fp cs (off + 10)) | .mp l g off => some (.mp l g (off + 10)) | _ => none) := by cases x <;> kernel_rfl
@[simp] theorem agg266 : isAggT Tryz.prog 266 = some false := by kernel_rfl
@[simp] theorem size266 : sizeT Tryz.prog 266 = some 1 := by kernel_rfl
@[simp] theorem zero266 : zeroA Tryz.prog 266 = some [.sc .nilFunc] := by kernel_rfl
@[simp] theorem bytes266 : bytesT Tryz.prog 266 = some 8 := by kernel_rfl
@[simp] theorem conc266 : Tryz.prog.concrete 266 = true := by kernel_rfl
@[simp] theorem agg267 : isAggT Tryz.prog 267 = some false := by kernel_rfl
@[simp] theorem size267 : sizeT Tryz.prog 267 = some 1 := by kernel_rfl
@[simp] theorem zero267 : zeroA Tryz.prog 267 = some [.sc (.slice none 0 0)] := by kernel_rfl
@[simp] theorem bytes267 : bytesT Tryz.prog 267 = some 24 := by kernel_rfl
@[simp] theorem conc267 : Tryz.prog.concrete 267 = true := by kernel_rfl
@[simp] theorem elem267 : elemOfT Tryz.prog 267 = some (269, 2) := by kernel_rfl
@[simp] theorem slc267 : notIntT Tryz.prog 267 = true := by kernel_rfl
@[simp] theorem agg268 : isAggT Tryz.prog 268 = some true := by kernel_rfl
@[simp] theorem size268 : sizeT Tryz.prog 268 = some 2 := by kernel_rfl
@[simp] theorem zero268 : zeroA Tryz.prog 268 = some [.sc (.string ⟨#[]⟩), .sc (.int .i64 0)] := by kernel_rfl
@[simp] theorem bytes268 : bytesT Tryz.prog 268 = some 24 := by kernel_rfl
@[simp] theorem conc268 : Tryz.prog.concrete 268 = true := by kernel_rfl
@[simp] theorem places268 : placesT Tryz.prog 268 = some [(0, 1), (1, 1)] := by kernel_rfl
@[simp] theorem held268 : Tryz.prog.stoodInHeld 268 = false := by kernel_rfl
@[simp] theorem eqg268 : Tryz.prog.eqGuardType Tryz.prog.depth 268 = false := by kernel_rfl
@[simp] theorem fld268_0 (x : AV) : fieldAddrA Tryz.prog 268 x 0 = (match x with | .fp cs off => some (.fp cs (off + 0)) | .mp l g off => some (.mp l g (off + 0)) | _ => none) := by cases x <;> kernel_rfl
@[simp] theorem fld268_1 (x : AV) : fieldAddrA Tryz.prog 268 x 1 = (match x with | .fp cs off => some (.fp cs (off + 1)) | .mp l g off => some (.mp l g (off + 1)) | _ => none) := by cases x <;> kernel_rfl
@[simp] theorem agg269 : isAggT Tryz.prog 269 = some true := by kernel_rfl
@[simp] theorem size269 : sizeT Tryz.prog 269 = some 2 := by kernel_rfl
@[simp] theorem zero269 : zeroA Tryz.prog 269 = some [.sc (.string ⟨#[]⟩), .sc (.int .i64 0)] := by kernel_rfl
@[simp] theorem bytes269 : bytesT Tryz.prog 269 = some 24 := by kernel_rfl
@[simp] theorem conc269 : Tryz.prog.concrete 269 = true := by kernel_rfl
@[simp] theorem places269 : placesT Tryz.prog 269 = some [(0, 1), (1, 1)] := by kernel_rfl
@[simp] theorem held269 : Tryz.prog.stoodInHeld 269 = false := by kernel_rfl
@[simp] theorem eqg269 : Tryz.prog.eqGuardType Tryz.prog.depth 269 = false := by kernel_rfl
@[simp] theorem fld269_0 (x : AV) : fieldAddrA Tryz.prog 269 x 0 = (match x with | .fp cs off => some (.fp cs (off + 0)) | .mp l g off => some (.mp l g (off + 0)) | _ => none) := by cases x <;> kernel_rfl
@[simp] theorem fld269_1 (x : AV) : fieldAddrA Tryz.prog 269 x 1 = (match x with | .fp cs off => some (.fp cs (off + 1)) | .mp l g off => some (.mp l g (off + 1)) | _ => none) := by cases x <;> kernel_rfl
@[simp] theorem agg270 : isAggT Tryz.prog 270 = some false := by kernel_rfl
@[simp] theorem size270 : sizeT Tryz.prog 270 = some 1 := by kernel_rfl
@[simp] theorem zero270 : zeroA Tryz.prog 270 = some [.sc .nilFunc] := by kernel_rfl
@[simp] theorem bytes270 : bytesT Tryz.prog 270 = some 8 := by kernel_rfl
@[simp] theorem conc270 : Tryz.prog.concrete 270 = true := by kernel_rfl
@[simp] theorem agg271 : isAggT Tryz.prog 271 = some false := by kernel_rfl
@[simp] theorem size271 : sizeT Tryz.prog 271 = some 1 := by kernel_rfl
@[simp] theorem zero271 : zeroA Tryz.prog 271 = some [.sc .nilFunc] := by kernel_rfl
@[simp] theorem bytes271 : bytesT Tryz.prog 271 = some 8 := by kernel_rfl
@[simp] theorem conc271 : Tryz.prog.concrete 271 = true := by kernel_rfl
@[simp] theorem agg272 : isAggT Tryz.prog 272 = some false := by kernel_rfl
@[simp] theorem size272 : sizeT Tryz.prog 272 = some 1 := by kernel_rfl
@[simp] theorem zero272 : zeroA Tryz.prog 272 = some [.sc .nilFunc] := by kernel_rfl
@[simp] theorem bytes272 : bytesT Tryz.prog 272 = some 8 := by kernel_rfl
@[simp] theorem conc272 : Tryz.prog.concrete 272 = true := by kernel_rfl
@[simp] theorem agg273 : isAggT Tryz.prog 273 = some false := by kernel_rfl
@[simp] theorem size273 : sizeT Tryz.prog 273 = some 1 := by kernel_rfl
@[simp] theorem zero273 : zeroA Tryz.prog 273 = some [.sc .nilFunc] := by kernel_rfl
@[simp] theorem bytes273 : bytesT Tryz.prog 273 = some 8 := by kernel_rfl
@[simp] theorem conc273 : Tryz.prog.concrete 273 = true := by kernel_rfl
@[simp] theorem agg276 : isAggT Tryz.prog 276 = some false := by kernel_rfl
@[simp] theorem size276 : sizeT Tryz.prog 276 = some 1 := by kernel_rfl
@[simp] theorem zero276 : zeroA Tryz.prog 276 = some [.sc .nilFunc] := by kernel_rfl
@[simp] theorem bytes276 : bytesT Tryz.prog 276 = some 8 := by kernel_rfl
@[simp] theorem conc276 : Tryz.prog.concrete 276 = true := by kernel_rfl
@[simp] theorem agg277 : isAggT Tryz.prog 277 = some false := by kernel_rfl
@[simp] theorem size277 : sizeT Tryz.prog 277 = some 1 := by kernel_rfl
@[simp] theorem zero277 : zeroA Tryz.prog 277 = some [.sc .nilFunc] := by kernel_rfl
@[simp] theorem bytes277 : bytesT Tryz.prog 277 = some 8 := by kernel_rfl
@[simp] theorem conc277 : Tryz.prog.concrete 277 = true := by kernel_rfl
@[simp] theorem agg279 : isAggT Tryz.prog 279 = some false := by kernel_rfl
@[simp] theorem size279 : sizeT Tryz.prog 279 = some 1 := by kernel_rfl
@[simp] theorem zero279 : zeroA Tryz.prog 279 = some [.sc .nilFunc] := by kernel_rfl
@[simp] theorem bytes279 : bytesT Tryz.prog 279 = some 8 := by kernel_rfl
@[simp] theorem conc279 : Tryz.prog.concrete 279 = true := by kernel_rfl
@[simp] theorem agg280 : isAggT Tryz.prog 280 = some false := by kernel_rfl
@[simp] theorem size280 : sizeT Tryz.prog 280 = some 1 := by kernel_rfl
@[simp] theorem zero280 : zeroA Tryz.prog 280 = some [.sc .nilFunc] := by kernel_rfl
@[simp] theorem bytes280 : bytesT Tryz.prog 280 = some 8 := by kernel_rfl
@[simp] theorem conc280 : Tryz.prog.concrete 280 = true := by kernel_rfl
attribute [simp] Tryz.underlying1 Tryz.underlying2 Tryz.underlying3 Tryz.underlying4 Tryz.underlying5 Tryz.underlying6 Tryz.underlying7 Tryz.underlying8 Tryz.underlying9 Tryz.underlying10 Tryz.underlying11 Tryz.underlying12 Tryz.underlying13 Tryz.underlying14 Tryz.underlying15 Tryz.underlying16 Tryz.underlying17 Tryz.underlying18 Tryz.underlying19 Tryz.underlying20 Tryz.underlying21 Tryz.underlying22 Tryz.underlying23 Tryz.underlying24 Tryz.underlying25 Tryz.underlying26 Tryz.underlying27 Tryz.underlying28 Tryz.underlying30 Tryz.underlying31 Tryz.underlying32 Tryz.underlying33 Tryz.underlying34 Tryz.underlying35 Tryz.underlying36 Tryz.underlying37 Tryz.underlying38 Tryz.underlying40 Tryz.underlying42 Tryz.underlying43 Tryz.underlying44 Tryz.underlying45 Tryz.underlying47 Tryz.underlying48 Tryz.underlying50 Tryz.underlying51 Tryz.underlying52 Tryz.underlying53 Tryz.underlying54 Tryz.underlying56 Tryz.underlying57 Tryz.underlying58 Tryz.underlying59 Tryz.underlying61 Tryz.underlying62 Tryz.underlying63 Tryz.underlying64 Tryz.underlying65 Tryz.underlying66 Tryz.underlying67 Tryz.underlying68 Tryz.underlying69 Tryz.underlying70 Tryz.underlying71 Tryz.underlying72 Tryz.underlying73 Tryz.underlying74 Tryz.underlying75 Tryz.underlying76 Tryz.underlying77 Tryz.underlying79 Tryz.underlying80 Tryz.underlying81 Tryz.underlying82 Tryz.underlying83 Tryz.underlying84 Tryz.underlying85 Tryz.underlying86 Tryz.underlying87 Tryz.underlying88 Tryz.underlying89 Tryz.underlying90 Tryz.underlying91 Tryz.underlying92 Tryz.underlying93 Tryz.underlying94 Tryz.underlying95 Tryz.underlying96 Tryz.underlying97 Tryz.underlying98 Tryz.underlying99 Tryz.underlying100 Tryz.underlying101 Tryz.underlying103 Tryz.underlying104 Tryz.underlying105 Tryz.underlying106 Tryz.underlying107 Tryz.underlying108 Tryz.underlying109 Tryz.underlying110 Tryz.underlying111 Tryz.underlying112 Tryz.underlying113 Tryz.underlying114 Tryz.underlying115 Tryz.underlying116 Tryz.underlying117 Tryz.underlying118 Tryz.underlying119 Tryz.underlying120 Tryz.underlying121 Tryz.underlying122 Tryz.underlying124 Tryz.underlying125 Tryz.underlying126 Tryz.underlying127 Tryz.underlying128 Tryz.underlying129 Tryz.underlying130 Tryz.underlying132 Tryz.underlying134 Tryz.underlying135 Tryz.underlying136 Tryz.underlying138 Tryz.underlying139 Tryz.underlying140 Tryz.underlying141 Tryz.underlying142 Tryz.underlying143 Tryz.underlying144 Tryz.underlying145 Tryz.underlying147 Tryz.underlying148 Tryz.underlying149 Tryz.underlying150 Tryz.underlying151 Tryz.underlying152 Tryz.underlying153 Tryz.underlying154 Tryz.underlying155 Tryz.underlying156 Tryz.underlying157 Tryz.underlying158 Tryz.underlying159 Tryz.underlying160 Tryz.underlying161 Tryz.underlying162 Tryz.underlying163 Tryz.underlying164 Tryz.underlying165 Tryz.underlying166 Tryz.underlying167 Tryz.underlying168 Tryz.underlying169 Tryz.underlying170 Tryz.underlying171 Tryz.underlying172 Tryz.underlying173 Tryz.underlying174 Tryz.underlying175 Tryz.underlying176 Tryz.underlying177 Tryz.underlying178 Tryz.underlying179 Tryz.underlying180 Tryz.underlying181 Tryz.underlying182 Tryz.underlying183 Tryz.underlying185 Tryz.underlying186 Tryz.underlying187 Tryz.underlying188 Tryz.underlying189 Tryz.underlying190 Tryz.underlying191 Tryz.underlying192 Tryz.underlying193 Tryz.underlying194 Tryz.underlying195 Tryz.underlying196 Tryz.underlying197 Tryz.underlying198 Tryz.underlying199 Tryz.underlying200 Tryz.underlying201 Tryz.underlying202 Tryz.underlying203 Tryz.underlying204 Tryz.underlying205 Tryz.underlying206 Tryz.underlying207 Tryz.underlying208 Tryz.underlying209 Tryz.underlying210 Tryz.underlying211 Tryz.underlying212 Tryz.underlying213 Tryz.underlying214 Tryz.underlying216 Tryz.underlying217 Tryz.underlying218 Tryz.underlying219 Tryz.underlying221 Tryz.underlying223 Tryz.underlying224 Tryz.underlying225 Tryz.underlying226 Tryz.underlying227 Tryz.underlying228 Tryz.underlying229 Tryz.underlying230 Tryz.underlying232 Tryz.underlying233 Tryz.underlying234 Tryz.underlying235 Tryz.underlying236 Tryz.underlying237 Tryz.underlying238 Tryz.underlying240 Tryz.underlying242 Tryz.underlying244 Tryz.underlying245 Tryz.underlying246 Tryz.underlying248 Tryz.underlying249 Tryz.underlying251 Tryz.underlying252 Tryz.underlying253 Tryz.underlying254 Tryz.underlying255 Tryz.underlying259 Tryz.underlying260 Tryz.underlying261 Tryz.underlying262 Tryz.underlying263 Tryz.underlying264 Tryz.underlying265 Tryz.underlying266 Tryz.underlying267 Tryz.underlying268 Tryz.underlying269 Tryz.underlying270 Tryz.underlying271 Tryz.underlying272 Tryz.underlying273 Tryz.underlying274 Tryz.underlying275 Tryz.underlying276 Tryz.underlying277 Tryz.underlying278 Tryz.underlying279 Tryz.underlying280
@[simp] theorem good2 : goodF Tryz.prog 2 = true := by kernel_rfl
@[simp] theorem good3 : goodF Tryz.prog 3 = true := by kernel_rfl
@[simp] theorem good4 : goodF Tryz.prog 4 = true := by kernel_rfl
@[simp] theorem good5 : goodF Tryz.prog 5 = true := by kernel_rfl
@[simp] theorem good6 : goodF Tryz.prog 6 = true := by kernel_rfl
@[simp] theorem good7 : goodF Tryz.prog 7 = true := by kernel_rfl
@[simp] theorem good8 : goodF Tryz.prog 8 = true := by kernel_rfl
@[simp] theorem good9 : goodF Tryz.prog 9 = true := by kernel_rfl
@[simp] theorem good10 : goodF Tryz.prog 10 = true := by kernel_rfl
@[simp] theorem good11 : goodF Tryz.prog 11 = true := by kernel_rfl
@[simp] theorem good12 : goodF Tryz.prog 12 = true := by kernel_rfl
@[simp] theorem good13 : goodF Tryz.prog 13 = true := by kernel_rfl
@[simp] theorem good14 : goodF Tryz.prog 14 = true := by kernel_rfl
@[simp] theorem good15 : goodF Tryz.prog 15 = true := by kernel_rfl
@[simp] theorem good16 : goodF Tryz.prog 16 = true := by kernel_rfl
@[simp] theorem good17 : goodF Tryz.prog 17 = true := by kernel_rfl
@[simp] theorem good18 : goodF Tryz.prog 18 = true := by kernel_rfl
@[simp] theorem good19 : goodF Tryz.prog 19 = true := by kernel_rfl
@[simp] theorem good20 : goodF Tryz.prog 20 = true := by kernel_rfl
@[simp] theorem good21 : goodF Tryz.prog 21 = true := by kernel_rfl
@[simp] theorem good22 : goodF Tryz.prog 22 = true := by kernel_rfl
@[simp] theorem good23 : goodF Tryz.prog 23 = true := by kernel_rfl
@[simp] theorem good24 : goodF Tryz.prog 24 = true := by kernel_rfl
@[simp] theorem good25 : goodF Tryz.prog 25 = true := by kernel_rfl
@[simp] theorem good26 : goodF Tryz.prog 26 = true := by kernel_rfl
@[simp] theorem good27 : goodF Tryz.prog 27 = true := by kernel_rfl
@[simp] theorem good28 : goodF Tryz.prog 28 = true := by kernel_rfl
@[simp] theorem good29 : goodF Tryz.prog 29 = true := by kernel_rfl
@[simp] theorem good30 : goodF Tryz.prog 30 = true := by kernel_rfl
@[simp] theorem good31 : goodF Tryz.prog 31 = true := by kernel_rfl
@[simp] theorem good32 : goodF Tryz.prog 32 = true := by kernel_rfl
@[simp] theorem good33 : goodF Tryz.prog 33 = true := by kernel_rfl
@[simp] theorem good34 : goodF Tryz.prog 34 = true := by kernel_rfl
@[simp] theorem good35 : goodF Tryz.prog 35 = true := by kernel_rfl
@[simp] theorem good36 : goodF Tryz.prog 36 = true := by kernel_rfl
@[simp] theorem good37 : goodF Tryz.prog 37 = true := by kernel_rfl
@[simp] theorem good38 : goodF Tryz.prog 38 = true := by kernel_rfl
@[simp] theorem good39 : goodF Tryz.prog 39 = true := by kernel_rfl
@[simp] theorem good40 : goodF Tryz.prog 40 = true := by kernel_rfl
@[simp] theorem good41 : goodF Tryz.prog 41 = true := by kernel_rfl
@[simp] theorem good42 : goodF Tryz.prog 42 = true := by kernel_rfl
@[simp] theorem good43 : goodF Tryz.prog 43 = true := by kernel_rfl
@[simp] theorem good44 : goodF Tryz.prog 44 = true := by kernel_rfl
@[simp] theorem good45 : goodF Tryz.prog 45 = true := by kernel_rfl
@[simp] theorem good46 : goodF Tryz.prog 46 = true := by kernel_rfl
@[simp] theorem good47 : goodF Tryz.prog 47 = true := by kernel_rfl
@[simp] theorem good48 : goodF Tryz.prog 48 = true := by kernel_rfl
@[simp] theorem good49 : goodF Tryz.prog 49 = true := by kernel_rfl
@[simp] theorem good50 : goodF Tryz.prog 50 = true := by kernel_rfl
@[simp] theorem good51 : goodF Tryz.prog 51 = true := by kernel_rfl
@[simp] theorem good52 : goodF Tryz.prog 52 = true := by kernel_rfl
@[simp] theorem good53 : goodF Tryz.prog 53 = true := by kernel_rfl
@[simp] theorem good54 : goodF Tryz.prog 54 = true := by kernel_rfl
@[simp] theorem good55 : goodF Tryz.prog 55 = true := by kernel_rfl
@[simp] theorem good56 : goodF Tryz.prog 56 = true := by kernel_rfl
@[simp] theorem good57 : goodF Tryz.prog 57 = true := by kernel_rfl
@[simp] theorem good58 : goodF Tryz.prog 58 = true := by kernel_rfl
@[simp] theorem good59 : goodF Tryz.prog 59 = true := by kernel_rfl
@[simp] theorem good60 : goodF Tryz.prog 60 = true := by kernel_rfl
@[simp] theorem good61 : goodF Tryz.prog 61 = true := by kernel_rfl
@[simp] theorem good62 : goodF Tryz.prog 62 = true := by kernel_rfl
@[simp] theorem good63 : goodF Tryz.prog 63 = true := by kernel_rfl
@[simp] theorem good64 : goodF Tryz.prog 64 = true := by kernel_rfl
@[simp] theorem good65 : goodF Tryz.prog 65 = true := by kernel_rfl
@[simp] theorem good66 : goodF Tryz.prog 66 = true := by kernel_rfl
@[simp] theorem good67 : goodF Tryz.prog 67 = true := by kernel_rfl
@[simp] theorem good68 : goodF Tryz.prog 68 = true := by kernel_rfl
@[simp] theorem good69 : goodF Tryz.prog 69 = true := by kernel_rfl
@[simp] theorem good70 : goodF Tryz.prog 70 = true := by kernel_rfl
@[simp] theorem good71 : goodF Tryz.prog 71 = true := by kernel_rfl
@[simp] theorem good72 : goodF Tryz.prog 72 = true := by kernel_rfl
@[simp] theorem good73 : goodF Tryz.prog 73 = true := by kernel_rfl
@[simp] theorem good74 : goodF Tryz.prog 74 = true := by kernel_rfl
@[simp] theorem good75 : goodF Tryz.prog 75 = true := by kernel_rfl
@[simp] theorem good76 : goodF Tryz.prog 76 = true := by kernel_rfl
@[simp] theorem good77 : goodF Tryz.prog 77 = true := by kernel_rfl
@[simp] theorem good78 : goodF Tryz.prog 78 = true := by kernel_rfl
@[simp] theorem good79 : goodF Tryz.prog 79 = true := by kernel_rfl
@[simp] theorem good80 : goodF Tryz.prog 80 = true := by kernel_rfl
@[simp] theorem good81 : goodF Tryz.prog 81 = true := by kernel_rfl
@[simp] theorem good82 : goodF Tryz.prog 82 = true := by kernel_rfl
@[simp] theorem good83 : goodF Tryz.prog 83 = true := by kernel_rfl
@[simp] theorem good84 : goodF Tryz.prog 84 = true := by kernel_rfl
@[simp] theorem good85 : goodF Tryz.prog 85 = true := by kernel_rfl
@[simp] theorem good86 : goodF Tryz.prog 86 = true := by kernel_rfl
@[simp] theorem good87 : goodF Tryz.prog 87 = true := by kernel_rfl
@[simp] theorem good88 : goodF Tryz.prog 88 = true := by kernel_rfl
@[simp] theorem good89 : goodF Tryz.prog 89 = true := by kernel_rfl
@[simp] theorem good90 : goodF Tryz.prog 90 = true := by kernel_rfl
@[simp] theorem good91 : goodF Tryz.prog 91 = true := by kernel_rfl
@[simp] theorem good92 : goodF Tryz.prog 92 = true := by kernel_rfl
@[simp] theorem good93 : goodF Tryz.prog 93 = true := by kernel_rfl
@[simp] theorem good94 : goodF Tryz.prog 94 = true := by kernel_rfl
@[simp] theorem good95 : goodF Tryz.prog 95 = true := by kernel_rfl
@[simp] theorem good96 : goodF Tryz.prog 96 = true := by kernel_rfl
@[simp] theorem good97 : goodF Tryz.prog 97 = true := by kernel_rfl
@[simp] theorem good98 : goodF Tryz.prog 98 = true := by kernel_rfl
@[simp] theorem good99 : goodF Tryz.prog 99 = true := by kernel_rfl
@[simp] theorem good100 : goodF Tryz.prog 100 = true := by kernel_rfl
@[simp] theorem good101 : goodF Tryz.prog 101 = true := by kernel_rfl
@[simp] theorem good102 : goodF Tryz.prog 102 = true := by kernel_rfl
@[simp] theorem good103 : goodF Tryz.prog 103 = true := by kernel_rfl
@[simp] theorem good104 : goodF Tryz.prog 104 = true := by kernel_rfl
@[simp] theorem good105 : goodF Tryz.prog 105 = true := by kernel_rfl
@[simp] theorem good106 : goodF Tryz.prog 106 = true := by kernel_rfl
@[simp] theorem good107 : goodF Tryz.prog 107 = true := by kernel_rfl
@[simp] theorem good108 : goodF Tryz.prog 108 = true := by kernel_rfl
@[simp] theorem good109 : goodF Tryz.prog 109 = true := by kernel_rfl
@[simp] theorem good110 : goodF Tryz.prog 110 = true := by kernel_rfl
@[simp] theorem good111 : goodF Tryz.prog 111 = true := by kernel_rfl
@[simp] theorem good112 : goodF Tryz.prog 112 = true := by kernel_rfl
@[simp] theorem good113 : goodF Tryz.prog 113 = true := by kernel_rfl
@[simp] theorem good114 : goodF Tryz.prog 114 = true := by kernel_rfl
@[simp] theorem good115 : goodF Tryz.prog 115 = true := by kernel_rfl
@[simp] theorem good116 : goodF Tryz.prog 116 = true := by kernel_rfl
@[simp] theorem good117 : goodF Tryz.prog 117 = true := by kernel_rfl
@[simp] theorem good118 : goodF Tryz.prog 118 = true := by kernel_rfl
@[simp] theorem good119 : goodF Tryz.prog 119 = true := by kernel_rfl
@[simp] theorem good120 : goodF Tryz.prog 120 = true := by kernel_rfl
@[simp] theorem good121 : goodF Tryz.prog 121 = true := by kernel_rfl
@[simp] theorem good122 : goodF Tryz.prog 122 = true := by kernel_rfl
@[simp] theorem good123 : goodF Tryz.prog 123 = true := by kernel_rfl
@[simp] theorem good124 : goodF Tryz.prog 124 = true := by kernel_rfl
@[simp] theorem good125 : goodF Tryz.prog 125 = true := by kernel_rfl
@[simp] theorem good126 : goodF Tryz.prog 126 = true := by kernel_rfl
@[simp] theorem good127 : goodF Tryz.prog 127 = true := by kernel_rfl
@[simp] theorem good128 : goodF Tryz.prog 128 = true := by kernel_rfl
@[simp] theorem good129 : goodF Tryz.prog 129 = true := by kernel_rfl
@[simp] theorem good130 : goodF Tryz.prog 130 = true := by kernel_rfl
@[simp] theorem good131 : goodF Tryz.prog 131 = true := by kernel_rfl
@[simp] theorem good132 : goodF Tryz.prog 132 = true := by kernel_rfl
@[simp] theorem good133 : goodF Tryz.prog 133 = true := by kernel_rfl
@[simp] theorem good134 : goodF Tryz.prog 134 = true := by kernel_rfl
@[simp] theorem good135 : goodF Tryz.prog 135 = true := by kernel_rfl
@[simp] theorem good136 : goodF Tryz.prog 136 = true := by kernel_rfl
@[simp] theorem good137 : goodF Tryz.prog 137 = true := by kernel_rfl
@[simp] theorem good138 : goodF Tryz.prog 138 = true := by kernel_rfl
@[simp] theorem good139 : goodF Tryz.prog 139 = true := by kernel_rfl
@[simp] theorem good140 : goodF Tryz.prog 140 = true := by kernel_rfl
@[simp] theorem good141 : goodF Tryz.prog 141 = true := by kernel_rfl
@[simp] theorem good142 : goodF Tryz.prog 142 = true := by kernel_rfl
@[simp] theorem good143 : goodF Tryz.prog 143 = true := by kernel_rfl
@[simp] theorem good144 : goodF Tryz.prog 144 = true := by kernel_rfl
@[simp] theorem good145 : goodF Tryz.prog 145 = true := by kernel_rfl
@[simp] theorem good146 : goodF Tryz.prog 146 = true := by kernel_rfl
@[simp] theorem good147 : goodF Tryz.prog 147 = true := by kernel_rfl
@[simp] theorem good148 : goodF Tryz.prog 148 = true := by kernel_rfl
@[simp] theorem good149 : goodF Tryz.prog 149 = true := by kernel_rfl
@[simp] theorem good150 : goodF Tryz.prog 150 = true := by kernel_rfl
@[simp] theorem good151 : goodF Tryz.prog 151 = true := by kernel_rfl
@[simp] theorem good152 : goodF Tryz.prog 152 = true := by kernel_rfl
@[simp] theorem good153 : goodF Tryz.prog 153 = true := by kernel_rfl
@[simp] theorem good154 : goodF Tryz.prog 154 = true := by kernel_rfl
@[simp] theorem good155 : goodF Tryz.prog 155 = true := by kernel_rfl
@[simp] theorem good156 : goodF Tryz.prog 156 = true := by kernel_rfl
@[simp] theorem good157 : goodF Tryz.prog 157 = true := by kernel_rfl
@[simp] theorem good158 : goodF Tryz.prog 158 = true := by kernel_rfl
@[simp] theorem good159 : goodF Tryz.prog 159 = true := by kernel_rfl
@[simp] theorem good160 : goodF Tryz.prog 160 = true := by kernel_rfl
@[simp] theorem good161 : goodF Tryz.prog 161 = true := by kernel_rfl
@[simp] theorem good162 : goodF Tryz.prog 162 = true := by kernel_rfl
@[simp] theorem good163 : goodF Tryz.prog 163 = true := by kernel_rfl
@[simp] theorem good164 : goodF Tryz.prog 164 = true := by kernel_rfl
@[simp] theorem good165 : goodF Tryz.prog 165 = true := by kernel_rfl
@[simp] theorem good166 : goodF Tryz.prog 166 = true := by kernel_rfl
@[simp] theorem good167 : goodF Tryz.prog 167 = true := by kernel_rfl
@[simp] theorem good168 : goodF Tryz.prog 168 = true := by kernel_rfl
@[simp] theorem good170 : goodF Tryz.prog 170 = true := by kernel_rfl
@[simp] theorem good171 : goodF Tryz.prog 171 = true := by kernel_rfl
@[simp] theorem good172 : goodF Tryz.prog 172 = true := by kernel_rfl
@[simp] theorem good173 : goodF Tryz.prog 173 = true := by kernel_rfl
@[simp] theorem good174 : goodF Tryz.prog 174 = true := by kernel_rfl
@[simp] theorem good175 : goodF Tryz.prog 175 = true := by kernel_rfl
@[simp] theorem good176 : goodF Tryz.prog 176 = true := by kernel_rfl
@[simp] theorem good177 : goodF Tryz.prog 177 = true := by kernel_rfl
@[simp] theorem good178 : goodF Tryz.prog 178 = true := by kernel_rfl
@[simp] theorem good179 : goodF Tryz.prog 179 = true := by kernel_rfl
@[simp] theorem good180 : goodF Tryz.prog 180 = true := by kernel_rfl
@[simp] theorem good181 : goodF Tryz.prog 181 = true := by kernel_rfl
@[simp] theorem good182 : goodF Tryz.prog 182 = true := by kernel_rfl
@[simp] theorem good183 : goodF Tryz.prog 183 = true := by kernel_rfl
@[simp] theorem good186 : goodF Tryz.prog 186 = true := by kernel_rfl
@[simp] theorem good204 : goodF Tryz.prog 204 = true := by kernel_rfl
@[simp] theorem good205 : goodF Tryz.prog 205 = true := by kernel_rfl
@[simp] theorem good206 : goodF Tryz.prog 206 = true := by kernel_rfl
@[simp] theorem good207 : goodF Tryz.prog 207 = true := by kernel_rfl
@[simp] theorem good208 : goodF Tryz.prog 208 = true := by kernel_rfl
@[simp] theorem good209 : goodF Tryz.prog 209 = true := by kernel_rfl
@[simp] theorem good210 : goodF Tryz.prog 210 = true := by kernel_rfl
@[simp] theorem good211 : goodF Tryz.prog 211 = true := by kernel_rfl
@[simp] theorem good213 : goodF Tryz.prog 213 = true := by kernel_rfl
@[simp] theorem good214 : goodF Tryz.prog 214 = true := by kernel_rfl
@[simp] theorem good216 : goodF Tryz.prog 216 = true := by kernel_rfl
@[simp] theorem good217 : goodF Tryz.prog 217 = true := by kernel_rfl
@[simp] theorem good218 : goodF Tryz.prog 218 = true := by kernel_rfl
@[simp] theorem good219 : goodF Tryz.prog 219 = true := by kernel_rfl
@[simp] theorem good220 : goodF Tryz.prog 220 = true := by kernel_rfl
@[simp] theorem good221 : goodF Tryz.prog 221 = true := by kernel_rfl
@[simp] theorem good224 : goodF Tryz.prog 224 = true := by kernel_rfl
@[simp] theorem mixed : Tryz.prog.follows .mixedOrders = true := by kernel_rfl
end Go.Proofs.YtejgopcicenbeaaGreat
