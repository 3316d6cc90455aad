/- What the logic asks of this seat's types and functions, by the kernel. Printed by wip/tools/genfacts.py. -/
import Derived.Test.YtgdefllblcmgpaaProg
import Derived.Test.YtgdefllblcmgpaaLb
namespace Go.Proofs.Ytgdefllblcmgpaa
open Go.RowKit
@[simp] theorem agg1 : isAggT Try.prog 1 = some false := by kernel_rfl
@[simp] theorem size1 : sizeT Try.prog 1 = some 1 := by kernel_rfl
@[simp] theorem zero1 : zeroA Try.prog 1 = some [.sc .nilFunc] := by kernel_rfl
@[simp] theorem bytes1 : bytesT Try.prog 1 = some 8 := by kernel_rfl
@[simp] theorem conc1 : Try.prog.concrete 1 = true := by kernel_rfl
@[simp] theorem agg2 : isAggT Try.prog 2 = some false := by kernel_rfl
@[simp] theorem size2 : sizeT Try.prog 2 = some 1 := by kernel_rfl
@[simp] theorem zero2 : zeroA Try.prog 2 = some [.sc (.int .i64 0)] := by kernel_rfl
@[simp] theorem bytes2 : bytesT Try.prog 2 = some 8 := by kernel_rfl
@[simp] theorem conc2 : Try.prog.concrete 2 = true := by kernel_rfl
@[simp] theorem slc2 : notIntT Try.prog 2 = false := by kernel_rfl
@[simp] theorem int2 : intT Try.prog 2 = true := by kernel_rfl
@[simp] theorem agg3 : isAggT Try.prog 3 = some false := by kernel_rfl
@[simp] theorem size3 : sizeT Try.prog 3 = some 1 := by kernel_rfl
@[simp] theorem zero3 : zeroA Try.prog 3 = some [.sc (.int .i64 0)] := by kernel_rfl
@[simp] theorem bytes3 : bytesT Try.prog 3 = some 8 := by kernel_rfl
@[simp] theorem conc3 : Try.prog.concrete 3 = true := by kernel_rfl
@[simp] theorem slc3 : notIntT Try.prog 3 = false := by kernel_rfl
@[simp] theorem int3 : intT Try.prog 3 = true := by kernel_rfl
@[simp] theorem agg4 : isAggT Try.prog 4 = some false := by kernel_rfl
@[simp] theorem size4 : sizeT Try.prog 4 = some 1 := by kernel_rfl
@[simp] theorem zero4 : zeroA Try.prog 4 = some [.sc (.bool false)] := by kernel_rfl
@[simp] theorem bytes4 : bytesT Try.prog 4 = some 1 := by kernel_rfl
@[simp] theorem conc4 : Try.prog.concrete 4 = true := by kernel_rfl
@[simp] theorem agg5 : isAggT Try.prog 5 = some false := by kernel_rfl
@[simp] theorem size5 : sizeT Try.prog 5 = some 1 := by kernel_rfl
@[simp] theorem zero5 : zeroA Try.prog 5 = some [.sc (.int .u8 0)] := by kernel_rfl
@[simp] theorem bytes5 : bytesT Try.prog 5 = some 1 := by kernel_rfl
@[simp] theorem conc5 : Try.prog.concrete 5 = true := by kernel_rfl
@[simp] theorem slc5 : notIntT Try.prog 5 = false := by kernel_rfl
@[simp] theorem int5 : intT Try.prog 5 = true := by kernel_rfl
@[simp] theorem agg6 : isAggT Try.prog 6 = some false := by kernel_rfl
@[simp] theorem size6 : sizeT Try.prog 6 = some 1 := by kernel_rfl
@[simp] theorem zero6 : zeroA Try.prog 6 = some [.sc (.int .u8 0)] := by kernel_rfl
@[simp] theorem bytes6 : bytesT Try.prog 6 = some 1 := by kernel_rfl
@[simp] theorem conc6 : Try.prog.concrete 6 = true := by kernel_rfl
@[simp] theorem slc6 : notIntT Try.prog 6 = false := by kernel_rfl
@[simp] theorem int6 : intT Try.prog 6 = true := by kernel_rfl
@[simp] theorem agg7 : isAggT Try.prog 7 = some true := by kernel_rfl
@[simp] theorem size7 : sizeT Try.prog 7 = some 4 := by kernel_rfl
@[simp] theorem zero7 : zeroA Try.prog 7 = some [.sc (.int .i64 0), .sc (.int .i64 0), .sc (.bool false), .sc (.int .u8 0)] := by kernel_rfl
@[simp] theorem bytes7 : bytesT Try.prog 7 = some 24 := by kernel_rfl
@[simp] theorem conc7 : Try.prog.concrete 7 = true := by kernel_rfl
@[simp] theorem places7 : placesT Try.prog 7 = some [(0, 1), (1, 1), (2, 1), (3, 1)] := by kernel_rfl
@[simp] theorem held7 : Try.prog.stoodInHeld 7 = false := by kernel_rfl
@[simp] theorem eqg7 : Try.prog.eqGuardType Try.prog.depth 7 = false := by kernel_rfl
@[simp] theorem fld7_0 (x : AV) : fieldAddrA Try.prog 7 x 0 = (match x with | .fp cs off => some (.fp cs (off + 0)) | .mp l g off => some (.mp l g (off + 0)) | _ => none) := by cases x <;> kernel_rfl
@[simp] theorem fld7_1 (x : AV) : fieldAddrA Try.prog 7 x 1 = (match x with | .fp cs off => some (.fp cs (off + 1)) | .mp l g off => some (.mp l g (off + 1)) | _ => none) := by cases x <;> kernel_rfl
@[simp] theorem fld7_2 (x : AV) : fieldAddrA Try.prog 7 x 2 = (match x with | .fp cs off => some (.fp cs (off + 2)) | .mp l g off => some (.mp l g (off + 2)) | _ => none) := by cases x <;> kernel_rfl
@[simp] theorem fld7_3 (x : AV) : fieldAddrA Try.prog 7 x 3 = (match x with | .fp cs off => some (.fp cs (off + 3)) | .mp l g off => some (.mp l g (off + 3)) | _ => none) := by cases x <;> kernel_rfl
@[simp] theorem agg8 : isAggT Try.prog 8 = some true := by kernel_rfl
@[simp] theorem size8 : sizeT Try.prog 8 = some 4 := by kernel_rfl
@[simp] theorem zero8 : zeroA Try.prog 8 = some [.sc (.int .i64 0), .sc (.int .i64 0), .sc (.bool false), .sc (.int .u8 0)] := by kernel_rfl
@[simp] theorem bytes8 : bytesT Try.prog 8 = some 24 := by kernel_rfl
@[simp] theorem conc8 : Try.prog.concrete 8 = true := by kernel_rfl
@[simp] theorem places8 : placesT Try.prog 8 = some [(0, 1), (1, 1), (2, 1), (3, 1)] := by kernel_rfl
@[simp] theorem held8 : Try.prog.stoodInHeld 8 = false := by kernel_rfl
@[simp] theorem eqg8 : Try.prog.eqGuardType Try.prog.depth 8 = false := by kernel_rfl
@[simp] theorem fld8_0 (x : AV) : fieldAddrA Try.prog 8 x 0 = (match x with | .fp cs off => some (.fp cs (off + 0)) | .mp l g off => some (.mp l g (off + 0)) | _ => none) := by cases x <;> kernel_rfl
@[simp] theorem fld8_1 (x : AV) : fieldAddrA Try.prog 8 x 1 = (match x with | .fp cs off => some (.fp cs (off + 1)) | .mp l g off => some (.mp l g (off + 1)) | _ => none) := by cases x <;> kernel_rfl
@[simp] theorem fld8_2 (x : AV) : fieldAddrA Try.prog 8 x 2 = (match x with | .fp cs off => some (.fp cs (off + 2)) | .mp l g off => some (.mp l g (off + 2)) | _ => none) := by cases x <;> kernel_rfl
@[simp] theorem fld8_3 (x : AV) : fieldAddrA Try.prog 8 x 3 = (match x with | .fp cs off => some (.fp cs (off + 3)) | .mp l g off => some (.mp l g (off + 3)) | _ => none) := by cases x <;> kernel_rfl
@[simp] theorem agg9 : isAggT Try.prog 9 = some false := by kernel_rfl
@[simp] theorem size9 : sizeT Try.prog 9 = some 1 := by kernel_rfl
@[simp] theorem zero9 : zeroA Try.prog 9 = some [.sc (.string ⟨#[]⟩)] := by kernel_rfl
@[simp] theorem bytes9 : bytesT Try.prog 9 = some 16 := by kernel_rfl
@[simp] theorem conc9 : Try.prog.concrete 9 = true := by kernel_rfl
@[simp] theorem slc9 : notIntT Try.prog 9 = true := by kernel_rfl
@[simp] theorem agg10 : isAggT Try.prog 10 = some false := by kernel_rfl
@[simp] theorem size10 : sizeT Try.prog 10 = some 1 := by kernel_rfl
@[simp] theorem zero10 : zeroA Try.prog 10 = some [.sc (.string ⟨#[]⟩)] := by kernel_rfl
@[simp] theorem bytes10 : bytesT Try.prog 10 = some 16 := by kernel_rfl
@[simp] theorem conc10 : Try.prog.concrete 10 = true := by kernel_rfl
@[simp] theorem slc10 : notIntT Try.prog 10 = true := by kernel_rfl
@[simp] theorem agg11 : isAggT Try.prog 11 = some false := by kernel_rfl
@[simp] theorem size11 : sizeT Try.prog 11 = some 1 := by kernel_rfl
@[simp] theorem zero11 : zeroA Try.prog 11 = some [.sc (.string ⟨#[]⟩)] := by kernel_rfl
@[simp] theorem bytes11 : bytesT Try.prog 11 = some 16 := by kernel_rfl
@[simp] theorem conc11 : Try.prog.concrete 11 = true := by kernel_rfl
@[simp] theorem slc11 : notIntT Try.prog 11 = true := by kernel_rfl
@[simp] theorem agg12 : isAggT Try.prog 12 = some false := by kernel_rfl
@[simp] theorem size12 : sizeT Try.prog 12 = some 1 := by kernel_rfl
@[simp] theorem zero12 : zeroA Try.prog 12 = some [.sc (.int .u64 0)] := by kernel_rfl
@[simp] theorem bytes12 : bytesT Try.prog 12 = some 8 := by kernel_rfl
@[simp] theorem conc12 : Try.prog.concrete 12 = true := by kernel_rfl
@[simp] theorem slc12 : notIntT Try.prog 12 = false := by kernel_rfl
@[simp] theorem int12 : intT Try.prog 12 = true := by kernel_rfl
@[simp] theorem agg13 : isAggT Try.prog 13 = some true := by kernel_rfl
@[simp] theorem size13 : sizeT Try.prog 13 = some 2 := by kernel_rfl
@[simp] theorem zero13 : zeroA Try.prog 13 = some [.sc (.string ⟨#[]⟩), .sc (.int .u64 0)] := by kernel_rfl
@[simp] theorem bytes13 : bytesT Try.prog 13 = some 24 := by kernel_rfl
@[simp] theorem conc13 : Try.prog.concrete 13 = true := by kernel_rfl
@[simp] theorem places13 : placesT Try.prog 13 = some [(0, 1), (1, 1)] := by kernel_rfl
@[simp] theorem eqg13 : Try.prog.eqGuardType Try.prog.depth 13 = false := by kernel_rfl
@[simp] theorem fld13_0 (x : AV) : fieldAddrA Try.prog 13 x 0 = (match x with | .fp cs off => some (.fp cs (off + 0)) | .mp l g off => some (.mp l g (off + 0)) | _ => none) := by cases x <;> kernel_rfl
@[simp] theorem fld13_1 (x : AV) : fieldAddrA Try.prog 13 x 1 = (match x with | .fp cs off => some (.fp cs (off + 1)) | .mp l g off => some (.mp l g (off + 1)) | _ => none) := by cases x <;> kernel_rfl
@[simp] theorem agg14 : isAggT Try.prog 14 = some true := by kernel_rfl
@[simp] theorem size14 : sizeT Try.prog 14 = some 2 := by kernel_rfl
@[simp] theorem zero14 : zeroA Try.prog 14 = some [.sc (.string ⟨#[]⟩), .sc (.int .u64 0)] := by kernel_rfl
@[simp] theorem bytes14 : bytesT Try.prog 14 = some 24 := by kernel_rfl
@[simp] theorem conc14 : Try.prog.concrete 14 = true := by kernel_rfl
@[simp] theorem places14 : placesT Try.prog 14 = some [(0, 1), (1, 1)] := by kernel_rfl
@[simp] theorem eqg14 : Try.prog.eqGuardType Try.prog.depth 14 = false := by kernel_rfl
@[simp] theorem fld14_0 (x : AV) : fieldAddrA Try.prog 14 x 0 = (match x with | .fp cs off => some (.fp cs (off + 0)) | .mp l g off => some (.mp l g (off + 0)) | _ => none) := by cases x <;> kernel_rfl
@[simp] theorem fld14_1 (x : AV) : fieldAddrA Try.prog 14 x 1 = (match x with | .fp cs off => some (.fp cs (off + 1)) | .mp l g off => some (.mp l g (off + 1)) | _ => none) := by cases x <;> kernel_rfl
@[simp] theorem agg15 : isAggT Try.prog 15 = some false := by kernel_rfl
@[simp] theorem size15 : sizeT Try.prog 15 = some 1 := by kernel_rfl
@[simp] theorem zero15 : zeroA Try.prog 15 = some [.sc (.pointer none)] := by kernel_rfl
@[simp] theorem bytes15 : bytesT Try.prog 15 = some 8 := by kernel_rfl
@[simp] theorem conc15 : Try.prog.concrete 15 = true := by kernel_rfl
@[simp] theorem agg16 : isAggT Try.prog 16 = some false := by kernel_rfl
@[simp] theorem size16 : sizeT Try.prog 16 = some 1 := by kernel_rfl
@[simp] theorem zero16 : zeroA Try.prog 16 = some [.sc (.pointer none)] := by kernel_rfl
@[simp] theorem bytes16 : bytesT Try.prog 16 = some 8 := by kernel_rfl
@[simp] theorem conc16 : Try.prog.concrete 16 = true := by kernel_rfl
@[simp] theorem agg17 : isAggT Try.prog 17 = some false := by kernel_rfl
@[simp] theorem size17 : sizeT Try.prog 17 = some 1 := by kernel_rfl
@[simp] theorem zero17 : zeroA Try.prog 17 = some [.sc (.pointer none)] := by kernel_rfl
@[simp] theorem bytes17 : bytesT Try.prog 17 = some 8 := by kernel_rfl
@[simp] theorem conc17 : Try.prog.concrete 17 = true := by kernel_rfl
@[simp] theorem agg18 : isAggT Try.prog 18 = some true := by kernel_rfl
@[simp] theorem size18 : sizeT Try.prog 18 = some 1 := by kernel_rfl
@[simp] theorem zero18 : zeroA Try.prog 18 = some [.sc (.pointer none)] := by kernel_rfl
@[simp] theorem bytes18 : bytesT Try.prog 18 = some 8 := by kernel_rfl
@[simp] theorem conc18 : Try.prog.concrete 18 = true := by kernel_rfl
@[simp] theorem places18 : placesT Try.prog 18 = some [(0, 1)] := by kernel_rfl
@[simp] theorem eqg18 : Try.prog.eqGuardType Try.prog.depth 18 = false := by kernel_rfl
@[simp] theorem fld18_0 (x : AV) : fieldAddrA Try.prog 18 x 0 = (match x with | .fp cs off => some (.fp cs (off + 0)) | .mp l g off => some (.mp l g (off + 0)) | _ => none) := by cases x <;> kernel_rfl
@[simp] theorem agg19 : isAggT Try.prog 19 = some true := by kernel_rfl
@[simp] theorem size19 : sizeT Try.prog 19 = some 1 := by kernel_rfl
@[simp] theorem zero19 : zeroA Try.prog 19 = some [.sc (.pointer none)] := by kernel_rfl
@[simp] theorem bytes19 : bytesT Try.prog 19 = some 8 := by kernel_rfl
@[simp] theorem conc19 : Try.prog.concrete 19 = true := by kernel_rfl
@[simp] theorem places19 : placesT Try.prog 19 = some [(0, 1)] := by kernel_rfl
@[simp] theorem eqg19 : Try.prog.eqGuardType Try.prog.depth 19 = false := by kernel_rfl
@[simp] theorem fld19_0 (x : AV) : fieldAddrA Try.prog 19 x 0 = (match x with | .fp cs off => some (.fp cs (off + 0)) | .mp l g off => some (.mp l g (off + 0)) | _ => none) := by cases x <;> kernel_rfl
@[simp] theorem agg20 : isAggT Try.prog 20 = some false := by kernel_rfl
@[simp] theorem size20 : sizeT Try.prog 20 = some 1 := by kernel_rfl
@[simp] theorem zero20 : zeroA Try.prog 20 = some [.sc .nilIface] := by kernel_rfl
@[simp] theorem bytes20 : bytesT Try.prog 20 = some 16 := by kernel_rfl
@[simp] theorem agg21 : isAggT Try.prog 21 = some false := by kernel_rfl
@[simp] theorem size21 : sizeT Try.prog 21 = some 1 := by kernel_rfl
@[simp] theorem zero21 : zeroA Try.prog 21 = some [.sc (.int .i32 0)] := by kernel_rfl
@[simp] theorem bytes21 : bytesT Try.prog 21 = some 4 := by kernel_rfl
@[simp] theorem conc21 : Try.prog.concrete 21 = true := by kernel_rfl
@[simp] theorem slc21 : notIntT Try.prog 21 = false := by kernel_rfl
@[simp] theorem int21 : intT Try.prog 21 = true := by kernel_rfl
@[simp] theorem agg22 : isAggT Try.prog 22 = some false := by kernel_rfl
@[simp] theorem size22 : sizeT Try.prog 22 = some 1 := by kernel_rfl
@[simp] theorem zero22 : zeroA Try.prog 22 = some [.sc (.slice none 0 0)] := by kernel_rfl
@[simp] theorem bytes22 : bytesT Try.prog 22 = some 24 := by kernel_rfl
@[simp] theorem conc22 : Try.prog.concrete 22 = true := by kernel_rfl
@[simp] theorem elem22 : elemOfT Try.prog 22 = some (3, 1) := by kernel_rfl
@[simp] theorem slc22 : notIntT Try.prog 22 = true := by kernel_rfl
@[simp] theorem agg23 : isAggT Try.prog 23 = some false := by kernel_rfl
@[simp] theorem size23 : sizeT Try.prog 23 = some 1 := by kernel_rfl
@[simp] theorem zero23 : zeroA Try.prog 23 = some [.sc (.slice none 0 0)] := by kernel_rfl
@[simp] theorem bytes23 : bytesT Try.prog 23 = some 24 := by kernel_rfl
@[simp] theorem conc23 : Try.prog.concrete 23 = true := by kernel_rfl
@[simp] theorem elem23 : elemOfT Try.prog 23 = some (4, 1) := by kernel_rfl
@[simp] theorem slc23 : notIntT Try.prog 23 = true := by kernel_rfl
@[simp] theorem agg24 : isAggT Try.prog 24 = some false := by kernel_rfl
@[simp] theorem size24 : sizeT Try.prog 24 = some 1 := by kernel_rfl
@[simp] theorem zero24 : zeroA Try.prog 24 = some [.sc .nilFunc] := by kernel_rfl
@[simp] theorem bytes24 : bytesT Try.prog 24 = some 8 := by kernel_rfl
@[simp] theorem conc24 : Try.prog.concrete 24 = true := by kernel_rfl
@[simp] theorem agg25 : isAggT Try.prog 25 = some false := by kernel_rfl
@[simp] theorem size25 : sizeT Try.prog 25 = some 1 := by kernel_rfl
@[simp] theorem zero25 : zeroA Try.prog 25 = some [.sc (.int .u64 0)] := by kernel_rfl
@[simp] theorem bytes25 : bytesT Try.prog 25 = some 8 := by kernel_rfl
@[simp] theorem conc25 : Try.prog.concrete 25 = true := by kernel_rfl
@[simp] theorem slc25 : notIntT Try.prog 25 = false := by kernel_rfl
@[simp] theorem int25 : intT Try.prog 25 = true := by kernel_rfl
@[simp] theorem agg26 : isAggT Try.prog 26 = some false := by kernel_rfl
@[simp] theorem size26 : sizeT Try.prog 26 = some 1 := by kernel_rfl
@[simp] theorem zero26 : zeroA Try.prog 26 = some [.sc (.pointer none)] := by kernel_rfl
@[simp] theorem bytes26 : bytesT Try.prog 26 = some 8 := by kernel_rfl
@[simp] theorem conc26 : Try.prog.concrete 26 = true := by kernel_rfl
@[simp] theorem agg27 : isAggT Try.prog 27 = some false := by kernel_rfl
@[simp] theorem size27 : sizeT Try.prog 27 = some 1 := by kernel_rfl
@[simp] theorem zero27 : zeroA Try.prog 27 = some [.sc .nilFunc] := by kernel_rfl
@[simp] theorem bytes27 : bytesT Try.prog 27 = some 8 := by kernel_rfl
@[simp] theorem conc27 : Try.prog.concrete 27 = true := by kernel_rfl
@[simp] theorem agg28 : isAggT Try.prog 28 = some false := by kernel_rfl
@[simp] theorem size28 : sizeT Try.prog 28 = some 1 := by kernel_rfl
@[simp] theorem zero28 : zeroA Try.prog 28 = some [.sc (.int .i64 0)] := by kernel_rfl
@[simp] theorem bytes28 : bytesT Try.prog 28 = some 8 := by kernel_rfl
@[simp] theorem conc28 : Try.prog.concrete 28 = true := by kernel_rfl
@[simp] theorem slc28 : notIntT Try.prog 28 = false := by kernel_rfl
@[simp] theorem int28 : intT Try.prog 28 = true := by kernel_rfl
@[simp] theorem agg29 : isAggT Try.prog 29 = some false := by kernel_rfl
@[simp] theorem size29 : sizeT Try.prog 29 = some 1 := by kernel_rfl
@[simp] theorem zero29 : zeroA Try.prog 29 = some [.sc .nilFunc] := by kernel_rfl
@[simp] theorem bytes29 : bytesT Try.prog 29 = some 8 := by kernel_rfl
@[simp] theorem conc29 : Try.prog.concrete 29 = true := by kernel_rfl
@[simp] theorem agg30 : isAggT Try.prog 30 = some true := by kernel_rfl
@[simp] theorem size30 : sizeT Try.prog 30 = some 2 := by kernel_rfl
@[simp] theorem zero30 : zeroA Try.prog 30 = some [.sc (.int .i64 0), .sc (.int .i64 0)] := by kernel_rfl
@[simp] theorem bytes30 : bytesT Try.prog 30 = some 16 := by kernel_rfl
@[simp] theorem conc30 : Try.prog.concrete 30 = true := by kernel_rfl
@[simp] theorem places30 : placesT Try.prog 30 = some [(0, 1), (1, 1)] := by kernel_rfl
@[simp] theorem held30 : Try.prog.stoodInHeld 30 = false := by kernel_rfl
@[simp] theorem eqg30 : Try.prog.eqGuardType Try.prog.depth 30 = false := by kernel_rfl
@[simp] theorem fld30_0 (x : AV) : fieldAddrA Try.prog 30 x 0 = (match x with | .fp cs off => some (.fp cs (off + 0)) | .mp l g off => some (.mp l g (off + 0)) | _ => none) := by cases x <;> kernel_rfl
@[simp] theorem fld30_1 (x : AV) : fieldAddrA Try.prog 30 x 1 = (match x with | .fp cs off => some (.fp cs (off + 1)) | .mp l g off => some (.mp l g (off + 1)) | _ => none) := by cases x <;> kernel_rfl
@[simp] theorem agg31 : isAggT Try.prog 31 = some true := by kernel_rfl
@[simp] theorem size31 : sizeT Try.prog 31 = some 2 := by kernel_rfl
@[simp] theorem zero31 : zeroA Try.prog 31 = some [.sc (.int .i64 0), .sc (.int .i64 0)] := by kernel_rfl
@[simp] theorem bytes31 : bytesT Try.prog 31 = some 16 := by kernel_rfl
@[simp] theorem conc31 : Try.prog.concrete 31 = true := by kernel_rfl
@[simp] theorem places31 : placesT Try.prog 31 = some [(0, 1), (1, 1)] := by kernel_rfl
@[simp] theorem held31 : Try.prog.stoodInHeld 31 = false := by kernel_rfl
@[simp] theorem eqg31 : Try.prog.eqGuardType Try.prog.depth 31 = false := by kernel_rfl
@[simp] theorem fld31_0 (x : AV) : fieldAddrA Try.prog 31 x 0 = (match x with | .fp cs off => some (.fp cs (off + 0)) | .mp l g off => some (.mp l g (off + 0)) | _ => none) := by cases x <;> kernel_rfl
@[simp] theorem fld31_1 (x : AV) : fieldAddrA Try.prog 31 x 1 = (match x with | .fp cs off => some (.fp cs (off + 1)) | .mp l g off => some (.mp l g (off + 1)) | _ => none) := by cases x <;> kernel_rfl
@[simp] theorem agg32 : isAggT Try.prog 32 = some false := by kernel_rfl
@[simp] theorem size32 : sizeT Try.prog 32 = some 1 := by kernel_rfl
@[simp] theorem zero32 : zeroA Try.prog 32 = some [.sc .nilFunc] := by kernel_rfl
@[simp] theorem bytes32 : bytesT Try.prog 32 = some 8 := by kernel_rfl
@[simp] theorem conc32 : Try.prog.concrete 32 = true := by kernel_rfl
@[simp] theorem agg33 : isAggT Try.prog 33 = some false := by kernel_rfl
@[simp] theorem size33 : sizeT Try.prog 33 = some 1 := by kernel_rfl
@[simp] theorem zero33 : zeroA Try.prog 33 = some [.sc (.slice none 0 0)] := by kernel_rfl
@[simp] theorem bytes33 : bytesT Try.prog 33 = some 24 := by kernel_rfl
@[simp] theorem conc33 : Try.prog.concrete 33 = true := by kernel_rfl
@[simp] theorem elem33 : elemOfT Try.prog 33 = some (31, 2) := by kernel_rfl
@[simp] theorem slc33 : notIntT Try.prog 33 = true := by kernel_rfl
@[simp] theorem agg34 : isAggT Try.prog 34 = some false := by kernel_rfl
@[simp] theorem size34 : sizeT Try.prog 34 = some 1 := by kernel_rfl
@[simp] theorem zero34 : zeroA Try.prog 34 = some [.sc .nilFunc] := by kernel_rfl
@[simp] theorem bytes34 : bytesT Try.prog 34 = some 8 := by kernel_rfl
@[simp] theorem conc34 : Try.prog.concrete 34 = true := by kernel_rfl
@[simp] theorem agg36 : isAggT Try.prog 36 = some false := by kernel_rfl
@[simp] theorem size36 : sizeT Try.prog 36 = some 1 := by kernel_rfl
@[simp] theorem zero36 : zeroA Try.prog 36 = some [.sc .nilFunc] := by kernel_rfl
@[simp] theorem bytes36 : bytesT Try.prog 36 = some 8 := by kernel_rfl
@[simp] theorem conc36 : Try.prog.concrete 36 = true := by kernel_rfl
@[simp] theorem agg37 : isAggT Try.prog 37 = some false := by kernel_rfl
@[simp] theorem size37 : sizeT Try.prog 37 = some 1 := by kernel_rfl
@[simp] theorem zero37 : zeroA Try.prog 37 = some [.sc .nilFunc] := by kernel_rfl
@[simp] theorem bytes37 : bytesT Try.prog 37 = some 8 := by kernel_rfl
@[simp] theorem conc37 : Try.prog.concrete 37 = true := by kernel_rfl
@[simp] theorem agg38 : isAggT Try.prog 38 = some false := by kernel_rfl
@[simp] theorem size38 : sizeT Try.prog 38 = some 1 := by kernel_rfl
@[simp] theorem zero38 : zeroA Try.prog 38 = some [.sc .nilFunc] := by kernel_rfl
@[simp] theorem bytes38 : bytesT Try.prog 38 = some 8 := by kernel_rfl
@[simp] theorem conc38 : Try.prog.concrete 38 = true := by kernel_rfl
@[simp] theorem agg39 : isAggT Try.prog 39 = some false := by kernel_rfl
@[simp] theorem size39 : sizeT Try.prog 39 = some 1 := by kernel_rfl
@[simp] theorem zero39 : zeroA Try.prog 39 = some [.sc .nilFunc] := by kernel_rfl
@[simp] theorem bytes39 : bytesT Try.prog 39 = some 8 := by kernel_rfl
@[simp] theorem conc39 : Try.prog.concrete 39 = true := by kernel_rfl
@[simp] theorem agg40 : isAggT Try.prog 40 = some false := by kernel_rfl
@[simp] theorem size40 : sizeT Try.prog 40 = some 1 := by kernel_rfl
@[simp] theorem zero40 : zeroA Try.prog 40 = some [.sc (.slice none 0 0)] := by kernel_rfl
@[simp] theorem bytes40 : bytesT Try.prog 40 = some 24 := by kernel_rfl
@[simp] theorem conc40 : Try.prog.concrete 40 = true := by kernel_rfl
@[simp] theorem elem40 : elemOfT Try.prog 40 = some (42, 3) := by kernel_rfl
@[simp] theorem slc40 : notIntT Try.prog 40 = true := by kernel_rfl
@[simp] theorem agg41 : isAggT Try.prog 41 = some true := by kernel_rfl
@[simp] theorem size41 : sizeT Try.prog 41 = some 3 := by kernel_rfl
@[simp] theorem zero41 : zeroA Try.prog 41 = some [.sc (.int .i64 0), .sc (.int .i64 0), .sc (.slice none 0 0)] := by kernel_rfl
@[simp] theorem bytes41 : bytesT Try.prog 41 = some 40 := by kernel_rfl
@[simp] theorem conc41 : Try.prog.concrete 41 = true := by kernel_rfl
@[simp] theorem places41 : placesT Try.prog 41 = some [(0, 1), (1, 1), (2, 1)] := by kernel_rfl
@[simp] theorem held41 : Try.prog.stoodInHeld 41 = false := by kernel_rfl
@[simp] theorem eqg41 : Try.prog.eqGuardType Try.prog.depth 41 = false := by kernel_rfl
@[simp] theorem fld41_0 (x : AV) : fieldAddrA Try.prog 41 x 0 = (match x with | .fp cs off => some (.fp cs (off + 0)) | .mp l g off => some (.mp l g (off + 0)) | _ => none) := by cases x <;> kernel_rfl
@[simp] theorem fld41_1 (x : AV) : fieldAddrA Try.prog 41 x 1 = (match x with | .fp cs off => some (.fp cs (off + 1)) | .mp l g off => some (.mp l g (off + 1)) | _ => none) := by cases x <;> kernel_rfl
@[simp] theorem fld41_2 (x : AV) : fieldAddrA Try.prog 41 x 2 = (match x with | .fp cs off => some (.fp cs (off + 2)) | .mp l g off => some (.mp l g (off + 2)) | _ => none) := by cases x <;> kernel_rfl
@[simp] theorem agg42 : isAggT Try.prog 42 = some true := by kernel_rfl
@[simp] theorem size42 : sizeT Try.prog 42 = some 3 := by kernel_rfl
@[simp] theorem zero42 : zeroA Try.prog 42 = some [.sc (.int .i64 0), .sc (.int .i64 0), .sc (.slice none 0 0)] := by kernel_rfl
@[simp] theorem bytes42 : bytesT Try.prog 42 = some 40 := by kernel_rfl
@[simp] theorem conc42 : Try.prog.concrete 42 = true := by kernel_rfl
@[simp] theorem places42 : placesT Try.prog 42 = some [(0, 1), (1, 1), (2, 1)] := by kernel_rfl
@[simp] theorem held42 : Try.prog.stoodInHeld 42 = false := by kernel_rfl
@[simp] theorem eqg42 : Try.prog.eqGuardType Try.prog.depth 42 = false := by kernel_rfl
@[simp] theorem fld42_0 (x : AV) : fieldAddrA Try.prog 42 x 0 = (match x with | .fp cs off => some (.fp cs (off + 0)) | .mp l g off => some (.mp l g (off + 0)) | _ => none) := by cases x <;> kernel_rfl
@[simp] theorem fld42_1 (x : AV) : fieldAddrA Try.prog 42 x 1 = (match x with | .fp cs off => some (.fp cs (off + 1)) | .mp l g off => some (.mp l g (off + 1)) | _ => none) := by cases x <;> kernel_rfl
@[simp] theorem fld42_2 (x : AV) : fieldAddrA Try.prog 42 x 2 = (match x with | .fp cs off => some (.fp cs (off + 2)) | .mp l g off => some (.mp l g (off + 2)) | _ => none) := by cases x <;> kernel_rfl
@[simp] theorem agg44 : isAggT Try.prog 44 = some false := by kernel_rfl
@[simp] theorem size44 : sizeT Try.prog 44 = some 1 := by kernel_rfl
@[simp] theorem zero44 : zeroA Try.prog 44 = some [.sc .nilFunc] := by kernel_rfl
@[simp] theorem bytes44 : bytesT Try.prog 44 = some 8 := by kernel_rfl
@[simp] theorem conc44 : Try.prog.concrete 44 = true := by kernel_rfl
@[simp] theorem agg46 : isAggT Try.prog 46 = some false := by kernel_rfl
@[simp] theorem size46 : sizeT Try.prog 46 = some 1 := by kernel_rfl
@[simp] theorem zero46 : zeroA Try.prog 46 = some [.sc .nilFunc] := by kernel_rfl
@[simp] theorem bytes46 : bytesT Try.prog 46 = some 8 := by kernel_rfl
@[simp] theorem conc46 : Try.prog.concrete 46 = true := by kernel_rfl
@[simp] theorem agg47 : isAggT Try.prog 47 = some false := by kernel_rfl
@[simp] theorem size47 : sizeT Try.prog 47 = some 1 := by kernel_rfl
@[simp] theorem zero47 : zeroA Try.prog 47 = some [.sc .nilFunc] := by kernel_rfl
@[simp] theorem bytes47 : bytesT Try.prog 47 = some 8 := by kernel_rfl
@[simp] theorem conc47 : Try.prog.concrete 47 = true := by kernel_rfl
@[simp] theorem agg48 : isAggT Try.prog 48 = some false := by kernel_rfl
@[simp] theorem size48 : sizeT Try.prog 48 = some 1 := by kernel_rfl
@[simp] theorem zero48 : zeroA Try.prog 48 = some [.sc .nilFunc] := by kernel_rfl
@[simp] theorem bytes48 : bytesT Try.prog 48 = some 8 := by kernel_rfl
@[simp] theorem conc48 : Try.prog.concrete 48 = true := by kernel_rfl
@[simp] theorem agg49 : isAggT Try.prog 49 = some false := by kernel_rfl
@[simp] theorem size49 : sizeT Try.prog 49 = some 1 := by kernel_rfl
@[simp] theorem zero49 : zeroA Try.prog 49 = some [.sc .nilFunc] := by kernel_rfl
@[simp] theorem bytes49 : bytesT Try.prog 49 = some 8 := by kernel_rfl
@[simp] theorem conc49 : Try.prog.concrete 49 = true := by kernel_rfl
@[simp] theorem agg50 : isAggT Try.prog 50 = some false := by kernel_rfl
@[simp] theorem size50 : sizeT Try.prog 50 = some 1 := by kernel_rfl
@[simp] theorem zero50 : zeroA Try.prog 50 = some [.sc .nilFunc] := by kernel_rfl
@[simp] theorem bytes50 : bytesT Try.prog 50 = some 8 := by kernel_rfl
@[simp] theorem conc50 : Try.prog.concrete 50 = true := by kernel_rfl
@[simp] theorem agg51 : isAggT Try.prog 51 = some false := by kernel_rfl
@[simp] theorem size51 : sizeT Try.prog 51 = some 1 := by kernel_rfl
@[simp] theorem zero51 : zeroA Try.prog 51 = some [.sc .nilFunc] := by kernel_rfl
@[simp] theorem bytes51 : bytesT Try.prog 51 = some 8 := by kernel_rfl
@[simp] theorem conc51 : Try.prog.concrete 51 = true := by kernel_rfl
@[simp] theorem agg53 : isAggT Try.prog 53 = some false := by kernel_rfl
@[simp] theorem size53 : sizeT Try.prog 53 = some 1 := by kernel_rfl
@[simp] theorem zero53 : zeroA Try.prog 53 = some [.sc .nilFunc] := by kernel_rfl
@[simp] theorem bytes53 : bytesT Try.prog 53 = some 8 := by kernel_rfl
@[simp] theorem conc53 : Try.prog.concrete 53 = true := by kernel_rfl
@[simp] theorem agg54 : isAggT Try.prog 54 = some false := by kernel_rfl
@[simp] theorem size54 : sizeT Try.prog 54 = some 1 := by kernel_rfl
@[simp] theorem zero54 : zeroA Try.prog 54 = some [.sc .nilFunc] := by kernel_rfl
@[simp] theorem bytes54 : bytesT Try.prog 54 = some 8 := by kernel_rfl
@[simp] theorem conc54 : Try.prog.concrete 54 = true := by kernel_rfl
@[simp] theorem agg55 : isAggT Try.prog 55 = some false := by kernel_rfl
@[simp] theorem size55 : sizeT Try.prog 55 = some 1 := by kernel_rfl
@[simp] theorem zero55 : zeroA Try.prog 55 = some [.sc .nilFunc] := by kernel_rfl
@[simp] theorem bytes55 : bytesT Try.prog 55 = some 8 := by kernel_rfl
@[simp] theorem conc55 : Try.prog.concrete 55 = true := by kernel_rfl
@[simp] theorem agg56 : isAggT Try.prog 56 = some false := by kernel_rfl
@[simp] theorem size56 : sizeT Try.prog 56 = some 1 := by kernel_rfl
@[simp] theorem zero56 : zeroA Try.prog 56 = some [.sc .nilFunc] := by kernel_rfl
@[simp] theorem bytes56 : bytesT Try.prog 56 = some 8 := by kernel_rfl
@[simp] theorem conc56 : Try.prog.concrete 56 = true := by kernel_rfl
@[simp] theorem agg57 : isAggT Try.prog 57 = some true := by kernel_rfl
@[simp] theorem size57 : sizeT Try.prog 57 = some 2 := by kernel_rfl
@[simp] theorem zero57 : zeroA Try.prog 57 = some [.sc (.int .i64 0), .sc (.slice none 0 0)] := by kernel_rfl
@[simp] theorem bytes57 : bytesT Try.prog 57 = some 32 := by kernel_rfl
@[simp] theorem conc57 : Try.prog.concrete 57 = true := by kernel_rfl
@[simp] theorem places57 : placesT Try.prog 57 = some [(0, 1), (1, 1)] := by kernel_rfl
@[simp] theorem held57 : Try.prog.stoodInHeld 57 = false := by kernel_rfl
@[simp] theorem eqg57 : Try.prog.eqGuardType Try.prog.depth 57 = false := by kernel_rfl
@[simp] theorem fld57_0 (x : AV) : fieldAddrA Try.prog 57 x 0 = (match x with | .fp cs off => some (.fp cs (off + 0)) | .mp l g off => some (.mp l g (off + 0)) | _ => none) := by cases x <;> kernel_rfl
@[simp] theorem fld57_1 (x : AV) : fieldAddrA Try.prog 57 x 1 = (match x with | .fp cs off => some (.fp cs (off + 1)) | .mp l g off => some (.mp l g (off + 1)) | _ => none) := by cases x <;> kernel_rfl
@[simp] theorem agg58 : isAggT Try.prog 58 = some true := by kernel_rfl
@[simp] theorem size58 : sizeT Try.prog 58 = some 2 := by kernel_rfl
@[simp] theorem zero58 : zeroA Try.prog 58 = some [.sc (.int .i64 0), .sc (.slice none 0 0)] := by kernel_rfl
@[simp] theorem bytes58 : bytesT Try.prog 58 = some 32 := by kernel_rfl
@[simp] theorem conc58 : Try.prog.concrete 58 = true := by kernel_rfl
@[simp] theorem places58 : placesT Try.prog 58 = some [(0, 1), (1, 1)] := by kernel_rfl
@[simp] theorem held58 : Try.prog.stoodInHeld 58 = false := by kernel_rfl
@[simp] theorem eqg58 : Try.prog.eqGuardType Try.prog.depth 58 = false := by kernel_rfl
@[simp] theorem fld58_0 (x : AV) : fieldAddrA Try.prog 58 x 0 = (match x with | .fp cs off => some (.fp cs (off + 0)) | .mp l g off => some (.mp l g (off + 0)) | _ => none) := by cases x <;> kernel_rfl
@[simp] theorem fld58_1 (x : AV) : fieldAddrA Try.prog 58 x 1 = (match x with | .fp cs off => some (.fp cs (off + 1)) | .mp l g off => some (.mp l g (off + 1)) | _ => none) := by cases x <;> kernel_rfl
@[simp] theorem agg59 : isAggT Try.prog 59 = some false := by kernel_rfl
@[simp] theorem size59 : sizeT Try.prog 59 = some 1 := by kernel_rfl
@[simp] theorem zero59 : zeroA Try.prog 59 = some [.sc .nilFunc] := by kernel_rfl
@[simp] theorem bytes59 : bytesT Try.prog 59 = some 8 := by kernel_rfl
@[simp] theorem conc59 : Try.prog.concrete 59 = true := by kernel_rfl
@[simp] theorem agg60 : isAggT Try.prog 60 = some false := by kernel_rfl
@[simp] theorem size60 : sizeT Try.prog 60 = some 1 := by kernel_rfl
@[simp] theorem zero60 : zeroA Try.prog 60 = some [.sc .nilFunc] := by kernel_rfl
@[simp] theorem bytes60 : bytesT Try.prog 60 = some 8 := by kernel_rfl
@[simp] theorem conc60 : Try.prog.concrete 60 = true := by kernel_rfl
@[simp] theorem agg61 : isAggT Try.prog 61 = some false := by kernel_rfl
@[simp] theorem size61 : sizeT Try.prog 61 = some 1 := by kernel_rfl
@[simp] theorem zero61 : zeroA Try.prog 61 = some [.sc .nilFunc] := by kernel_rfl
@[simp] theorem bytes61 : bytesT Try.prog 61 = some 8 := by kernel_rfl
@[simp] theorem conc61 : Try.prog.concrete 61 = true := by kernel_rfl
@[simp] theorem agg62 : isAggT Try.prog 62 = some false := by kernel_rfl
@[simp] theorem size62 : sizeT Try.prog 62 = some 1 := by kernel_rfl
@[simp] theorem zero62 : zeroA Try.prog 62 = some [.sc .nilFunc] := by kernel_rfl
@[simp] theorem bytes62 : bytesT Try.prog 62 = some 8 := by kernel_rfl
@[simp] theorem conc62 : Try.prog.concrete 62 = true := by kernel_rfl
@[simp] theorem agg63 : isAggT Try.prog 63 = some false := by kernel_rfl
@[simp] theorem size63 : sizeT Try.prog 63 = some 1 := by kernel_rfl
@[simp] theorem zero63 : zeroA Try.prog 63 = some [.sc .nilFunc] := by kernel_rfl
@[simp] theorem bytes63 : bytesT Try.prog 63 = some 8 := by kernel_rfl
@[simp] theorem conc63 : Try.prog.concrete 63 = true := by kernel_rfl
@[simp] theorem agg64 : isAggT Try.prog 64 = some false := by kernel_rfl
@[simp] theorem size64 : sizeT Try.prog 64 = some 1 := by kernel_rfl
@[simp] theorem zero64 : zeroA Try.prog 64 = some [.sc .nilFunc] := by kernel_rfl
@[simp] theorem bytes64 : bytesT Try.prog 64 = some 8 := by kernel_rfl
@[simp] theorem conc64 : Try.prog.concrete 64 = true := by kernel_rfl
@[simp] theorem agg65 : isAggT Try.prog 65 = some false := by kernel_rfl
@[simp] theorem size65 : sizeT Try.prog 65 = some 1 := by kernel_rfl
@[simp] theorem zero65 : zeroA Try.prog 65 = some [.sc (.slice none 0 0)] := by kernel_rfl
@[simp] theorem bytes65 : bytesT Try.prog 65 = some 24 := by kernel_rfl
@[simp] theorem conc65 : Try.prog.concrete 65 = true := by kernel_rfl
@[simp] theorem elem65 : elemOfT Try.prog 65 = some (5, 1) := by kernel_rfl
@[simp] theorem slc65 : notIntT Try.prog 65 = true := by kernel_rfl
@[simp] theorem agg66 : isAggT Try.prog 66 = some false := by kernel_rfl
@[simp] theorem size66 : sizeT Try.prog 66 = some 1 := by kernel_rfl
@[simp] theorem zero66 : zeroA Try.prog 66 = some [.sc .nilFunc] := by kernel_rfl
@[simp] theorem bytes66 : bytesT Try.prog 66 = some 8 := by kernel_rfl
@[simp] theorem conc66 : Try.prog.concrete 66 = true := by kernel_rfl
@[simp] theorem agg67 : isAggT Try.prog 67 = some false := by kernel_rfl
@[simp] theorem size67 : sizeT Try.prog 67 = some 1 := by kernel_rfl
@[simp] theorem zero67 : zeroA Try.prog 67 = some [.sc .nilFunc] := by kernel_rfl
@[simp] theorem bytes67 : bytesT Try.prog 67 = some 8 := by kernel_rfl
@[simp] theorem conc67 : Try.prog.concrete 67 = true := by kernel_rfl
@[simp] theorem agg69 : isAggT Try.prog 69 = some false := by kernel_rfl
@[simp] theorem size69 : sizeT Try.prog 69 = some 1 := by kernel_rfl
@[simp] theorem zero69 : zeroA Try.prog 69 = some [.sc .nilFunc] := by kernel_rfl
@[simp] theorem bytes69 : bytesT Try.prog 69 = some 8 := by kernel_rfl
@[simp] theorem conc69 : Try.prog.concrete 69 = true := by kernel_rfl
@[simp] theorem agg70 : isAggT Try.prog 70 = some false := by kernel_rfl
@[simp] theorem size70 : sizeT Try.prog 70 = some 1 := by kernel_rfl
@[simp] theorem zero70 : zeroA Try.prog 70 = some [.sc .nilFunc] := by kernel_rfl
@[simp] theorem bytes70 : bytesT Try.prog 70 = some 8 := by kernel_rfl
@[simp] theorem conc70 : Try.prog.concrete 70 = true := by kernel_rfl
@[simp] theorem agg71 : isAggT Try.prog 71 = some false := by kernel_rfl
@[simp] theorem size71 : sizeT Try.prog 71 = some 1 := by kernel_rfl
@[simp] theorem zero71 : zeroA Try.prog 71 = some [.sc .nilFunc] := by kernel_rfl
@[simp] theorem bytes71 : bytesT Try.prog 71 = some 8 := by kernel_rfl
@[simp] theorem conc71 : Try.prog.concrete 71 = true := by kernel_rfl
@[simp] theorem agg72 : isAggT Try.prog 72 = some false := by kernel_rfl
@[simp] theorem size72 : sizeT Try.prog 72 = some 1 := by kernel_rfl
@[simp] theorem zero72 : zeroA Try.prog 72 = some [.sc .nilFunc] := by kernel_rfl
@[simp] theorem bytes72 : bytesT Try.prog 72 = some 8 := by kernel_rfl
@[simp] theorem conc72 : Try.prog.concrete 72 = true := by kernel_rfl
@[simp] theorem agg73 : isAggT Try.prog 73 = some false := by kernel_rfl
@[simp] theorem size73 : sizeT Try.prog 73 = some 1 := by kernel_rfl
@[simp] theorem zero73 : zeroA Try.prog 73 = some [.sc .nilFunc] := by kernel_rfl
@[simp] theorem bytes73 : bytesT Try.prog 73 = some 8 := by kernel_rfl
@[simp] theorem conc73 : Try.prog.concrete 73 = true := by kernel_rfl
@[simp] theorem agg74 : isAggT Try.prog 74 = some false := by kernel_rfl
@[simp] theorem size74 : sizeT Try.prog 74 = some 1 := by kernel_rfl
@[simp] theorem zero74 : zeroA Try.prog 74 = some [.sc .nilFunc] := by kernel_rfl
@[simp] theorem bytes74 : bytesT Try.prog 74 = some 8 := by kernel_rfl
@[simp] theorem conc74 : Try.prog.concrete 74 = true := by kernel_rfl
@[simp] theorem agg75 : isAggT Try.prog 75 = some false := by kernel_rfl
@[simp] theorem size75 : sizeT Try.prog 75 = some 1 := by kernel_rfl
@[simp] theorem zero75 : zeroA Try.prog 75 = some [.sc .nilFunc] := by kernel_rfl
@[simp] theorem bytes75 : bytesT Try.prog 75 = some 8 := by kernel_rfl
@[simp] theorem conc75 : Try.prog.concrete 75 = true := by kernel_rfl
@[simp] theorem agg76 : isAggT Try.prog 76 = some false := by kernel_rfl
@[simp] theorem size76 : sizeT Try.prog 76 = some 1 := by kernel_rfl
@[simp] theorem zero76 : zeroA Try.prog 76 = some [.sc .nilFunc] := by kernel_rfl
@[simp] theorem bytes76 : bytesT Try.prog 76 = some 8 := by kernel_rfl
@[simp] theorem conc76 : Try.prog.concrete 76 = true := by kernel_rfl
@[simp] theorem agg77 : isAggT Try.prog 77 = some false := by kernel_rfl
@[simp] theorem size77 : sizeT Try.prog 77 = some 1 := by kernel_rfl
@[simp] theorem zero77 : zeroA Try.prog 77 = some [.sc .nilFunc] := by kernel_rfl
@[simp] theorem bytes77 : bytesT Try.prog 77 = some 8 := by kernel_rfl
@[simp] theorem conc77 : Try.prog.concrete 77 = true := by kernel_rfl
@[simp] theorem agg78 : isAggT Try.prog 78 = some false := by kernel_rfl
@[simp] theorem size78 : sizeT Try.prog 78 = some 1 := by kernel_rfl
@[simp] theorem zero78 : zeroA Try.prog 78 = some [.sc .nilFunc] := by kernel_rfl
@[simp] theorem bytes78 : bytesT Try.prog 78 = some 8 := by kernel_rfl
@[simp] theorem conc78 : Try.prog.concrete 78 = true := by kernel_rfl
@[simp] theorem agg79 : isAggT Try.prog 79 = some false := by kernel_rfl
@[simp] theorem size79 : sizeT Try.prog 79 = some 1 := by kernel_rfl
@[simp] theorem zero79 : zeroA Try.prog 79 = some [.sc .nilFunc] := by kernel_rfl
@[simp] theorem bytes79 : bytesT Try.prog 79 = some 8 := by kernel_rfl
@[simp] theorem conc79 : Try.prog.concrete 79 = true := by kernel_rfl
@[simp] theorem agg80 : isAggT Try.prog 80 = some false := by kernel_rfl
@[simp] theorem size80 : sizeT Try.prog 80 = some 1 := by kernel_rfl
@[simp] theorem zero80 : zeroA Try.prog 80 = some [.sc .nilFunc] := by kernel_rfl
@[simp] theorem bytes80 : bytesT Try.prog 80 = some 8 := by kernel_rfl
@[simp] theorem conc80 : Try.prog.concrete 80 = true := by kernel_rfl
@[simp] theorem agg81 : isAggT Try.prog 81 = some false := by kernel_rfl
@[simp] theorem size81 : sizeT Try.prog 81 = some 1 := by kernel_rfl
@[simp] theorem zero81 : zeroA Try.prog 81 = some [.sc .nilFunc] := by kernel_rfl
@[simp] theorem bytes81 : bytesT Try.prog 81 = some 8 := by kernel_rfl
@[simp] theorem conc81 : Try.prog.concrete 81 = true := by kernel_rfl
@[simp] theorem agg82 : isAggT Try.prog 82 = some false := by kernel_rfl
@[simp] theorem size82 : sizeT Try.prog 82 = some 1 := by kernel_rfl
@[simp] theorem zero82 : zeroA Try.prog 82 = some [.sc .nilFunc] := by kernel_rfl
@[simp] theorem bytes82 : bytesT Try.prog 82 = some 8 := by kernel_rfl
@[simp] theorem conc82 : Try.prog.concrete 82 = true := by kernel_rfl
@[simp] theorem agg83 : isAggT Try.prog 83 = some false := by kernel_rfl
@[simp] theorem size83 : sizeT Try.prog 83 = some 1 := by kernel_rfl
@[simp] theorem zero83 : zeroA Try.prog 83 = some [.sc .nilFunc] := by kernel_rfl
@[simp] theorem bytes83 : bytesT Try.prog 83 = some 8 := by kernel_rfl
@[simp] theorem conc83 : Try.prog.concrete 83 = true := by kernel_rfl
@[simp] theorem agg84 : isAggT Try.prog 84 = some false := by kernel_rfl
@[simp] theorem size84 : sizeT Try.prog 84 = some 1 := by kernel_rfl
@[simp] theorem zero84 : zeroA Try.prog 84 = some [.sc .nilFunc] := by kernel_rfl
@[simp] theorem bytes84 : bytesT Try.prog 84 = some 8 := by kernel_rfl
@[simp] theorem conc84 : Try.prog.concrete 84 = true := by kernel_rfl
@[simp] theorem agg85 : isAggT Try.prog 85 = some false := by kernel_rfl
@[simp] theorem size85 : sizeT Try.prog 85 = some 1 := by kernel_rfl
@[simp] theorem zero85 : zeroA Try.prog 85 = some [.sc .nilFunc] := by kernel_rfl
@[simp] theorem bytes85 : bytesT Try.prog 85 = some 8 := by kernel_rfl
@[simp] theorem conc85 : Try.prog.concrete 85 = true := by kernel_rfl
@[simp] theorem agg86 : isAggT Try.prog 86 = some false := by kernel_rfl
@[simp] theorem size86 : sizeT Try.prog 86 = some 1 := by kernel_rfl
@[simp] theorem zero86 : zeroA Try.prog 86 = some [.sc .nilFunc] := by kernel_rfl
@[simp] theorem bytes86 : bytesT Try.prog 86 = some 8 := by kernel_rfl
@[simp] theorem conc86 : Try.prog.concrete 86 = true := by kernel_rfl
@[simp] theorem agg87 : isAggT Try.prog 87 = some false := by kernel_rfl
@[simp] theorem size87 : sizeT Try.prog 87 = some 1 := by kernel_rfl
@[simp] theorem zero87 : zeroA Try.prog 87 = some [.sc (.int .i64 0)] := by kernel_rfl
@[simp] theorem bytes87 : bytesT Try.prog 87 = some 8 := by kernel_rfl
@[simp] theorem conc87 : Try.prog.concrete 87 = true := by kernel_rfl
@[simp] theorem slc87 : notIntT Try.prog 87 = false := by kernel_rfl
@[simp] theorem int87 : intT Try.prog 87 = true := by kernel_rfl
@[simp] theorem agg89 : isAggT Try.prog 89 = some false := by kernel_rfl
@[simp] theorem size89 : sizeT Try.prog 89 = some 1 := by kernel_rfl
@[simp] theorem zero89 : zeroA Try.prog 89 = some [.sc .nilFunc] := by kernel_rfl
@[simp] theorem bytes89 : bytesT Try.prog 89 = some 8 := by kernel_rfl
@[simp] theorem conc89 : Try.prog.concrete 89 = true := by kernel_rfl
@[simp] theorem agg90 : isAggT Try.prog 90 = some false := by kernel_rfl
@[simp] theorem size90 : sizeT Try.prog 90 = some 1 := by kernel_rfl
@[simp] theorem zero90 : zeroA Try.prog 90 = some [.sc .nilFunc] := by kernel_rfl
@[simp] theorem bytes90 : bytesT Try.prog 90 = some 8 := by kernel_rfl
@[simp] theorem conc90 : Try.prog.concrete 90 = true := by kernel_rfl
@[simp] theorem agg91 : isAggT Try.prog 91 = some false := by kernel_rfl
@[simp] theorem size91 : sizeT Try.prog 91 = some 1 := by kernel_rfl
@[simp] theorem zero91 : zeroA Try.prog 91 = some [.sc .nilFunc] := by kernel_rfl
@[simp] theorem bytes91 : bytesT Try.prog 91 = some 8 := by kernel_rfl
@[simp] theorem conc91 : Try.prog.concrete 91 = true := by kernel_rfl
@[simp] theorem agg92 : isAggT Try.prog 92 = some false := by kernel_rfl
@[simp] theorem size92 : sizeT Try.prog 92 = some 1 := by kernel_rfl
@[simp] theorem zero92 : zeroA Try.prog 92 = some [.sc .nilFunc] := by kernel_rfl
@[simp] theorem bytes92 : bytesT Try.prog 92 = some 8 := by kernel_rfl
@[simp] theorem conc92 : Try.prog.concrete 92 = true := by kernel_rfl
@[simp] theorem agg93 : isAggT Try.prog 93 = some false := by kernel_rfl
@[simp] theorem size93 : sizeT Try.prog 93 = some 1 := by kernel_rfl
@[simp] theorem zero93 : zeroA Try.prog 93 = some [.sc .nilFunc] := by kernel_rfl
@[simp] theorem bytes93 : bytesT Try.prog 93 = some 8 := by kernel_rfl
@[simp] theorem conc93 : Try.prog.concrete 93 = true := by kernel_rfl
@[simp] theorem agg94 : isAggT Try.prog 94 = some false := by kernel_rfl
@[simp] theorem size94 : sizeT Try.prog 94 = some 1 := by kernel_rfl
@[simp] theorem zero94 : zeroA Try.prog 94 = some [.sc (.int .u32 0)] := by kernel_rfl
@[simp] theorem bytes94 : bytesT Try.prog 94 = some 4 := by kernel_rfl
@[simp] theorem conc94 : Try.prog.concrete 94 = true := by kernel_rfl
@[simp] theorem slc94 : notIntT Try.prog 94 = false := by kernel_rfl
@[simp] theorem int94 : intT Try.prog 94 = true := by kernel_rfl
@[simp] theorem agg95 : isAggT Try.prog 95 = some false := by kernel_rfl
@[simp] theorem size95 : sizeT Try.prog 95 = some 1 := by kernel_rfl
@[simp] theorem zero95 : zeroA Try.prog 95 = some [.sc .nilFunc] := by kernel_rfl
@[simp] theorem bytes95 : bytesT Try.prog 95 = some 8 := by kernel_rfl
@[simp] theorem conc95 : Try.prog.concrete 95 = true := by kernel_rfl
@[simp] theorem agg96 : isAggT Try.prog 96 = some false := by kernel_rfl
@[simp] theorem size96 : sizeT Try.prog 96 = some 1 := by kernel_rfl
@[simp] theorem zero96 : zeroA Try.prog 96 = some [.sc (.int .u64 0)] := by kernel_rfl
@[simp] theorem bytes96 : bytesT Try.prog 96 = some 8 := by kernel_rfl
@[simp] theorem conc96 : Try.prog.concrete 96 = true := by kernel_rfl
@[simp] theorem slc96 : notIntT Try.prog 96 = false := by kernel_rfl
@[simp] theorem int96 : intT Try.prog 96 = true := by kernel_rfl
@[simp] theorem agg97 : isAggT Try.prog 97 = some false := by kernel_rfl
@[simp] theorem size97 : sizeT Try.prog 97 = some 1 := by kernel_rfl
@[simp] theorem zero97 : zeroA Try.prog 97 = some [.sc (.int .u64 0)] := by kernel_rfl
@[simp] theorem bytes97 : bytesT Try.prog 97 = some 8 := by kernel_rfl
@[simp] theorem conc97 : Try.prog.concrete 97 = true := by kernel_rfl
@[simp] theorem slc97 : notIntT Try.prog 97 = false := by kernel_rfl
@[simp] theorem int97 : intT Try.prog 97 = true := by kernel_rfl
@[simp] theorem agg98 : isAggT Try.prog 98 = some false := by kernel_rfl
@[simp] theorem size98 : sizeT Try.prog 98 = some 1 := by kernel_rfl
@[simp] theorem zero98 : zeroA Try.prog 98 = some [.sc .nilFunc] := by kernel_rfl
@[simp] theorem bytes98 : bytesT Try.prog 98 = some 8 := by kernel_rfl
@[simp] theorem conc98 : Try.prog.concrete 98 = true := by kernel_rfl
@[simp] theorem agg99 : isAggT Try.prog 99 = some false := by kernel_rfl
@[simp] theorem size99 : sizeT Try.prog 99 = some 1 := by kernel_rfl
@[simp] theorem zero99 : zeroA Try.prog 99 = some [.sc .nilFunc] := by kernel_rfl
@[simp] theorem bytes99 : bytesT Try.prog 99 = some 8 := by kernel_rfl
@[simp] theorem conc99 : Try.prog.concrete 99 = true := by kernel_rfl
@[simp] theorem agg100 : isAggT Try.prog 100 = some false := by kernel_rfl
@[simp] theorem size100 : sizeT Try.prog 100 = some 1 := by kernel_rfl
@[simp] theorem zero100 : zeroA Try.prog 100 = some [.sc .nilFunc] := by kernel_rfl
@[simp] theorem bytes100 : bytesT Try.prog 100 = some 8 := by kernel_rfl
@[simp] theorem conc100 : Try.prog.concrete 100 = true := by kernel_rfl
@[simp] theorem agg101 : isAggT Try.prog 101 = some false := by kernel_rfl
@[simp] theorem size101 : sizeT Try.prog 101 = some 1 := by kernel_rfl
@[simp] theorem zero101 : zeroA Try.prog 101 = some [.sc (.pointer none)] := by kernel_rfl
@[simp] theorem bytes101 : bytesT Try.prog 101 = some 8 := by kernel_rfl
@[simp] theorem conc101 : Try.prog.concrete 101 = true := by kernel_rfl
@[simp] theorem agg102 : isAggT Try.prog 102 = some false := by kernel_rfl
@[simp] theorem size102 : sizeT Try.prog 102 = some 1 := by kernel_rfl
@[simp] theorem zero102 : zeroA Try.prog 102 = some [.sc .nilFunc] := by kernel_rfl
@[simp] theorem bytes102 : bytesT Try.prog 102 = some 8 := by kernel_rfl
@[simp] theorem conc102 : Try.prog.concrete 102 = true := by kernel_rfl
@[simp] theorem agg103 : isAggT Try.prog 103 = some false := by kernel_rfl
@[simp] theorem size103 : sizeT Try.prog 103 = some 1 := by kernel_rfl
@[simp] theorem zero103 : zeroA Try.prog 103 = some [.sc (.pointer none)] := by kernel_rfl
@[simp] theorem bytes103 : bytesT Try.prog 103 = some 8 := by kernel_rfl
@[simp] theorem conc103 : Try.prog.concrete 103 = true := by kernel_rfl
@[simp] theorem agg105 : isAggT Try.prog 105 = some false := by kernel_rfl
@[simp] theorem size105 : sizeT Try.prog 105 = some 1 := by kernel_rfl
@[simp] theorem zero105 : zeroA Try.prog 105 = some [.sc .nilFunc] := by kernel_rfl
@[simp] theorem bytes105 : bytesT Try.prog 105 = some 8 := by kernel_rfl
@[simp] theorem conc105 : Try.prog.concrete 105 = true := by kernel_rfl
@[simp] theorem agg106 : isAggT Try.prog 106 = some true := by kernel_rfl
@[simp] theorem size106 : sizeT Try.prog 106 = some 4 := by kernel_rfl
@[simp] theorem zero106 : zeroA Try.prog 106 = some [.sc (.pointer none), .sc (.pointer none), .sc (.pointer none), .sc (.string ⟨#[]⟩)] := by kernel_rfl
@[simp] theorem bytes106 : bytesT Try.prog 106 = some 40 := by kernel_rfl
@[simp] theorem conc106 : Try.prog.concrete 106 = true := by kernel_rfl
@[simp] theorem places106 : placesT Try.prog 106 = some [(0, 1), (1, 1), (2, 1), (3, 1)] := by kernel_rfl
@[simp] theorem eqg106 : Try.prog.eqGuardType Try.prog.depth 106 = false := by kernel_rfl
@[simp] theorem fld106_0 (x : AV) : fieldAddrA Try.prog 106 x 0 = (match x with | .fp cs off => some (.fp cs (off + 0)) | .mp l g off => some (.mp l g (off + 0)) | _ => none) := by cases x <;> kernel_rfl
@[simp] theorem fld106_1 (x : AV) : fieldAddrA Try.prog 106 x 1 = (match x with | .fp cs off => some (.fp cs (off + 1)) | .mp l g off => some (.mp l g (off + 1)) | _ => none) := by cases x <;> kernel_rfl
@[simp] theorem fld106_2 (x : AV) : fieldAddrA Try.prog 106 x 2 = (match x with | .fp cs off => some (.fp cs (off + 2)) | .mp l g off => some (.mp l g (off + 2)) | _ => none) := by cases x <;> kernel_rfl
@[simp] theorem fld106_3 (x : AV) : fieldAddrA Try.prog 106 x 3 = (match x with | .fp cs off => some (.fp cs (off + 3)) | .mp l g off => some (.mp l g (off + 3)) | _ => none) := by cases x <;> kernel_rfl
@[simp] theorem agg107 : isAggT Try.prog 107 = some true := by kernel_rfl
@[simp] theorem size107 : sizeT Try.prog 107 = some 4 := by kernel_rfl
@[simp] theorem zero107 : zeroA Try.prog 107 = some [.sc (.pointer none), .sc (.pointer none), .sc (.pointer none), .sc (.string ⟨#[]⟩)] := by kernel_rfl
@[simp] theorem bytes107 : bytesT Try.prog 107 = some 40 := by kernel_rfl
@[simp] theorem conc107 : Try.prog.concrete 107 = true := by kernel_rfl
@[simp] theorem places107 : placesT Try.prog 107 = some [(0, 1), (1, 1), (2, 1), (3, 1)] := by kernel_rfl
@[simp] theorem eqg107 : Try.prog.eqGuardType Try.prog.depth 107 = false := by kernel_rfl
@[simp] theorem fld107_0 (x : AV) : fieldAddrA Try.prog 107 x 0 = (match x with | .fp cs off => some (.fp cs (off + 0)) | .mp l g off => some (.mp l g (off + 0)) | _ => none) := by cases x <;> kernel_rfl
@[simp] theorem fld107_1 (x : AV) : fieldAddrA Try.prog 107 x 1 = (match x with | .fp cs off => some (.fp cs (off + 1)) | .mp l g off => some (.mp l g (off + 1)) | _ => none) := by cases x <;> kernel_rfl
@[simp] theorem fld107_2 (x : AV) : fieldAddrA Try.prog 107 x 2 = (match x with | .fp cs off => some (.fp cs (off + 2)) | .mp l g off => some (.mp l g (off + 2)) | _ => none) := by cases x <;> kernel_rfl
@[simp] theorem fld107_3 (x : AV) : fieldAddrA Try.prog 107 x 3 = (match x with | .fp cs off => some (.fp cs (off + 3)) | .mp l g off => some (.mp l g (off + 3)) | _ => none) := by cases x <;> kernel_rfl
@[simp] theorem agg111 : isAggT Try.prog 111 = some false := by kernel_rfl
@[simp] theorem size111 : sizeT Try.prog 111 = some 1 := by kernel_rfl
@[simp] theorem zero111 : zeroA Try.prog 111 = some [.sc (.int .u8 0)] := by kernel_rfl
@[simp] theorem bytes111 : bytesT Try.prog 111 = some 1 := by kernel_rfl
@[simp] theorem conc111 : Try.prog.concrete 111 = true := by kernel_rfl
@[simp] theorem slc111 : notIntT Try.prog 111 = false := by kernel_rfl
@[simp] theorem int111 : intT Try.prog 111 = true := by kernel_rfl
@[simp] theorem agg112 : isAggT Try.prog 112 = some false := by kernel_rfl
@[simp] theorem size112 : sizeT Try.prog 112 = some 1 := by kernel_rfl
@[simp] theorem zero112 : zeroA Try.prog 112 = some [.sc (.int .u8 0)] := by kernel_rfl
@[simp] theorem bytes112 : bytesT Try.prog 112 = some 1 := by kernel_rfl
@[simp] theorem conc112 : Try.prog.concrete 112 = true := by kernel_rfl
@[simp] theorem slc112 : notIntT Try.prog 112 = false := by kernel_rfl
@[simp] theorem int112 : intT Try.prog 112 = true := by kernel_rfl
@[simp] theorem agg113 : isAggT Try.prog 113 = some false := by kernel_rfl
@[simp] theorem size113 : sizeT Try.prog 113 = some 1 := by kernel_rfl
@[simp] theorem zero113 : zeroA Try.prog 113 = some [.sc .nilFunc] := by kernel_rfl
@[simp] theorem bytes113 : bytesT Try.prog 113 = some 8 := by kernel_rfl
@[simp] theorem conc113 : Try.prog.concrete 113 = true := by kernel_rfl
@[simp] theorem agg114 : isAggT Try.prog 114 = some false := by kernel_rfl
@[simp] theorem size114 : sizeT Try.prog 114 = some 1 := by kernel_rfl
@[simp] theorem zero114 : zeroA Try.prog 114 = some [.sc (.pointer none)] := by kernel_rfl
@[simp] theorem bytes114 : bytesT Try.prog 114 = some 8 := by kernel_rfl
@[simp] theorem conc114 : Try.prog.concrete 114 = true := by kernel_rfl
@[simp] theorem agg115 : isAggT Try.prog 115 = some false := by kernel_rfl
@[simp] theorem size115 : sizeT Try.prog 115 = some 1 := by kernel_rfl
@[simp] theorem zero115 : zeroA Try.prog 115 = some [.sc (.int .i32 0)] := by kernel_rfl
@[simp] theorem bytes115 : bytesT Try.prog 115 = some 4 := by kernel_rfl
@[simp] theorem conc115 : Try.prog.concrete 115 = true := by kernel_rfl
@[simp] theorem slc115 : notIntT Try.prog 115 = false := by kernel_rfl
@[simp] theorem int115 : intT Try.prog 115 = true := by kernel_rfl
@[simp] theorem agg116 : isAggT Try.prog 116 = some false := by kernel_rfl
@[simp] theorem size116 : sizeT Try.prog 116 = some 1 := by kernel_rfl
@[simp] theorem zero116 : zeroA Try.prog 116 = some [.sc (.int .i32 0)] := by kernel_rfl
@[simp] theorem bytes116 : bytesT Try.prog 116 = some 4 := by kernel_rfl
@[simp] theorem conc116 : Try.prog.concrete 116 = true := by kernel_rfl
@[simp] theorem slc116 : notIntT Try.prog 116 = false := by kernel_rfl
@[simp] theorem int116 : intT Try.prog 116 = true := by kernel_rfl
@[simp] theorem agg117 : isAggT Try.prog 117 = some true := by kernel_rfl
@[simp] theorem size117 : sizeT Try.prog 117 = some 11 := by kernel_rfl
@[simp] theorem zero117 : zeroA Try.prog 117 = some [.sc (.int .u64 0), .sc (.int .u64 0), .sc (.int .u32 0), .sc (.int .u8 0), .sc (.int .u8 0), .sc (.int .u8 0), .sc (.int .u8 0), .sc .nilFunc, .sc (.pointer none), .sc (.int .i32 0), .sc (.int .i32 0)] := by kernel_rfl
@[simp] theorem bytes117 : bytesT Try.prog 117 = some 48 := by kernel_rfl
@[simp] theorem conc117 : Try.prog.concrete 117 = true := by kernel_rfl
@[simp] theorem places117 : placesT Try.prog 117 = some [(0, 1), (1, 1), (2, 1), (3, 1), (4, 1), (5, 1), (6, 1), (7, 1), (8, 1), (9, 1), (10, 1)] := by kernel_rfl
@[simp] theorem eqg117 : Try.prog.eqGuardType Try.prog.depth 117 = false := by kernel_rfl
@[simp] theorem fld117_0 (x : AV) : fieldAddrA Try.prog 117 x 0 = (match x with | .fp cs off => some (.fp cs (off + 0)) | .mp l g off => some (.mp l g (off + 0)) | _ => none) := by cases x <;> kernel_rfl
@[simp] theorem fld117_1 (x : AV) : fieldAddrA Try.prog 117 x 1 = (match x with | .fp cs off => some (.fp cs (off + 1)) | .mp l g off => some (.mp l g (off + 1)) | _ => none) := by cases x <;> kernel_rfl
@[simp] theorem fld117_2 (x : AV) : fieldAddrA Try.prog 117 x 2 = (match x with | .fp cs off => some (.fp cs (off + 2)) | .mp l g off => some (.mp l g (off + 2)) | _ => none) := by cases x <;> kernel_rfl
@[simp] theorem fld117_3 (x : AV) : fieldAddrA Try.prog 117 x 3 = (match x with | .fp cs off => some (.fp cs (off + 3)) | .mp l g off => some (.mp l g (off + 3)) | _ => none) := by cases x <;> kernel_rfl
@[simp] theorem fld117_4 (x : AV) : fieldAddrA Try.prog 117 x 4 = (match x with | .fp cs off => some (.fp cs (off + 4)) | .mp l g off => some (.mp l g (off + 4)) | _ => none) := by cases x <;> kernel_rfl
@[simp] theorem fld117_5 (x : AV) : fieldAddrA Try.prog 117 x 5 = (match x with | .fp cs off => some (.fp cs (off + 5)) | .mp l g off => some (.mp l g (off + 5)) | _ => none) := by cases x <;> kernel_rfl
@[simp] theorem fld117_6 (x : AV) : fieldAddrA Try.prog 117 x 6 = (match x with | .fp cs off => some (.fp cs (off + 6)) | .mp l g off => some (.mp l g (off + 6)) | _ => none) := by cases x <;> kernel_rfl
@[simp] theorem fld117_7 (x : AV) : fieldAddrA Try.prog 117 x 7 = (match x with | .fp cs off => some (.fp cs (off + 7)) | .mp l g off => some (.mp l g (off + 7)) | _ => none) := by cases x <;> kernel_rfl
@[simp] theorem fld117_8 (x : AV) : fieldAddrA Try.prog 117 x 8 = (match x with | .fp cs off => some (.fp cs (off + 8)) | .mp l g off => some (.mp l g (off + 8)) | _ => none) := by cases x <;> kernel_rfl
@[simp] theorem fld117_9 (x : AV) : fieldAddrA Try.prog 117 x 9 = (match x with | .fp cs off => some (.fp cs (off + 9)) | .mp l g off => some (.mp l g (off + 9)) | _ => none) := by cases x <;> kernel_rfl
@[simp] theorem fld117_10 (x : AV) : fieldAddrA Try.prog 117 x 10 = (match x with | .fp cs off => some (.fp cs (off + 10)) | .mp l g off => some (.mp l g (off + 10)) | _ => none) := by cases x <;> kernel_rfl
@[simp] theorem agg118 : isAggT Try.prog 118 = some true := by kernel_rfl
@[simp] theorem size118 : sizeT Try.prog 118 = some 11 := by kernel_rfl
@[simp] theorem zero118 : zeroA Try.prog 118 = some [.sc (.int .u64 0), .sc (.int .u64 0), .sc (.int .u32 0), .sc (.int .u8 0), .sc (.int .u8 0), .sc (.int .u8 0), .sc (.int .u8 0), .sc .nilFunc, .sc (.pointer none), .sc (.int .i32 0), .sc (.int .i32 0)] := by kernel_rfl
@[simp] theorem bytes118 : bytesT Try.prog 118 = some 48 := by kernel_rfl
@[simp] theorem conc118 : Try.prog.concrete 118 = true := by kernel_rfl
@[simp] theorem places118 : placesT Try.prog 118 = some [(0, 1), (1, 1), (2, 1), (3, 1), (4, 1), (5, 1), (6, 1), (7, 1), (8, 1), (9, 1), (10, 1)] := by kernel_rfl
@[simp] theorem eqg118 : Try.prog.eqGuardType Try.prog.depth 118 = false := by kernel_rfl
@[simp] theorem fld118_0 (x : AV) : fieldAddrA Try.prog 118 x 0 = (match x with | .fp cs off => some (.fp cs (off + 0)) | .mp l g off => some (.mp l g (off + 0)) | _ => none) := by cases x <;> kernel_rfl
@[simp] theorem fld118_1 (x : AV) : fieldAddrA Try.prog 118 x 1 = (match x with | .fp cs off => some (.fp cs (off + 1)) | .mp l g off => some (.mp l g (off + 1)) | _ => none) := by cases x <;> kernel_rfl
@[simp] theorem fld118_2 (x : AV) : fieldAddrA Try.prog 118 x 2 = (match x with | .fp cs off => some (.fp cs (off + 2)) | .mp l g off => some (.mp l g (off + 2)) | _ => none) := by cases x <;> kernel_rfl
@[simp] theorem fld118_3 (x : AV) : fieldAddrA Try.prog 118 x 3 = (match x with | .fp cs off => some (.fp cs (off + 3)) | .mp l g off => some (.mp l g (off + 3)) | _ => none) := by cases x <;> kernel_rfl
@[simp] theorem fld118_4 (x : AV) : fieldAddrA Try.prog 118 x 4 = (match x with | .fp cs off => some (.fp cs (off + 4)) | .mp l g off => some (.mp l g (off + 4)) | _ => none) := by cases x <;> kernel_rfl
@[simp] theorem fld118_5 (x : AV) : fieldAddrA Try.prog 118 x 5 = (match x with | .fp cs off => some (.fp cs (off + 5)) | .mp l g off => some (.mp l g (off + 5)) | _ => none) := by cases x <;> kernel_rfl
@[simp] theorem fld118_6 (x : AV) : fieldAddrA Try.prog 118 x 6 = (match x with | .fp cs off => some (.fp cs (off + 6)) | .mp l g off => some (.mp l g (off + 6)) | _ => none) := by cases x <;> kernel_rfl
@[simp] theorem fld118_7 (x : AV) : fieldAddrA Try.prog 118 x 7 = (match x with | .fp cs off => some (.fp cs (off + 7)) | .mp l g off => some (.mp l g (off + 7)) | _ => none) := by cases x <;> kernel_rfl
@[simp] theorem fld118_8 (x : AV) : fieldAddrA Try.prog 118 x 8 = (match x with | .fp cs off => some (.fp cs (off + 8)) | .mp l g off => some (.mp l g (off + 8)) | _ => none) := by cases x <;> kernel_rfl
@[simp] theorem fld118_9 (x : AV) : fieldAddrA Try.prog 118 x 9 = (match x with | .fp cs off => some (.fp cs (off + 9)) | .mp l g off => some (.mp l g (off + 9)) | _ => none) := by cases x <;> kernel_rfl
@[simp] theorem fld118_10 (x : AV) : fieldAddrA Try.prog 118 x 10 = (match x with | .fp cs off => some (.fp cs (off + 10)) | .mp l g off => some (.mp l g (off + 10)) | _ => none) := by cases x <;> kernel_rfl
attribute [simp] Try.underlying1 Try.underlying2 Try.underlying3 Try.underlying4 Try.underlying5 Try.underlying6 Try.underlying7 Try.underlying8 Try.underlying9 Try.underlying10 Try.underlying11 Try.underlying12 Try.underlying13 Try.underlying14 Try.underlying15 Try.underlying16 Try.underlying17 Try.underlying18 Try.underlying19 Try.underlying20 Try.underlying21 Try.underlying22 Try.underlying23 Try.underlying24 Try.underlying25 Try.underlying26 Try.underlying27 Try.underlying28 Try.underlying29 Try.underlying30 Try.underlying31 Try.underlying32 Try.underlying33 Try.underlying34 Try.underlying36 Try.underlying37 Try.underlying38 Try.underlying39 Try.underlying40 Try.underlying41 Try.underlying42 Try.underlying44 Try.underlying46 Try.underlying47 Try.underlying48 Try.underlying49 Try.underlying50 Try.underlying51 Try.underlying53 Try.underlying54 Try.underlying55 Try.underlying56 Try.underlying57 Try.underlying58 Try.underlying59 Try.underlying60 Try.underlying61 Try.underlying62 Try.underlying63 Try.underlying64 Try.underlying65 Try.underlying66 Try.underlying67 Try.underlying69 Try.underlying70 Try.underlying71 Try.underlying72 Try.underlying73 Try.underlying74 Try.underlying75 Try.underlying76 Try.underlying77 Try.underlying78 Try.underlying79 Try.underlying80 Try.underlying81 Try.underlying82 Try.underlying83 Try.underlying84 Try.underlying85 Try.underlying86 Try.underlying87 Try.underlying89 Try.underlying90 Try.underlying91 Try.underlying92 Try.underlying93 Try.underlying94 Try.underlying95 Try.underlying96 Try.underlying97 Try.underlying98 Try.underlying99 Try.underlying100 Try.underlying101 Try.underlying102 Try.underlying103 Try.underlying105 Try.underlying106 Try.underlying107 Try.underlying111 Try.underlying112 Try.underlying113 Try.underlying114 Try.underlying115 Try.underlying116 Try.underlying117 Try.underlying118
@[simp] theorem good2 : goodF Try.prog 2 = true := by kernel_rfl
@[simp] theorem good3 : goodF Try.prog 3 = true := by kernel_rfl
@[simp] theorem good4 : goodF Try.prog 4 = true := by kernel_rfl
@[simp] theorem good5 : goodF Try.prog 5 = true := by kernel_rfl
@[simp] theorem good6 : goodF Try.prog 6 = true := by kernel_rfl
@[simp] theorem good7 : goodF Try.prog 7 = true := by kernel_rfl
@[simp] theorem good8 : goodF Try.prog 8 = true := by kernel_rfl
@[simp] theorem good9 : goodF Try.prog 9 = true := by kernel_rfl
@[simp] theorem good10 : goodF Try.prog 10 = true := by kernel_rfl
@[simp] theorem good11 : goodF Try.prog 11 = true := by kernel_rfl
@[simp] theorem good12 : goodF Try.prog 12 = true := by kernel_rfl
@[simp] theorem good13 : goodF Try.prog 13 = true := by kernel_rfl
@[simp] theorem good14 : goodF Try.prog 14 = true := by kernel_rfl
@[simp] theorem good15 : goodF Try.prog 15 = true := by kernel_rfl
@[simp] theorem good16 : goodF Try.prog 16 = true := by kernel_rfl
@[simp] theorem good17 : goodF Try.prog 17 = true := by kernel_rfl
@[simp] theorem good18 : goodF Try.prog 18 = true := by kernel_rfl
@[simp] theorem good19 : goodF Try.prog 19 = true := by kernel_rfl
@[simp] theorem good20 : goodF Try.prog 20 = true := by kernel_rfl
@[simp] theorem good21 : goodF Try.prog 21 = true := by kernel_rfl
@[simp] theorem good22 : goodF Try.prog 22 = true := by kernel_rfl
@[simp] theorem good23 : goodF Try.prog 23 = true := by kernel_rfl
@[simp] theorem good24 : goodF Try.prog 24 = true := by kernel_rfl
@[simp] theorem good25 : goodF Try.prog 25 = true := by kernel_rfl
@[simp] theorem good26 : goodF Try.prog 26 = true := by kernel_rfl
@[simp] theorem good27 : goodF Try.prog 27 = true := by kernel_rfl
@[simp] theorem good28 : goodF Try.prog 28 = true := by kernel_rfl
@[simp] theorem good29 : goodF Try.prog 29 = true := by kernel_rfl
@[simp] theorem good30 : goodF Try.prog 30 = true := by kernel_rfl
@[simp] theorem good31 : goodF Try.prog 31 = true := by kernel_rfl
@[simp] theorem good32 : goodF Try.prog 32 = true := by kernel_rfl
@[simp] theorem good33 : goodF Try.prog 33 = true := by kernel_rfl
@[simp] theorem good34 : goodF Try.prog 34 = true := by kernel_rfl
@[simp] theorem good35 : goodF Try.prog 35 = true := by kernel_rfl
@[simp] theorem good36 : goodF Try.prog 36 = true := by kernel_rfl
@[simp] theorem good37 : goodF Try.prog 37 = true := by kernel_rfl
@[simp] theorem good38 : goodF Try.prog 38 = true := by kernel_rfl
@[simp] theorem good39 : goodF Try.prog 39 = true := by kernel_rfl
@[simp] theorem good40 : goodF Try.prog 40 = true := by kernel_rfl
@[simp] theorem good41 : goodF Try.prog 41 = true := by kernel_rfl
@[simp] theorem good42 : goodF Try.prog 42 = true := by kernel_rfl
@[simp] theorem good43 : goodF Try.prog 43 = true := by kernel_rfl
@[simp] theorem good44 : goodF Try.prog 44 = true := by kernel_rfl
@[simp] theorem good45 : goodF Try.prog 45 = true := by kernel_rfl
@[simp] theorem good46 : goodF Try.prog 46 = true := by kernel_rfl
@[simp] theorem good47 : goodF Try.prog 47 = true := by kernel_rfl
@[simp] theorem good48 : goodF Try.prog 48 = true := by kernel_rfl
@[simp] theorem good49 : goodF Try.prog 49 = true := by kernel_rfl
@[simp] theorem good51 : goodF Try.prog 51 = true := by kernel_rfl
@[simp] theorem good52 : goodF Try.prog 52 = true := by kernel_rfl
@[simp] theorem good53 : goodF Try.prog 53 = true := by kernel_rfl
@[simp] theorem good54 : goodF Try.prog 54 = true := by kernel_rfl
@[simp] theorem good55 : goodF Try.prog 55 = true := by kernel_rfl
@[simp] theorem good56 : goodF Try.prog 56 = true := by kernel_rfl
@[simp] theorem good57 : goodF Try.prog 57 = true := by kernel_rfl
@[simp] theorem good58 : goodF Try.prog 58 = true := by kernel_rfl
@[simp] theorem good59 : goodF Try.prog 59 = true := by kernel_rfl
@[simp] theorem good60 : goodF Try.prog 60 = true := by kernel_rfl
@[simp] theorem good61 : goodF Try.prog 61 = true := by kernel_rfl
@[simp] theorem good62 : goodF Try.prog 62 = true := by kernel_rfl
@[simp] theorem good63 : goodF Try.prog 63 = true := by kernel_rfl
@[simp] theorem good64 : goodF Try.prog 64 = true := by kernel_rfl
@[simp] theorem good65 : goodF Try.prog 65 = true := by kernel_rfl
@[simp] theorem good66 : goodF Try.prog 66 = true := by kernel_rfl
@[simp] theorem good67 : goodF Try.prog 67 = true := by kernel_rfl
@[simp] theorem good68 : goodF Try.prog 68 = true := by kernel_rfl
@[simp] theorem good69 : goodF Try.prog 69 = true := by kernel_rfl
@[simp] theorem good70 : goodF Try.prog 70 = true := by kernel_rfl
@[simp] theorem good71 : goodF Try.prog 71 = true := by kernel_rfl
@[simp] theorem good72 : goodF Try.prog 72 = true := by kernel_rfl
@[simp] theorem good73 : goodF Try.prog 73 = true := by kernel_rfl
@[simp] theorem good74 : goodF Try.prog 74 = true := by kernel_rfl
@[simp] theorem good75 : goodF Try.prog 75 = true := by kernel_rfl
@[simp] theorem mixed : Try.prog.follows .mixedOrders = true := by kernel_rfl
end Go.Proofs.Ytgdefllblcmgpaa
