/- What the logic asks of this seat's types and functions, by the kernel. Printed by wip/tools/genfacts.py. -/
import Derived.Test.YtemijcjgdgdhjaaProg
import Derived.Test.YtemijcjgdgdhjaaLb
namespace Go.Proofs.Ytemijcjgdgdhjaa
open Go.RowKit
@[simp] theorem agg1 : isAggT Try.prog 1 = some false := by kernel_rfl
@[simp] theorem size1 : sizeT Try.prog 1 = some 1 := by kernel_rfl
@[simp] theorem zero1 : zeroA Try.prog 1 = some [.sc .nilFunc] := by kernel_rfl
@[simp] theorem bytes1 : bytesT Try.prog 1 = some 8 := by kernel_rfl
@[simp] theorem conc1 : Try.prog.concrete 1 = true := by kernel_rfl
@[simp] theorem agg2 : isAggT Try.prog 2 = some false := by kernel_rfl
@[simp] theorem size2 : sizeT Try.prog 2 = some 1 := by kernel_rfl
@[simp] theorem zero2 : zeroA Try.prog 2 = some [.sc (.int .i64 0)] := by kernel_rfl
@[simp] theorem bytes2 : bytesT Try.prog 2 = some 8 := by kernel_rfl
@[simp] theorem conc2 : Try.prog.concrete 2 = true := by kernel_rfl
@[simp] theorem slc2 : notIntT Try.prog 2 = false := by kernel_rfl
@[simp] theorem int2 : intT Try.prog 2 = true := by kernel_rfl
@[simp] theorem agg3 : isAggT Try.prog 3 = some false := by kernel_rfl
@[simp] theorem size3 : sizeT Try.prog 3 = some 1 := by kernel_rfl
@[simp] theorem zero3 : zeroA Try.prog 3 = some [.sc (.int .i64 0)] := by kernel_rfl
@[simp] theorem bytes3 : bytesT Try.prog 3 = some 8 := by kernel_rfl
@[simp] theorem conc3 : Try.prog.concrete 3 = true := by kernel_rfl
@[simp] theorem slc3 : notIntT Try.prog 3 = false := by kernel_rfl
@[simp] theorem int3 : intT Try.prog 3 = true := by kernel_rfl
@[simp] theorem agg4 : isAggT Try.prog 4 = some false := by kernel_rfl
@[simp] theorem size4 : sizeT Try.prog 4 = some 1 := by kernel_rfl
@[simp] theorem zero4 : zeroA Try.prog 4 = some [.sc (.bool false)] := by kernel_rfl
@[simp] theorem bytes4 : bytesT Try.prog 4 = some 1 := by kernel_rfl
@[simp] theorem conc4 : Try.prog.concrete 4 = true := by kernel_rfl
@[simp] theorem agg5 : isAggT Try.prog 5 = some false := by kernel_rfl
@[simp] theorem size5 : sizeT Try.prog 5 = some 1 := by kernel_rfl
@[simp] theorem zero5 : zeroA Try.prog 5 = some [.sc (.int .u8 0)] := by kernel_rfl
@[simp] theorem bytes5 : bytesT Try.prog 5 = some 1 := by kernel_rfl
@[simp] theorem conc5 : Try.prog.concrete 5 = true := by kernel_rfl
@[simp] theorem slc5 : notIntT Try.prog 5 = false := by kernel_rfl
@[simp] theorem int5 : intT Try.prog 5 = true := by kernel_rfl
@[simp] theorem agg6 : isAggT Try.prog 6 = some false := by kernel_rfl
@[simp] theorem size6 : sizeT Try.prog 6 = some 1 := by kernel_rfl
@[simp] theorem zero6 : zeroA Try.prog 6 = some [.sc (.int .u8 0)] := by kernel_rfl
@[simp] theorem bytes6 : bytesT Try.prog 6 = some 1 := by kernel_rfl
@[simp] theorem conc6 : Try.prog.concrete 6 = true := by kernel_rfl
@[simp] theorem slc6 : notIntT Try.prog 6 = false := by kernel_rfl
@[simp] theorem int6 : intT Try.prog 6 = true := by kernel_rfl
@[simp] theorem agg7 : isAggT Try.prog 7 = some true := by kernel_rfl
@[simp] theorem size7 : sizeT Try.prog 7 = some 4 := by kernel_rfl
@[simp] theorem zero7 : zeroA Try.prog 7 = some [.sc (.int .i64 0), .sc (.int .i64 0), .sc (.bool false), .sc (.int .u8 0)] := by kernel_rfl
@[simp] theorem bytes7 : bytesT Try.prog 7 = some 24 := by kernel_rfl
@[simp] theorem conc7 : Try.prog.concrete 7 = true := by kernel_rfl
@[simp] theorem places7 : placesT Try.prog 7 = some [(0, 1), (1, 1), (2, 1), (3, 1)] := by kernel_rfl
@[simp] theorem held7 : Try.prog.stoodInHeld 7 = false := by kernel_rfl
@[simp] theorem eqg7 : Try.prog.eqGuardType Try.prog.depth 7 = false := by kernel_rfl
@[simp] theorem fld7_0 (x : AV) : fieldAddrA Try.prog 7 x 0 = (match x with | .fp cs off => some (.fp cs (off + 0)) | .mp l g off => some (.mp l g (off + 0)) | _ => none) := by cases x <;> kernel_rfl
@[simp] theorem fld7_1 (x : AV) : fieldAddrA Try.prog 7 x 1 = (match x with | .fp cs off => some (.fp cs (off + 1)) | .mp l g off => some (.mp l g (off + 1)) | _ => none) := by cases x <;> kernel_rfl
@[simp] theorem fld7_2 (x : AV) : fieldAddrA Try.prog 7 x 2 = (match x with | .fp cs off => some (.fp cs (off + 2)) | .mp l g off => some (.mp l g (off + 2)) | _ => none) := by cases x <;> kernel_rfl
@[simp] theorem fld7_3 (x : AV) : fieldAddrA Try.prog 7 x 3 = (match x with | .fp cs off => some (.fp cs (off + 3)) | .mp l g off => some (.mp l g (off + 3)) | _ => none) := by cases x <;> kernel_rfl
@[simp] theorem agg8 : isAggT Try.prog 8 = some true := by kernel_rfl
@[simp] theorem size8 : sizeT Try.prog 8 = some 4 := by kernel_rfl
@[simp] theorem zero8 : zeroA Try.prog 8 = some [.sc (.int .i64 0), .sc (.int .i64 0), .sc (.bool false), .sc (.int .u8 0)] := by kernel_rfl
@[simp] theorem bytes8 : bytesT Try.prog 8 = some 24 := by kernel_rfl
@[simp] theorem conc8 : Try.prog.concrete 8 = true := by kernel_rfl
@[simp] theorem places8 : placesT Try.prog 8 = some [(0, 1), (1, 1), (2, 1), (3, 1)] := by kernel_rfl
@[simp] theorem held8 : Try.prog.stoodInHeld 8 = false := by kernel_rfl
@[simp] theorem eqg8 : Try.prog.eqGuardType Try.prog.depth 8 = false := by kernel_rfl
@[simp] theorem fld8_0 (x : AV) : fieldAddrA Try.prog 8 x 0 = (match x with | .fp cs off => some (.fp cs (off + 0)) | .mp l g off => some (.mp l g (off + 0)) | _ => none) := by cases x <;> kernel_rfl
@[simp] theorem fld8_1 (x : AV) : fieldAddrA Try.prog 8 x 1 = (match x with | .fp cs off => some (.fp cs (off + 1)) | .mp l g off => some (.mp l g (off + 1)) | _ => none) := by cases x <;> kernel_rfl
@[simp] theorem fld8_2 (x : AV) : fieldAddrA Try.prog 8 x 2 = (match x with | .fp cs off => some (.fp cs (off + 2)) | .mp l g off => some (.mp l g (off + 2)) | _ => none) := by cases x <;> kernel_rfl
@[simp] theorem fld8_3 (x : AV) : fieldAddrA Try.prog 8 x 3 = (match x with | .fp cs off => some (.fp cs (off + 3)) | .mp l g off => some (.mp l g (off + 3)) | _ => none) := by cases x <;> kernel_rfl
@[simp] theorem agg9 : isAggT Try.prog 9 = some false := by kernel_rfl
@[simp] theorem size9 : sizeT Try.prog 9 = some 1 := by kernel_rfl
@[simp] theorem zero9 : zeroA Try.prog 9 = some [.sc (.string ⟨#[]⟩)] := by kernel_rfl
@[simp] theorem bytes9 : bytesT Try.prog 9 = some 16 := by kernel_rfl
@[simp] theorem conc9 : Try.prog.concrete 9 = true := by kernel_rfl
@[simp] theorem slc9 : notIntT Try.prog 9 = true := by kernel_rfl
@[simp] theorem agg10 : isAggT Try.prog 10 = some false := by kernel_rfl
@[simp] theorem size10 : sizeT Try.prog 10 = some 1 := by kernel_rfl
@[simp] theorem zero10 : zeroA Try.prog 10 = some [.sc (.string ⟨#[]⟩)] := by kernel_rfl
@[simp] theorem bytes10 : bytesT Try.prog 10 = some 16 := by kernel_rfl
@[simp] theorem conc10 : Try.prog.concrete 10 = true := by kernel_rfl
@[simp] theorem slc10 : notIntT Try.prog 10 = true := by kernel_rfl
@[simp] theorem agg11 : isAggT Try.prog 11 = some false := by kernel_rfl
@[simp] theorem size11 : sizeT Try.prog 11 = some 1 := by kernel_rfl
@[simp] theorem zero11 : zeroA Try.prog 11 = some [.sc (.string ⟨#[]⟩)] := by kernel_rfl
@[simp] theorem bytes11 : bytesT Try.prog 11 = some 16 := by kernel_rfl
@[simp] theorem conc11 : Try.prog.concrete 11 = true := by kernel_rfl
@[simp] theorem slc11 : notIntT Try.prog 11 = true := by kernel_rfl
@[simp] theorem agg12 : isAggT Try.prog 12 = some false := by kernel_rfl
@[simp] theorem size12 : sizeT Try.prog 12 = some 1 := by kernel_rfl
@[simp] theorem zero12 : zeroA Try.prog 12 = some [.sc (.int .u64 0)] := by kernel_rfl
@[simp] theorem bytes12 : bytesT Try.prog 12 = some 8 := by kernel_rfl
@[simp] theorem conc12 : Try.prog.concrete 12 = true := by kernel_rfl
@[simp] theorem slc12 : notIntT Try.prog 12 = false := by kernel_rfl
@[simp] theorem int12 : intT Try.prog 12 = true := by kernel_rfl
@[simp] theorem agg13 : isAggT Try.prog 13 = some true := by kernel_rfl
@[simp] theorem size13 : sizeT Try.prog 13 = some 2 := by kernel_rfl
@[simp] theorem zero13 : zeroA Try.prog 13 = some [.sc (.string ⟨#[]⟩), .sc (.int .u64 0)] := by kernel_rfl
@[simp] theorem bytes13 : bytesT Try.prog 13 = some 24 := by kernel_rfl
@[simp] theorem conc13 : Try.prog.concrete 13 = true := by kernel_rfl
@[simp] theorem places13 : placesT Try.prog 13 = some [(0, 1), (1, 1)] := by kernel_rfl
@[simp] theorem eqg13 : Try.prog.eqGuardType Try.prog.depth 13 = false := by kernel_rfl
@[simp] theorem fld13_0 (x : AV) : fieldAddrA Try.prog 13 x 0 = (match x with | .fp cs off => some (.fp cs (off + 0)) | .mp l g off => some (.mp l g (off + 0)) | _ => none) := by cases x <;> kernel_rfl
@[simp] theorem fld13_1 (x : AV) : fieldAddrA Try.prog 13 x 1 = (match x with | .fp cs off => some (.fp cs (off + 1)) | .mp l g off => some (.mp l g (off + 1)) | _ => none) := by cases x <;> kernel_rfl
@[simp] theorem agg14 : isAggT Try.prog 14 = some true := by kernel_rfl
@[simp] theorem size14 : sizeT Try.prog 14 = some 2 := by kernel_rfl
@[simp] theorem zero14 : zeroA Try.prog 14 = some [.sc (.string ⟨#[]⟩), .sc (.int .u64 0)] := by kernel_rfl
@[simp] theorem bytes14 : bytesT Try.prog 14 = some 24 := by kernel_rfl
@[simp] theorem conc14 : Try.prog.concrete 14 = true := by kernel_rfl
@[simp] theorem places14 : placesT Try.prog 14 = some [(0, 1), (1, 1)] := by kernel_rfl
@[simp] theorem eqg14 : Try.prog.eqGuardType Try.prog.depth 14 = false := by kernel_rfl
@[simp] theorem fld14_0 (x : AV) : fieldAddrA Try.prog 14 x 0 = (match x with | .fp cs off => some (.fp cs (off + 0)) | .mp l g off => some (.mp l g (off + 0)) | _ => none) := by cases x <;> kernel_rfl
@[simp] theorem fld14_1 (x : AV) : fieldAddrA Try.prog 14 x 1 = (match x with | .fp cs off => some (.fp cs (off + 1)) | .mp l g off => some (.mp l g (off + 1)) | _ => none) := by cases x <;> kernel_rfl
@[simp] theorem agg15 : isAggT Try.prog 15 = some false := by kernel_rfl
@[simp] theorem size15 : sizeT Try.prog 15 = some 1 := by kernel_rfl
@[simp] theorem zero15 : zeroA Try.prog 15 = some [.sc (.pointer none)] := by kernel_rfl
@[simp] theorem bytes15 : bytesT Try.prog 15 = some 8 := by kernel_rfl
@[simp] theorem conc15 : Try.prog.concrete 15 = true := by kernel_rfl
@[simp] theorem agg16 : isAggT Try.prog 16 = some false := by kernel_rfl
@[simp] theorem size16 : sizeT Try.prog 16 = some 1 := by kernel_rfl
@[simp] theorem zero16 : zeroA Try.prog 16 = some [.sc (.pointer none)] := by kernel_rfl
@[simp] theorem bytes16 : bytesT Try.prog 16 = some 8 := by kernel_rfl
@[simp] theorem conc16 : Try.prog.concrete 16 = true := by kernel_rfl
@[simp] theorem agg17 : isAggT Try.prog 17 = some false := by kernel_rfl
@[simp] theorem size17 : sizeT Try.prog 17 = some 1 := by kernel_rfl
@[simp] theorem zero17 : zeroA Try.prog 17 = some [.sc (.pointer none)] := by kernel_rfl
@[simp] theorem bytes17 : bytesT Try.prog 17 = some 8 := by kernel_rfl
@[simp] theorem conc17 : Try.prog.concrete 17 = true := by kernel_rfl
@[simp] theorem agg18 : isAggT Try.prog 18 = some true := by kernel_rfl
@[simp] theorem size18 : sizeT Try.prog 18 = some 1 := by kernel_rfl
@[simp] theorem zero18 : zeroA Try.prog 18 = some [.sc (.pointer none)] := by kernel_rfl
@[simp] theorem bytes18 : bytesT Try.prog 18 = some 8 := by kernel_rfl
@[simp] theorem conc18 : Try.prog.concrete 18 = true := by kernel_rfl
@[simp] theorem places18 : placesT Try.prog 18 = some [(0, 1)] := by kernel_rfl
@[simp] theorem eqg18 : Try.prog.eqGuardType Try.prog.depth 18 = false := by kernel_rfl
@[simp] theorem fld18_0 (x : AV) : fieldAddrA Try.prog 18 x 0 = (match x with | .fp cs off => some (.fp cs (off + 0)) | .mp l g off => some (.mp l g (off + 0)) | _ => none) := by cases x <;> kernel_rfl
@[simp] theorem agg19 : isAggT Try.prog 19 = some true := by kernel_rfl
@[simp] theorem size19 : sizeT Try.prog 19 = some 1 := by kernel_rfl
@[simp] theorem zero19 : zeroA Try.prog 19 = some [.sc (.pointer none)] := by kernel_rfl
@[simp] theorem bytes19 : bytesT Try.prog 19 = some 8 := by kernel_rfl
@[simp] theorem conc19 : Try.prog.concrete 19 = true := by kernel_rfl
@[simp] theorem places19 : placesT Try.prog 19 = some [(0, 1)] := by kernel_rfl
@[simp] theorem eqg19 : Try.prog.eqGuardType Try.prog.depth 19 = false := by kernel_rfl
@[simp] theorem fld19_0 (x : AV) : fieldAddrA Try.prog 19 x 0 = (match x with | .fp cs off => some (.fp cs (off + 0)) | .mp l g off => some (.mp l g (off + 0)) | _ => none) := by cases x <;> kernel_rfl
@[simp] theorem agg20 : isAggT Try.prog 20 = some false := by kernel_rfl
@[simp] theorem size20 : sizeT Try.prog 20 = some 1 := by kernel_rfl
@[simp] theorem zero20 : zeroA Try.prog 20 = some [.sc .nilIface] := by kernel_rfl
@[simp] theorem bytes20 : bytesT Try.prog 20 = some 16 := by kernel_rfl
@[simp] theorem agg21 : isAggT Try.prog 21 = some false := by kernel_rfl
@[simp] theorem size21 : sizeT Try.prog 21 = some 1 := by kernel_rfl
@[simp] theorem zero21 : zeroA Try.prog 21 = some [.sc (.int .i32 0)] := by kernel_rfl
@[simp] theorem bytes21 : bytesT Try.prog 21 = some 4 := by kernel_rfl
@[simp] theorem conc21 : Try.prog.concrete 21 = true := by kernel_rfl
@[simp] theorem slc21 : notIntT Try.prog 21 = false := by kernel_rfl
@[simp] theorem int21 : intT Try.prog 21 = true := by kernel_rfl
@[simp] theorem agg22 : isAggT Try.prog 22 = some false := by kernel_rfl
@[simp] theorem size22 : sizeT Try.prog 22 = some 1 := by kernel_rfl
@[simp] theorem zero22 : zeroA Try.prog 22 = some [.sc (.slice none 0 0)] := by kernel_rfl
@[simp] theorem bytes22 : bytesT Try.prog 22 = some 24 := by kernel_rfl
@[simp] theorem conc22 : Try.prog.concrete 22 = true := by kernel_rfl
@[simp] theorem elem22 : elemOfT Try.prog 22 = some (43, 3) := by kernel_rfl
@[simp] theorem slc22 : notIntT Try.prog 22 = true := by kernel_rfl
@[simp] theorem agg23 : isAggT Try.prog 23 = some true := by kernel_rfl
@[simp] theorem size23 : sizeT Try.prog 23 = some 2 := by kernel_rfl
@[simp] theorem zero23 : zeroA Try.prog 23 = some [.sc (.string ⟨#[]⟩), .sc (.string ⟨#[]⟩)] := by kernel_rfl
@[simp] theorem bytes23 : bytesT Try.prog 23 = some 32 := by kernel_rfl
@[simp] theorem conc23 : Try.prog.concrete 23 = true := by kernel_rfl
@[simp] theorem places23 : placesT Try.prog 23 = some [(0, 1), (1, 1)] := by kernel_rfl
@[simp] theorem held23 : Try.prog.stoodInHeld 23 = false := by kernel_rfl
@[simp] theorem eqg23 : Try.prog.eqGuardType Try.prog.depth 23 = false := by kernel_rfl
@[simp] theorem fld23_0 (x : AV) : fieldAddrA Try.prog 23 x 0 = (match x with | .fp cs off => some (.fp cs (off + 0)) | .mp l g off => some (.mp l g (off + 0)) | _ => none) := by cases x <;> kernel_rfl
@[simp] theorem fld23_1 (x : AV) : fieldAddrA Try.prog 23 x 1 = (match x with | .fp cs off => some (.fp cs (off + 1)) | .mp l g off => some (.mp l g (off + 1)) | _ => none) := by cases x <;> kernel_rfl
@[simp] theorem agg24 : isAggT Try.prog 24 = some true := by kernel_rfl
@[simp] theorem size24 : sizeT Try.prog 24 = some 2 := by kernel_rfl
@[simp] theorem zero24 : zeroA Try.prog 24 = some [.sc (.string ⟨#[]⟩), .sc (.string ⟨#[]⟩)] := by kernel_rfl
@[simp] theorem bytes24 : bytesT Try.prog 24 = some 32 := by kernel_rfl
@[simp] theorem conc24 : Try.prog.concrete 24 = true := by kernel_rfl
@[simp] theorem places24 : placesT Try.prog 24 = some [(0, 1), (1, 1)] := by kernel_rfl
@[simp] theorem held24 : Try.prog.stoodInHeld 24 = false := by kernel_rfl
@[simp] theorem eqg24 : Try.prog.eqGuardType Try.prog.depth 24 = false := by kernel_rfl
@[simp] theorem fld24_0 (x : AV) : fieldAddrA Try.prog 24 x 0 = (match x with | .fp cs off => some (.fp cs (off + 0)) | .mp l g off => some (.mp l g (off + 0)) | _ => none) := by cases x <;> kernel_rfl
@[simp] theorem fld24_1 (x : AV) : fieldAddrA Try.prog 24 x 1 = (match x with | .fp cs off => some (.fp cs (off + 1)) | .mp l g off => some (.mp l g (off + 1)) | _ => none) := by cases x <;> kernel_rfl
@[simp] theorem agg25 : isAggT Try.prog 25 = some false := by kernel_rfl
@[simp] theorem size25 : sizeT Try.prog 25 = some 1 := by kernel_rfl
@[simp] theorem zero25 : zeroA Try.prog 25 = some [.sc .nilFunc] := by kernel_rfl
@[simp] theorem bytes25 : bytesT Try.prog 25 = some 8 := by kernel_rfl
@[simp] theorem conc25 : Try.prog.concrete 25 = true := by kernel_rfl
@[simp] theorem agg26 : isAggT Try.prog 26 = some false := by kernel_rfl
@[simp] theorem size26 : sizeT Try.prog 26 = some 1 := by kernel_rfl
@[simp] theorem zero26 : zeroA Try.prog 26 = some [.sc .nilFunc] := by kernel_rfl
@[simp] theorem bytes26 : bytesT Try.prog 26 = some 8 := by kernel_rfl
@[simp] theorem conc26 : Try.prog.concrete 26 = true := by kernel_rfl
@[simp] theorem agg27 : isAggT Try.prog 27 = some false := by kernel_rfl
@[simp] theorem size27 : sizeT Try.prog 27 = some 1 := by kernel_rfl
@[simp] theorem zero27 : zeroA Try.prog 27 = some [.sc (.pointer none)] := by kernel_rfl
@[simp] theorem bytes27 : bytesT Try.prog 27 = some 8 := by kernel_rfl
@[simp] theorem conc27 : Try.prog.concrete 27 = true := by kernel_rfl
@[simp] theorem agg28 : isAggT Try.prog 28 = some false := by kernel_rfl
@[simp] theorem size28 : sizeT Try.prog 28 = some 1 := by kernel_rfl
@[simp] theorem zero28 : zeroA Try.prog 28 = some [.sc (.int .i64 0)] := by kernel_rfl
@[simp] theorem bytes28 : bytesT Try.prog 28 = some 8 := by kernel_rfl
@[simp] theorem conc28 : Try.prog.concrete 28 = true := by kernel_rfl
@[simp] theorem slc28 : notIntT Try.prog 28 = false := by kernel_rfl
@[simp] theorem int28 : intT Try.prog 28 = true := by kernel_rfl
@[simp] theorem agg30 : isAggT Try.prog 30 = some false := by kernel_rfl
@[simp] theorem size30 : sizeT Try.prog 30 = some 1 := by kernel_rfl
@[simp] theorem zero30 : zeroA Try.prog 30 = some [.sc .nilFunc] := by kernel_rfl
@[simp] theorem bytes30 : bytesT Try.prog 30 = some 8 := by kernel_rfl
@[simp] theorem conc30 : Try.prog.concrete 30 = true := by kernel_rfl
@[simp] theorem agg32 : isAggT Try.prog 32 = some false := by kernel_rfl
@[simp] theorem size32 : sizeT Try.prog 32 = some 1 := by kernel_rfl
@[simp] theorem zero32 : zeroA Try.prog 32 = some [.sc .nilFunc] := by kernel_rfl
@[simp] theorem bytes32 : bytesT Try.prog 32 = some 8 := by kernel_rfl
@[simp] theorem conc32 : Try.prog.concrete 32 = true := by kernel_rfl
@[simp] theorem agg33 : isAggT Try.prog 33 = some false := by kernel_rfl
@[simp] theorem size33 : sizeT Try.prog 33 = some 1 := by kernel_rfl
@[simp] theorem zero33 : zeroA Try.prog 33 = some [.sc .nilFunc] := by kernel_rfl
@[simp] theorem bytes33 : bytesT Try.prog 33 = some 8 := by kernel_rfl
@[simp] theorem conc33 : Try.prog.concrete 33 = true := by kernel_rfl
@[simp] theorem agg34 : isAggT Try.prog 34 = some false := by kernel_rfl
@[simp] theorem size34 : sizeT Try.prog 34 = some 1 := by kernel_rfl
@[simp] theorem zero34 : zeroA Try.prog 34 = some [.sc .nilFunc] := by kernel_rfl
@[simp] theorem bytes34 : bytesT Try.prog 34 = some 8 := by kernel_rfl
@[simp] theorem conc34 : Try.prog.concrete 34 = true := by kernel_rfl
@[simp] theorem agg35 : isAggT Try.prog 35 = some false := by kernel_rfl
@[simp] theorem size35 : sizeT Try.prog 35 = some 1 := by kernel_rfl
@[simp] theorem zero35 : zeroA Try.prog 35 = some [.sc .nilFunc] := by kernel_rfl
@[simp] theorem bytes35 : bytesT Try.prog 35 = some 8 := by kernel_rfl
@[simp] theorem conc35 : Try.prog.concrete 35 = true := by kernel_rfl
@[simp] theorem agg36 : isAggT Try.prog 36 = some false := by kernel_rfl
@[simp] theorem size36 : sizeT Try.prog 36 = some 1 := by kernel_rfl
@[simp] theorem zero36 : zeroA Try.prog 36 = some [.sc .nilFunc] := by kernel_rfl
@[simp] theorem bytes36 : bytesT Try.prog 36 = some 8 := by kernel_rfl
@[simp] theorem conc36 : Try.prog.concrete 36 = true := by kernel_rfl
@[simp] theorem agg37 : isAggT Try.prog 37 = some true := by kernel_rfl
@[simp] theorem size37 : sizeT Try.prog 37 = some 2 := by kernel_rfl
@[simp] theorem zero37 : zeroA Try.prog 37 = some [.sc (.string ⟨#[]⟩), .sc (.string ⟨#[]⟩)] := by kernel_rfl
@[simp] theorem bytes37 : bytesT Try.prog 37 = some 32 := by kernel_rfl
@[simp] theorem conc37 : Try.prog.concrete 37 = true := by kernel_rfl
@[simp] theorem places37 : placesT Try.prog 37 = some [(0, 1), (1, 1)] := by kernel_rfl
@[simp] theorem held37 : Try.prog.stoodInHeld 37 = false := by kernel_rfl
@[simp] theorem eqg37 : Try.prog.eqGuardType Try.prog.depth 37 = false := by kernel_rfl
@[simp] theorem fld37_0 (x : AV) : fieldAddrA Try.prog 37 x 0 = (match x with | .fp cs off => some (.fp cs (off + 0)) | .mp l g off => some (.mp l g (off + 0)) | _ => none) := by cases x <;> kernel_rfl
@[simp] theorem fld37_1 (x : AV) : fieldAddrA Try.prog 37 x 1 = (match x with | .fp cs off => some (.fp cs (off + 1)) | .mp l g off => some (.mp l g (off + 1)) | _ => none) := by cases x <;> kernel_rfl
@[simp] theorem agg38 : isAggT Try.prog 38 = some false := by kernel_rfl
@[simp] theorem size38 : sizeT Try.prog 38 = some 1 := by kernel_rfl
@[simp] theorem zero38 : zeroA Try.prog 38 = some [.sc .nilFunc] := by kernel_rfl
@[simp] theorem bytes38 : bytesT Try.prog 38 = some 8 := by kernel_rfl
@[simp] theorem conc38 : Try.prog.concrete 38 = true := by kernel_rfl
@[simp] theorem agg39 : isAggT Try.prog 39 = some false := by kernel_rfl
@[simp] theorem size39 : sizeT Try.prog 39 = some 1 := by kernel_rfl
@[simp] theorem zero39 : zeroA Try.prog 39 = some [.sc .nilFunc] := by kernel_rfl
@[simp] theorem bytes39 : bytesT Try.prog 39 = some 8 := by kernel_rfl
@[simp] theorem conc39 : Try.prog.concrete 39 = true := by kernel_rfl
@[simp] theorem agg40 : isAggT Try.prog 40 = some false := by kernel_rfl
@[simp] theorem size40 : sizeT Try.prog 40 = some 1 := by kernel_rfl
@[simp] theorem zero40 : zeroA Try.prog 40 = some [.sc .nilFunc] := by kernel_rfl
@[simp] theorem bytes40 : bytesT Try.prog 40 = some 8 := by kernel_rfl
@[simp] theorem conc40 : Try.prog.concrete 40 = true := by kernel_rfl
@[simp] theorem agg41 : isAggT Try.prog 41 = some false := by kernel_rfl
@[simp] theorem size41 : sizeT Try.prog 41 = some 1 := by kernel_rfl
@[simp] theorem zero41 : zeroA Try.prog 41 = some [.sc .nilFunc] := by kernel_rfl
@[simp] theorem bytes41 : bytesT Try.prog 41 = some 8 := by kernel_rfl
@[simp] theorem conc41 : Try.prog.concrete 41 = true := by kernel_rfl
@[simp] theorem agg42 : isAggT Try.prog 42 = some true := by kernel_rfl
@[simp] theorem size42 : sizeT Try.prog 42 = some 3 := by kernel_rfl
@[simp] theorem zero42 : zeroA Try.prog 42 = some [.sc (.int .i64 0), .sc (.string ⟨#[]⟩), .sc (.string ⟨#[]⟩)] := by kernel_rfl
@[simp] theorem bytes42 : bytesT Try.prog 42 = some 40 := by kernel_rfl
@[simp] theorem conc42 : Try.prog.concrete 42 = true := by kernel_rfl
@[simp] theorem places42 : placesT Try.prog 42 = some [(0, 1), (1, 1), (2, 1)] := by kernel_rfl
@[simp] theorem held42 : Try.prog.stoodInHeld 42 = false := by kernel_rfl
@[simp] theorem eqg42 : Try.prog.eqGuardType Try.prog.depth 42 = false := by kernel_rfl
@[simp] theorem fld42_0 (x : AV) : fieldAddrA Try.prog 42 x 0 = (match x with | .fp cs off => some (.fp cs (off + 0)) | .mp l g off => some (.mp l g (off + 0)) | _ => none) := by cases x <;> kernel_rfl
@[simp] theorem fld42_1 (x : AV) : fieldAddrA Try.prog 42 x 1 = (match x with | .fp cs off => some (.fp cs (off + 1)) | .mp l g off => some (.mp l g (off + 1)) | _ => none) := by cases x <;> kernel_rfl
@[simp] theorem fld42_2 (x : AV) : fieldAddrA Try.prog 42 x 2 = (match x with | .fp cs off => some (.fp cs (off + 2)) | .mp l g off => some (.mp l g (off + 2)) | _ => none) := by cases x <;> kernel_rfl
@[simp] theorem agg43 : isAggT Try.prog 43 = some true := by kernel_rfl
@[simp] theorem size43 : sizeT Try.prog 43 = some 3 := by kernel_rfl
@[simp] theorem zero43 : zeroA Try.prog 43 = some [.sc (.int .i64 0), .sc (.string ⟨#[]⟩), .sc (.string ⟨#[]⟩)] := by kernel_rfl
@[simp] theorem bytes43 : bytesT Try.prog 43 = some 40 := by kernel_rfl
@[simp] theorem conc43 : Try.prog.concrete 43 = true := by kernel_rfl
@[simp] theorem places43 : placesT Try.prog 43 = some [(0, 1), (1, 1), (2, 1)] := by kernel_rfl
@[simp] theorem held43 : Try.prog.stoodInHeld 43 = false := by kernel_rfl
@[simp] theorem eqg43 : Try.prog.eqGuardType Try.prog.depth 43 = false := by kernel_rfl
@[simp] theorem fld43_0 (x : AV) : fieldAddrA Try.prog 43 x 0 = (match x with | .fp cs off => some (.fp cs (off + 0)) | .mp l g off => some (.mp l g (off + 0)) | _ => none) := by cases x <;> kernel_rfl
@[simp] theorem fld43_1 (x : AV) : fieldAddrA Try.prog 43 x 1 = (match x with | .fp cs off => some (.fp cs (off + 1)) | .mp l g off => some (.mp l g (off + 1)) | _ => none) := by cases x <;> kernel_rfl
@[simp] theorem fld43_2 (x : AV) : fieldAddrA Try.prog 43 x 2 = (match x with | .fp cs off => some (.fp cs (off + 2)) | .mp l g off => some (.mp l g (off + 2)) | _ => none) := by cases x <;> kernel_rfl
@[simp] theorem agg45 : isAggT Try.prog 45 = some false := by kernel_rfl
@[simp] theorem size45 : sizeT Try.prog 45 = some 1 := by kernel_rfl
@[simp] theorem zero45 : zeroA Try.prog 45 = some [.sc .nilFunc] := by kernel_rfl
@[simp] theorem bytes45 : bytesT Try.prog 45 = some 8 := by kernel_rfl
@[simp] theorem conc45 : Try.prog.concrete 45 = true := by kernel_rfl
@[simp] theorem agg46 : isAggT Try.prog 46 = some false := by kernel_rfl
@[simp] theorem size46 : sizeT Try.prog 46 = some 1 := by kernel_rfl
@[simp] theorem zero46 : zeroA Try.prog 46 = some [.sc .nilFunc] := by kernel_rfl
@[simp] theorem bytes46 : bytesT Try.prog 46 = some 8 := by kernel_rfl
@[simp] theorem conc46 : Try.prog.concrete 46 = true := by kernel_rfl
@[simp] theorem agg47 : isAggT Try.prog 47 = some false := by kernel_rfl
@[simp] theorem size47 : sizeT Try.prog 47 = some 1 := by kernel_rfl
@[simp] theorem zero47 : zeroA Try.prog 47 = some [.sc (.slice none 0 0)] := by kernel_rfl
@[simp] theorem bytes47 : bytesT Try.prog 47 = some 24 := by kernel_rfl
@[simp] theorem conc47 : Try.prog.concrete 47 = true := by kernel_rfl
@[simp] theorem elem47 : elemOfT Try.prog 47 = some (9, 1) := by kernel_rfl
@[simp] theorem slc47 : notIntT Try.prog 47 = true := by kernel_rfl
@[simp] theorem agg48 : isAggT Try.prog 48 = some false := by kernel_rfl
@[simp] theorem size48 : sizeT Try.prog 48 = some 1 := by kernel_rfl
@[simp] theorem zero48 : zeroA Try.prog 48 = some [.sc .nilFunc] := by kernel_rfl
@[simp] theorem bytes48 : bytesT Try.prog 48 = some 8 := by kernel_rfl
@[simp] theorem conc48 : Try.prog.concrete 48 = true := by kernel_rfl
@[simp] theorem agg49 : isAggT Try.prog 49 = some false := by kernel_rfl
@[simp] theorem size49 : sizeT Try.prog 49 = some 1 := by kernel_rfl
@[simp] theorem zero49 : zeroA Try.prog 49 = some [.sc .nilFunc] := by kernel_rfl
@[simp] theorem bytes49 : bytesT Try.prog 49 = some 8 := by kernel_rfl
@[simp] theorem conc49 : Try.prog.concrete 49 = true := by kernel_rfl
@[simp] theorem agg50 : isAggT Try.prog 50 = some false := by kernel_rfl
@[simp] theorem size50 : sizeT Try.prog 50 = some 1 := by kernel_rfl
@[simp] theorem zero50 : zeroA Try.prog 50 = some [.sc (.slice none 0 0)] := by kernel_rfl
@[simp] theorem bytes50 : bytesT Try.prog 50 = some 24 := by kernel_rfl
@[simp] theorem conc50 : Try.prog.concrete 50 = true := by kernel_rfl
@[simp] theorem elem50 : elemOfT Try.prog 50 = some (3, 1) := by kernel_rfl
@[simp] theorem slc50 : notIntT Try.prog 50 = true := by kernel_rfl
@[simp] theorem agg51 : isAggT Try.prog 51 = some false := by kernel_rfl
@[simp] theorem size51 : sizeT Try.prog 51 = some 1 := by kernel_rfl
@[simp] theorem zero51 : zeroA Try.prog 51 = some [.sc .nilFunc] := by kernel_rfl
@[simp] theorem bytes51 : bytesT Try.prog 51 = some 8 := by kernel_rfl
@[simp] theorem conc51 : Try.prog.concrete 51 = true := by kernel_rfl
@[simp] theorem agg52 : isAggT Try.prog 52 = some false := by kernel_rfl
@[simp] theorem size52 : sizeT Try.prog 52 = some 1 := by kernel_rfl
@[simp] theorem zero52 : zeroA Try.prog 52 = some [.sc .nilFunc] := by kernel_rfl
@[simp] theorem bytes52 : bytesT Try.prog 52 = some 8 := by kernel_rfl
@[simp] theorem conc52 : Try.prog.concrete 52 = true := by kernel_rfl
@[simp] theorem agg53 : isAggT Try.prog 53 = some false := by kernel_rfl
@[simp] theorem size53 : sizeT Try.prog 53 = some 1 := by kernel_rfl
@[simp] theorem zero53 : zeroA Try.prog 53 = some [.sc (.slice none 0 0)] := by kernel_rfl
@[simp] theorem bytes53 : bytesT Try.prog 53 = some 24 := by kernel_rfl
@[simp] theorem conc53 : Try.prog.concrete 53 = true := by kernel_rfl
@[simp] theorem elem53 : elemOfT Try.prog 53 = some (24, 2) := by kernel_rfl
@[simp] theorem slc53 : notIntT Try.prog 53 = true := by kernel_rfl
@[simp] theorem agg54 : isAggT Try.prog 54 = some false := by kernel_rfl
@[simp] theorem size54 : sizeT Try.prog 54 = some 1 := by kernel_rfl
@[simp] theorem zero54 : zeroA Try.prog 54 = some [.sc .nilFunc] := by kernel_rfl
@[simp] theorem bytes54 : bytesT Try.prog 54 = some 8 := by kernel_rfl
@[simp] theorem conc54 : Try.prog.concrete 54 = true := by kernel_rfl
@[simp] theorem agg55 : isAggT Try.prog 55 = some false := by kernel_rfl
@[simp] theorem size55 : sizeT Try.prog 55 = some 1 := by kernel_rfl
@[simp] theorem zero55 : zeroA Try.prog 55 = some [.sc .nilFunc] := by kernel_rfl
@[simp] theorem bytes55 : bytesT Try.prog 55 = some 8 := by kernel_rfl
@[simp] theorem conc55 : Try.prog.concrete 55 = true := by kernel_rfl
@[simp] theorem agg56 : isAggT Try.prog 56 = some false := by kernel_rfl
@[simp] theorem size56 : sizeT Try.prog 56 = some 1 := by kernel_rfl
@[simp] theorem zero56 : zeroA Try.prog 56 = some [.sc (.slice none 0 0)] := by kernel_rfl
@[simp] theorem bytes56 : bytesT Try.prog 56 = some 24 := by kernel_rfl
@[simp] theorem conc56 : Try.prog.concrete 56 = true := by kernel_rfl
@[simp] theorem elem56 : elemOfT Try.prog 56 = some (22, 1) := by kernel_rfl
@[simp] theorem slc56 : notIntT Try.prog 56 = true := by kernel_rfl
@[simp] theorem agg57 : isAggT Try.prog 57 = some false := by kernel_rfl
@[simp] theorem size57 : sizeT Try.prog 57 = some 1 := by kernel_rfl
@[simp] theorem zero57 : zeroA Try.prog 57 = some [.sc .nilFunc] := by kernel_rfl
@[simp] theorem bytes57 : bytesT Try.prog 57 = some 8 := by kernel_rfl
@[simp] theorem conc57 : Try.prog.concrete 57 = true := by kernel_rfl
@[simp] theorem agg58 : isAggT Try.prog 58 = some false := by kernel_rfl
@[simp] theorem size58 : sizeT Try.prog 58 = some 1 := by kernel_rfl
@[simp] theorem zero58 : zeroA Try.prog 58 = some [.sc (.pointer none)] := by kernel_rfl
@[simp] theorem bytes58 : bytesT Try.prog 58 = some 8 := by kernel_rfl
@[simp] theorem conc58 : Try.prog.concrete 58 = true := by kernel_rfl
@[simp] theorem agg60 : isAggT Try.prog 60 = some false := by kernel_rfl
@[simp] theorem size60 : sizeT Try.prog 60 = some 1 := by kernel_rfl
@[simp] theorem zero60 : zeroA Try.prog 60 = some [.sc .nilFunc] := by kernel_rfl
@[simp] theorem bytes60 : bytesT Try.prog 60 = some 8 := by kernel_rfl
@[simp] theorem conc60 : Try.prog.concrete 60 = true := by kernel_rfl
@[simp] theorem agg62 : isAggT Try.prog 62 = some false := by kernel_rfl
@[simp] theorem size62 : sizeT Try.prog 62 = some 1 := by kernel_rfl
@[simp] theorem zero62 : zeroA Try.prog 62 = some [.sc .nilFunc] := by kernel_rfl
@[simp] theorem bytes62 : bytesT Try.prog 62 = some 8 := by kernel_rfl
@[simp] theorem conc62 : Try.prog.concrete 62 = true := by kernel_rfl
@[simp] theorem agg63 : isAggT Try.prog 63 = some false := by kernel_rfl
@[simp] theorem size63 : sizeT Try.prog 63 = some 1 := by kernel_rfl
@[simp] theorem zero63 : zeroA Try.prog 63 = some [.sc .nilFunc] := by kernel_rfl
@[simp] theorem bytes63 : bytesT Try.prog 63 = some 8 := by kernel_rfl
@[simp] theorem conc63 : Try.prog.concrete 63 = true := by kernel_rfl
@[simp] theorem agg64 : isAggT Try.prog 64 = some false := by kernel_rfl
@[simp] theorem size64 : sizeT Try.prog 64 = some 1 := by kernel_rfl
@[simp] theorem zero64 : zeroA Try.prog 64 = some [.sc .nilFunc] := by kernel_rfl
@[simp] theorem bytes64 : bytesT Try.prog 64 = some 8 := by kernel_rfl
@[simp] theorem conc64 : Try.prog.concrete 64 = true := by kernel_rfl
@[simp] theorem agg65 : isAggT Try.prog 65 = some false := by kernel_rfl
@[simp] theorem size65 : sizeT Try.prog 65 = some 1 := by kernel_rfl
@[simp] theorem zero65 : zeroA Try.prog 65 = some [.sc .nilFunc] := by kernel_rfl
@[simp] theorem bytes65 : bytesT Try.prog 65 = some 8 := by kernel_rfl
@[simp] theorem conc65 : Try.prog.concrete 65 = true := by kernel_rfl
@[simp] theorem agg66 : isAggT Try.prog 66 = some false := by kernel_rfl
@[simp] theorem size66 : sizeT Try.prog 66 = some 1 := by kernel_rfl
@[simp] theorem zero66 : zeroA Try.prog 66 = some [.sc (.slice none 0 0)] := by kernel_rfl
@[simp] theorem bytes66 : bytesT Try.prog 66 = some 24 := by kernel_rfl
@[simp] theorem conc66 : Try.prog.concrete 66 = true := by kernel_rfl
@[simp] theorem elem66 : elemOfT Try.prog 66 = some (68, 2) := by kernel_rfl
@[simp] theorem slc66 : notIntT Try.prog 66 = true := by kernel_rfl
@[simp] theorem agg67 : isAggT Try.prog 67 = some true := by kernel_rfl
@[simp] theorem size67 : sizeT Try.prog 67 = some 2 := by kernel_rfl
@[simp] theorem zero67 : zeroA Try.prog 67 = some [.sc (.string ⟨#[]⟩), .sc (.string ⟨#[]⟩)] := by kernel_rfl
@[simp] theorem bytes67 : bytesT Try.prog 67 = some 32 := by kernel_rfl
@[simp] theorem conc67 : Try.prog.concrete 67 = true := by kernel_rfl
@[simp] theorem places67 : placesT Try.prog 67 = some [(0, 1), (1, 1)] := by kernel_rfl
@[simp] theorem held67 : Try.prog.stoodInHeld 67 = false := by kernel_rfl
@[simp] theorem eqg67 : Try.prog.eqGuardType Try.prog.depth 67 = false := by kernel_rfl
@[simp] theorem fld67_0 (x : AV) : fieldAddrA Try.prog 67 x 0 = (match x with | .fp cs off => some (.fp cs (off + 0)) | .mp l g off => some (.mp l g (off + 0)) | _ => none) := by cases x <;> kernel_rfl
@[simp] theorem fld67_1 (x : AV) : fieldAddrA Try.prog 67 x 1 = (match x with | .fp cs off => some (.fp cs (off + 1)) | .mp l g off => some (.mp l g (off + 1)) | _ => none) := by cases x <;> kernel_rfl
@[simp] theorem agg68 : isAggT Try.prog 68 = some true := by kernel_rfl
@[simp] theorem size68 : sizeT Try.prog 68 = some 2 := by kernel_rfl
@[simp] theorem zero68 : zeroA Try.prog 68 = some [.sc (.string ⟨#[]⟩), .sc (.string ⟨#[]⟩)] := by kernel_rfl
@[simp] theorem bytes68 : bytesT Try.prog 68 = some 32 := by kernel_rfl
@[simp] theorem conc68 : Try.prog.concrete 68 = true := by kernel_rfl
@[simp] theorem places68 : placesT Try.prog 68 = some [(0, 1), (1, 1)] := by kernel_rfl
@[simp] theorem held68 : Try.prog.stoodInHeld 68 = false := by kernel_rfl
@[simp] theorem eqg68 : Try.prog.eqGuardType Try.prog.depth 68 = false := by kernel_rfl
@[simp] theorem fld68_0 (x : AV) : fieldAddrA Try.prog 68 x 0 = (match x with | .fp cs off => some (.fp cs (off + 0)) | .mp l g off => some (.mp l g (off + 0)) | _ => none) := by cases x <;> kernel_rfl
@[simp] theorem fld68_1 (x : AV) : fieldAddrA Try.prog 68 x 1 = (match x with | .fp cs off => some (.fp cs (off + 1)) | .mp l g off => some (.mp l g (off + 1)) | _ => none) := by cases x <;> kernel_rfl
@[simp] theorem agg70 : isAggT Try.prog 70 = some false := by kernel_rfl
@[simp] theorem size70 : sizeT Try.prog 70 = some 1 := by kernel_rfl
@[simp] theorem zero70 : zeroA Try.prog 70 = some [.sc .nilFunc] := by kernel_rfl
@[simp] theorem bytes70 : bytesT Try.prog 70 = some 8 := by kernel_rfl
@[simp] theorem conc70 : Try.prog.concrete 70 = true := by kernel_rfl
@[simp] theorem agg72 : isAggT Try.prog 72 = some false := by kernel_rfl
@[simp] theorem size72 : sizeT Try.prog 72 = some 1 := by kernel_rfl
@[simp] theorem zero72 : zeroA Try.prog 72 = some [.sc .nilFunc] := by kernel_rfl
@[simp] theorem bytes72 : bytesT Try.prog 72 = some 8 := by kernel_rfl
@[simp] theorem conc72 : Try.prog.concrete 72 = true := by kernel_rfl
@[simp] theorem agg73 : isAggT Try.prog 73 = some false := by kernel_rfl
@[simp] theorem size73 : sizeT Try.prog 73 = some 1 := by kernel_rfl
@[simp] theorem zero73 : zeroA Try.prog 73 = some [.sc .nilFunc] := by kernel_rfl
@[simp] theorem bytes73 : bytesT Try.prog 73 = some 8 := by kernel_rfl
@[simp] theorem conc73 : Try.prog.concrete 73 = true := by kernel_rfl
@[simp] theorem agg74 : isAggT Try.prog 74 = some false := by kernel_rfl
@[simp] theorem size74 : sizeT Try.prog 74 = some 1 := by kernel_rfl
@[simp] theorem zero74 : zeroA Try.prog 74 = some [.sc .nilFunc] := by kernel_rfl
@[simp] theorem bytes74 : bytesT Try.prog 74 = some 8 := by kernel_rfl
@[simp] theorem conc74 : Try.prog.concrete 74 = true := by kernel_rfl
@[simp] theorem agg75 : isAggT Try.prog 75 = some false := by kernel_rfl
@[simp] theorem size75 : sizeT Try.prog 75 = some 1 := by kernel_rfl
@[simp] theorem zero75 : zeroA Try.prog 75 = some [.sc (.int .u64 0)] := by kernel_rfl
@[simp] theorem bytes75 : bytesT Try.prog 75 = some 8 := by kernel_rfl
@[simp] theorem conc75 : Try.prog.concrete 75 = true := by kernel_rfl
@[simp] theorem slc75 : notIntT Try.prog 75 = false := by kernel_rfl
@[simp] theorem int75 : intT Try.prog 75 = true := by kernel_rfl
@[simp] theorem agg76 : isAggT Try.prog 76 = some false := by kernel_rfl
@[simp] theorem size76 : sizeT Try.prog 76 = some 1 := by kernel_rfl
@[simp] theorem zero76 : zeroA Try.prog 76 = some [.sc .nilFunc] := by kernel_rfl
@[simp] theorem bytes76 : bytesT Try.prog 76 = some 8 := by kernel_rfl
@[simp] theorem conc76 : Try.prog.concrete 76 = true := by kernel_rfl
@[simp] theorem agg77 : isAggT Try.prog 77 = some false := by kernel_rfl
@[simp] theorem size77 : sizeT Try.prog 77 = some 1 := by kernel_rfl
@[simp] theorem zero77 : zeroA Try.prog 77 = some [.sc .nilFunc] := by kernel_rfl
@[simp] theorem bytes77 : bytesT Try.prog 77 = some 8 := by kernel_rfl
@[simp] theorem conc77 : Try.prog.concrete 77 = true := by kernel_rfl
@[simp] theorem agg78 : isAggT Try.prog 78 = some false := by kernel_rfl
@[simp] theorem size78 : sizeT Try.prog 78 = some 1 := by kernel_rfl
@[simp] theorem zero78 : zeroA Try.prog 78 = some [.sc (.pointer none)] := by kernel_rfl
@[simp] theorem bytes78 : bytesT Try.prog 78 = some 8 := by kernel_rfl
@[simp] theorem conc78 : Try.prog.concrete 78 = true := by kernel_rfl
@[simp] theorem agg80 : isAggT Try.prog 80 = some false := by kernel_rfl
@[simp] theorem size80 : sizeT Try.prog 80 = some 1 := by kernel_rfl
@[simp] theorem zero80 : zeroA Try.prog 80 = some [.sc .nilFunc] := by kernel_rfl
@[simp] theorem bytes80 : bytesT Try.prog 80 = some 8 := by kernel_rfl
@[simp] theorem conc80 : Try.prog.concrete 80 = true := by kernel_rfl
@[simp] theorem agg81 : isAggT Try.prog 81 = some false := by kernel_rfl
@[simp] theorem size81 : sizeT Try.prog 81 = some 1 := by kernel_rfl
@[simp] theorem zero81 : zeroA Try.prog 81 = some [.sc .nilFunc] := by kernel_rfl
@[simp] theorem bytes81 : bytesT Try.prog 81 = some 8 := by kernel_rfl
@[simp] theorem conc81 : Try.prog.concrete 81 = true := by kernel_rfl
@[simp] theorem agg83 : isAggT Try.prog 83 = some false := by kernel_rfl
@[simp] theorem size83 : sizeT Try.prog 83 = some 1 := by kernel_rfl
@[simp] theorem zero83 : zeroA Try.prog 83 = some [.sc .nilFunc] := by kernel_rfl
@[simp] theorem bytes83 : bytesT Try.prog 83 = some 8 := by kernel_rfl
@[simp] theorem conc83 : Try.prog.concrete 83 = true := by kernel_rfl
@[simp] theorem agg84 : isAggT Try.prog 84 = some false := by kernel_rfl
@[simp] theorem size84 : sizeT Try.prog 84 = some 1 := by kernel_rfl
@[simp] theorem zero84 : zeroA Try.prog 84 = some [.sc .nilFunc] := by kernel_rfl
@[simp] theorem bytes84 : bytesT Try.prog 84 = some 8 := by kernel_rfl
@[simp] theorem conc84 : Try.prog.concrete 84 = true := by kernel_rfl
@[simp] theorem agg85 : isAggT Try.prog 85 = some false := by kernel_rfl
@[simp] theorem size85 : sizeT Try.prog 85 = some 1 := by kernel_rfl
@[simp] theorem zero85 : zeroA Try.prog 85 = some [.sc .nilFunc] := by kernel_rfl
@[simp] theorem bytes85 : bytesT Try.prog 85 = some 8 := by kernel_rfl
@[simp] theorem conc85 : Try.prog.concrete 85 = true := by kernel_rfl
@[simp] theorem agg86 : isAggT Try.prog 86 = some false := by kernel_rfl
@[simp] theorem size86 : sizeT Try.prog 86 = some 1 := by kernel_rfl
@[simp] theorem zero86 : zeroA Try.prog 86 = some [.sc .nilFunc] := by kernel_rfl
@[simp] theorem bytes86 : bytesT Try.prog 86 = some 8 := by kernel_rfl
@[simp] theorem conc86 : Try.prog.concrete 86 = true := by kernel_rfl
@[simp] theorem agg87 : isAggT Try.prog 87 = some false := by kernel_rfl
@[simp] theorem size87 : sizeT Try.prog 87 = some 1 := by kernel_rfl
@[simp] theorem zero87 : zeroA Try.prog 87 = some [.sc (.slice none 0 0)] := by kernel_rfl
@[simp] theorem bytes87 : bytesT Try.prog 87 = some 24 := by kernel_rfl
@[simp] theorem conc87 : Try.prog.concrete 87 = true := by kernel_rfl
@[simp] theorem elem87 : elemOfT Try.prog 87 = some (78, 1) := by kernel_rfl
@[simp] theorem slc87 : notIntT Try.prog 87 = true := by kernel_rfl
@[simp] theorem agg88 : isAggT Try.prog 88 = some false := by kernel_rfl
@[simp] theorem size88 : sizeT Try.prog 88 = some 1 := by kernel_rfl
@[simp] theorem zero88 : zeroA Try.prog 88 = some [.sc .nilFunc] := by kernel_rfl
@[simp] theorem bytes88 : bytesT Try.prog 88 = some 8 := by kernel_rfl
@[simp] theorem conc88 : Try.prog.concrete 88 = true := by kernel_rfl
@[simp] theorem agg89 : isAggT Try.prog 89 = some false := by kernel_rfl
@[simp] theorem size89 : sizeT Try.prog 89 = some 1 := by kernel_rfl
@[simp] theorem zero89 : zeroA Try.prog 89 = some [.sc .nilFunc] := by kernel_rfl
@[simp] theorem bytes89 : bytesT Try.prog 89 = some 8 := by kernel_rfl
@[simp] theorem conc89 : Try.prog.concrete 89 = true := by kernel_rfl
@[simp] theorem agg90 : isAggT Try.prog 90 = some false := by kernel_rfl
@[simp] theorem size90 : sizeT Try.prog 90 = some 1 := by kernel_rfl
@[simp] theorem zero90 : zeroA Try.prog 90 = some [.sc .nilFunc] := by kernel_rfl
@[simp] theorem bytes90 : bytesT Try.prog 90 = some 8 := by kernel_rfl
@[simp] theorem conc90 : Try.prog.concrete 90 = true := by kernel_rfl
@[simp] theorem agg91 : isAggT Try.prog 91 = some false := by kernel_rfl
@[simp] theorem size91 : sizeT Try.prog 91 = some 1 := by kernel_rfl
@[simp] theorem zero91 : zeroA Try.prog 91 = some [.sc (.slice none 0 0)] := by kernel_rfl
@[simp] theorem bytes91 : bytesT Try.prog 91 = some 24 := by kernel_rfl
@[simp] theorem conc91 : Try.prog.concrete 91 = true := by kernel_rfl
@[simp] theorem elem91 : elemOfT Try.prog 91 = some (66, 1) := by kernel_rfl
@[simp] theorem slc91 : notIntT Try.prog 91 = true := by kernel_rfl
@[simp] theorem agg92 : isAggT Try.prog 92 = some false := by kernel_rfl
@[simp] theorem size92 : sizeT Try.prog 92 = some 1 := by kernel_rfl
@[simp] theorem zero92 : zeroA Try.prog 92 = some [.sc .nilFunc] := by kernel_rfl
@[simp] theorem bytes92 : bytesT Try.prog 92 = some 8 := by kernel_rfl
@[simp] theorem conc92 : Try.prog.concrete 92 = true := by kernel_rfl
@[simp] theorem agg93 : isAggT Try.prog 93 = some false := by kernel_rfl
@[simp] theorem size93 : sizeT Try.prog 93 = some 1 := by kernel_rfl
@[simp] theorem zero93 : zeroA Try.prog 93 = some [.sc .nilFunc] := by kernel_rfl
@[simp] theorem bytes93 : bytesT Try.prog 93 = some 8 := by kernel_rfl
@[simp] theorem conc93 : Try.prog.concrete 93 = true := by kernel_rfl
@[simp] theorem agg94 : isAggT Try.prog 94 = some false := by kernel_rfl
@[simp] theorem size94 : sizeT Try.prog 94 = some 1 := by kernel_rfl
@[simp] theorem zero94 : zeroA Try.prog 94 = some [.sc .nilFunc] := by kernel_rfl
@[simp] theorem bytes94 : bytesT Try.prog 94 = some 8 := by kernel_rfl
@[simp] theorem conc94 : Try.prog.concrete 94 = true := by kernel_rfl
@[simp] theorem agg95 : isAggT Try.prog 95 = some false := by kernel_rfl
@[simp] theorem size95 : sizeT Try.prog 95 = some 1 := by kernel_rfl
@[simp] theorem zero95 : zeroA Try.prog 95 = some [.sc .nilFunc] := by kernel_rfl
@[simp] theorem bytes95 : bytesT Try.prog 95 = some 8 := by kernel_rfl
@[simp] theorem conc95 : Try.prog.concrete 95 = true := by kernel_rfl
@[simp] theorem agg96 : isAggT Try.prog 96 = some false := by kernel_rfl
@[simp] theorem size96 : sizeT Try.prog 96 = some 1 := by kernel_rfl
@[simp] theorem zero96 : zeroA Try.prog 96 = some [.sc .nilFunc] := by kernel_rfl
@[simp] theorem bytes96 : bytesT Try.prog 96 = some 8 := by kernel_rfl
@[simp] theorem conc96 : Try.prog.concrete 96 = true := by kernel_rfl
@[simp] theorem agg97 : isAggT Try.prog 97 = some false := by kernel_rfl
@[simp] theorem size97 : sizeT Try.prog 97 = some 1 := by kernel_rfl
@[simp] theorem zero97 : zeroA Try.prog 97 = some [.sc .nilFunc] := by kernel_rfl
@[simp] theorem bytes97 : bytesT Try.prog 97 = some 8 := by kernel_rfl
@[simp] theorem conc97 : Try.prog.concrete 97 = true := by kernel_rfl
@[simp] theorem agg98 : isAggT Try.prog 98 = some false := by kernel_rfl
@[simp] theorem size98 : sizeT Try.prog 98 = some 1 := by kernel_rfl
@[simp] theorem zero98 : zeroA Try.prog 98 = some [.sc .nilFunc] := by kernel_rfl
@[simp] theorem bytes98 : bytesT Try.prog 98 = some 8 := by kernel_rfl
@[simp] theorem conc98 : Try.prog.concrete 98 = true := by kernel_rfl
@[simp] theorem agg99 : isAggT Try.prog 99 = some false := by kernel_rfl
@[simp] theorem size99 : sizeT Try.prog 99 = some 1 := by kernel_rfl
@[simp] theorem zero99 : zeroA Try.prog 99 = some [.sc .nilFunc] := by kernel_rfl
@[simp] theorem bytes99 : bytesT Try.prog 99 = some 8 := by kernel_rfl
@[simp] theorem conc99 : Try.prog.concrete 99 = true := by kernel_rfl
@[simp] theorem agg100 : isAggT Try.prog 100 = some false := by kernel_rfl
@[simp] theorem size100 : sizeT Try.prog 100 = some 1 := by kernel_rfl
@[simp] theorem zero100 : zeroA Try.prog 100 = some [.sc .nilFunc] := by kernel_rfl
@[simp] theorem bytes100 : bytesT Try.prog 100 = some 8 := by kernel_rfl
@[simp] theorem conc100 : Try.prog.concrete 100 = true := by kernel_rfl
@[simp] theorem agg101 : isAggT Try.prog 101 = some false := by kernel_rfl
@[simp] theorem size101 : sizeT Try.prog 101 = some 1 := by kernel_rfl
@[simp] theorem zero101 : zeroA Try.prog 101 = some [.sc .nilFunc] := by kernel_rfl
@[simp] theorem bytes101 : bytesT Try.prog 101 = some 8 := by kernel_rfl
@[simp] theorem conc101 : Try.prog.concrete 101 = true := by kernel_rfl
@[simp] theorem agg102 : isAggT Try.prog 102 = some true := by kernel_rfl
@[simp] theorem size102 : sizeT Try.prog 102 = some 2 := by kernel_rfl
@[simp] theorem zero102 : zeroA Try.prog 102 = some [.sc (.slice none 0 0), .sc (.int .i64 0)] := by kernel_rfl
@[simp] theorem bytes102 : bytesT Try.prog 102 = some 32 := by kernel_rfl
@[simp] theorem conc102 : Try.prog.concrete 102 = true := by kernel_rfl
@[simp] theorem places102 : placesT Try.prog 102 = some [(0, 1), (1, 1)] := by kernel_rfl
@[simp] theorem held102 : Try.prog.stoodInHeld 102 = false := by kernel_rfl
@[simp] theorem eqg102 : Try.prog.eqGuardType Try.prog.depth 102 = false := by kernel_rfl
@[simp] theorem fld102_0 (x : AV) : fieldAddrA Try.prog 102 x 0 = (match x with | .fp cs off => some (.fp cs (off + 0)) | .mp l g off => some (.mp l g (off + 0)) | _ => none) := by cases x <;> kernel_rfl
@[simp] theorem fld102_1 (x : AV) : fieldAddrA Try.prog 102 x 1 = (match x with | .fp cs off => some (.fp cs (off + 1)) | .mp l g off => some (.mp l g (off + 1)) | _ => none) := by cases x <;> kernel_rfl
@[simp] theorem agg103 : isAggT Try.prog 103 = some true := by kernel_rfl
@[simp] theorem size103 : sizeT Try.prog 103 = some 2 := by kernel_rfl
@[simp] theorem zero103 : zeroA Try.prog 103 = some [.sc (.slice none 0 0), .sc (.int .i64 0)] := by kernel_rfl
@[simp] theorem bytes103 : bytesT Try.prog 103 = some 32 := by kernel_rfl
@[simp] theorem conc103 : Try.prog.concrete 103 = true := by kernel_rfl
@[simp] theorem places103 : placesT Try.prog 103 = some [(0, 1), (1, 1)] := by kernel_rfl
@[simp] theorem held103 : Try.prog.stoodInHeld 103 = false := by kernel_rfl
@[simp] theorem eqg103 : Try.prog.eqGuardType Try.prog.depth 103 = false := by kernel_rfl
@[simp] theorem fld103_0 (x : AV) : fieldAddrA Try.prog 103 x 0 = (match x with | .fp cs off => some (.fp cs (off + 0)) | .mp l g off => some (.mp l g (off + 0)) | _ => none) := by cases x <;> kernel_rfl
@[simp] theorem fld103_1 (x : AV) : fieldAddrA Try.prog 103 x 1 = (match x with | .fp cs off => some (.fp cs (off + 1)) | .mp l g off => some (.mp l g (off + 1)) | _ => none) := by cases x <;> kernel_rfl
@[simp] theorem agg105 : isAggT Try.prog 105 = some false := by kernel_rfl
@[simp] theorem size105 : sizeT Try.prog 105 = some 1 := by kernel_rfl
@[simp] theorem zero105 : zeroA Try.prog 105 = some [.sc .nilFunc] := by kernel_rfl
@[simp] theorem bytes105 : bytesT Try.prog 105 = some 8 := by kernel_rfl
@[simp] theorem conc105 : Try.prog.concrete 105 = true := by kernel_rfl
@[simp] theorem agg106 : isAggT Try.prog 106 = some false := by kernel_rfl
@[simp] theorem size106 : sizeT Try.prog 106 = some 1 := by kernel_rfl
@[simp] theorem zero106 : zeroA Try.prog 106 = some [.sc .nilFunc] := by kernel_rfl
@[simp] theorem bytes106 : bytesT Try.prog 106 = some 8 := by kernel_rfl
@[simp] theorem conc106 : Try.prog.concrete 106 = true := by kernel_rfl
@[simp] theorem agg107 : isAggT Try.prog 107 = some false := by kernel_rfl
@[simp] theorem size107 : sizeT Try.prog 107 = some 1 := by kernel_rfl
@[simp] theorem zero107 : zeroA Try.prog 107 = some [.sc .nilFunc] := by kernel_rfl
@[simp] theorem bytes107 : bytesT Try.prog 107 = some 8 := by kernel_rfl
@[simp] theorem conc107 : Try.prog.concrete 107 = true := by kernel_rfl
@[simp] theorem agg109 : isAggT Try.prog 109 = some false := by kernel_rfl
@[simp] theorem size109 : sizeT Try.prog 109 = some 1 := by kernel_rfl
@[simp] theorem zero109 : zeroA Try.prog 109 = some [.sc .nilFunc] := by kernel_rfl
@[simp] theorem bytes109 : bytesT Try.prog 109 = some 8 := by kernel_rfl
@[simp] theorem conc109 : Try.prog.concrete 109 = true := by kernel_rfl
@[simp] theorem agg110 : isAggT Try.prog 110 = some false := by kernel_rfl
@[simp] theorem size110 : sizeT Try.prog 110 = some 1 := by kernel_rfl
@[simp] theorem zero110 : zeroA Try.prog 110 = some [.sc (.pointer none)] := by kernel_rfl
@[simp] theorem bytes110 : bytesT Try.prog 110 = some 8 := by kernel_rfl
@[simp] theorem conc110 : Try.prog.concrete 110 = true := by kernel_rfl
@[simp] theorem agg111 : isAggT Try.prog 111 = some false := by kernel_rfl
@[simp] theorem size111 : sizeT Try.prog 111 = some 1 := by kernel_rfl
@[simp] theorem zero111 : zeroA Try.prog 111 = some [.sc (.slice none 0 0)] := by kernel_rfl
@[simp] theorem bytes111 : bytesT Try.prog 111 = some 24 := by kernel_rfl
@[simp] theorem conc111 : Try.prog.concrete 111 = true := by kernel_rfl
@[simp] theorem elem111 : elemOfT Try.prog 111 = some (115, 2) := by kernel_rfl
@[simp] theorem slc111 : notIntT Try.prog 111 = true := by kernel_rfl
@[simp] theorem agg112 : isAggT Try.prog 112 = some false := by kernel_rfl
@[simp] theorem size112 : sizeT Try.prog 112 = some 1 := by kernel_rfl
@[simp] theorem zero112 : zeroA Try.prog 112 = some [.sc (.slice none 0 0)] := by kernel_rfl
@[simp] theorem bytes112 : bytesT Try.prog 112 = some 24 := by kernel_rfl
@[simp] theorem conc112 : Try.prog.concrete 112 = true := by kernel_rfl
@[simp] theorem elem112 : elemOfT Try.prog 112 = some (115, 2) := by kernel_rfl
@[simp] theorem slc112 : notIntT Try.prog 112 = true := by kernel_rfl
@[simp] theorem agg113 : isAggT Try.prog 113 = some false := by kernel_rfl
@[simp] theorem size113 : sizeT Try.prog 113 = some 1 := by kernel_rfl
@[simp] theorem zero113 : zeroA Try.prog 113 = some [.sc .nilFunc] := by kernel_rfl
@[simp] theorem bytes113 : bytesT Try.prog 113 = some 8 := by kernel_rfl
@[simp] theorem conc113 : Try.prog.concrete 113 = true := by kernel_rfl
@[simp] theorem agg114 : isAggT Try.prog 114 = some true := by kernel_rfl
@[simp] theorem size114 : sizeT Try.prog 114 = some 2 := by kernel_rfl
@[simp] theorem zero114 : zeroA Try.prog 114 = some [.sc (.int .i64 0), .sc (.int .i64 0)] := by kernel_rfl
@[simp] theorem bytes114 : bytesT Try.prog 114 = some 16 := by kernel_rfl
@[simp] theorem conc114 : Try.prog.concrete 114 = true := by kernel_rfl
@[simp] theorem places114 : placesT Try.prog 114 = some [(0, 1), (1, 1)] := by kernel_rfl
@[simp] theorem held114 : Try.prog.stoodInHeld 114 = false := by kernel_rfl
@[simp] theorem eqg114 : Try.prog.eqGuardType Try.prog.depth 114 = false := by kernel_rfl
@[simp] theorem fld114_0 (x : AV) : fieldAddrA Try.prog 114 x 0 = (match x with | .fp cs off => some (.fp cs (off + 0)) | .mp l g off => some (.mp l g (off + 0)) | _ => none) := by cases x <;> kernel_rfl
@[simp] theorem fld114_1 (x : AV) : fieldAddrA Try.prog 114 x 1 = (match x with | .fp cs off => some (.fp cs (off + 1)) | .mp l g off => some (.mp l g (off + 1)) | _ => none) := by cases x <;> kernel_rfl
@[simp] theorem agg115 : isAggT Try.prog 115 = some true := by kernel_rfl
@[simp] theorem size115 : sizeT Try.prog 115 = some 2 := by kernel_rfl
@[simp] theorem zero115 : zeroA Try.prog 115 = some [.sc (.int .i64 0), .sc (.int .i64 0)] := by kernel_rfl
@[simp] theorem bytes115 : bytesT Try.prog 115 = some 16 := by kernel_rfl
@[simp] theorem conc115 : Try.prog.concrete 115 = true := by kernel_rfl
@[simp] theorem places115 : placesT Try.prog 115 = some [(0, 1), (1, 1)] := by kernel_rfl
@[simp] theorem held115 : Try.prog.stoodInHeld 115 = false := by kernel_rfl
@[simp] theorem eqg115 : Try.prog.eqGuardType Try.prog.depth 115 = false := by kernel_rfl
@[simp] theorem fld115_0 (x : AV) : fieldAddrA Try.prog 115 x 0 = (match x with | .fp cs off => some (.fp cs (off + 0)) | .mp l g off => some (.mp l g (off + 0)) | _ => none) := by cases x <;> kernel_rfl
@[simp] theorem fld115_1 (x : AV) : fieldAddrA Try.prog 115 x 1 = (match x with | .fp cs off => some (.fp cs (off + 1)) | .mp l g off => some (.mp l g (off + 1)) | _ => none) := by cases x <;> kernel_rfl
@[simp] theorem agg116 : isAggT Try.prog 116 = some false := by kernel_rfl
@[simp] theorem size116 : sizeT Try.prog 116 = some 1 := by kernel_rfl
@[simp] theorem zero116 : zeroA Try.prog 116 = some [.sc .nilFunc] := by kernel_rfl
@[simp] theorem bytes116 : bytesT Try.prog 116 = some 8 := by kernel_rfl
@[simp] theorem conc116 : Try.prog.concrete 116 = true := by kernel_rfl
@[simp] theorem agg117 : isAggT Try.prog 117 = some false := by kernel_rfl
@[simp] theorem size117 : sizeT Try.prog 117 = some 1 := by kernel_rfl
@[simp] theorem zero117 : zeroA Try.prog 117 = some [.sc .nilFunc] := by kernel_rfl
@[simp] theorem bytes117 : bytesT Try.prog 117 = some 8 := by kernel_rfl
@[simp] theorem conc117 : Try.prog.concrete 117 = true := by kernel_rfl
@[simp] theorem agg118 : isAggT Try.prog 118 = some false := by kernel_rfl
@[simp] theorem size118 : sizeT Try.prog 118 = some 1 := by kernel_rfl
@[simp] theorem zero118 : zeroA Try.prog 118 = some [.sc .nilFunc] := by kernel_rfl
@[simp] theorem bytes118 : bytesT Try.prog 118 = some 8 := by kernel_rfl
@[simp] theorem conc118 : Try.prog.concrete 118 = true := by kernel_rfl
@[simp] theorem agg119 : isAggT Try.prog 119 = some false := by kernel_rfl
@[simp] theorem size119 : sizeT Try.prog 119 = some 1 := by kernel_rfl
@[simp] theorem zero119 : zeroA Try.prog 119 = some [.sc (.int .u64 0)] := by kernel_rfl
@[simp] theorem bytes119 : bytesT Try.prog 119 = some 8 := by kernel_rfl
@[simp] theorem conc119 : Try.prog.concrete 119 = true := by kernel_rfl
@[simp] theorem slc119 : notIntT Try.prog 119 = false := by kernel_rfl
@[simp] theorem int119 : intT Try.prog 119 = true := by kernel_rfl
@[simp] theorem agg120 : isAggT Try.prog 120 = some false := by kernel_rfl
@[simp] theorem size120 : sizeT Try.prog 120 = some 1 := by kernel_rfl
@[simp] theorem zero120 : zeroA Try.prog 120 = some [.sc (.slice none 0 0)] := by kernel_rfl
@[simp] theorem bytes120 : bytesT Try.prog 120 = some 24 := by kernel_rfl
@[simp] theorem conc120 : Try.prog.concrete 120 = true := by kernel_rfl
@[simp] theorem elem120 : elemOfT Try.prog 120 = some (127, 2) := by kernel_rfl
@[simp] theorem slc120 : notIntT Try.prog 120 = true := by kernel_rfl
@[simp] theorem agg121 : isAggT Try.prog 121 = some false := by kernel_rfl
@[simp] theorem size121 : sizeT Try.prog 121 = some 1 := by kernel_rfl
@[simp] theorem zero121 : zeroA Try.prog 121 = some [.sc (.slice none 0 0)] := by kernel_rfl
@[simp] theorem bytes121 : bytesT Try.prog 121 = some 24 := by kernel_rfl
@[simp] theorem conc121 : Try.prog.concrete 121 = true := by kernel_rfl
@[simp] theorem elem121 : elemOfT Try.prog 121 = some (127, 2) := by kernel_rfl
@[simp] theorem slc121 : notIntT Try.prog 121 = true := by kernel_rfl
@[simp] theorem agg122 : isAggT Try.prog 122 = some true := by kernel_rfl
@[simp] theorem size122 : sizeT Try.prog 122 = some 1 := by kernel_rfl
@[simp] theorem zero122 : zeroA Try.prog 122 = some [.sc (.slice none 0 0)] := by kernel_rfl
@[simp] theorem bytes122 : bytesT Try.prog 122 = some 24 := by kernel_rfl
@[simp] theorem conc122 : Try.prog.concrete 122 = true := by kernel_rfl
@[simp] theorem places122 : placesT Try.prog 122 = some [(0, 1)] := by kernel_rfl
@[simp] theorem held122 : Try.prog.stoodInHeld 122 = false := by kernel_rfl
@[simp] theorem eqg122 : Try.prog.eqGuardType Try.prog.depth 122 = false := by kernel_rfl
@[simp] theorem fld122_0 (x : AV) : fieldAddrA Try.prog 122 x 0 = (match x with | .fp cs off => some (.fp cs (off + 0)) | .mp l g off => some (.mp l g (off + 0)) | _ => none) := by cases x <;> kernel_rfl
@[simp] theorem agg123 : isAggT Try.prog 123 = some true := by kernel_rfl
@[simp] theorem size123 : sizeT Try.prog 123 = some 1 := by kernel_rfl
@[simp] theorem zero123 : zeroA Try.prog 123 = some [.sc (.slice none 0 0)] := by kernel_rfl
@[simp] theorem bytes123 : bytesT Try.prog 123 = some 24 := by kernel_rfl
@[simp] theorem conc123 : Try.prog.concrete 123 = true := by kernel_rfl
@[simp] theorem places123 : placesT Try.prog 123 = some [(0, 1)] := by kernel_rfl
@[simp] theorem held123 : Try.prog.stoodInHeld 123 = false := by kernel_rfl
@[simp] theorem eqg123 : Try.prog.eqGuardType Try.prog.depth 123 = false := by kernel_rfl
@[simp] theorem fld123_0 (x : AV) : fieldAddrA Try.prog 123 x 0 = (match x with | .fp cs off => some (.fp cs (off + 0)) | .mp l g off => some (.mp l g (off + 0)) | _ => none) := by cases x <;> kernel_rfl
@[simp] theorem agg124 : isAggT Try.prog 124 = some false := by kernel_rfl
@[simp] theorem size124 : sizeT Try.prog 124 = some 1 := by kernel_rfl
@[simp] theorem zero124 : zeroA Try.prog 124 = some [.sc .nilFunc] := by kernel_rfl
@[simp] theorem bytes124 : bytesT Try.prog 124 = some 8 := by kernel_rfl
@[simp] theorem conc124 : Try.prog.concrete 124 = true := by kernel_rfl
@[simp] theorem agg125 : isAggT Try.prog 125 = some false := by kernel_rfl
@[simp] theorem size125 : sizeT Try.prog 125 = some 1 := by kernel_rfl
@[simp] theorem zero125 : zeroA Try.prog 125 = some [.sc .nilFunc] := by kernel_rfl
@[simp] theorem bytes125 : bytesT Try.prog 125 = some 8 := by kernel_rfl
@[simp] theorem conc125 : Try.prog.concrete 125 = true := by kernel_rfl
@[simp] theorem agg126 : isAggT Try.prog 126 = some true := by kernel_rfl
@[simp] theorem size126 : sizeT Try.prog 126 = some 2 := by kernel_rfl
@[simp] theorem zero126 : zeroA Try.prog 126 = some [.sc (.slice none 0 0), .sc (.int .i64 0)] := by kernel_rfl
@[simp] theorem bytes126 : bytesT Try.prog 126 = some 32 := by kernel_rfl
@[simp] theorem conc126 : Try.prog.concrete 126 = true := by kernel_rfl
@[simp] theorem places126 : placesT Try.prog 126 = some [(0, 1), (1, 1)] := by kernel_rfl
@[simp] theorem held126 : Try.prog.stoodInHeld 126 = false := by kernel_rfl
@[simp] theorem eqg126 : Try.prog.eqGuardType Try.prog.depth 126 = false := by kernel_rfl
@[simp] theorem fld126_0 (x : AV) : fieldAddrA Try.prog 126 x 0 = (match x with | .fp cs off => some (.fp cs (off + 0)) | .mp l g off => some (.mp l g (off + 0)) | _ => none) := by cases x <;> kernel_rfl
@[simp] theorem fld126_1 (x : AV) : fieldAddrA Try.prog 126 x 1 = (match x with | .fp cs off => some (.fp cs (off + 1)) | .mp l g off => some (.mp l g (off + 1)) | _ => none) := by cases x <;> kernel_rfl
@[simp] theorem agg127 : isAggT Try.prog 127 = some true := by kernel_rfl
@[simp] theorem size127 : sizeT Try.prog 127 = some 2 := by kernel_rfl
@[simp] theorem zero127 : zeroA Try.prog 127 = some [.sc (.slice none 0 0), .sc (.int .i64 0)] := by kernel_rfl
@[simp] theorem bytes127 : bytesT Try.prog 127 = some 32 := by kernel_rfl
@[simp] theorem conc127 : Try.prog.concrete 127 = true := by kernel_rfl
@[simp] theorem places127 : placesT Try.prog 127 = some [(0, 1), (1, 1)] := by kernel_rfl
@[simp] theorem held127 : Try.prog.stoodInHeld 127 = false := by kernel_rfl
@[simp] theorem eqg127 : Try.prog.eqGuardType Try.prog.depth 127 = false := by kernel_rfl
@[simp] theorem fld127_0 (x : AV) : fieldAddrA Try.prog 127 x 0 = (match x with | .fp cs off => some (.fp cs (off + 0)) | .mp l g off => some (.mp l g (off + 0)) | _ => none) := by cases x <;> kernel_rfl
@[simp] theorem fld127_1 (x : AV) : fieldAddrA Try.prog 127 x 1 = (match x with | .fp cs off => some (.fp cs (off + 1)) | .mp l g off => some (.mp l g (off + 1)) | _ => none) := by cases x <;> kernel_rfl
@[simp] theorem agg128 : isAggT Try.prog 128 = some false := by kernel_rfl
@[simp] theorem size128 : sizeT Try.prog 128 = some 1 := by kernel_rfl
@[simp] theorem zero128 : zeroA Try.prog 128 = some [.sc .nilFunc] := by kernel_rfl
@[simp] theorem bytes128 : bytesT Try.prog 128 = some 8 := by kernel_rfl
@[simp] theorem conc128 : Try.prog.concrete 128 = true := by kernel_rfl
@[simp] theorem agg129 : isAggT Try.prog 129 = some false := by kernel_rfl
@[simp] theorem size129 : sizeT Try.prog 129 = some 1 := by kernel_rfl
@[simp] theorem zero129 : zeroA Try.prog 129 = some [.sc (.pointer none)] := by kernel_rfl
@[simp] theorem bytes129 : bytesT Try.prog 129 = some 8 := by kernel_rfl
@[simp] theorem conc129 : Try.prog.concrete 129 = true := by kernel_rfl
@[simp] theorem agg130 : isAggT Try.prog 130 = some false := by kernel_rfl
@[simp] theorem size130 : sizeT Try.prog 130 = some 1 := by kernel_rfl
@[simp] theorem zero130 : zeroA Try.prog 130 = some [.sc .nilFunc] := by kernel_rfl
@[simp] theorem bytes130 : bytesT Try.prog 130 = some 8 := by kernel_rfl
@[simp] theorem conc130 : Try.prog.concrete 130 = true := by kernel_rfl
@[simp] theorem agg131 : isAggT Try.prog 131 = some false := by kernel_rfl
@[simp] theorem size131 : sizeT Try.prog 131 = some 1 := by kernel_rfl
@[simp] theorem zero131 : zeroA Try.prog 131 = some [.sc .nilFunc] := by kernel_rfl
@[simp] theorem bytes131 : bytesT Try.prog 131 = some 8 := by kernel_rfl
@[simp] theorem conc131 : Try.prog.concrete 131 = true := by kernel_rfl
@[simp] theorem agg133 : isAggT Try.prog 133 = some false := by kernel_rfl
@[simp] theorem size133 : sizeT Try.prog 133 = some 1 := by kernel_rfl
@[simp] theorem zero133 : zeroA Try.prog 133 = some [.sc .nilFunc] := by kernel_rfl
@[simp] theorem bytes133 : bytesT Try.prog 133 = some 8 := by kernel_rfl
@[simp] theorem conc133 : Try.prog.concrete 133 = true := by kernel_rfl
@[simp] theorem agg134 : isAggT Try.prog 134 = some false := by kernel_rfl
@[simp] theorem size134 : sizeT Try.prog 134 = some 1 := by kernel_rfl
@[simp] theorem zero134 : zeroA Try.prog 134 = some [.sc .nilFunc] := by kernel_rfl
@[simp] theorem bytes134 : bytesT Try.prog 134 = some 8 := by kernel_rfl
@[simp] theorem conc134 : Try.prog.concrete 134 = true := by kernel_rfl
@[simp] theorem agg136 : isAggT Try.prog 136 = some false := by kernel_rfl
@[simp] theorem size136 : sizeT Try.prog 136 = some 1 := by kernel_rfl
@[simp] theorem zero136 : zeroA Try.prog 136 = some [.sc .nilFunc] := by kernel_rfl
@[simp] theorem bytes136 : bytesT Try.prog 136 = some 8 := by kernel_rfl
@[simp] theorem conc136 : Try.prog.concrete 136 = true := by kernel_rfl
@[simp] theorem agg137 : isAggT Try.prog 137 = some false := by kernel_rfl
@[simp] theorem size137 : sizeT Try.prog 137 = some 1 := by kernel_rfl
@[simp] theorem zero137 : zeroA Try.prog 137 = some [.sc .nilFunc] := by kernel_rfl
@[simp] theorem bytes137 : bytesT Try.prog 137 = some 8 := by kernel_rfl
@[simp] theorem conc137 : Try.prog.concrete 137 = true := by kernel_rfl
@[simp] theorem agg138 : isAggT Try.prog 138 = some false := by kernel_rfl
@[simp] theorem size138 : sizeT Try.prog 138 = some 1 := by kernel_rfl
@[simp] theorem zero138 : zeroA Try.prog 138 = some [.sc .nilFunc] := by kernel_rfl
@[simp] theorem bytes138 : bytesT Try.prog 138 = some 8 := by kernel_rfl
@[simp] theorem conc138 : Try.prog.concrete 138 = true := by kernel_rfl
@[simp] theorem agg139 : isAggT Try.prog 139 = some false := by kernel_rfl
@[simp] theorem size139 : sizeT Try.prog 139 = some 1 := by kernel_rfl
@[simp] theorem zero139 : zeroA Try.prog 139 = some [.sc .nilFunc] := by kernel_rfl
@[simp] theorem bytes139 : bytesT Try.prog 139 = some 8 := by kernel_rfl
@[simp] theorem conc139 : Try.prog.concrete 139 = true := by kernel_rfl
@[simp] theorem agg140 : isAggT Try.prog 140 = some false := by kernel_rfl
@[simp] theorem size140 : sizeT Try.prog 140 = some 1 := by kernel_rfl
@[simp] theorem zero140 : zeroA Try.prog 140 = some [.sc .nilFunc] := by kernel_rfl
@[simp] theorem bytes140 : bytesT Try.prog 140 = some 8 := by kernel_rfl
@[simp] theorem conc140 : Try.prog.concrete 140 = true := by kernel_rfl
@[simp] theorem agg141 : isAggT Try.prog 141 = some false := by kernel_rfl
@[simp] theorem size141 : sizeT Try.prog 141 = some 1 := by kernel_rfl
@[simp] theorem zero141 : zeroA Try.prog 141 = some [.sc .nilFunc] := by kernel_rfl
@[simp] theorem bytes141 : bytesT Try.prog 141 = some 8 := by kernel_rfl
@[simp] theorem conc141 : Try.prog.concrete 141 = true := by kernel_rfl
@[simp] theorem agg142 : isAggT Try.prog 142 = some false := by kernel_rfl
@[simp] theorem size142 : sizeT Try.prog 142 = some 1 := by kernel_rfl
@[simp] theorem zero142 : zeroA Try.prog 142 = some [.sc .nilFunc] := by kernel_rfl
@[simp] theorem bytes142 : bytesT Try.prog 142 = some 8 := by kernel_rfl
@[simp] theorem conc142 : Try.prog.concrete 142 = true := by kernel_rfl
@[simp] theorem agg143 : isAggT Try.prog 143 = some false := by kernel_rfl
@[simp] theorem size143 : sizeT Try.prog 143 = some 1 := by kernel_rfl
@[simp] theorem zero143 : zeroA Try.prog 143 = some [.sc .nilFunc] := by kernel_rfl
@[simp] theorem bytes143 : bytesT Try.prog 143 = some 8 := by kernel_rfl
@[simp] theorem conc143 : Try.prog.concrete 143 = true := by kernel_rfl
@[simp] theorem agg144 : isAggT Try.prog 144 = some false := by kernel_rfl
@[simp] theorem size144 : sizeT Try.prog 144 = some 1 := by kernel_rfl
@[simp] theorem zero144 : zeroA Try.prog 144 = some [.sc .nilFunc] := by kernel_rfl
@[simp] theorem bytes144 : bytesT Try.prog 144 = some 8 := by kernel_rfl
@[simp] theorem conc144 : Try.prog.concrete 144 = true := by kernel_rfl
@[simp] theorem agg145 : isAggT Try.prog 145 = some false := by kernel_rfl
@[simp] theorem size145 : sizeT Try.prog 145 = some 1 := by kernel_rfl
@[simp] theorem zero145 : zeroA Try.prog 145 = some [.sc .nilFunc] := by kernel_rfl
@[simp] theorem bytes145 : bytesT Try.prog 145 = some 8 := by kernel_rfl
@[simp] theorem conc145 : Try.prog.concrete 145 = true := by kernel_rfl
@[simp] theorem agg146 : isAggT Try.prog 146 = some false := by kernel_rfl
@[simp] theorem size146 : sizeT Try.prog 146 = some 1 := by kernel_rfl
@[simp] theorem zero146 : zeroA Try.prog 146 = some [.sc .nilFunc] := by kernel_rfl
@[simp] theorem bytes146 : bytesT Try.prog 146 = some 8 := by kernel_rfl
@[simp] theorem conc146 : Try.prog.concrete 146 = true := by kernel_rfl
@[simp] theorem agg147 : isAggT Try.prog 147 = some false := by kernel_rfl
@[simp] theorem size147 : sizeT Try.prog 147 = some 1 := by kernel_rfl
@[simp] theorem zero147 : zeroA Try.prog 147 = some [.sc .nilFunc] := by kernel_rfl
@[simp] theorem bytes147 : bytesT Try.prog 147 = some 8 := by kernel_rfl
@[simp] theorem conc147 : Try.prog.concrete 147 = true := by kernel_rfl
@[simp] theorem agg148 : isAggT Try.prog 148 = some true := by kernel_rfl
@[simp] theorem size148 : sizeT Try.prog 148 = some 2 := by kernel_rfl
@[simp] theorem zero148 : zeroA Try.prog 148 = some [.sc (.slice none 0 0), .sc (.int .i64 0)] := by kernel_rfl
@[simp] theorem bytes148 : bytesT Try.prog 148 = some 32 := by kernel_rfl
@[simp] theorem conc148 : Try.prog.concrete 148 = true := by kernel_rfl
@[simp] theorem places148 : placesT Try.prog 148 = some [(0, 1), (1, 1)] := by kernel_rfl
@[simp] theorem held148 : Try.prog.stoodInHeld 148 = false := by kernel_rfl
@[simp] theorem eqg148 : Try.prog.eqGuardType Try.prog.depth 148 = false := by kernel_rfl
@[simp] theorem fld148_0 (x : AV) : fieldAddrA Try.prog 148 x 0 = (match x with | .fp cs off => some (.fp cs (off + 0)) | .mp l g off => some (.mp l g (off + 0)) | _ => none) := by cases x <;> kernel_rfl
@[simp] theorem fld148_1 (x : AV) : fieldAddrA Try.prog 148 x 1 = (match x with | .fp cs off => some (.fp cs (off + 1)) | .mp l g off => some (.mp l g (off + 1)) | _ => none) := by cases x <;> kernel_rfl
@[simp] theorem agg149 : isAggT Try.prog 149 = some true := by kernel_rfl
@[simp] theorem size149 : sizeT Try.prog 149 = some 2 := by kernel_rfl
@[simp] theorem zero149 : zeroA Try.prog 149 = some [.sc (.slice none 0 0), .sc (.int .i64 0)] := by kernel_rfl
@[simp] theorem bytes149 : bytesT Try.prog 149 = some 32 := by kernel_rfl
@[simp] theorem conc149 : Try.prog.concrete 149 = true := by kernel_rfl
@[simp] theorem places149 : placesT Try.prog 149 = some [(0, 1), (1, 1)] := by kernel_rfl
@[simp] theorem held149 : Try.prog.stoodInHeld 149 = false := by kernel_rfl
@[simp] theorem eqg149 : Try.prog.eqGuardType Try.prog.depth 149 = false := by kernel_rfl
@[simp] theorem fld149_0 (x : AV) : fieldAddrA Try.prog 149 x 0 = (match x with | .fp cs off => some (.fp cs (off + 0)) | .mp l g off => some (.mp l g (off + 0)) | _ => none) := by cases x <;> kernel_rfl
@[simp] theorem fld149_1 (x : AV) : fieldAddrA Try.prog 149 x 1 = (match x with | .fp cs off => some (.fp cs (off + 1)) | .mp l g off => some (.mp l g (off + 1)) | _ => none) := by cases x <;> kernel_rfl
@[simp] theorem agg150 : isAggT Try.prog 150 = some false := by kernel_rfl
@[simp] theorem size150 : sizeT Try.prog 150 = some 1 := by kernel_rfl
@[simp] theorem zero150 : zeroA Try.prog 150 = some [.sc .nilFunc] := by kernel_rfl
@[simp] theorem bytes150 : bytesT Try.prog 150 = some 8 := by kernel_rfl
@[simp] theorem conc150 : Try.prog.concrete 150 = true := by kernel_rfl
@[simp] theorem agg151 : isAggT Try.prog 151 = some false := by kernel_rfl
@[simp] theorem size151 : sizeT Try.prog 151 = some 1 := by kernel_rfl
@[simp] theorem zero151 : zeroA Try.prog 151 = some [.sc .nilFunc] := by kernel_rfl
@[simp] theorem bytes151 : bytesT Try.prog 151 = some 8 := by kernel_rfl
@[simp] theorem conc151 : Try.prog.concrete 151 = true := by kernel_rfl
@[simp] theorem agg152 : isAggT Try.prog 152 = some false := by kernel_rfl
@[simp] theorem size152 : sizeT Try.prog 152 = some 1 := by kernel_rfl
@[simp] theorem zero152 : zeroA Try.prog 152 = some [.sc .nilFunc] := by kernel_rfl
@[simp] theorem bytes152 : bytesT Try.prog 152 = some 8 := by kernel_rfl
@[simp] theorem conc152 : Try.prog.concrete 152 = true := by kernel_rfl
@[simp] theorem agg153 : isAggT Try.prog 153 = some false := by kernel_rfl
@[simp] theorem size153 : sizeT Try.prog 153 = some 1 := by kernel_rfl
@[simp] theorem zero153 : zeroA Try.prog 153 = some [.sc .nilFunc] := by kernel_rfl
@[simp] theorem bytes153 : bytesT Try.prog 153 = some 8 := by kernel_rfl
@[simp] theorem conc153 : Try.prog.concrete 153 = true := by kernel_rfl
@[simp] theorem agg154 : isAggT Try.prog 154 = some false := by kernel_rfl
@[simp] theorem size154 : sizeT Try.prog 154 = some 1 := by kernel_rfl
@[simp] theorem zero154 : zeroA Try.prog 154 = some [.sc .nilFunc] := by kernel_rfl
@[simp] theorem bytes154 : bytesT Try.prog 154 = some 8 := by kernel_rfl
@[simp] theorem conc154 : Try.prog.concrete 154 = true := by kernel_rfl
@[simp] theorem agg155 : isAggT Try.prog 155 = some false := by kernel_rfl
@[simp] theorem size155 : sizeT Try.prog 155 = some 1 := by kernel_rfl
@[simp] theorem zero155 : zeroA Try.prog 155 = some [.sc .nilFunc] := by kernel_rfl
@[simp] theorem bytes155 : bytesT Try.prog 155 = some 8 := by kernel_rfl
@[simp] theorem conc155 : Try.prog.concrete 155 = true := by kernel_rfl
@[simp] theorem agg156 : isAggT Try.prog 156 = some false := by kernel_rfl
@[simp] theorem size156 : sizeT Try.prog 156 = some 1 := by kernel_rfl
@[simp] theorem zero156 : zeroA Try.prog 156 = some [.sc .nilFunc] := by kernel_rfl
@[simp] theorem bytes156 : bytesT Try.prog 156 = some 8 := by kernel_rfl
@[simp] theorem conc156 : Try.prog.concrete 156 = true := by kernel_rfl
@[simp] theorem agg157 : isAggT Try.prog 157 = some false := by kernel_rfl
@[simp] theorem size157 : sizeT Try.prog 157 = some 1 := by kernel_rfl
@[simp] theorem zero157 : zeroA Try.prog 157 = some [.sc .nilFunc] := by kernel_rfl
@[simp] theorem bytes157 : bytesT Try.prog 157 = some 8 := by kernel_rfl
@[simp] theorem conc157 : Try.prog.concrete 157 = true := by kernel_rfl
@[simp] theorem agg158 : isAggT Try.prog 158 = some false := by kernel_rfl
@[simp] theorem size158 : sizeT Try.prog 158 = some 1 := by kernel_rfl
@[simp] theorem zero158 : zeroA Try.prog 158 = some [.sc .nilFunc] := by kernel_rfl
@[simp] theorem bytes158 : bytesT Try.prog 158 = some 8 := by kernel_rfl
@[simp] theorem conc158 : Try.prog.concrete 158 = true := by kernel_rfl
@[simp] theorem agg159 : isAggT Try.prog 159 = some false := by kernel_rfl
@[simp] theorem size159 : sizeT Try.prog 159 = some 1 := by kernel_rfl
@[simp] theorem zero159 : zeroA Try.prog 159 = some [.sc .nilIface] := by kernel_rfl
@[simp] theorem bytes159 : bytesT Try.prog 159 = some 16 := by kernel_rfl
@[simp] theorem agg160 : isAggT Try.prog 160 = some false := by kernel_rfl
@[simp] theorem size160 : sizeT Try.prog 160 = some 1 := by kernel_rfl
@[simp] theorem zero160 : zeroA Try.prog 160 = some [.sc .nilIface] := by kernel_rfl
@[simp] theorem bytes160 : bytesT Try.prog 160 = some 16 := by kernel_rfl
@[simp] theorem agg161 : isAggT Try.prog 161 = some false := by kernel_rfl
@[simp] theorem size161 : sizeT Try.prog 161 = some 1 := by kernel_rfl
@[simp] theorem zero161 : zeroA Try.prog 161 = some [.sc .nilFunc] := by kernel_rfl
@[simp] theorem bytes161 : bytesT Try.prog 161 = some 8 := by kernel_rfl
@[simp] theorem conc161 : Try.prog.concrete 161 = true := by kernel_rfl
@[simp] theorem agg162 : isAggT Try.prog 162 = some false := by kernel_rfl
@[simp] theorem size162 : sizeT Try.prog 162 = some 1 := by kernel_rfl
@[simp] theorem zero162 : zeroA Try.prog 162 = some [.sc .nilFunc] := by kernel_rfl
@[simp] theorem bytes162 : bytesT Try.prog 162 = some 8 := by kernel_rfl
@[simp] theorem conc162 : Try.prog.concrete 162 = true := by kernel_rfl
@[simp] theorem agg163 : isAggT Try.prog 163 = some false := by kernel_rfl
@[simp] theorem size163 : sizeT Try.prog 163 = some 1 := by kernel_rfl
@[simp] theorem zero163 : zeroA Try.prog 163 = some [.sc .nilFunc] := by kernel_rfl
@[simp] theorem bytes163 : bytesT Try.prog 163 = some 8 := by kernel_rfl
@[simp] theorem conc163 : Try.prog.concrete 163 = true := by kernel_rfl
@[simp] theorem agg164 : isAggT Try.prog 164 = some false := by kernel_rfl
@[simp] theorem size164 : sizeT Try.prog 164 = some 1 := by kernel_rfl
@[simp] theorem zero164 : zeroA Try.prog 164 = some [.sc .nilFunc] := by kernel_rfl
@[simp] theorem bytes164 : bytesT Try.prog 164 = some 8 := by kernel_rfl
@[simp] theorem conc164 : Try.prog.concrete 164 = true := by kernel_rfl
@[simp] theorem agg165 : isAggT Try.prog 165 = some false := by kernel_rfl
@[simp] theorem size165 : sizeT Try.prog 165 = some 1 := by kernel_rfl
@[simp] theorem zero165 : zeroA Try.prog 165 = some [.sc .nilFunc] := by kernel_rfl
@[simp] theorem bytes165 : bytesT Try.prog 165 = some 8 := by kernel_rfl
@[simp] theorem conc165 : Try.prog.concrete 165 = true := by kernel_rfl
@[simp] theorem agg166 : isAggT Try.prog 166 = some false := by kernel_rfl
@[simp] theorem size166 : sizeT Try.prog 166 = some 1 := by kernel_rfl
@[simp] theorem zero166 : zeroA Try.prog 166 = some [.sc .nilFunc] := by kernel_rfl
@[simp] theorem bytes166 : bytesT Try.prog 166 = some 8 := by kernel_rfl
@[simp] theorem conc166 : Try.prog.concrete 166 = true := by kernel_rfl
@[simp] theorem agg167 : isAggT Try.prog 167 = some false := by kernel_rfl
@[simp] theorem size167 : sizeT Try.prog 167 = some 1 := by kernel_rfl
@[simp] theorem zero167 : zeroA Try.prog 167 = some [.sc .nilFunc] := by kernel_rfl
@[simp] theorem bytes167 : bytesT Try.prog 167 = some 8 := by kernel_rfl
@[simp] theorem conc167 : Try.prog.concrete 167 = true := by kernel_rfl
@[simp] theorem agg168 : isAggT Try.prog 168 = some false := by kernel_rfl
@[simp] theorem size168 : sizeT Try.prog 168 = some 1 := by kernel_rfl
@[simp] theorem zero168 : zeroA Try.prog 168 = some [.sc .nilFunc] := by kernel_rfl
@[simp] theorem bytes168 : bytesT Try.prog 168 = some 8 := by kernel_rfl
@[simp] theorem conc168 : Try.prog.concrete 168 = true := by kernel_rfl
@[simp] theorem agg169 : isAggT Try.prog 169 = some false := by kernel_rfl
@[simp] theorem size169 : sizeT Try.prog 169 = some 1 := by kernel_rfl
@[simp] theorem zero169 : zeroA Try.prog 169 = some [.sc .nilFunc] := by kernel_rfl
@[simp] theorem bytes169 : bytesT Try.prog 169 = some 8 := by kernel_rfl
@[simp] theorem conc169 : Try.prog.concrete 169 = true := by kernel_rfl
@[simp] theorem agg170 : isAggT Try.prog 170 = some false := by kernel_rfl
@[simp] theorem size170 : sizeT Try.prog 170 = some 1 := by kernel_rfl
@[simp] theorem zero170 : zeroA Try.prog 170 = some [.sc .nilFunc] := by kernel_rfl
@[simp] theorem bytes170 : bytesT Try.prog 170 = some 8 := by kernel_rfl
@[simp] theorem conc170 : Try.prog.concrete 170 = true := by kernel_rfl
@[simp] theorem agg171 : isAggT Try.prog 171 = some false := by kernel_rfl
@[simp] theorem size171 : sizeT Try.prog 171 = some 1 := by kernel_rfl
@[simp] theorem zero171 : zeroA Try.prog 171 = some [.sc .nilFunc] := by kernel_rfl
@[simp] theorem bytes171 : bytesT Try.prog 171 = some 8 := by kernel_rfl
@[simp] theorem conc171 : Try.prog.concrete 171 = true := by kernel_rfl
@[simp] theorem agg172 : isAggT Try.prog 172 = some false := by kernel_rfl
@[simp] theorem size172 : sizeT Try.prog 172 = some 1 := by kernel_rfl
@[simp] theorem zero172 : zeroA Try.prog 172 = some [.sc .nilFunc] := by kernel_rfl
@[simp] theorem bytes172 : bytesT Try.prog 172 = some 8 := by kernel_rfl
@[simp] theorem conc172 : Try.prog.concrete 172 = true := by kernel_rfl
@[simp] theorem agg173 : isAggT Try.prog 173 = some false := by kernel_rfl
@[simp] theorem size173 : sizeT Try.prog 173 = some 1 := by kernel_rfl
@[simp] theorem zero173 : zeroA Try.prog 173 = some [.sc .nilFunc] := by kernel_rfl
@[simp] theorem bytes173 : bytesT Try.prog 173 = some 8 := by kernel_rfl
@[simp] theorem conc173 : Try.prog.concrete 173 = true := by kernel_rfl
@[simp] theorem agg174 : isAggT Try.prog 174 = some false := by kernel_rfl
@[simp] theorem size174 : sizeT Try.prog 174 = some 1 := by kernel_rfl
@[simp] theorem zero174 : zeroA Try.prog 174 = some [.sc .nilFunc] := by kernel_rfl
@[simp] theorem bytes174 : bytesT Try.prog 174 = some 8 := by kernel_rfl
@[simp] theorem conc174 : Try.prog.concrete 174 = true := by kernel_rfl
@[simp] theorem agg176 : isAggT Try.prog 176 = some false := by kernel_rfl
@[simp] theorem size176 : sizeT Try.prog 176 = some 1 := by kernel_rfl
@[simp] theorem zero176 : zeroA Try.prog 176 = some [.sc .nilFunc] := by kernel_rfl
@[simp] theorem bytes176 : bytesT Try.prog 176 = some 8 := by kernel_rfl
@[simp] theorem conc176 : Try.prog.concrete 176 = true := by kernel_rfl
@[simp] theorem agg177 : isAggT Try.prog 177 = some false := by kernel_rfl
@[simp] theorem size177 : sizeT Try.prog 177 = some 1 := by kernel_rfl
@[simp] theorem zero177 : zeroA Try.prog 177 = some [.sc .nilFunc] := by kernel_rfl
@[simp] theorem bytes177 : bytesT Try.prog 177 = some 8 := by kernel_rfl
@[simp] theorem conc177 : Try.prog.concrete 177 = true := by kernel_rfl
@[simp] theorem agg178 : isAggT Try.prog 178 = some false := by kernel_rfl
@[simp] theorem size178 : sizeT Try.prog 178 = some 1 := by kernel_rfl
@[simp] theorem zero178 : zeroA Try.prog 178 = some [.sc .nilFunc] := by kernel_rfl
@[simp] theorem bytes178 : bytesT Try.prog 178 = some 8 := by kernel_rfl
@[simp] theorem conc178 : Try.prog.concrete 178 = true := by kernel_rfl
@[simp] theorem agg179 : isAggT Try.prog 179 = some false := by kernel_rfl
@[simp] theorem size179 : sizeT Try.prog 179 = some 1 := by kernel_rfl
@[simp] theorem zero179 : zeroA Try.prog 179 = some [.sc .nilFunc] := by kernel_rfl
@[simp] theorem bytes179 : bytesT Try.prog 179 = some 8 := by kernel_rfl
@[simp] theorem conc179 : Try.prog.concrete 179 = true := by kernel_rfl
@[simp] theorem agg180 : isAggT Try.prog 180 = some false := by kernel_rfl
@[simp] theorem size180 : sizeT Try.prog 180 = some 1 := by kernel_rfl
@[simp] theorem zero180 : zeroA Try.prog 180 = some [.sc (.pointer none)] := by kernel_rfl
@[simp] theorem bytes180 : bytesT Try.prog 180 = some 8 := by kernel_rfl
@[simp] theorem conc180 : Try.prog.concrete 180 = true := by kernel_rfl
@[simp] theorem agg181 : isAggT Try.prog 181 = some false := by kernel_rfl
@[simp] theorem size181 : sizeT Try.prog 181 = some 1 := by kernel_rfl
@[simp] theorem zero181 : zeroA Try.prog 181 = some [.sc (.slice none 0 0)] := by kernel_rfl
@[simp] theorem bytes181 : bytesT Try.prog 181 = some 24 := by kernel_rfl
@[simp] theorem conc181 : Try.prog.concrete 181 = true := by kernel_rfl
@[simp] theorem elem181 : elemOfT Try.prog 181 = some (5, 1) := by kernel_rfl
@[simp] theorem slc181 : notIntT Try.prog 181 = true := by kernel_rfl
@[simp] theorem agg182 : isAggT Try.prog 182 = some true := by kernel_rfl
@[simp] theorem size182 : sizeT Try.prog 182 = some 2 := by kernel_rfl
@[simp] theorem zero182 : zeroA Try.prog 182 = some [.sc (.pointer none), .sc (.slice none 0 0)] := by kernel_rfl
@[simp] theorem bytes182 : bytesT Try.prog 182 = some 32 := by kernel_rfl
@[simp] theorem conc182 : Try.prog.concrete 182 = true := by kernel_rfl
@[simp] theorem places182 : placesT Try.prog 182 = some [(0, 1), (1, 1)] := by kernel_rfl
@[simp] theorem held182 : Try.prog.stoodInHeld 182 = false := by kernel_rfl
@[simp] theorem eqg182 : Try.prog.eqGuardType Try.prog.depth 182 = false := by kernel_rfl
@[simp] theorem fld182_0 (x : AV) : fieldAddrA Try.prog 182 x 0 = (match x with | .fp cs off => some (.fp cs (off + 0)) | .mp l g off => some (.mp l g (off + 0)) | _ => none) := by cases x <;> kernel_rfl
@[simp] theorem fld182_1 (x : AV) : fieldAddrA Try.prog 182 x 1 = (match x with | .fp cs off => some (.fp cs (off + 1)) | .mp l g off => some (.mp l g (off + 1)) | _ => none) := by cases x <;> kernel_rfl
@[simp] theorem agg183 : isAggT Try.prog 183 = some true := by kernel_rfl
@[simp] theorem size183 : sizeT Try.prog 183 = some 2 := by kernel_rfl
@[simp] theorem zero183 : zeroA Try.prog 183 = some [.sc (.pointer none), .sc (.slice none 0 0)] := by kernel_rfl
@[simp] theorem bytes183 : bytesT Try.prog 183 = some 32 := by kernel_rfl
@[simp] theorem conc183 : Try.prog.concrete 183 = true := by kernel_rfl
@[simp] theorem places183 : placesT Try.prog 183 = some [(0, 1), (1, 1)] := by kernel_rfl
@[simp] theorem held183 : Try.prog.stoodInHeld 183 = false := by kernel_rfl
@[simp] theorem eqg183 : Try.prog.eqGuardType Try.prog.depth 183 = false := by kernel_rfl
@[simp] theorem fld183_0 (x : AV) : fieldAddrA Try.prog 183 x 0 = (match x with | .fp cs off => some (.fp cs (off + 0)) | .mp l g off => some (.mp l g (off + 0)) | _ => none) := by cases x <;> kernel_rfl
@[simp] theorem fld183_1 (x : AV) : fieldAddrA Try.prog 183 x 1 = (match x with | .fp cs off => some (.fp cs (off + 1)) | .mp l g off => some (.mp l g (off + 1)) | _ => none) := by cases x <;> kernel_rfl
@[simp] theorem agg184 : isAggT Try.prog 184 = some true := by kernel_rfl
@[simp] theorem size184 : sizeT Try.prog 184 = some 2 := by kernel_rfl
@[simp] theorem zero184 : zeroA Try.prog 184 = some [.sc (.pointer none), .sc (.slice none 0 0)] := by kernel_rfl
@[simp] theorem bytes184 : bytesT Try.prog 184 = some 32 := by kernel_rfl
@[simp] theorem conc184 : Try.prog.concrete 184 = true := by kernel_rfl
@[simp] theorem places184 : placesT Try.prog 184 = some [(0, 2)] := by kernel_rfl
@[simp] theorem held184 : Try.prog.stoodInHeld 184 = false := by kernel_rfl
@[simp] theorem eqg184 : Try.prog.eqGuardType Try.prog.depth 184 = false := by kernel_rfl
@[simp] theorem fld184_0 (x : AV) : fieldAddrA Try.prog 184 x 0 = (match x with | .fp cs off => some (.fp cs (off + 0)) | .mp l g off => some (.mp l g (off + 0)) | _ => none) := by cases x <;> kernel_rfl
@[simp] theorem agg185 : isAggT Try.prog 185 = some true := by kernel_rfl
@[simp] theorem size185 : sizeT Try.prog 185 = some 2 := by kernel_rfl
@[simp] theorem zero185 : zeroA Try.prog 185 = some [.sc (.pointer none), .sc (.slice none 0 0)] := by kernel_rfl
@[simp] theorem bytes185 : bytesT Try.prog 185 = some 32 := by kernel_rfl
@[simp] theorem conc185 : Try.prog.concrete 185 = true := by kernel_rfl
@[simp] theorem places185 : placesT Try.prog 185 = some [(0, 2)] := by kernel_rfl
@[simp] theorem held185 : Try.prog.stoodInHeld 185 = false := by kernel_rfl
@[simp] theorem eqg185 : Try.prog.eqGuardType Try.prog.depth 185 = false := by kernel_rfl
@[simp] theorem fld185_0 (x : AV) : fieldAddrA Try.prog 185 x 0 = (match x with | .fp cs off => some (.fp cs (off + 0)) | .mp l g off => some (.mp l g (off + 0)) | _ => none) := by cases x <;> kernel_rfl
@[simp] theorem agg186 : isAggT Try.prog 186 = some false := by kernel_rfl
@[simp] theorem size186 : sizeT Try.prog 186 = some 1 := by kernel_rfl
@[simp] theorem zero186 : zeroA Try.prog 186 = some [.sc .nilFunc] := by kernel_rfl
@[simp] theorem bytes186 : bytesT Try.prog 186 = some 8 := by kernel_rfl
@[simp] theorem conc186 : Try.prog.concrete 186 = true := by kernel_rfl
@[simp] theorem agg187 : isAggT Try.prog 187 = some false := by kernel_rfl
@[simp] theorem size187 : sizeT Try.prog 187 = some 1 := by kernel_rfl
@[simp] theorem zero187 : zeroA Try.prog 187 = some [.sc .nilFunc] := by kernel_rfl
@[simp] theorem bytes187 : bytesT Try.prog 187 = some 8 := by kernel_rfl
@[simp] theorem conc187 : Try.prog.concrete 187 = true := by kernel_rfl
@[simp] theorem agg188 : isAggT Try.prog 188 = some false := by kernel_rfl
@[simp] theorem size188 : sizeT Try.prog 188 = some 1 := by kernel_rfl
@[simp] theorem zero188 : zeroA Try.prog 188 = some [.sc .nilFunc] := by kernel_rfl
@[simp] theorem bytes188 : bytesT Try.prog 188 = some 8 := by kernel_rfl
@[simp] theorem conc188 : Try.prog.concrete 188 = true := by kernel_rfl
@[simp] theorem agg189 : isAggT Try.prog 189 = some false := by kernel_rfl
@[simp] theorem size189 : sizeT Try.prog 189 = some 1 := by kernel_rfl
@[simp] theorem zero189 : zeroA Try.prog 189 = some [.sc .nilFunc] := by kernel_rfl
@[simp] theorem bytes189 : bytesT Try.prog 189 = some 8 := by kernel_rfl
@[simp] theorem conc189 : Try.prog.concrete 189 = true := by kernel_rfl
@[simp] theorem agg190 : isAggT Try.prog 190 = some false := by kernel_rfl
@[simp] theorem size190 : sizeT Try.prog 190 = some 1 := by kernel_rfl
@[simp] theorem zero190 : zeroA Try.prog 190 = some [.sc .nilFunc] := by kernel_rfl
@[simp] theorem bytes190 : bytesT Try.prog 190 = some 8 := by kernel_rfl
@[simp] theorem conc190 : Try.prog.concrete 190 = true := by kernel_rfl
@[simp] theorem agg191 : isAggT Try.prog 191 = some false := by kernel_rfl
@[simp] theorem size191 : sizeT Try.prog 191 = some 1 := by kernel_rfl
@[simp] theorem zero191 : zeroA Try.prog 191 = some [.sc (.pointer none)] := by kernel_rfl
@[simp] theorem bytes191 : bytesT Try.prog 191 = some 8 := by kernel_rfl
@[simp] theorem conc191 : Try.prog.concrete 191 = true := by kernel_rfl
@[simp] theorem agg192 : isAggT Try.prog 192 = some false := by kernel_rfl
@[simp] theorem size192 : sizeT Try.prog 192 = some 1 := by kernel_rfl
@[simp] theorem zero192 : zeroA Try.prog 192 = some [.sc .nilFunc] := by kernel_rfl
@[simp] theorem bytes192 : bytesT Try.prog 192 = some 8 := by kernel_rfl
@[simp] theorem conc192 : Try.prog.concrete 192 = true := by kernel_rfl
@[simp] theorem agg193 : isAggT Try.prog 193 = some false := by kernel_rfl
@[simp] theorem size193 : sizeT Try.prog 193 = some 1 := by kernel_rfl
@[simp] theorem zero193 : zeroA Try.prog 193 = some [.sc .nilFunc] := by kernel_rfl
@[simp] theorem bytes193 : bytesT Try.prog 193 = some 8 := by kernel_rfl
@[simp] theorem conc193 : Try.prog.concrete 193 = true := by kernel_rfl
@[simp] theorem agg194 : isAggT Try.prog 194 = some false := by kernel_rfl
@[simp] theorem size194 : sizeT Try.prog 194 = some 1 := by kernel_rfl
@[simp] theorem zero194 : zeroA Try.prog 194 = some [.sc (.pointer none)] := by kernel_rfl
@[simp] theorem bytes194 : bytesT Try.prog 194 = some 8 := by kernel_rfl
@[simp] theorem conc194 : Try.prog.concrete 194 = true := by kernel_rfl
@[simp] theorem agg195 : isAggT Try.prog 195 = some false := by kernel_rfl
@[simp] theorem size195 : sizeT Try.prog 195 = some 1 := by kernel_rfl
@[simp] theorem zero195 : zeroA Try.prog 195 = some [.sc .nilFunc] := by kernel_rfl
@[simp] theorem bytes195 : bytesT Try.prog 195 = some 8 := by kernel_rfl
@[simp] theorem conc195 : Try.prog.concrete 195 = true := by kernel_rfl
@[simp] theorem agg196 : isAggT Try.prog 196 = some false := by kernel_rfl
@[simp] theorem size196 : sizeT Try.prog 196 = some 1 := by kernel_rfl
@[simp] theorem zero196 : zeroA Try.prog 196 = some [.sc .nilFunc] := by kernel_rfl
@[simp] theorem bytes196 : bytesT Try.prog 196 = some 8 := by kernel_rfl
@[simp] theorem conc196 : Try.prog.concrete 196 = true := by kernel_rfl
@[simp] theorem agg197 : isAggT Try.prog 197 = some false := by kernel_rfl
@[simp] theorem size197 : sizeT Try.prog 197 = some 1 := by kernel_rfl
@[simp] theorem zero197 : zeroA Try.prog 197 = some [.sc .nilIface] := by kernel_rfl
@[simp] theorem bytes197 : bytesT Try.prog 197 = some 16 := by kernel_rfl
@[simp] theorem agg198 : isAggT Try.prog 198 = some false := by kernel_rfl
@[simp] theorem size198 : sizeT Try.prog 198 = some 1 := by kernel_rfl
@[simp] theorem zero198 : zeroA Try.prog 198 = some [.sc .nilIface] := by kernel_rfl
@[simp] theorem bytes198 : bytesT Try.prog 198 = some 16 := by kernel_rfl
@[simp] theorem agg199 : isAggT Try.prog 199 = some false := by kernel_rfl
@[simp] theorem size199 : sizeT Try.prog 199 = some 1 := by kernel_rfl
@[simp] theorem zero199 : zeroA Try.prog 199 = some [.sc .nilFunc] := by kernel_rfl
@[simp] theorem bytes199 : bytesT Try.prog 199 = some 8 := by kernel_rfl
@[simp] theorem conc199 : Try.prog.concrete 199 = true := by kernel_rfl
@[simp] theorem agg200 : isAggT Try.prog 200 = some false := by kernel_rfl
@[simp] theorem size200 : sizeT Try.prog 200 = some 1 := by kernel_rfl
@[simp] theorem zero200 : zeroA Try.prog 200 = some [.sc .nilFunc] := by kernel_rfl
@[simp] theorem bytes200 : bytesT Try.prog 200 = some 8 := by kernel_rfl
@[simp] theorem conc200 : Try.prog.concrete 200 = true := by kernel_rfl
@[simp] theorem agg201 : isAggT Try.prog 201 = some false := by kernel_rfl
@[simp] theorem size201 : sizeT Try.prog 201 = some 1 := by kernel_rfl
@[simp] theorem zero201 : zeroA Try.prog 201 = some [.sc (.int .i64 0)] := by kernel_rfl
@[simp] theorem bytes201 : bytesT Try.prog 201 = some 8 := by kernel_rfl
@[simp] theorem conc201 : Try.prog.concrete 201 = true := by kernel_rfl
@[simp] theorem slc201 : notIntT Try.prog 201 = false := by kernel_rfl
@[simp] theorem int201 : intT Try.prog 201 = true := by kernel_rfl
@[simp] theorem agg203 : isAggT Try.prog 203 = some false := by kernel_rfl
@[simp] theorem size203 : sizeT Try.prog 203 = some 1 := by kernel_rfl
@[simp] theorem zero203 : zeroA Try.prog 203 = some [.sc .nilFunc] := by kernel_rfl
@[simp] theorem bytes203 : bytesT Try.prog 203 = some 8 := by kernel_rfl
@[simp] theorem conc203 : Try.prog.concrete 203 = true := by kernel_rfl
@[simp] theorem agg204 : isAggT Try.prog 204 = some false := by kernel_rfl
@[simp] theorem size204 : sizeT Try.prog 204 = some 1 := by kernel_rfl
@[simp] theorem zero204 : zeroA Try.prog 204 = some [.sc .nilFunc] := by kernel_rfl
@[simp] theorem bytes204 : bytesT Try.prog 204 = some 8 := by kernel_rfl
@[simp] theorem conc204 : Try.prog.concrete 204 = true := by kernel_rfl
@[simp] theorem agg205 : isAggT Try.prog 205 = some false := by kernel_rfl
@[simp] theorem size205 : sizeT Try.prog 205 = some 1 := by kernel_rfl
@[simp] theorem zero205 : zeroA Try.prog 205 = some [.sc .nilFunc] := by kernel_rfl
@[simp] theorem bytes205 : bytesT Try.prog 205 = some 8 := by kernel_rfl
@[simp] theorem conc205 : Try.prog.concrete 205 = true := by kernel_rfl
@[simp] theorem agg206 : isAggT Try.prog 206 = some false := by kernel_rfl
@[simp] theorem size206 : sizeT Try.prog 206 = some 1 := by kernel_rfl
@[simp] theorem zero206 : zeroA Try.prog 206 = some [.sc .nilFunc] := by kernel_rfl
@[simp] theorem bytes206 : bytesT Try.prog 206 = some 8 := by kernel_rfl
@[simp] theorem conc206 : Try.prog.concrete 206 = true := by kernel_rfl
@[simp] theorem agg207 : isAggT Try.prog 207 = some false := by kernel_rfl
@[simp] theorem size207 : sizeT Try.prog 207 = some 1 := by kernel_rfl
@[simp] theorem zero207 : zeroA Try.prog 207 = some [.sc .nilFunc] := by kernel_rfl
@[simp] theorem bytes207 : bytesT Try.prog 207 = some 8 := by kernel_rfl
@[simp] theorem conc207 : Try.prog.concrete 207 = true := by kernel_rfl
@[simp] theorem agg208 : isAggT Try.prog 208 = some false := by kernel_rfl
@[simp] theorem size208 : sizeT Try.prog 208 = some 1 := by kernel_rfl
@[simp] theorem zero208 : zeroA Try.prog 208 = some [.sc (.int .u32 0)] := by kernel_rfl
@[simp] theorem bytes208 : bytesT Try.prog 208 = some 4 := by kernel_rfl
@[simp] theorem conc208 : Try.prog.concrete 208 = true := by kernel_rfl
@[simp] theorem slc208 : notIntT Try.prog 208 = false := by kernel_rfl
@[simp] theorem int208 : intT Try.prog 208 = true := by kernel_rfl
@[simp] theorem agg209 : isAggT Try.prog 209 = some false := by kernel_rfl
@[simp] theorem size209 : sizeT Try.prog 209 = some 1 := by kernel_rfl
@[simp] theorem zero209 : zeroA Try.prog 209 = some [.sc .nilFunc] := by kernel_rfl
@[simp] theorem bytes209 : bytesT Try.prog 209 = some 8 := by kernel_rfl
@[simp] theorem conc209 : Try.prog.concrete 209 = true := by kernel_rfl
@[simp] theorem agg210 : isAggT Try.prog 210 = some true := by kernel_rfl
@[simp] theorem size210 : sizeT Try.prog 210 = some 2 := by kernel_rfl
@[simp] theorem zero210 : zeroA Try.prog 210 = some [.sc (.string ⟨#[]⟩), .sc (.bool false)] := by kernel_rfl
@[simp] theorem bytes210 : bytesT Try.prog 210 = some 24 := by kernel_rfl
@[simp] theorem conc210 : Try.prog.concrete 210 = true := by kernel_rfl
@[simp] theorem places210 : placesT Try.prog 210 = some [(0, 1), (1, 1)] := by kernel_rfl
@[simp] theorem held210 : Try.prog.stoodInHeld 210 = false := by kernel_rfl
@[simp] theorem eqg210 : Try.prog.eqGuardType Try.prog.depth 210 = false := by kernel_rfl
@[simp] theorem fld210_0 (x : AV) : fieldAddrA Try.prog 210 x 0 = (match x with | .fp cs off => some (.fp cs (off + 0)) | .mp l g off => some (.mp l g (off + 0)) | _ => none) := by cases x <;> kernel_rfl
@[simp] theorem fld210_1 (x : AV) : fieldAddrA Try.prog 210 x 1 = (match x with | .fp cs off => some (.fp cs (off + 1)) | .mp l g off => some (.mp l g (off + 1)) | _ => none) := by cases x <;> kernel_rfl
@[simp] theorem agg211 : isAggT Try.prog 211 = some true := by kernel_rfl
@[simp] theorem size211 : sizeT Try.prog 211 = some 2 := by kernel_rfl
@[simp] theorem zero211 : zeroA Try.prog 211 = some [.sc (.string ⟨#[]⟩), .sc (.bool false)] := by kernel_rfl
@[simp] theorem bytes211 : bytesT Try.prog 211 = some 24 := by kernel_rfl
@[simp] theorem conc211 : Try.prog.concrete 211 = true := by kernel_rfl
@[simp] theorem places211 : placesT Try.prog 211 = some [(0, 1), (1, 1)] := by kernel_rfl
@[simp] theorem held211 : Try.prog.stoodInHeld 211 = false := by kernel_rfl
@[simp] theorem eqg211 : Try.prog.eqGuardType Try.prog.depth 211 = false := by kernel_rfl
@[simp] theorem fld211_0 (x : AV) : fieldAddrA Try.prog 211 x 0 = (match x with | .fp cs off => some (.fp cs (off + 0)) | .mp l g off => some (.mp l g (off + 0)) | _ => none) := by cases x <;> kernel_rfl
@[simp] theorem fld211_1 (x : AV) : fieldAddrA Try.prog 211 x 1 = (match x with | .fp cs off => some (.fp cs (off + 1)) | .mp l g off => some (.mp l g (off + 1)) | _ => none) := by cases x <;> kernel_rfl
@[simp] theorem agg212 : isAggT Try.prog 212 = some false := by kernel_rfl
@[simp] theorem size212 : sizeT Try.prog 212 = some 1 := by kernel_rfl
@[simp] theorem zero212 : zeroA Try.prog 212 = some [.sc .nilFunc] := by kernel_rfl
@[simp] theorem bytes212 : bytesT Try.prog 212 = some 8 := by kernel_rfl
@[simp] theorem conc212 : Try.prog.concrete 212 = true := by kernel_rfl
@[simp] theorem agg213 : isAggT Try.prog 213 = some false := by kernel_rfl
@[simp] theorem size213 : sizeT Try.prog 213 = some 1 := by kernel_rfl
@[simp] theorem zero213 : zeroA Try.prog 213 = some [.sc .nilFunc] := by kernel_rfl
@[simp] theorem bytes213 : bytesT Try.prog 213 = some 8 := by kernel_rfl
@[simp] theorem conc213 : Try.prog.concrete 213 = true := by kernel_rfl
@[simp] theorem agg214 : isAggT Try.prog 214 = some false := by kernel_rfl
@[simp] theorem size214 : sizeT Try.prog 214 = some 1 := by kernel_rfl
@[simp] theorem zero214 : zeroA Try.prog 214 = some [.sc .nilFunc] := by kernel_rfl
@[simp] theorem bytes214 : bytesT Try.prog 214 = some 8 := by kernel_rfl
@[simp] theorem conc214 : Try.prog.concrete 214 = true := by kernel_rfl
@[simp] theorem agg215 : isAggT Try.prog 215 = some false := by kernel_rfl
@[simp] theorem size215 : sizeT Try.prog 215 = some 1 := by kernel_rfl
@[simp] theorem zero215 : zeroA Try.prog 215 = some [.sc (.pointer none)] := by kernel_rfl
@[simp] theorem bytes215 : bytesT Try.prog 215 = some 8 := by kernel_rfl
@[simp] theorem conc215 : Try.prog.concrete 215 = true := by kernel_rfl
@[simp] theorem agg216 : isAggT Try.prog 216 = some false := by kernel_rfl
@[simp] theorem size216 : sizeT Try.prog 216 = some 1 := by kernel_rfl
@[simp] theorem zero216 : zeroA Try.prog 216 = some [.sc (.int .u64 0)] := by kernel_rfl
@[simp] theorem bytes216 : bytesT Try.prog 216 = some 8 := by kernel_rfl
@[simp] theorem conc216 : Try.prog.concrete 216 = true := by kernel_rfl
@[simp] theorem slc216 : notIntT Try.prog 216 = false := by kernel_rfl
@[simp] theorem int216 : intT Try.prog 216 = true := by kernel_rfl
@[simp] theorem agg217 : isAggT Try.prog 217 = some false := by kernel_rfl
@[simp] theorem size217 : sizeT Try.prog 217 = some 1 := by kernel_rfl
@[simp] theorem zero217 : zeroA Try.prog 217 = some [.sc .nilFunc] := by kernel_rfl
@[simp] theorem bytes217 : bytesT Try.prog 217 = some 8 := by kernel_rfl
@[simp] theorem conc217 : Try.prog.concrete 217 = true := by kernel_rfl
@[simp] theorem agg218 : isAggT Try.prog 218 = some false := by kernel_rfl
@[simp] theorem size218 : sizeT Try.prog 218 = some 1 := by kernel_rfl
@[simp] theorem zero218 : zeroA Try.prog 218 = some [.sc .nilFunc] := by kernel_rfl
@[simp] theorem bytes218 : bytesT Try.prog 218 = some 8 := by kernel_rfl
@[simp] theorem conc218 : Try.prog.concrete 218 = true := by kernel_rfl
@[simp] theorem agg219 : isAggT Try.prog 219 = some false := by kernel_rfl
@[simp] theorem size219 : sizeT Try.prog 219 = some 1 := by kernel_rfl
@[simp] theorem zero219 : zeroA Try.prog 219 = some [.sc .nilFunc] := by kernel_rfl
@[simp] theorem bytes219 : bytesT Try.prog 219 = some 8 := by kernel_rfl
@[simp] theorem conc219 : Try.prog.concrete 219 = true := by kernel_rfl
@[simp] theorem agg220 : isAggT Try.prog 220 = some false := by kernel_rfl
@[simp] theorem size220 : sizeT Try.prog 220 = some 1 := by kernel_rfl
@[simp] theorem zero220 : zeroA Try.prog 220 = some [.sc (.pointer none)] := by kernel_rfl
@[simp] theorem bytes220 : bytesT Try.prog 220 = some 8 := by kernel_rfl
@[simp] theorem conc220 : Try.prog.concrete 220 = true := by kernel_rfl
@[simp] theorem agg221 : isAggT Try.prog 221 = some false := by kernel_rfl
@[simp] theorem size221 : sizeT Try.prog 221 = some 1 := by kernel_rfl
@[simp] theorem zero221 : zeroA Try.prog 221 = some [.sc .nilFunc] := by kernel_rfl
@[simp] theorem bytes221 : bytesT Try.prog 221 = some 8 := by kernel_rfl
@[simp] theorem conc221 : Try.prog.concrete 221 = true := by kernel_rfl
@[simp] theorem agg222 : isAggT Try.prog 222 = some false := by kernel_rfl
@[simp] theorem size222 : sizeT Try.prog 222 = some 1 := by kernel_rfl
@[simp] theorem zero222 : zeroA Try.prog 222 = some [.sc .nilFunc] := by kernel_rfl
@[simp] theorem bytes222 : bytesT Try.prog 222 = some 8 := by kernel_rfl
@[simp] theorem conc222 : Try.prog.concrete 222 = true := by kernel_rfl
@[simp] theorem agg224 : isAggT Try.prog 224 = some false := by kernel_rfl
@[simp] theorem size224 : sizeT Try.prog 224 = some 1 := by kernel_rfl
@[simp] theorem zero224 : zeroA Try.prog 224 = some [.sc .nilFunc] := by kernel_rfl
@[simp] theorem bytes224 : bytesT Try.prog 224 = some 8 := by kernel_rfl
@[simp] theorem conc224 : Try.prog.concrete 224 = true := by kernel_rfl
@[simp] theorem agg225 : isAggT Try.prog 225 = some false := by kernel_rfl
@[simp] theorem size225 : sizeT Try.prog 225 = some 1 := by kernel_rfl
@[simp] theorem zero225 : zeroA Try.prog 225 = some [.sc (.pointer none)] := by kernel_rfl
@[simp] theorem bytes225 : bytesT Try.prog 225 = some 8 := by kernel_rfl
@[simp] theorem conc225 : Try.prog.concrete 225 = true := by kernel_rfl
@[simp] theorem agg227 : isAggT Try.prog 227 = some false := by kernel_rfl
@[simp] theorem size227 : sizeT Try.prog 227 = some 1 := by kernel_rfl
@[simp] theorem zero227 : zeroA Try.prog 227 = some [.sc .nilFunc] := by kernel_rfl
@[simp] theorem bytes227 : bytesT Try.prog 227 = some 8 := by kernel_rfl
@[simp] theorem conc227 : Try.prog.concrete 227 = true := by kernel_rfl
@[simp] theorem agg228 : isAggT Try.prog 228 = some true := by kernel_rfl
@[simp] theorem size228 : sizeT Try.prog 228 = some 4 := by kernel_rfl
@[simp] theorem zero228 : zeroA Try.prog 228 = some [.sc (.pointer none), .sc (.pointer none), .sc (.pointer none), .sc (.string ⟨#[]⟩)] := by kernel_rfl
@[simp] theorem bytes228 : bytesT Try.prog 228 = some 40 := by kernel_rfl
@[simp] theorem conc228 : Try.prog.concrete 228 = true := by kernel_rfl
@[simp] theorem places228 : placesT Try.prog 228 = some [(0, 1), (1, 1), (2, 1), (3, 1)] := by kernel_rfl
@[simp] theorem eqg228 : Try.prog.eqGuardType Try.prog.depth 228 = false := by kernel_rfl
@[simp] theorem fld228_0 (x : AV) : fieldAddrA Try.prog 228 x 0 = (match x with | .fp cs off => some (.fp cs (off + 0)) | .mp l g off => some (.mp l g (off + 0)) | _ => none) := by cases x <;> kernel_rfl
@[simp] theorem fld228_1 (x : AV) : fieldAddrA Try.prog 228 x 1 = (match x with | .fp cs off => some (.fp cs (off + 1)) | .mp l g off => some (.mp l g (off + 1)) | _ => none) := by cases x <;> kernel_rfl
@[simp] theorem fld228_2 (x : AV) : fieldAddrA Try.prog 228 x 2 = (match x with | .fp cs off => some (.fp cs (off + 2)) | .mp l g off => some (.mp l g (off + 2)) | _ => none) := by cases x <;> kernel_rfl
@[simp] theorem fld228_3 (x : AV) : fieldAddrA Try.prog 228 x 3 = (match x with | .fp cs off => some (.fp cs (off + 3)) | .mp l g off => some (.mp l g (off + 3)) | _ => none) := by cases x <;> kernel_rfl
@[simp] theorem fld229_0 (x : AV) : fieldAddrA Try.prog 229 x 0 = (match x with | .fp cs off => some (.fp cs (off + 0)) | .mp l g off => some (.mp l g (off + 0)) | _ => none) := by cases x <;> kernel_rfl
@[simp] theorem fld229_1 (x : AV) : fieldAddrA Try.prog 229 x 1 = (match x with | .fp cs off => some (.fp cs (off + 1)) | .mp l g off => some (.mp l g (off + 1)) | _ => none) := by cases x <;> kernel_rfl
@[simp] theorem fld229_2 (x : AV) : fieldAddrA Try.prog 229 x 2 = (match x with | .fp cs off => some (.fp cs (off + 2)) | .mp l g off => some (.mp l g (off + 2)) | _ => none) := by cases x <;> kernel_rfl
@[simp] theorem fld229_3 (x : AV) : fieldAddrA Try.prog 229 x 3 = (match x with | .fp cs off => some (.fp cs (off + 3)) | .mp l g off => some (.mp l g (off + 3)) | _ => none) := by cases x <;> kernel_rfl
@[simp] theorem agg233 : isAggT Try.prog 233 = some false := by kernel_rfl
@[simp] theorem size233 : sizeT Try.prog 233 = some 1 := by kernel_rfl
@[simp] theorem zero233 : zeroA Try.prog 233 = some [.sc (.int .u8 0)] := by kernel_rfl
@[simp] theorem bytes233 : bytesT Try.prog 233 = some 1 := by kernel_rfl
@[simp] theorem conc233 : Try.prog.concrete 233 = true := by kernel_rfl
@[simp] theorem slc233 : notIntT Try.prog 233 = false := by kernel_rfl
@[simp] theorem int233 : intT Try.prog 233 = true := by kernel_rfl
@[simp] theorem agg234 : isAggT Try.prog 234 = some false := by kernel_rfl
@[simp] theorem size234 : sizeT Try.prog 234 = some 1 := by kernel_rfl
@[simp] theorem zero234 : zeroA Try.prog 234 = some [.sc (.int .u8 0)] := by kernel_rfl
@[simp] theorem bytes234 : bytesT Try.prog 234 = some 1 := by kernel_rfl
@[simp] theorem conc234 : Try.prog.concrete 234 = true := by kernel_rfl
@[simp] theorem slc234 : notIntT Try.prog 234 = false := by kernel_rfl
@[simp] theorem int234 : intT Try.prog 234 = true := by kernel_rfl
@[simp] theorem agg235 : isAggT Try.prog 235 = some false := by kernel_rfl
@[simp] theorem size235 : sizeT Try.prog 235 = some 1 := by kernel_rfl
@[simp] theorem zero235 : zeroA Try.prog 235 = some [.sc .nilFunc] := by kernel_rfl
@[simp] theorem bytes235 : bytesT Try.prog 235 = some 8 := by kernel_rfl
@[simp] theorem conc235 : Try.prog.concrete 235 = true := by kernel_rfl
@[simp] theorem fld238_0 (x : AV) : fieldAddrA Try.prog 238 x 0 = (match x with | .fp cs off => some (.fp cs (off + 0)) | .mp l g off => some (.mp l g (off + 0)) | _ => none) := by cases x <;> kernel_rfl
@[simp] theorem fld238_1 (x : AV) : fieldAddrA Try.prog 238 x 1 = (match x with | .fp cs off => some (.fp cs (off + 1)) | .mp l g off => some (.mp l g (off + 1)) | _ => none) := by cases x <;> kernel_rfl
@[simp] theorem fld238_2 (x : AV) : fieldAddrA Try.prog 238 x 2 = (match x with | .fp cs off => some (.fp cs (off + 2)) | .mp l g off => some (.mp l g (off + 2)) | _ => none) := by cases x <;> kernel_rfl
@[simp] theorem fld238_3 (x : AV) : fieldAddrA Try.prog 238 x 3 = (match x with | .fp cs off => some (.fp cs (off + 3)) | .mp l g off => some (.mp l g (off + 3)) | _ => none) := by cases x <;> kernel_rfl
@[simp] theorem fld238_4 (x : AV) : fieldAddrA Try.prog 238 x 4 = (match x with | .fp cs off => some (.fp cs (off + 4)) | .mp l g off => some (.mp l g (off + 4)) | _ => none) := by cases x <;> kernel_rfl
@[simp] theorem fld238_5 (x : AV) : fieldAddrA Try.prog 238 x 5 = (match x with | .fp cs off => some (.fp cs (off + 5)) | .mp l g off => some (.mp l g (off + 5)) | _ => none) := by cases x <;> kernel_rfl
@[simp] theorem fld238_6 (x : AV) : fieldAddrA Try.prog 238 x 6 = (match x with | .fp cs off => some (.fp cs (off + 6)) | .mp l g off => some (.mp l g (off + 6)) | _ => none) := by cases x <;> kernel_rfl
@[simp] theorem fld238_7 (x : AV) : fieldAddrA Try.prog 238 x 7 = (match x with | .fp cs off => some (.fp cs (off + 7)) | .mp l g off => some (.mp l g (off + 7)) | _ => none) := by cases x <;> kernel_rfl
@[simp] theorem fld238_8 (x : AV) : fieldAddrA Try.prog 238 x 8 = (match x with | .fp cs off => some (.fp cs (off + 8)) | .mp l g off => some (.mp l g (off + 8)) | _ => none) := by cases x <;> kernel_rfl
@[simp] theorem fld238_9 (x : AV) : fieldAddrA Try.prog 238 x 9 = (match x with | .fp cs off => some (.fp cs (off + 9)) | .mp l g off => some (.mp l g (off + 9)) | _ => none) := by cases x <;> kernel_rfl
@[simp] theorem fld238_10 (x : AV) : fieldAddrA Try.prog 238 x 10 = (match x with | .fp cs off => some (.fp cs (off + 10)) | .mp l g off => some (.mp l g (off + 10)) | _ => none) := by cases x <;> kernel_rfl
@[simp] theorem fld239_0 (x : AV) : fieldAddrA Try.prog 239 x 0 = (match x with | .fp cs off => some (.fp cs (off + 0)) | .mp l g off => some (.mp l g (off + 0)) | _ => none) := by cases x <;> kernel_rfl
@[simp] theorem fld239_1 (x : AV) : fieldAddrA Try.prog 239 x 1 = (match x with | .fp cs off => some (.fp cs (off + 1)) | .mp l g off => some (.mp l g (off + 1)) | _ => none) := by cases x <;> kernel_rfl
@[simp] theorem fld239_2 (x : AV) : fieldAddrA Try.prog 239 x 2 = (match x with | .fp cs off => some (.fp cs (off + 2)) | .mp l g off => some (.mp l g (off + 2)) | _ => none) := by cases x <;> kernel_rfl
@[simp] theorem fld239_3 (x : AV) : fieldAddrA Try.prog 239 x 3 = (match x with | .fp cs off => some (.fp cs (off + 3)) | .mp l g off => some (.mp l g (off + 3)) | _ => none) := by cases x <;> kernel_rfl
@[simp] theorem fld239_4 (x : AV) : fieldAddrA Try.prog 239 x 4 = (match x with | .fp cs off => some (.fp cs (off + 4)) | .mp l g off => some (.mp l g (off + 4)) | _ => none) := by cases x <;> kernel_rfl
@[simp] theorem fld239_5 (x : AV) : fieldAddrA Try.prog 239 x 5 = (match x with | .fp cs off => some (.fp cs (off + 5)) | .mp l g off => some (.mp l g (off + 5)) | _ => none) := by cases x <;> kernel_rfl
@[simp] theorem fld239_6 (x : AV) : fieldAddrA Try.prog 239 x 6 = (match x with | .fp cs off => some (.fp cs (off + 6)) | .mp l g off => some (.mp l g (off + 6)) | _ => none) := by cases x <;> kernel_rfl
@[simp] theorem fld239_7 (x : AV) : fieldAddrA Try.prog 239 x 7 = (match x with | .fp cs off => some (.fp cs (off + 7)) | .mp l g off => some (.mp l g (off + 7)) | _ => none) := by cases x <;> kernel_rfl
@[simp] theorem fld239_8 (x : AV) : fieldAddrA Try.prog 239 x 8 = (match x with | .fp cs off => some (.fp cs (off + 8)) | .mp l g off => some (.mp l g (off + 8)) | _ => none) := by cases x <;> kernel_rfl
@[simp] theorem fld239_9 (x : AV) : fieldAddrA Try.prog 239 x 9 = (match x with | .fp cs off => some (.fp cs (off + 9)) | .mp l g off => some (.mp l g (off + 9)) | _ => none) := by cases x <;> kernel_rfl
@[simp] theorem fld239_10 (x : AV) : fieldAddrA Try.prog 239 x 10 = (match x with | .fp cs off => some (.fp cs (off + 10)) | .mp l g off => some (.mp l g (off + 10)) | _ => none) := by cases x <;> kernel_rfl
attribute [simp] Try.underlying1 Try.underlying2 Try.underlying3 Try.underlying4 Try.underlying5 Try.underlying6 Try.underlying7 Try.underlying8 Try.underlying9 Try.underlying10 Try.underlying11 Try.underlying12 Try.underlying13 Try.underlying14 Try.underlying15 Try.underlying16 Try.underlying17 Try.underlying18 Try.underlying19 Try.underlying20 Try.underlying21 Try.underlying22 Try.underlying23 Try.underlying24 Try.underlying25 Try.underlying26 Try.underlying27 Try.underlying28 Try.underlying30 Try.underlying32 Try.underlying33 Try.underlying34 Try.underlying35 Try.underlying36 Try.underlying37 Try.underlying38 Try.underlying39 Try.underlying40 Try.underlying41 Try.underlying42 Try.underlying43 Try.underlying45 Try.underlying46 Try.underlying47 Try.underlying48 Try.underlying49 Try.underlying50 Try.underlying51 Try.underlying52 Try.underlying53 Try.underlying54 Try.underlying55 Try.underlying56 Try.underlying57 Try.underlying58 Try.underlying60 Try.underlying62 Try.underlying63 Try.underlying64 Try.underlying65 Try.underlying66 Try.underlying67 Try.underlying68 Try.underlying70 Try.underlying72 Try.underlying73 Try.underlying74 Try.underlying75 Try.underlying76 Try.underlying77 Try.underlying78 Try.underlying80 Try.underlying81 Try.underlying83 Try.underlying84 Try.underlying85 Try.underlying86 Try.underlying87 Try.underlying88 Try.underlying89 Try.underlying90 Try.underlying91 Try.underlying92 Try.underlying93 Try.underlying94 Try.underlying95 Try.underlying96 Try.underlying97 Try.underlying98 Try.underlying99 Try.underlying100 Try.underlying101 Try.underlying102 Try.underlying103 Try.underlying105 Try.underlying106 Try.underlying107 Try.underlying109 Try.underlying110 Try.underlying111 Try.underlying112 Try.underlying113 Try.underlying114 Try.underlying115 Try.underlying116 Try.underlying117 Try.underlying118 Try.underlying119 Try.underlying120 Try.underlying121 Try.underlying122 Try.underlying123 Try.underlying124 Try.underlying125 Try.underlying126 Try.underlying127 Try.underlying128 Try.underlying129 Try.underlying130 Try.underlying131 Try.underlying133 Try.underlying134 Try.underlying136 Try.underlying137 Try.underlying138 Try.underlying139 Try.underlying140 Try.underlying141 Try.underlying142 Try.underlying143 Try.underlying144 Try.underlying145 Try.underlying146 Try.underlying147 Try.underlying148 Try.underlying149 Try.underlying150 Try.underlying151 Try.underlying152 Try.underlying153 Try.underlying154 Try.underlying155 Try.underlying156 Try.underlying157 Try.underlying158 Try.underlying159 Try.underlying160 Try.underlying161 Try.underlying162 Try.underlying163 Try.underlying164 Try.underlying165 Try.underlying166 Try.underlying167 Try.underlying168 Try.underlying169 Try.underlying170 Try.underlying171 Try.underlying172 Try.underlying173 Try.underlying174 Try.underlying176 Try.underlying177 Try.underlying178 Try.underlying179 Try.underlying180 Try.underlying181 Try.underlying182 Try.underlying183 Try.underlying184 Try.underlying185 Try.underlying186 Try.underlying187 Try.underlying188 Try.underlying189 Try.underlying190 Try.underlying191 Try.underlying192 Try.underlying193 Try.underlying194 Try.underlying195 Try.underlying196 Try.underlying197 Try.underlying198 Try.underlying199 Try.underlying200 Try.underlying201 Try.underlying203 Try.underlying204 Try.underlying205 Try.underlying206 Try.underlying207 Try.underlying208 Try.underlying209 Try.underlying210 Try.underlying211 Try.underlying212 Try.underlying213 Try.underlying214 Try.underlying215 Try.underlying216 Try.underlying217 Try.underlying218 Try.underlying219 Try.underlying220 Try.underlying221 Try.underlying222 Try.underlying224 Try.underlying225 Try.underlying227 Try.underlying228 Try.underlying229 Try.underlying233 Try.underlying234 Try.underlying235 Try.underlying236 Try.underlying237 Try.underlying238 Try.underlying239
@[simp] theorem good2 : goodF Try.prog 2 = true := by kernel_rfl
@[simp] theorem good3 : goodF Try.prog 3 = true := by kernel_rfl
@[simp] theorem good4 : goodF Try.prog 4 = true := by kernel_rfl
@[simp] theorem good5 : goodF Try.prog 5 = true := by kernel_rfl
@[simp] theorem good6 : goodF Try.prog 6 = true := by kernel_rfl
@[simp] theorem good7 : goodF Try.prog 7 = true := by kernel_rfl
@[simp] theorem good8 : goodF Try.prog 8 = true := by kernel_rfl
@[simp] theorem good9 : goodF Try.prog 9 = true := by kernel_rfl
@[simp] theorem good10 : goodF Try.prog 10 = true := by kernel_rfl
@[simp] theorem good11 : goodF Try.prog 11 = true := by kernel_rfl
@[simp] theorem good12 : goodF Try.prog 12 = true := by kernel_rfl
@[simp] theorem good13 : goodF Try.prog 13 = true := by kernel_rfl
@[simp] theorem good14 : goodF Try.prog 14 = true := by kernel_rfl
@[simp] theorem good15 : goodF Try.prog 15 = true := by kernel_rfl
@[simp] theorem good16 : goodF Try.prog 16 = true := by kernel_rfl
@[simp] theorem good17 : goodF Try.prog 17 = true := by kernel_rfl
@[simp] theorem good18 : goodF Try.prog 18 = true := by kernel_rfl
@[simp] theorem good19 : goodF Try.prog 19 = true := by kernel_rfl
@[simp] theorem good20 : goodF Try.prog 20 = true := by kernel_rfl
@[simp] theorem good21 : goodF Try.prog 21 = true := by kernel_rfl
@[simp] theorem good22 : goodF Try.prog 22 = true := by kernel_rfl
@[simp] theorem good23 : goodF Try.prog 23 = true := by kernel_rfl
@[simp] theorem good24 : goodF Try.prog 24 = true := by kernel_rfl
@[simp] theorem good25 : goodF Try.prog 25 = true := by kernel_rfl
@[simp] theorem good26 : goodF Try.prog 26 = true := by kernel_rfl
@[simp] theorem good27 : goodF Try.prog 27 = true := by kernel_rfl
@[simp] theorem good28 : goodF Try.prog 28 = true := by kernel_rfl
@[simp] theorem good29 : goodF Try.prog 29 = true := by kernel_rfl
@[simp] theorem good30 : goodF Try.prog 30 = true := by kernel_rfl
@[simp] theorem good31 : goodF Try.prog 31 = true := by kernel_rfl
@[simp] theorem good32 : goodF Try.prog 32 = true := by kernel_rfl
@[simp] theorem good33 : goodF Try.prog 33 = true := by kernel_rfl
@[simp] theorem good34 : goodF Try.prog 34 = true := by kernel_rfl
@[simp] theorem good35 : goodF Try.prog 35 = true := by kernel_rfl
@[simp] theorem good36 : goodF Try.prog 36 = true := by kernel_rfl
@[simp] theorem good37 : goodF Try.prog 37 = true := by kernel_rfl
@[simp] theorem good38 : goodF Try.prog 38 = true := by kernel_rfl
@[simp] theorem good39 : goodF Try.prog 39 = true := by kernel_rfl
@[simp] theorem good40 : goodF Try.prog 40 = true := by kernel_rfl
@[simp] theorem good41 : goodF Try.prog 41 = true := by kernel_rfl
@[simp] theorem good42 : goodF Try.prog 42 = true := by kernel_rfl
@[simp] theorem good43 : goodF Try.prog 43 = true := by kernel_rfl
@[simp] theorem good44 : goodF Try.prog 44 = true := by kernel_rfl
@[simp] theorem good45 : goodF Try.prog 45 = true := by kernel_rfl
@[simp] theorem good46 : goodF Try.prog 46 = true := by kernel_rfl
@[simp] theorem good47 : goodF Try.prog 47 = true := by kernel_rfl
@[simp] theorem good48 : goodF Try.prog 48 = true := by kernel_rfl
@[simp] theorem good49 : goodF Try.prog 49 = true := by kernel_rfl
@[simp] theorem good50 : goodF Try.prog 50 = true := by kernel_rfl
@[simp] theorem good51 : goodF Try.prog 51 = true := by kernel_rfl
@[simp] theorem good52 : goodF Try.prog 52 = true := by kernel_rfl
@[simp] theorem good53 : goodF Try.prog 53 = true := by kernel_rfl
@[simp] theorem good54 : goodF Try.prog 54 = true := by kernel_rfl
@[simp] theorem good55 : goodF Try.prog 55 = true := by kernel_rfl
@[simp] theorem good56 : goodF Try.prog 56 = true := by kernel_rfl
@[simp] theorem good57 : goodF Try.prog 57 = true := by kernel_rfl
@[simp] theorem good58 : goodF Try.prog 58 = true := by kernel_rfl
@[simp] theorem good59 : goodF Try.prog 59 = true := by kernel_rfl
@[simp] theorem good60 : goodF Try.prog 60 = true := by kernel_rfl
@[simp] theorem good61 : goodF Try.prog 61 = true := by kernel_rfl
@[simp] theorem good62 : goodF Try.prog 62 = true := by kernel_rfl
@[simp] theorem good63 : goodF Try.prog 63 = true := by kernel_rfl
@[simp] theorem good64 : goodF Try.prog 64 = true := by kernel_rfl
@[simp] theorem good65 : goodF Try.prog 65 = true := by kernel_rfl
@[simp] theorem good66 : goodF Try.prog 66 = true := by kernel_rfl
@[simp] theorem good67 : goodF Try.prog 67 = true := by kernel_rfl
@[simp] theorem good68 : goodF Try.prog 68 = true := by kernel_rfl
@[simp] theorem good69 : goodF Try.prog 69 = true := by kernel_rfl
@[simp] theorem good70 : goodF Try.prog 70 = true := by kernel_rfl
@[simp] theorem good71 : goodF Try.prog 71 = true := by kernel_rfl
@[simp] theorem good72 : goodF Try.prog 72 = true := by kernel_rfl
@[simp] theorem good73 : goodF Try.prog 73 = true := by kernel_rfl
@[simp] theorem good74 : goodF Try.prog 74 = true := by kernel_rfl
@[simp] theorem good75 : goodF Try.prog 75 = true := by kernel_rfl
@[simp] theorem good76 : goodF Try.prog 76 = true := by kernel_rfl
@[simp] theorem good77 : goodF Try.prog 77 = true := by kernel_rfl
@[simp] theorem good78 : goodF Try.prog 78 = true := by kernel_rfl
@[simp] theorem good79 : goodF Try.prog 79 = true := by kernel_rfl
@[simp] theorem good80 : goodF Try.prog 80 = true := by kernel_rfl
@[simp] theorem good81 : goodF Try.prog 81 = true := by kernel_rfl
@[simp] theorem good82 : goodF Try.prog 82 = true := by kernel_rfl
@[simp] theorem good83 : goodF Try.prog 83 = true := by kernel_rfl
@[simp] theorem good84 : goodF Try.prog 84 = true := by kernel_rfl
@[simp] theorem good85 : goodF Try.prog 85 = true := by kernel_rfl
@[simp] theorem good86 : goodF Try.prog 86 = true := by kernel_rfl
@[simp] theorem good87 : goodF Try.prog 87 = true := by kernel_rfl
@[simp] theorem good88 : goodF Try.prog 88 = true := by kernel_rfl
@[simp] theorem good89 : goodF Try.prog 89 = true := by kernel_rfl
@[simp] theorem good90 : goodF Try.prog 90 = true := by kernel_rfl
@[simp] theorem good91 : goodF Try.prog 91 = true := by kernel_rfl
@[simp] theorem good92 : goodF Try.prog 92 = true := by kernel_rfl
@[simp] theorem good93 : goodF Try.prog 93 = true := by kernel_rfl
@[simp] theorem good94 : goodF Try.prog 94 = true := by kernel_rfl
@[simp] theorem good95 : goodF Try.prog 95 = true := by kernel_rfl
@[simp] theorem good96 : goodF Try.prog 96 = true := by kernel_rfl
@[simp] theorem good97 : goodF Try.prog 97 = true := by kernel_rfl
@[simp] theorem good98 : goodF Try.prog 98 = true := by kernel_rfl
@[simp] theorem good99 : goodF Try.prog 99 = true := by kernel_rfl
@[simp] theorem good100 : goodF Try.prog 100 = true := by kernel_rfl
@[simp] theorem good101 : goodF Try.prog 101 = true := by kernel_rfl
@[simp] theorem good102 : goodF Try.prog 102 = true := by kernel_rfl
@[simp] theorem good103 : goodF Try.prog 103 = true := by kernel_rfl
@[simp] theorem good104 : goodF Try.prog 104 = true := by kernel_rfl
@[simp] theorem good105 : goodF Try.prog 105 = true := by kernel_rfl
@[simp] theorem good106 : goodF Try.prog 106 = true := by kernel_rfl
@[simp] theorem good107 : goodF Try.prog 107 = true := by kernel_rfl
@[simp] theorem good108 : goodF Try.prog 108 = true := by kernel_rfl
@[simp] theorem good109 : goodF Try.prog 109 = true := by kernel_rfl
@[simp] theorem good110 : goodF Try.prog 110 = true := by kernel_rfl
@[simp] theorem good111 : goodF Try.prog 111 = true := by kernel_rfl
@[simp] theorem good112 : goodF Try.prog 112 = true := by kernel_rfl
@[simp] theorem good113 : goodF Try.prog 113 = true := by kernel_rfl
@[simp] theorem good114 : goodF Try.prog 114 = true := by kernel_rfl
@[simp] theorem good115 : goodF Try.prog 115 = true := by kernel_rfl
@[simp] theorem good116 : goodF Try.prog 116 = true := by kernel_rfl
@[simp] theorem good117 : goodF Try.prog 117 = true := by kernel_rfl
@[simp] theorem good118 : goodF Try.prog 118 = true := by kernel_rfl
@[simp] theorem good119 : goodF Try.prog 119 = true := by kernel_rfl
@[simp] theorem good120 : goodF Try.prog 120 = true := by kernel_rfl
@[simp] theorem good121 : goodF Try.prog 121 = true := by kernel_rfl
@[simp] theorem good122 : goodF Try.prog 122 = true := by kernel_rfl
@[simp] theorem good123 : goodF Try.prog 123 = true := by kernel_rfl
@[simp] theorem good124 : goodF Try.prog 124 = true := by kernel_rfl
@[simp] theorem good125 : goodF Try.prog 125 = true := by kernel_rfl
@[simp] theorem good126 : goodF Try.prog 126 = true := by kernel_rfl
@[simp] theorem good127 : goodF Try.prog 127 = true := by kernel_rfl
@[simp] theorem good128 : goodF Try.prog 128 = true := by kernel_rfl
@[simp] theorem good129 : goodF Try.prog 129 = true := by kernel_rfl
@[simp] theorem good130 : goodF Try.prog 130 = true := by kernel_rfl
@[simp] theorem good131 : goodF Try.prog 131 = true := by kernel_rfl
@[simp] theorem good132 : goodF Try.prog 132 = true := by kernel_rfl
@[simp] theorem good134 : goodF Try.prog 134 = true := by kernel_rfl
@[simp] theorem good135 : goodF Try.prog 135 = true := by kernel_rfl
@[simp] theorem good136 : goodF Try.prog 136 = true := by kernel_rfl
@[simp] theorem good137 : goodF Try.prog 137 = true := by kernel_rfl
@[simp] theorem good138 : goodF Try.prog 138 = true := by kernel_rfl
@[simp] theorem good139 : goodF Try.prog 139 = true := by kernel_rfl
@[simp] theorem good140 : goodF Try.prog 140 = true := by kernel_rfl
@[simp] theorem good142 : goodF Try.prog 142 = true := by kernel_rfl
@[simp] theorem good143 : goodF Try.prog 143 = true := by kernel_rfl
@[simp] theorem good144 : goodF Try.prog 144 = true := by kernel_rfl
@[simp] theorem good145 : goodF Try.prog 145 = true := by kernel_rfl
@[simp] theorem good146 : goodF Try.prog 146 = true := by kernel_rfl
@[simp] theorem good147 : goodF Try.prog 147 = true := by kernel_rfl
@[simp] theorem good148 : goodF Try.prog 148 = true := by kernel_rfl
@[simp] theorem good149 : goodF Try.prog 149 = true := by kernel_rfl
@[simp] theorem good150 : goodF Try.prog 150 = true := by kernel_rfl
@[simp] theorem good151 : goodF Try.prog 151 = true := by kernel_rfl
@[simp] theorem good152 : goodF Try.prog 152 = true := by kernel_rfl
@[simp] theorem good153 : goodF Try.prog 153 = true := by kernel_rfl
@[simp] theorem good154 : goodF Try.prog 154 = true := by kernel_rfl
@[simp] theorem good155 : goodF Try.prog 155 = true := by kernel_rfl
@[simp] theorem good156 : goodF Try.prog 156 = true := by kernel_rfl
@[simp] theorem good157 : goodF Try.prog 157 = true := by kernel_rfl
@[simp] theorem good158 : goodF Try.prog 158 = true := by kernel_rfl
@[simp] theorem good159 : goodF Try.prog 159 = true := by kernel_rfl
@[simp] theorem good160 : goodF Try.prog 160 = true := by kernel_rfl
@[simp] theorem good161 : goodF Try.prog 161 = true := by kernel_rfl
@[simp] theorem good162 : goodF Try.prog 162 = true := by kernel_rfl
@[simp] theorem good163 : goodF Try.prog 163 = true := by kernel_rfl
@[simp] theorem good164 : goodF Try.prog 164 = true := by kernel_rfl
@[simp] theorem good165 : goodF Try.prog 165 = true := by kernel_rfl
@[simp] theorem good166 : goodF Try.prog 166 = true := by kernel_rfl
@[simp] theorem good167 : goodF Try.prog 167 = true := by kernel_rfl
@[simp] theorem good168 : goodF Try.prog 168 = true := by kernel_rfl
@[simp] theorem good169 : goodF Try.prog 169 = true := by kernel_rfl
@[simp] theorem good170 : goodF Try.prog 170 = true := by kernel_rfl
@[simp] theorem good171 : goodF Try.prog 171 = true := by kernel_rfl
@[simp] theorem good172 : goodF Try.prog 172 = true := by kernel_rfl
@[simp] theorem good173 : goodF Try.prog 173 = true := by kernel_rfl
@[simp] theorem good174 : goodF Try.prog 174 = true := by kernel_rfl
@[simp] theorem good175 : goodF Try.prog 175 = true := by kernel_rfl
@[simp] theorem good177 : goodF Try.prog 177 = true := by kernel_rfl
@[simp] theorem good195 : goodF Try.prog 195 = true := by kernel_rfl
@[simp] theorem good196 : goodF Try.prog 196 = true := by kernel_rfl
@[simp] theorem good197 : goodF Try.prog 197 = true := by kernel_rfl
@[simp] theorem good198 : goodF Try.prog 198 = true := by kernel_rfl
@[simp] theorem good199 : goodF Try.prog 199 = true := by kernel_rfl
@[simp] theorem good200 : goodF Try.prog 200 = true := by kernel_rfl
@[simp] theorem good201 : goodF Try.prog 201 = true := by kernel_rfl
@[simp] theorem good202 : goodF Try.prog 202 = true := by kernel_rfl
@[simp] theorem good203 : goodF Try.prog 203 = true := by kernel_rfl
@[simp] theorem good204 : goodF Try.prog 204 = true := by kernel_rfl
@[simp] theorem good206 : goodF Try.prog 206 = true := by kernel_rfl
@[simp] theorem mixed : Try.prog.follows .mixedOrders = true := by kernel_rfl
end Go.Proofs.Ytemijcjgdgdhjaa
