/- What the logic asks of this seat's types and functions, by the kernel. Printed by wip/tools/genfacts.py. -/
import Derived.Test.YtemijcjgdgdhjabGreatProg
import Derived.Test.YtemijcjgdgdhjabGreatLb
namespace Go.Proofs.YtemijcjgdgdhjabGreat
open Go.RowKit
@[simp] theorem agg1 : isAggT Tryz.prog 1 = some false := by kernel_rfl
@[simp] theorem size1 : sizeT Tryz.prog 1 = some 1 := by kernel_rfl
@[simp] theorem zero1 : zeroA Tryz.prog 1 = some [.sc .nilFunc] := by kernel_rfl
@[simp] theorem bytes1 : bytesT Tryz.prog 1 = some 8 := by kernel_rfl
@[simp] theorem conc1 : Tryz.prog.concrete 1 = true := by kernel_rfl
@[simp] theorem agg2 : isAggT Tryz.prog 2 = some false := by kernel_rfl
@[simp] theorem size2 : sizeT Tryz.prog 2 = some 1 := by kernel_rfl
@[simp] theorem zero2 : zeroA Tryz.prog 2 = some [.sc (.int .i64 0)] := by kernel_rfl
@[simp] theorem bytes2 : bytesT Tryz.prog 2 = some 8 := by kernel_rfl
@[simp] theorem conc2 : Tryz.prog.concrete 2 = true := by kernel_rfl
@[simp] theorem slc2 : notIntT Tryz.prog 2 = false := by kernel_rfl
@[simp] theorem int2 : intT Tryz.prog 2 = true := by kernel_rfl
@[simp] theorem agg3 : isAggT Tryz.prog 3 = some false := by kernel_rfl
@[simp] theorem size3 : sizeT Tryz.prog 3 = some 1 := by kernel_rfl
@[simp] theorem zero3 : zeroA Tryz.prog 3 = some [.sc (.int .i64 0)] := by kernel_rfl
@[simp] theorem bytes3 : bytesT Tryz.prog 3 = some 8 := by kernel_rfl
@[simp] theorem conc3 : Tryz.prog.concrete 3 = true := by kernel_rfl
@[simp] theorem slc3 : notIntT Tryz.prog 3 = false := by kernel_rfl
@[simp] theorem int3 : intT Tryz.prog 3 = true := by kernel_rfl
@[simp] theorem agg4 : isAggT Tryz.prog 4 = some false := by kernel_rfl
@[simp] theorem size4 : sizeT Tryz.prog 4 = some 1 := by kernel_rfl
@[simp] theorem zero4 : zeroA Tryz.prog 4 = some [.sc (.bool false)] := by kernel_rfl
@[simp] theorem bytes4 : bytesT Tryz.prog 4 = some 1 := by kernel_rfl
@[simp] theorem conc4 : Tryz.prog.concrete 4 = true := by kernel_rfl
@[simp] theorem agg5 : isAggT Tryz.prog 5 = some false := by kernel_rfl
@[simp] theorem size5 : sizeT Tryz.prog 5 = some 1 := by kernel_rfl
@[simp] theorem zero5 : zeroA Tryz.prog 5 = some [.sc (.int .u8 0)] := by kernel_rfl
@[simp] theorem bytes5 : bytesT Tryz.prog 5 = some 1 := by kernel_rfl
@[simp] theorem conc5 : Tryz.prog.concrete 5 = true := by kernel_rfl
@[simp] theorem slc5 : notIntT Tryz.prog 5 = false := by kernel_rfl
@[simp] theorem int5 : intT Tryz.prog 5 = true := by kernel_rfl
@[simp] theorem agg6 : isAggT Tryz.prog 6 = some false := by kernel_rfl
@[simp] theorem size6 : sizeT Tryz.prog 6 = some 1 := by kernel_rfl
@[simp] theorem zero6 : zeroA Tryz.prog 6 = some [.sc (.int .u8 0)] := by kernel_rfl
@[simp] theorem bytes6 : bytesT Tryz.prog 6 = some 1 := by kernel_rfl
@[simp] theorem conc6 : Tryz.prog.concrete 6 = true := by kernel_rfl
@[simp] theorem slc6 : notIntT Tryz.prog 6 = false := by kernel_rfl
@[simp] theorem int6 : intT Tryz.prog 6 = true := by kernel_rfl
@[simp] theorem agg7 : isAggT Tryz.prog 7 = some true := by kernel_rfl
@[simp] theorem size7 : sizeT Tryz.prog 7 = some 4 := by kernel_rfl
@[simp] theorem zero7 : zeroA Tryz.prog 7 = some [.sc (.int .i64 0), .sc (.int .i64 0), .sc (.bool false), .sc (.int .u8 0)] := by kernel_rfl
@[simp] theorem bytes7 : bytesT Tryz.prog 7 = some 24 := by kernel_rfl
@[simp] theorem conc7 : Tryz.prog.concrete 7 = true := by kernel_rfl
@[simp] theorem places7 : placesT Tryz.prog 7 = some [(0, 1), (1, 1), (2, 1), (3, 1)] := by kernel_rfl
@[simp] theorem held7 : Tryz.prog.stoodInHeld 7 = false := by kernel_rfl
@[simp] theorem eqg7 : Tryz.prog.eqGuardType Tryz.prog.depth 7 = false := by kernel_rfl
@[simp] theorem fld7_0 (x : AV) : fieldAddrA Tryz.prog 7 x 0 = (match x with | .fp cs off => some (.fp cs (off + 0)) | .mp l g off => some (.mp l g (off + 0)) | _ => none) := by cases x <;> kernel_rfl
@[simp] theorem fld7_1 (x : AV) : fieldAddrA Tryz.prog 7 x 1 = (match x with | .fp cs off => some (.fp cs (off + 1)) | .mp l g off => some (.mp l g (off + 1)) | _ => none) := by cases x <;> kernel_rfl
@[simp] theorem fld7_2 (x : AV) : fieldAddrA Tryz.prog 7 x 2 = (match x with | .fp cs off => some (.fp cs (off + 2)) | .mp l g off => some (.mp l g (off + 2)) | _ => none) := by cases x <;> kernel_rfl
@[simp] theorem fld7_3 (x : AV) : fieldAddrA Tryz.prog 7 x 3 = (match x with | .fp cs off => some (.fp cs (off + 3)) | .mp l g off => some (.mp l g (off + 3)) | _ => none) := by cases x <;> kernel_rfl
@[simp] theorem agg8 : isAggT Tryz.prog 8 = some true := by kernel_rfl
@[simp] theorem size8 : sizeT Tryz.prog 8 = some 4 := by kernel_rfl
@[simp] theorem zero8 : zeroA Tryz.prog 8 = some [.sc (.int .i64 0), .sc (.int .i64 0), .sc (.bool false), .sc (.int .u8 0)] := by kernel_rfl
@[simp] theorem bytes8 : bytesT Tryz.prog 8 = some 24 := by kernel_rfl
@[simp] theorem conc8 : Tryz.prog.concrete 8 = true := by kernel_rfl
@[simp] theorem places8 : placesT Tryz.prog 8 = some [(0, 1), (1, 1), (2, 1), (3, 1)] := by kernel_rfl
@[simp] theorem held8 : Tryz.prog.stoodInHeld 8 = false := by kernel_rfl
@[simp] theorem eqg8 : Tryz.prog.eqGuardType Tryz.prog.depth 8 = false := by kernel_rfl
@[simp] theorem fld8_0 (x : AV) : fieldAddrA Tryz.prog 8 x 0 = (match x with | .fp cs off => some (.fp cs (off + 0)) | .mp l g off => some (.mp l g (off + 0)) | _ => none) := by cases x <;> kernel_rfl
@[simp] theorem fld8_1 (x : AV) : fieldAddrA Tryz.prog 8 x 1 = (match x with | .fp cs off => some (.fp cs (off + 1)) | .mp l g off => some (.mp l g (off + 1)) | _ => none) := by cases x <;> kernel_rfl
@[simp] theorem fld8_2 (x : AV) : fieldAddrA Tryz.prog 8 x 2 = (match x with | .fp cs off => some (.fp cs (off + 2)) | .mp l g off => some (.mp l g (off + 2)) | _ => none) := by cases x <;> kernel_rfl
@[simp] theorem fld8_3 (x : AV) : fieldAddrA Tryz.prog 8 x 3 = (match x with | .fp cs off => some (.fp cs (off + 3)) | .mp l g off => some (.mp l g (off + 3)) | _ => none) := by cases x <;> kernel_rfl
@[simp] theorem agg9 : isAggT Tryz.prog 9 = some false := by kernel_rfl
@[simp] theorem size9 : sizeT Tryz.prog 9 = some 1 := by kernel_rfl
@[simp] theorem zero9 : zeroA Tryz.prog 9 = some [.sc (.string ⟨#[]⟩)] := by kernel_rfl
@[simp] theorem bytes9 : bytesT Tryz.prog 9 = some 16 := by kernel_rfl
@[simp] theorem conc9 : Tryz.prog.concrete 9 = true := by kernel_rfl
@[simp] theorem slc9 : notIntT Tryz.prog 9 = true := by kernel_rfl
@[simp] theorem agg10 : isAggT Tryz.prog 10 = some false := by kernel_rfl
@[simp] theorem size10 : sizeT Tryz.prog 10 = some 1 := by kernel_rfl
@[simp] theorem zero10 : zeroA Tryz.prog 10 = some [.sc (.string ⟨#[]⟩)] := by kernel_rfl
@[simp] theorem bytes10 : bytesT Tryz.prog 10 = some 16 := by kernel_rfl
@[simp] theorem conc10 : Tryz.prog.concrete 10 = true := by kernel_rfl
@[simp] theorem slc10 : notIntT Tryz.prog 10 = true := by kernel_rfl
@[simp] theorem agg11 : isAggT Tryz.prog 11 = some false := by kernel_rfl
@[simp] theorem size11 : sizeT Tryz.prog 11 = some 1 := by kernel_rfl
@[simp] theorem zero11 : zeroA Tryz.prog 11 = some [.sc (.string ⟨#[]⟩)] := by kernel_rfl
@[simp] theorem bytes11 : bytesT Tryz.prog 11 = some 16 := by kernel_rfl
@[simp] theorem conc11 : Tryz.prog.concrete 11 = true := by kernel_rfl
@[simp] theorem slc11 : notIntT Tryz.prog 11 = true := by kernel_rfl
@[simp] theorem agg12 : isAggT Tryz.prog 12 = some false := by kernel_rfl
@[simp] theorem size12 : sizeT Tryz.prog 12 = some 1 := by kernel_rfl
@[simp] theorem zero12 : zeroA Tryz.prog 12 = some [.sc (.int .u64 0)] := by kernel_rfl
@[simp] theorem bytes12 : bytesT Tryz.prog 12 = some 8 := by kernel_rfl
@[simp] theorem conc12 : Tryz.prog.concrete 12 = true := by kernel_rfl
@[simp] theorem slc12 : notIntT Tryz.prog 12 = false := by kernel_rfl
@[simp] theorem int12 : intT Tryz.prog 12 = true := by kernel_rfl
@[simp] theorem agg13 : isAggT Tryz.prog 13 = some true := by kernel_rfl
@[simp] theorem size13 : sizeT Tryz.prog 13 = some 2 := by kernel_rfl
@[simp] theorem zero13 : zeroA Tryz.prog 13 = some [.sc (.string ⟨#[]⟩), .sc (.int .u64 0)] := by kernel_rfl
@[simp] theorem bytes13 : bytesT Tryz.prog 13 = some 24 := by kernel_rfl
@[simp] theorem conc13 : Tryz.prog.concrete 13 = true := by kernel_rfl
@[simp] theorem places13 : placesT Tryz.prog 13 = some [(0, 1), (1, 1)] := by kernel_rfl
@[simp] theorem eqg13 : Tryz.prog.eqGuardType Tryz.prog.depth 13 = false := by kernel_rfl
@[simp] theorem fld13_0 (x : AV) : fieldAddrA Tryz.prog 13 x 0 = (match x with | .fp cs off => some (.fp cs (off + 0)) | .mp l g off => some (.mp l g (off + 0)) | _ => none) := by cases x <;> kernel_rfl
@[simp] theorem fld13_1 (x : AV) : fieldAddrA Tryz.prog 13 x 1 = (match x with | .fp cs off => some (.fp cs (off + 1)) | .mp l g off => some (.mp l g (off + 1)) | _ => none) := by cases x <;> kernel_rfl
@[simp] theorem agg14 : isAggT Tryz.prog 14 = some true := by kernel_rfl
@[simp] theorem size14 : sizeT Tryz.prog 14 = some 2 := by kernel_rfl
@[simp] theorem zero14 : zeroA Tryz.prog 14 = some [.sc (.string ⟨#[]⟩), .sc (.int .u64 0)] := by kernel_rfl
@[simp] theorem bytes14 : bytesT Tryz.prog 14 = some 24 := by kernel_rfl
@[simp] theorem conc14 : Tryz.prog.concrete 14 = true := by kernel_rfl
@[simp] theorem places14 : placesT Tryz.prog 14 = some [(0, 1), (1, 1)] := by kernel_rfl
@[simp] theorem eqg14 : Tryz.prog.eqGuardType Tryz.prog.depth 14 = false := by kernel_rfl
@[simp] theorem fld14_0 (x : AV) : fieldAddrA Tryz.prog 14 x 0 = (match x with | .fp cs off => some (.fp cs (off + 0)) | .mp l g off => some (.mp l g (off + 0)) | _ => none) := by cases x <;> kernel_rfl
@[simp] theorem fld14_1 (x : AV) : fieldAddrA Tryz.prog 14 x 1 = (match x with | .fp cs off => some (.fp cs (off + 1)) | .mp l g off => some (.mp l g (off + 1)) | _ => none) := by cases x <;> kernel_rfl
@[simp] theorem agg15 : isAggT Tryz.prog 15 = some false := by kernel_rfl
@[simp] theorem size15 : sizeT Tryz.prog 15 = some 1 := by kernel_rfl
@[simp] theorem zero15 : zeroA Tryz.prog 15 = some [.sc (.pointer none)] := by kernel_rfl
@[simp] theorem bytes15 : bytesT Tryz.prog 15 = some 8 := by kernel_rfl
@[simp] theorem conc15 : Tryz.prog.concrete 15 = true := by kernel_rfl
@[simp] theorem agg16 : isAggT Tryz.prog 16 = some false := by kernel_rfl
@[simp] theorem size16 : sizeT Tryz.prog 16 = some 1 := by kernel_rfl
@[simp] theorem zero16 : zeroA Tryz.prog 16 = some [.sc (.pointer none)] := by kernel_rfl
@[simp] theorem bytes16 : bytesT Tryz.prog 16 = some 8 := by kernel_rfl
@[simp] theorem conc16 : Tryz.prog.concrete 16 = true := by kernel_rfl
@[simp] theorem agg17 : isAggT Tryz.prog 17 = some false := by kernel_rfl
@[simp] theorem size17 : sizeT Tryz.prog 17 = some 1 := by kernel_rfl
@[simp] theorem zero17 : zeroA Tryz.prog 17 = some [.sc (.pointer none)] := by kernel_rfl
@[simp] theorem bytes17 : bytesT Tryz.prog 17 = some 8 := by kernel_rfl
@[simp] theorem conc17 : Tryz.prog.concrete 17 = true := by kernel_rfl
@[simp] theorem agg18 : isAggT Tryz.prog 18 = some true := by kernel_rfl
@[simp] theorem size18 : sizeT Tryz.prog 18 = some 1 := by kernel_rfl
@[simp] theorem zero18 : zeroA Tryz.prog 18 = some [.sc (.pointer none)] := by kernel_rfl
@[simp] theorem bytes18 : bytesT Tryz.prog 18 = some 8 := by kernel_rfl
@[simp] theorem conc18 : Tryz.prog.concrete 18 = true := by kernel_rfl
@[simp] theorem places18 : placesT Tryz.prog 18 = some [(0, 1)] := by kernel_rfl
@[simp] theorem eqg18 : Tryz.prog.eqGuardType Tryz.prog.depth 18 = false := by kernel_rfl
@[simp] theorem fld18_0 (x : AV) : fieldAddrA Tryz.prog 18 x 0 = (match x with | .fp cs off => some (.fp cs (off + 0)) | .mp l g off => some (.mp l g (off + 0)) | _ => none) := by cases x <;> kernel_rfl
@[simp] theorem agg19 : isAggT Tryz.prog 19 = some true := by kernel_rfl
@[simp] theorem size19 : sizeT Tryz.prog 19 = some 1 := by kernel_rfl
@[simp] theorem zero19 : zeroA Tryz.prog 19 = some [.sc (.pointer none)] := by kernel_rfl
@[simp] theorem bytes19 : bytesT Tryz.prog 19 = some 8 := by kernel_rfl
@[simp] theorem conc19 : Tryz.prog.concrete 19 = true := by kernel_rfl
@[simp] theorem places19 : placesT Tryz.prog 19 = some [(0, 1)] := by kernel_rfl
@[simp] theorem eqg19 : Tryz.prog.eqGuardType Tryz.prog.depth 19 = false := by kernel_rfl
@[simp] theorem fld19_0 (x : AV) : fieldAddrA Tryz.prog 19 x 0 = (match x with | .fp cs off => some (.fp cs (off + 0)) | .mp l g off => some (.mp l g (off + 0)) | _ => none) := by cases x <;> kernel_rfl
@[simp] theorem agg20 : isAggT Tryz.prog 20 = some false := by kernel_rfl
@[simp] theorem size20 : sizeT Tryz.prog 20 = some 1 := by kernel_rfl
@[simp] theorem zero20 : zeroA Tryz.prog 20 = some [.sc .nilIface] := by kernel_rfl
@[simp] theorem bytes20 : bytesT Tryz.prog 20 = some 16 := by kernel_rfl
@[simp] theorem agg21 : isAggT Tryz.prog 21 = some false := by kernel_rfl
@[simp] theorem size21 : sizeT Tryz.prog 21 = some 1 := by kernel_rfl
@[simp] theorem zero21 : zeroA Tryz.prog 21 = some [.sc (.int .i32 0)] := by kernel_rfl
@[simp] theorem bytes21 : bytesT Tryz.prog 21 = some 4 := by kernel_rfl
@[simp] theorem conc21 : Tryz.prog.concrete 21 = true := by kernel_rfl
@[simp] theorem slc21 : notIntT Tryz.prog 21 = false := by kernel_rfl
@[simp] theorem int21 : intT Tryz.prog 21 = true := by kernel_rfl
@[simp] theorem agg22 : isAggT Tryz.prog 22 = some false := by kernel_rfl
@[simp] theorem size22 : sizeT Tryz.prog 22 = some 1 := by kernel_rfl
@[simp] theorem zero22 : zeroA Tryz.prog 22 = some [.sc (.slice none 0 0)] := by kernel_rfl
@[simp] theorem bytes22 : bytesT Tryz.prog 22 = some 24 := by kernel_rfl
@[simp] theorem conc22 : Tryz.prog.concrete 22 = true := by kernel_rfl
@[simp] theorem elem22 : elemOfT Tryz.prog 22 = some (50, 2) := by kernel_rfl
@[simp] theorem slc22 : notIntT Tryz.prog 22 = true := by kernel_rfl
@[simp] theorem agg23 : isAggT Tryz.prog 23 = some false := by kernel_rfl
@[simp] theorem size23 : sizeT Tryz.prog 23 = some 1 := by kernel_rfl
@[simp] theorem zero23 : zeroA Tryz.prog 23 = some [.sc (.slice none 0 0)] := by kernel_rfl
@[simp] theorem bytes23 : bytesT Tryz.prog 23 = some 24 := by kernel_rfl
@[simp] theorem conc23 : Tryz.prog.concrete 23 = true := by kernel_rfl
@[simp] theorem elem23 : elemOfT Tryz.prog 23 = some (34, 1) := by kernel_rfl
@[simp] theorem slc23 : notIntT Tryz.prog 23 = true := by kernel_rfl
@[simp] theorem agg24 : isAggT Tryz.prog 24 = some false := by kernel_rfl
@[simp] theorem size24 : sizeT Tryz.prog 24 = some 1 := by kernel_rfl
@[simp] theorem zero24 : zeroA Tryz.prog 24 = some [.sc .nilFunc] := by kernel_rfl
@[simp] theorem bytes24 : bytesT Tryz.prog 24 = some 8 := by kernel_rfl
@[simp] theorem conc24 : Tryz.prog.concrete 24 = true := by kernel_rfl
@[simp] theorem agg25 : isAggT Tryz.prog 25 = some false := by kernel_rfl
@[simp] theorem size25 : sizeT Tryz.prog 25 = some 1 := by kernel_rfl
@[simp] theorem zero25 : zeroA Tryz.prog 25 = some [.sc .nilFunc] := by kernel_rfl
@[simp] theorem bytes25 : bytesT Tryz.prog 25 = some 8 := by kernel_rfl
@[simp] theorem conc25 : Tryz.prog.concrete 25 = true := by kernel_rfl
@[simp] theorem agg26 : isAggT Tryz.prog 26 = some false := by kernel_rfl
@[simp] theorem size26 : sizeT Tryz.prog 26 = some 1 := by kernel_rfl
@[simp] theorem zero26 : zeroA Tryz.prog 26 = some [.sc (.pointer none)] := by kernel_rfl
@[simp] theorem bytes26 : bytesT Tryz.prog 26 = some 8 := by kernel_rfl
@[simp] theorem conc26 : Tryz.prog.concrete 26 = true := by kernel_rfl
@[simp] theorem agg27 : isAggT Tryz.prog 27 = some false := by kernel_rfl
@[simp] theorem size27 : sizeT Tryz.prog 27 = some 1 := by kernel_rfl
@[simp] theorem zero27 : zeroA Tryz.prog 27 = some [.sc (.int .i64 0)] := by kernel_rfl
@[simp] theorem bytes27 : bytesT Tryz.prog 27 = some 8 := by kernel_rfl
@[simp] theorem conc27 : Tryz.prog.concrete 27 = true := by kernel_rfl
@[simp] theorem slc27 : notIntT Tryz.prog 27 = false := by kernel_rfl
@[simp] theorem int27 : intT Tryz.prog 27 = true := by kernel_rfl
@[simp] theorem agg29 : isAggT Tryz.prog 29 = some false := by kernel_rfl
@[simp] theorem size29 : sizeT Tryz.prog 29 = some 1 := by kernel_rfl
@[simp] theorem zero29 : zeroA Tryz.prog 29 = some [.sc .nilFunc] := by kernel_rfl
@[simp] theorem bytes29 : bytesT Tryz.prog 29 = some 8 := by kernel_rfl
@[simp] theorem conc29 : Tryz.prog.concrete 29 = true := by kernel_rfl
@[simp] theorem agg31 : isAggT Tryz.prog 31 = some false := by kernel_rfl
@[simp] theorem size31 : sizeT Tryz.prog 31 = some 1 := by kernel_rfl
@[simp] theorem zero31 : zeroA Tryz.prog 31 = some [.sc .nilFunc] := by kernel_rfl
@[simp] theorem bytes31 : bytesT Tryz.prog 31 = some 8 := by kernel_rfl
@[simp] theorem conc31 : Tryz.prog.concrete 31 = true := by kernel_rfl
@[simp] theorem agg32 : isAggT Tryz.prog 32 = some false := by kernel_rfl
@[simp] theorem size32 : sizeT Tryz.prog 32 = some 1 := by kernel_rfl
@[simp] theorem zero32 : zeroA Tryz.prog 32 = some [.sc .nilFunc] := by kernel_rfl
@[simp] theorem bytes32 : bytesT Tryz.prog 32 = some 8 := by kernel_rfl
@[simp] theorem conc32 : Tryz.prog.concrete 32 = true := by kernel_rfl
@[simp] theorem agg33 : isAggT Tryz.prog 33 = some false := by kernel_rfl
@[simp] theorem size33 : sizeT Tryz.prog 33 = some 1 := by kernel_rfl
@[simp] theorem zero33 : zeroA Tryz.prog 33 = some [.sc .nilFunc] := by kernel_rfl
@[simp] theorem bytes33 : bytesT Tryz.prog 33 = some 8 := by kernel_rfl
@[simp] theorem conc33 : Tryz.prog.concrete 33 = true := by kernel_rfl
@[simp] theorem agg34 : isAggT Tryz.prog 34 = some false := by kernel_rfl
@[simp] theorem size34 : sizeT Tryz.prog 34 = some 1 := by kernel_rfl
@[simp] theorem zero34 : zeroA Tryz.prog 34 = some [.sc (.slice none 0 0)] := by kernel_rfl
@[simp] theorem bytes34 : bytesT Tryz.prog 34 = some 24 := by kernel_rfl
@[simp] theorem conc34 : Tryz.prog.concrete 34 = true := by kernel_rfl
@[simp] theorem elem34 : elemOfT Tryz.prog 34 = some (38, 3) := by kernel_rfl
@[simp] theorem slc34 : notIntT Tryz.prog 34 = true := by kernel_rfl
@[simp] theorem agg35 : isAggT Tryz.prog 35 = some false := by kernel_rfl
@[simp] theorem size35 : sizeT Tryz.prog 35 = some 1 := by kernel_rfl
@[simp] theorem zero35 : zeroA Tryz.prog 35 = some [.sc .nilFunc] := by kernel_rfl
@[simp] theorem bytes35 : bytesT Tryz.prog 35 = some 8 := by kernel_rfl
@[simp] theorem conc35 : Tryz.prog.concrete 35 = true := by kernel_rfl
@[simp] theorem agg36 : isAggT Tryz.prog 36 = some false := by kernel_rfl
@[simp] theorem size36 : sizeT Tryz.prog 36 = some 1 := by kernel_rfl
@[simp] theorem zero36 : zeroA Tryz.prog 36 = some [.sc .nilFunc] := by kernel_rfl
@[simp] theorem bytes36 : bytesT Tryz.prog 36 = some 8 := by kernel_rfl
@[simp] theorem conc36 : Tryz.prog.concrete 36 = true := by kernel_rfl
@[simp] theorem agg37 : isAggT Tryz.prog 37 = some true := by kernel_rfl
@[simp] theorem size37 : sizeT Tryz.prog 37 = some 3 := by kernel_rfl
@[simp] theorem zero37 : zeroA Tryz.prog 37 = some [.sc (.int .i64 0), .sc (.string ⟨#[]⟩), .sc (.string ⟨#[]⟩)] := by kernel_rfl
@[simp] theorem bytes37 : bytesT Tryz.prog 37 = some 40 := by kernel_rfl
@[simp] theorem conc37 : Tryz.prog.concrete 37 = true := by kernel_rfl
@[simp] theorem places37 : placesT Tryz.prog 37 = some [(0, 1), (1, 1), (2, 1)] := by kernel_rfl
@[simp] theorem held37 : Tryz.prog.stoodInHeld 37 = false := by kernel_rfl
@[simp] theorem eqg37 : Tryz.prog.eqGuardType Tryz.prog.depth 37 = false := by kernel_rfl
@[simp] theorem fld37_0 (x : AV) : fieldAddrA Tryz.prog 37 x 0 = (match x with | .fp cs off => some (.fp cs (off + 0)) | .mp l g off => some (.mp l g (off + 0)) | _ => none) := by cases x <;> kernel_rfl
@[simp] theorem fld37_1 (x : AV) : fieldAddrA Tryz.prog 37 x 1 = (match x with | .fp cs off => some (.fp cs (off + 1)) | .mp l g off => some (.mp l g (off + 1)) | _ => none) := by cases x <;> kernel_rfl
@[simp] theorem fld37_2 (x : AV) : fieldAddrA Tryz.prog 37 x 2 = (match x with | .fp cs off => some (.fp cs (off + 2)) | .mp l g off => some (.mp l g (off + 2)) | _ => none) := by cases x <;> kernel_rfl
@[simp] theorem agg38 : isAggT Tryz.prog 38 = some true := by kernel_rfl
@[simp] theorem size38 : sizeT Tryz.prog 38 = some 3 := by kernel_rfl
@[simp] theorem zero38 : zeroA Tryz.prog 38 = some [.sc (.int .i64 0), .sc (.string ⟨#[]⟩), .sc (.string ⟨#[]⟩)] := by kernel_rfl
@[simp] theorem bytes38 : bytesT Tryz.prog 38 = some 40 := by kernel_rfl
@[simp] theorem conc38 : Tryz.prog.concrete 38 = true := by kernel_rfl
@[simp] theorem places38 : placesT Tryz.prog 38 = some [(0, 1), (1, 1), (2, 1)] := by kernel_rfl
@[simp] theorem held38 : Tryz.prog.stoodInHeld 38 = false := by kernel_rfl
@[simp] theorem eqg38 : Tryz.prog.eqGuardType Tryz.prog.depth 38 = false := by kernel_rfl
@[simp] theorem fld38_0 (x : AV) : fieldAddrA Tryz.prog 38 x 0 = (match x with | .fp cs off => some (.fp cs (off + 0)) | .mp l g off => some (.mp l g (off + 0)) | _ => none) := by cases x <;> kernel_rfl
@[simp] theorem fld38_1 (x : AV) : fieldAddrA Tryz.prog 38 x 1 = (match x with | .fp cs off => some (.fp cs (off + 1)) | .mp l g off => some (.mp l g (off + 1)) | _ => none) := by cases x <;> kernel_rfl
@[simp] theorem fld38_2 (x : AV) : fieldAddrA Tryz.prog 38 x 2 = (match x with | .fp cs off => some (.fp cs (off + 2)) | .mp l g off => some (.mp l g (off + 2)) | _ => none) := by cases x <;> kernel_rfl
@[simp] theorem agg39 : isAggT Tryz.prog 39 = some false := by kernel_rfl
@[simp] theorem size39 : sizeT Tryz.prog 39 = some 1 := by kernel_rfl
@[simp] theorem zero39 : zeroA Tryz.prog 39 = some [.sc .nilFunc] := by kernel_rfl
@[simp] theorem bytes39 : bytesT Tryz.prog 39 = some 8 := by kernel_rfl
@[simp] theorem conc39 : Tryz.prog.concrete 39 = true := by kernel_rfl
@[simp] theorem agg40 : isAggT Tryz.prog 40 = some false := by kernel_rfl
@[simp] theorem size40 : sizeT Tryz.prog 40 = some 1 := by kernel_rfl
@[simp] theorem zero40 : zeroA Tryz.prog 40 = some [.sc (.int .u64 0)] := by kernel_rfl
@[simp] theorem bytes40 : bytesT Tryz.prog 40 = some 8 := by kernel_rfl
@[simp] theorem conc40 : Tryz.prog.concrete 40 = true := by kernel_rfl
@[simp] theorem slc40 : notIntT Tryz.prog 40 = false := by kernel_rfl
@[simp] theorem int40 : intT Tryz.prog 40 = true := by kernel_rfl
@[simp] theorem agg41 : isAggT Tryz.prog 41 = some false := by kernel_rfl
@[simp] theorem size41 : sizeT Tryz.prog 41 = some 1 := by kernel_rfl
@[simp] theorem zero41 : zeroA Tryz.prog 41 = some [.sc .nilFunc] := by kernel_rfl
@[simp] theorem bytes41 : bytesT Tryz.prog 41 = some 8 := by kernel_rfl
@[simp] theorem conc41 : Tryz.prog.concrete 41 = true := by kernel_rfl
@[simp] theorem agg42 : isAggT Tryz.prog 42 = some false := by kernel_rfl
@[simp] theorem size42 : sizeT Tryz.prog 42 = some 1 := by kernel_rfl
@[simp] theorem zero42 : zeroA Tryz.prog 42 = some [.sc .nilFunc] := by kernel_rfl
@[simp] theorem bytes42 : bytesT Tryz.prog 42 = some 8 := by kernel_rfl
@[simp] theorem conc42 : Tryz.prog.concrete 42 = true := by kernel_rfl
@[simp] theorem agg43 : isAggT Tryz.prog 43 = some false := by kernel_rfl
@[simp] theorem size43 : sizeT Tryz.prog 43 = some 1 := by kernel_rfl
@[simp] theorem zero43 : zeroA Tryz.prog 43 = some [.sc (.pointer none)] := by kernel_rfl
@[simp] theorem bytes43 : bytesT Tryz.prog 43 = some 8 := by kernel_rfl
@[simp] theorem conc43 : Tryz.prog.concrete 43 = true := by kernel_rfl
@[simp] theorem agg45 : isAggT Tryz.prog 45 = some false := by kernel_rfl
@[simp] theorem size45 : sizeT Tryz.prog 45 = some 1 := by kernel_rfl
@[simp] theorem zero45 : zeroA Tryz.prog 45 = some [.sc .nilFunc] := by kernel_rfl
@[simp] theorem bytes45 : bytesT Tryz.prog 45 = some 8 := by kernel_rfl
@[simp] theorem conc45 : Tryz.prog.concrete 45 = true := by kernel_rfl
@[simp] theorem agg46 : isAggT Tryz.prog 46 = some false := by kernel_rfl
@[simp] theorem size46 : sizeT Tryz.prog 46 = some 1 := by kernel_rfl
@[simp] theorem zero46 : zeroA Tryz.prog 46 = some [.sc .nilFunc] := by kernel_rfl
@[simp] theorem bytes46 : bytesT Tryz.prog 46 = some 8 := by kernel_rfl
@[simp] theorem conc46 : Tryz.prog.concrete 46 = true := by kernel_rfl
@[simp] theorem agg48 : isAggT Tryz.prog 48 = some false := by kernel_rfl
@[simp] theorem size48 : sizeT Tryz.prog 48 = some 1 := by kernel_rfl
@[simp] theorem zero48 : zeroA Tryz.prog 48 = some [.sc .nilFunc] := by kernel_rfl
@[simp] theorem bytes48 : bytesT Tryz.prog 48 = some 8 := by kernel_rfl
@[simp] theorem conc48 : Tryz.prog.concrete 48 = true := by kernel_rfl
@[simp] theorem agg49 : isAggT Tryz.prog 49 = some true := by kernel_rfl
@[simp] theorem size49 : sizeT Tryz.prog 49 = some 2 := by kernel_rfl
@[simp] theorem zero49 : zeroA Tryz.prog 49 = some [.sc (.string ⟨#[]⟩), .sc (.string ⟨#[]⟩)] := by kernel_rfl
@[simp] theorem bytes49 : bytesT Tryz.prog 49 = some 32 := by kernel_rfl
@[simp] theorem conc49 : Tryz.prog.concrete 49 = true := by kernel_rfl
@[simp] theorem places49 : placesT Tryz.prog 49 = some [(0, 1), (1, 1)] := by kernel_rfl
@[simp] theorem held49 : Tryz.prog.stoodInHeld 49 = false := by kernel_rfl
@[simp] theorem eqg49 : Tryz.prog.eqGuardType Tryz.prog.depth 49 = false := by kernel_rfl
@[simp] theorem fld49_0 (x : AV) : fieldAddrA Tryz.prog 49 x 0 = (match x with | .fp cs off => some (.fp cs (off + 0)) | .mp l g off => some (.mp l g (off + 0)) | _ => none) := by cases x <;> kernel_rfl
@[simp] theorem fld49_1 (x : AV) : fieldAddrA Tryz.prog 49 x 1 = (match x with | .fp cs off => some (.fp cs (off + 1)) | .mp l g off => some (.mp l g (off + 1)) | _ => none) := by cases x <;> kernel_rfl
@[simp] theorem agg50 : isAggT Tryz.prog 50 = some true := by kernel_rfl
@[simp] theorem size50 : sizeT Tryz.prog 50 = some 2 := by kernel_rfl
@[simp] theorem zero50 : zeroA Tryz.prog 50 = some [.sc (.string ⟨#[]⟩), .sc (.string ⟨#[]⟩)] := by kernel_rfl
@[simp] theorem bytes50 : bytesT Tryz.prog 50 = some 32 := by kernel_rfl
@[simp] theorem conc50 : Tryz.prog.concrete 50 = true := by kernel_rfl
@[simp] theorem places50 : placesT Tryz.prog 50 = some [(0, 1), (1, 1)] := by kernel_rfl
@[simp] theorem held50 : Tryz.prog.stoodInHeld 50 = false := by kernel_rfl
@[simp] theorem eqg50 : Tryz.prog.eqGuardType Tryz.prog.depth 50 = false := by kernel_rfl
@[simp] theorem fld50_0 (x : AV) : fieldAddrA Tryz.prog 50 x 0 = (match x with | .fp cs off => some (.fp cs (off + 0)) | .mp l g off => some (.mp l g (off + 0)) | _ => none) := by cases x <;> kernel_rfl
@[simp] theorem fld50_1 (x : AV) : fieldAddrA Tryz.prog 50 x 1 = (match x with | .fp cs off => some (.fp cs (off + 1)) | .mp l g off => some (.mp l g (off + 1)) | _ => none) := by cases x <;> kernel_rfl
@[simp] theorem agg52 : isAggT Tryz.prog 52 = some false := by kernel_rfl
@[simp] theorem size52 : sizeT Tryz.prog 52 = some 1 := by kernel_rfl
@[simp] theorem zero52 : zeroA Tryz.prog 52 = some [.sc .nilFunc] := by kernel_rfl
@[simp] theorem bytes52 : bytesT Tryz.prog 52 = some 8 := by kernel_rfl
@[simp] theorem conc52 : Tryz.prog.concrete 52 = true := by kernel_rfl
@[simp] theorem agg53 : isAggT Tryz.prog 53 = some false := by kernel_rfl
@[simp] theorem size53 : sizeT Tryz.prog 53 = some 1 := by kernel_rfl
@[simp] theorem zero53 : zeroA Tryz.prog 53 = some [.sc .nilFunc] := by kernel_rfl
@[simp] theorem bytes53 : bytesT Tryz.prog 53 = some 8 := by kernel_rfl
@[simp] theorem conc53 : Tryz.prog.concrete 53 = true := by kernel_rfl
@[simp] theorem agg54 : isAggT Tryz.prog 54 = some false := by kernel_rfl
@[simp] theorem size54 : sizeT Tryz.prog 54 = some 1 := by kernel_rfl
@[simp] theorem zero54 : zeroA Tryz.prog 54 = some [.sc .nilFunc] := by kernel_rfl
@[simp] theorem bytes54 : bytesT Tryz.prog 54 = some 8 := by kernel_rfl
@[simp] theorem conc54 : Tryz.prog.concrete 54 = true := by kernel_rfl
@[simp] theorem agg55 : isAggT Tryz.prog 55 = some false := by kernel_rfl
@[simp] theorem size55 : sizeT Tryz.prog 55 = some 1 := by kernel_rfl
@[simp] theorem zero55 : zeroA Tryz.prog 55 = some [.sc .nilFunc] := by kernel_rfl
@[simp] theorem bytes55 : bytesT Tryz.prog 55 = some 8 := by kernel_rfl
@[simp] theorem conc55 : Tryz.prog.concrete 55 = true := by kernel_rfl
@[simp] theorem agg56 : isAggT Tryz.prog 56 = some false := by kernel_rfl
@[simp] theorem size56 : sizeT Tryz.prog 56 = some 1 := by kernel_rfl
@[simp] theorem zero56 : zeroA Tryz.prog 56 = some [.sc .nilFunc] := by kernel_rfl
@[simp] theorem bytes56 : bytesT Tryz.prog 56 = some 8 := by kernel_rfl
@[simp] theorem conc56 : Tryz.prog.concrete 56 = true := by kernel_rfl
@[simp] theorem agg57 : isAggT Tryz.prog 57 = some false := by kernel_rfl
@[simp] theorem size57 : sizeT Tryz.prog 57 = some 1 := by kernel_rfl
@[simp] theorem zero57 : zeroA Tryz.prog 57 = some [.sc .nilFunc] := by kernel_rfl
@[simp] theorem bytes57 : bytesT Tryz.prog 57 = some 8 := by kernel_rfl
@[simp] theorem conc57 : Tryz.prog.concrete 57 = true := by kernel_rfl
@[simp] theorem agg58 : isAggT Tryz.prog 58 = some false := by kernel_rfl
@[simp] theorem size58 : sizeT Tryz.prog 58 = some 1 := by kernel_rfl
@[simp] theorem zero58 : zeroA Tryz.prog 58 = some [.sc .nilFunc] := by kernel_rfl
@[simp] theorem bytes58 : bytesT Tryz.prog 58 = some 8 := by kernel_rfl
@[simp] theorem conc58 : Tryz.prog.concrete 58 = true := by kernel_rfl
@[simp] theorem agg59 : isAggT Tryz.prog 59 = some false := by kernel_rfl
@[simp] theorem size59 : sizeT Tryz.prog 59 = some 1 := by kernel_rfl
@[simp] theorem zero59 : zeroA Tryz.prog 59 = some [.sc .nilFunc] := by kernel_rfl
@[simp] theorem bytes59 : bytesT Tryz.prog 59 = some 8 := by kernel_rfl
@[simp] theorem conc59 : Tryz.prog.concrete 59 = true := by kernel_rfl
@[simp] theorem agg60 : isAggT Tryz.prog 60 = some false := by kernel_rfl
@[simp] theorem size60 : sizeT Tryz.prog 60 = some 1 := by kernel_rfl
@[simp] theorem zero60 : zeroA Tryz.prog 60 = some [.sc .nilFunc] := by kernel_rfl
@[simp] theorem bytes60 : bytesT Tryz.prog 60 = some 8 := by kernel_rfl
@[simp] theorem conc60 : Tryz.prog.concrete 60 = true := by kernel_rfl
@[simp] theorem agg61 : isAggT Tryz.prog 61 = some false := by kernel_rfl
@[simp] theorem size61 : sizeT Tryz.prog 61 = some 1 := by kernel_rfl
@[simp] theorem zero61 : zeroA Tryz.prog 61 = some [.sc .nilFunc] := by kernel_rfl
@[simp] theorem bytes61 : bytesT Tryz.prog 61 = some 8 := by kernel_rfl
@[simp] theorem conc61 : Tryz.prog.concrete 61 = true := by kernel_rfl
@[simp] theorem agg62 : isAggT Tryz.prog 62 = some false := by kernel_rfl
@[simp] theorem size62 : sizeT Tryz.prog 62 = some 1 := by kernel_rfl
@[simp] theorem zero62 : zeroA Tryz.prog 62 = some [.sc .nilFunc] := by kernel_rfl
@[simp] theorem bytes62 : bytesT Tryz.prog 62 = some 8 := by kernel_rfl
@[simp] theorem conc62 : Tryz.prog.concrete 62 = true := by kernel_rfl
@[simp] theorem agg63 : isAggT Tryz.prog 63 = some false := by kernel_rfl
@[simp] theorem size63 : sizeT Tryz.prog 63 = some 1 := by kernel_rfl
@[simp] theorem zero63 : zeroA Tryz.prog 63 = some [.sc .nilFunc] := by kernel_rfl
@[simp] theorem bytes63 : bytesT Tryz.prog 63 = some 8 := by kernel_rfl
@[simp] theorem conc63 : Tryz.prog.concrete 63 = true := by kernel_rfl
@[simp] theorem agg64 : isAggT Tryz.prog 64 = some false := by kernel_rfl
@[simp] theorem size64 : sizeT Tryz.prog 64 = some 1 := by kernel_rfl
@[simp] theorem zero64 : zeroA Tryz.prog 64 = some [.sc .nilFunc] := by kernel_rfl
@[simp] theorem bytes64 : bytesT Tryz.prog 64 = some 8 := by kernel_rfl
@[simp] theorem conc64 : Tryz.prog.concrete 64 = true := by kernel_rfl
@[simp] theorem agg66 : isAggT Tryz.prog 66 = some false := by kernel_rfl
@[simp] theorem size66 : sizeT Tryz.prog 66 = some 1 := by kernel_rfl
@[simp] theorem zero66 : zeroA Tryz.prog 66 = some [.sc .nilFunc] := by kernel_rfl
@[simp] theorem bytes66 : bytesT Tryz.prog 66 = some 8 := by kernel_rfl
@[simp] theorem conc66 : Tryz.prog.concrete 66 = true := by kernel_rfl
@[simp] theorem agg67 : isAggT Tryz.prog 67 = some false := by kernel_rfl
@[simp] theorem size67 : sizeT Tryz.prog 67 = some 1 := by kernel_rfl
@[simp] theorem zero67 : zeroA Tryz.prog 67 = some [.sc .nilFunc] := by kernel_rfl
@[simp] theorem bytes67 : bytesT Tryz.prog 67 = some 8 := by kernel_rfl
@[simp] theorem conc67 : Tryz.prog.concrete 67 = true := by kernel_rfl
@[simp] theorem agg68 : isAggT Tryz.prog 68 = some false := by kernel_rfl
@[simp] theorem size68 : sizeT Tryz.prog 68 = some 1 := by kernel_rfl
@[simp] theorem zero68 : zeroA Tryz.prog 68 = some [.sc .nilFunc] := by kernel_rfl
@[simp] theorem bytes68 : bytesT Tryz.prog 68 = some 8 := by kernel_rfl
@[simp] theorem conc68 : Tryz.prog.concrete 68 = true := by kernel_rfl
@[simp] theorem agg69 : isAggT Tryz.prog 69 = some true := by kernel_rfl
@[simp] theorem size69 : sizeT Tryz.prog 69 = some 2 := by kernel_rfl
@[simp] theorem zero69 : zeroA Tryz.prog 69 = some [.sc (.slice none 0 0), .sc (.int .i64 0)] := by kernel_rfl
@[simp] theorem bytes69 : bytesT Tryz.prog 69 = some 32 := by kernel_rfl
@[simp] theorem conc69 : Tryz.prog.concrete 69 = true := by kernel_rfl
@[simp] theorem places69 : placesT Tryz.prog 69 = some [(0, 1), (1, 1)] := by kernel_rfl
@[simp] theorem held69 : Tryz.prog.stoodInHeld 69 = false := by kernel_rfl
@[simp] theorem eqg69 : Tryz.prog.eqGuardType Tryz.prog.depth 69 = false := by kernel_rfl
@[simp] theorem fld69_0 (x : AV) : fieldAddrA Tryz.prog 69 x 0 = (match x with | .fp cs off => some (.fp cs (off + 0)) | .mp l g off => some (.mp l g (off + 0)) | _ => none) := by cases x <;> kernel_rfl
@[simp] theorem fld69_1 (x : AV) : fieldAddrA Tryz.prog 69 x 1 = (match x with | .fp cs off => some (.fp cs (off + 1)) | .mp l g off => some (.mp l g (off + 1)) | _ => none) := by cases x <;> kernel_rfl
@[simp] theorem agg70 : isAggT Tryz.prog 70 = some true := by kernel_rfl
@[simp] theorem size70 : sizeT Tryz.prog 70 = some 2 := by kernel_rfl
@[simp] theorem zero70 : zeroA Tryz.prog 70 = some [.sc (.slice none 0 0), .sc (.int .i64 0)] := by kernel_rfl
@[simp] theorem bytes70 : bytesT Tryz.prog 70 = some 32 := by kernel_rfl
@[simp] theorem conc70 : Tryz.prog.concrete 70 = true := by kernel_rfl
@[simp] theorem places70 : placesT Tryz.prog 70 = some [(0, 1), (1, 1)] := by kernel_rfl
@[simp] theorem held70 : Tryz.prog.stoodInHeld 70 = false := by kernel_rfl
@[simp] theorem eqg70 : Tryz.prog.eqGuardType Tryz.prog.depth 70 = false := by kernel_rfl
@[simp] theorem fld70_0 (x : AV) : fieldAddrA Tryz.prog 70 x 0 = (match x with | .fp cs off => some (.fp cs (off + 0)) | .mp l g off => some (.mp l g (off + 0)) | _ => none) := by cases x <;> kernel_rfl
@[simp] theorem fld70_1 (x : AV) : fieldAddrA Tryz.prog 70 x 1 = (match x with | .fp cs off => some (.fp cs (off + 1)) | .mp l g off => some (.mp l g (off + 1)) | _ => none) := by cases x <;> kernel_rfl
@[simp] theorem agg71 : isAggT Tryz.prog 71 = some false := by kernel_rfl
@[simp] theorem size71 : sizeT Tryz.prog 71 = some 1 := by kernel_rfl
@[simp] theorem zero71 : zeroA Tryz.prog 71 = some [.sc .nilFunc] := by kernel_rfl
@[simp] theorem bytes71 : bytesT Tryz.prog 71 = some 8 := by kernel_rfl
@[simp] theorem conc71 : Tryz.prog.concrete 71 = true := by kernel_rfl
@[simp] theorem agg72 : isAggT Tryz.prog 72 = some false := by kernel_rfl
@[simp] theorem size72 : sizeT Tryz.prog 72 = some 1 := by kernel_rfl
@[simp] theorem zero72 : zeroA Tryz.prog 72 = some [.sc .nilFunc] := by kernel_rfl
@[simp] theorem bytes72 : bytesT Tryz.prog 72 = some 8 := by kernel_rfl
@[simp] theorem conc72 : Tryz.prog.concrete 72 = true := by kernel_rfl
@[simp] theorem agg73 : isAggT Tryz.prog 73 = some false := by kernel_rfl
@[simp] theorem size73 : sizeT Tryz.prog 73 = some 1 := by kernel_rfl
@[simp] theorem zero73 : zeroA Tryz.prog 73 = some [.sc .nilFunc] := by kernel_rfl
@[simp] theorem bytes73 : bytesT Tryz.prog 73 = some 8 := by kernel_rfl
@[simp] theorem conc73 : Tryz.prog.concrete 73 = true := by kernel_rfl
@[simp] theorem agg74 : isAggT Tryz.prog 74 = some false := by kernel_rfl
@[simp] theorem size74 : sizeT Tryz.prog 74 = some 1 := by kernel_rfl
@[simp] theorem zero74 : zeroA Tryz.prog 74 = some [.sc (.slice none 0 0)] := by kernel_rfl
@[simp] theorem bytes74 : bytesT Tryz.prog 74 = some 24 := by kernel_rfl
@[simp] theorem conc74 : Tryz.prog.concrete 74 = true := by kernel_rfl
@[simp] theorem elem74 : elemOfT Tryz.prog 74 = some (81, 2) := by kernel_rfl
@[simp] theorem slc74 : notIntT Tryz.prog 74 = true := by kernel_rfl
@[simp] theorem agg75 : isAggT Tryz.prog 75 = some false := by kernel_rfl
@[simp] theorem size75 : sizeT Tryz.prog 75 = some 1 := by kernel_rfl
@[simp] theorem zero75 : zeroA Tryz.prog 75 = some [.sc (.slice none 0 0)] := by kernel_rfl
@[simp] theorem bytes75 : bytesT Tryz.prog 75 = some 24 := by kernel_rfl
@[simp] theorem conc75 : Tryz.prog.concrete 75 = true := by kernel_rfl
@[simp] theorem elem75 : elemOfT Tryz.prog 75 = some (81, 2) := by kernel_rfl
@[simp] theorem slc75 : notIntT Tryz.prog 75 = true := by kernel_rfl
@[simp] theorem agg76 : isAggT Tryz.prog 76 = some true := by kernel_rfl
@[simp] theorem size76 : sizeT Tryz.prog 76 = some 1 := by kernel_rfl
@[simp] theorem zero76 : zeroA Tryz.prog 76 = some [.sc (.slice none 0 0)] := by kernel_rfl
@[simp] theorem bytes76 : bytesT Tryz.prog 76 = some 24 := by kernel_rfl
@[simp] theorem conc76 : Tryz.prog.concrete 76 = true := by kernel_rfl
@[simp] theorem places76 : placesT Tryz.prog 76 = some [(0, 1)] := by kernel_rfl
@[simp] theorem held76 : Tryz.prog.stoodInHeld 76 = false := by kernel_rfl
@[simp] theorem eqg76 : Tryz.prog.eqGuardType Tryz.prog.depth 76 = false := by kernel_rfl
@[simp] theorem fld76_0 (x : AV) : fieldAddrA Tryz.prog 76 x 0 = (match x with | .fp cs off => some (.fp cs (off + 0)) | .mp l g off => some (.mp l g (off + 0)) | _ => none) := by cases x <;> kernel_rfl
@[simp] theorem agg77 : isAggT Tryz.prog 77 = some true := by kernel_rfl
@[simp] theorem size77 : sizeT Tryz.prog 77 = some 1 := by kernel_rfl
@[simp] theorem zero77 : zeroA Tryz.prog 77 = some [.sc (.slice none 0 0)] := by kernel_rfl
@[simp] theorem bytes77 : bytesT Tryz.prog 77 = some 24 := by kernel_rfl
@[simp] theorem conc77 : Tryz.prog.concrete 77 = true := by kernel_rfl
@[simp] theorem places77 : placesT Tryz.prog 77 = some [(0, 1)] := by kernel_rfl
@[simp] theorem held77 : Tryz.prog.stoodInHeld 77 = false := by kernel_rfl
@[simp] theorem eqg77 : Tryz.prog.eqGuardType Tryz.prog.depth 77 = false := by kernel_rfl
@[simp] theorem fld77_0 (x : AV) : fieldAddrA Tryz.prog 77 x 0 = (match x with | .fp cs off => some (.fp cs (off + 0)) | .mp l g off => some (.mp l g (off + 0)) | _ => none) := by cases x <;> kernel_rfl
@[simp] theorem agg78 : isAggT Tryz.prog 78 = some false := by kernel_rfl
@[simp] theorem size78 : sizeT Tryz.prog 78 = some 1 := by kernel_rfl
@[simp] theorem zero78 : zeroA Tryz.prog 78 = some [.sc .nilFunc] := by kernel_rfl
@[simp] theorem bytes78 : bytesT Tryz.prog 78 = some 8 := by kernel_rfl
@[simp] theorem conc78 : Tryz.prog.concrete 78 = true := by kernel_rfl
@[simp] theorem agg79 : isAggT Tryz.prog 79 = some false := by kernel_rfl
@[simp] theorem size79 : sizeT Tryz.prog 79 = some 1 := by kernel_rfl
@[simp] theorem zero79 : zeroA Tryz.prog 79 = some [.sc .nilFunc] := by kernel_rfl
@[simp] theorem bytes79 : bytesT Tryz.prog 79 = some 8 := by kernel_rfl
@[simp] theorem conc79 : Tryz.prog.concrete 79 = true := by kernel_rfl
@[simp] theorem agg80 : isAggT Tryz.prog 80 = some true := by kernel_rfl
@[simp] theorem size80 : sizeT Tryz.prog 80 = some 2 := by kernel_rfl
@[simp] theorem zero80 : zeroA Tryz.prog 80 = some [.sc (.slice none 0 0), .sc (.int .i64 0)] := by kernel_rfl
@[simp] theorem bytes80 : bytesT Tryz.prog 80 = some 32 := by kernel_rfl
@[simp] theorem conc80 : Tryz.prog.concrete 80 = true := by kernel_rfl
@[simp] theorem places80 : placesT Tryz.prog 80 = some [(0, 1), (1, 1)] := by kernel_rfl
@[simp] theorem held80 : Tryz.prog.stoodInHeld 80 = false := by kernel_rfl
@[simp] theorem eqg80 : Tryz.prog.eqGuardType Tryz.prog.depth 80 = false := by kernel_rfl
@[simp] theorem fld80_0 (x : AV) : fieldAddrA Tryz.prog 80 x 0 = (match x with | .fp cs off => some (.fp cs (off + 0)) | .mp l g off => some (.mp l g (off + 0)) | _ => none) := by cases x <;> kernel_rfl
@[simp] theorem fld80_1 (x : AV) : fieldAddrA Tryz.prog 80 x 1 = (match x with | .fp cs off => some (.fp cs (off + 1)) | .mp l g off => some (.mp l g (off + 1)) | _ => none) := by cases x <;> kernel_rfl
@[simp] theorem agg81 : isAggT Tryz.prog 81 = some true := by kernel_rfl
@[simp] theorem size81 : sizeT Tryz.prog 81 = some 2 := by kernel_rfl
@[simp] theorem zero81 : zeroA Tryz.prog 81 = some [.sc (.slice none 0 0), .sc (.int .i64 0)] := by kernel_rfl
@[simp] theorem bytes81 : bytesT Tryz.prog 81 = some 32 := by kernel_rfl
@[simp] theorem conc81 : Tryz.prog.concrete 81 = true := by kernel_rfl
@[simp] theorem places81 : placesT Tryz.prog 81 = some [(0, 1), (1, 1)] := by kernel_rfl
@[simp] theorem held81 : Tryz.prog.stoodInHeld 81 = false := by kernel_rfl
@[simp] theorem eqg81 : Tryz.prog.eqGuardType Tryz.prog.depth 81 = false := by kernel_rfl
@[simp] theorem fld81_0 (x : AV) : fieldAddrA Tryz.prog 81 x 0 = (match x with | .fp cs off => some (.fp cs (off + 0)) | .mp l g off => some (.mp l g (off + 0)) | _ => none) := by cases x <;> kernel_rfl
@[simp] theorem fld81_1 (x : AV) : fieldAddrA Tryz.prog 81 x 1 = (match x with | .fp cs off => some (.fp cs (off + 1)) | .mp l g off => some (.mp l g (off + 1)) | _ => none) := by cases x <;> kernel_rfl
@[simp] theorem agg82 : isAggT Tryz.prog 82 = some false := by kernel_rfl
@[simp] theorem size82 : sizeT Tryz.prog 82 = some 1 := by kernel_rfl
@[simp] theorem zero82 : zeroA Tryz.prog 82 = some [.sc .nilFunc] := by kernel_rfl
@[simp] theorem bytes82 : bytesT Tryz.prog 82 = some 8 := by kernel_rfl
@[simp] theorem conc82 : Tryz.prog.concrete 82 = true := by kernel_rfl
@[simp] theorem agg83 : isAggT Tryz.prog 83 = some false := by kernel_rfl
@[simp] theorem size83 : sizeT Tryz.prog 83 = some 1 := by kernel_rfl
@[simp] theorem zero83 : zeroA Tryz.prog 83 = some [.sc (.pointer none)] := by kernel_rfl
@[simp] theorem bytes83 : bytesT Tryz.prog 83 = some 8 := by kernel_rfl
@[simp] theorem conc83 : Tryz.prog.concrete 83 = true := by kernel_rfl
@[simp] theorem agg84 : isAggT Tryz.prog 84 = some false := by kernel_rfl
@[simp] theorem size84 : sizeT Tryz.prog 84 = some 1 := by kernel_rfl
@[simp] theorem zero84 : zeroA Tryz.prog 84 = some [.sc .nilFunc] := by kernel_rfl
@[simp] theorem bytes84 : bytesT Tryz.prog 84 = some 8 := by kernel_rfl
@[simp] theorem conc84 : Tryz.prog.concrete 84 = true := by kernel_rfl
@[simp] theorem agg86 : isAggT Tryz.prog 86 = some false := by kernel_rfl
@[simp] theorem size86 : sizeT Tryz.prog 86 = some 1 := by kernel_rfl
@[simp] theorem zero86 : zeroA Tryz.prog 86 = some [.sc .nilFunc] := by kernel_rfl
@[simp] theorem bytes86 : bytesT Tryz.prog 86 = some 8 := by kernel_rfl
@[simp] theorem conc86 : Tryz.prog.concrete 86 = true := by kernel_rfl
@[simp] theorem agg87 : isAggT Tryz.prog 87 = some false := by kernel_rfl
@[simp] theorem size87 : sizeT Tryz.prog 87 = some 1 := by kernel_rfl
@[simp] theorem zero87 : zeroA Tryz.prog 87 = some [.sc .nilFunc] := by kernel_rfl
@[simp] theorem bytes87 : bytesT Tryz.prog 87 = some 8 := by kernel_rfl
@[simp] theorem conc87 : Tryz.prog.concrete 87 = true := by kernel_rfl
@[simp] theorem agg88 : isAggT Tryz.prog 88 = some false := by kernel_rfl
@[simp] theorem size88 : sizeT Tryz.prog 88 = some 1 := by kernel_rfl
@[simp] theorem zero88 : zeroA Tryz.prog 88 = some [.sc .nilFunc] := by kernel_rfl
@[simp] theorem bytes88 : bytesT Tryz.prog 88 = some 8 := by kernel_rfl
@[simp] theorem conc88 : Tryz.prog.concrete 88 = true := by kernel_rfl
@[simp] theorem agg89 : isAggT Tryz.prog 89 = some false := by kernel_rfl
@[simp] theorem size89 : sizeT Tryz.prog 89 = some 1 := by kernel_rfl
@[simp] theorem zero89 : zeroA Tryz.prog 89 = some [.sc .nilFunc] := by kernel_rfl
@[simp] theorem bytes89 : bytesT Tryz.prog 89 = some 8 := by kernel_rfl
@[simp] theorem conc89 : Tryz.prog.concrete 89 = true := by kernel_rfl
@[simp] theorem agg90 : isAggT Tryz.prog 90 = some false := by kernel_rfl
@[simp] theorem size90 : sizeT Tryz.prog 90 = some 1 := by kernel_rfl
@[simp] theorem zero90 : zeroA Tryz.prog 90 = some [.sc .nilFunc] := by kernel_rfl
@[simp] theorem bytes90 : bytesT Tryz.prog 90 = some 8 := by kernel_rfl
@[simp] theorem conc90 : Tryz.prog.concrete 90 = true := by kernel_rfl
@[simp] theorem agg91 : isAggT Tryz.prog 91 = some false := by kernel_rfl
@[simp] theorem size91 : sizeT Tryz.prog 91 = some 1 := by kernel_rfl
@[simp] theorem zero91 : zeroA Tryz.prog 91 = some [.sc .nilFunc] := by kernel_rfl
@[simp] theorem bytes91 : bytesT Tryz.prog 91 = some 8 := by kernel_rfl
@[simp] theorem conc91 : Tryz.prog.concrete 91 = true := by kernel_rfl
@[simp] theorem agg92 : isAggT Tryz.prog 92 = some false := by kernel_rfl
@[simp] theorem size92 : sizeT Tryz.prog 92 = some 1 := by kernel_rfl
@[simp] theorem zero92 : zeroA Tryz.prog 92 = some [.sc .nilFunc] := by kernel_rfl
@[simp] theorem bytes92 : bytesT Tryz.prog 92 = some 8 := by kernel_rfl
@[simp] theorem conc92 : Tryz.prog.concrete 92 = true := by kernel_rfl
@[simp] theorem agg93 : isAggT Tryz.prog 93 = some false := by kernel_rfl
@[simp] theorem size93 : sizeT Tryz.prog 93 = some 1 := by kernel_rfl
@[simp] theorem zero93 : zeroA Tryz.prog 93 = some [.sc .nilFunc] := by kernel_rfl
@[simp] theorem bytes93 : bytesT Tryz.prog 93 = some 8 := by kernel_rfl
@[simp] theorem conc93 : Tryz.prog.concrete 93 = true := by kernel_rfl
@[simp] theorem agg95 : isAggT Tryz.prog 95 = some false := by kernel_rfl
@[simp] theorem size95 : sizeT Tryz.prog 95 = some 1 := by kernel_rfl
@[simp] theorem zero95 : zeroA Tryz.prog 95 = some [.sc .nilFunc] := by kernel_rfl
@[simp] theorem bytes95 : bytesT Tryz.prog 95 = some 8 := by kernel_rfl
@[simp] theorem conc95 : Tryz.prog.concrete 95 = true := by kernel_rfl
@[simp] theorem agg96 : isAggT Tryz.prog 96 = some false := by kernel_rfl
@[simp] theorem size96 : sizeT Tryz.prog 96 = some 1 := by kernel_rfl
@[simp] theorem zero96 : zeroA Tryz.prog 96 = some [.sc .nilFunc] := by kernel_rfl
@[simp] theorem bytes96 : bytesT Tryz.prog 96 = some 8 := by kernel_rfl
@[simp] theorem conc96 : Tryz.prog.concrete 96 = true := by kernel_rfl
@[simp] theorem agg97 : isAggT Tryz.prog 97 = some false := by kernel_rfl
@[simp] theorem size97 : sizeT Tryz.prog 97 = some 1 := by kernel_rfl
@[simp] theorem zero97 : zeroA Tryz.prog 97 = some [.sc .nilFunc] := by kernel_rfl
@[simp] theorem bytes97 : bytesT Tryz.prog 97 = some 8 := by kernel_rfl
@[simp] theorem conc97 : Tryz.prog.concrete 97 = true := by kernel_rfl
@[simp] theorem agg98 : isAggT Tryz.prog 98 = some false := by kernel_rfl
@[simp] theorem size98 : sizeT Tryz.prog 98 = some 1 := by kernel_rfl
@[simp] theorem zero98 : zeroA Tryz.prog 98 = some [.sc (.pointer none)] := by kernel_rfl
@[simp] theorem bytes98 : bytesT Tryz.prog 98 = some 8 := by kernel_rfl
@[simp] theorem conc98 : Tryz.prog.concrete 98 = true := by kernel_rfl
@[simp] theorem agg99 : isAggT Tryz.prog 99 = some false := by kernel_rfl
@[simp] theorem size99 : sizeT Tryz.prog 99 = some 1 := by kernel_rfl
@[simp] theorem zero99 : zeroA Tryz.prog 99 = some [.sc (.slice none 0 0)] := by kernel_rfl
@[simp] theorem bytes99 : bytesT Tryz.prog 99 = some 24 := by kernel_rfl
@[simp] theorem conc99 : Tryz.prog.concrete 99 = true := by kernel_rfl
@[simp] theorem elem99 : elemOfT Tryz.prog 99 = some (5, 1) := by kernel_rfl
@[simp] theorem slc99 : notIntT Tryz.prog 99 = true := by kernel_rfl
@[simp] theorem agg100 : isAggT Tryz.prog 100 = some true := by kernel_rfl
@[simp] theorem size100 : sizeT Tryz.prog 100 = some 2 := by kernel_rfl
@[simp] theorem zero100 : zeroA Tryz.prog 100 = some [.sc (.pointer none), .sc (.slice none 0 0)] := by kernel_rfl
@[simp] theorem bytes100 : bytesT Tryz.prog 100 = some 32 := by kernel_rfl
@[simp] theorem conc100 : Tryz.prog.concrete 100 = true := by kernel_rfl
@[simp] theorem places100 : placesT Tryz.prog 100 = some [(0, 1), (1, 1)] := by kernel_rfl
@[simp] theorem held100 : Tryz.prog.stoodInHeld 100 = false := by kernel_rfl
@[simp] theorem eqg100 : Tryz.prog.eqGuardType Tryz.prog.depth 100 = false := by kernel_rfl
@[simp] theorem fld100_0 (x : AV) : fieldAddrA Tryz.prog 100 x 0 = (match x with | .fp cs off => some (.fp cs (off + 0)) | .mp l g off => some (.mp l g (off + 0)) | _ => none) := by cases x <;> kernel_rfl
@[simp] theorem fld100_1 (x : AV) : fieldAddrA Tryz.prog 100 x 1 = (match x with | .fp cs off => some (.fp cs (off + 1)) | .mp l g off => some (.mp l g (off + 1)) | _ => none) := by cases x <;> kernel_rfl
@[simp] theorem agg101 : isAggT Tryz.prog 101 = some true := by kernel_rfl
@[simp] theorem size101 : sizeT Tryz.prog 101 = some 2 := by kernel_rfl
@[simp] theorem zero101 : zeroA Tryz.prog 101 = some [.sc (.pointer none), .sc (.slice none 0 0)] := by kernel_rfl
@[simp] theorem bytes101 : bytesT Tryz.prog 101 = some 32 := by kernel_rfl
@[simp] theorem conc101 : Tryz.prog.concrete 101 = true := by kernel_rfl
@[simp] theorem places101 : placesT Tryz.prog 101 = some [(0, 1), (1, 1)] := by kernel_rfl
@[simp] theorem held101 : Tryz.prog.stoodInHeld 101 = false := by kernel_rfl
@[simp] theorem eqg101 : Tryz.prog.eqGuardType Tryz.prog.depth 101 = false := by kernel_rfl
@[simp] theorem fld101_0 (x : AV) : fieldAddrA Tryz.prog 101 x 0 = (match x with | .fp cs off => some (.fp cs (off + 0)) | .mp l g off => some (.mp l g (off + 0)) | _ => none) := by cases x <;> kernel_rfl
@[simp] theorem fld101_1 (x : AV) : fieldAddrA Tryz.prog 101 x 1 = (match x with | .fp cs off => some (.fp cs (off + 1)) | .mp l g off => some (.mp l g (off + 1)) | _ => none) := by cases x <;> kernel_rfl
@[simp] theorem agg102 : isAggT Tryz.prog 102 = some true := by kernel_rfl
@[simp] theorem size102 : sizeT Tryz.prog 102 = some 2 := by kernel_rfl
@[simp] theorem zero102 : zeroA Tryz.prog 102 = some [.sc (.pointer none), .sc (.slice none 0 0)] := by kernel_rfl
@[simp] theorem bytes102 : bytesT Tryz.prog 102 = some 32 := by kernel_rfl
@[simp] theorem conc102 : Tryz.prog.concrete 102 = true := by kernel_rfl
@[simp] theorem places102 : placesT Tryz.prog 102 = some [(0, 2)] := by kernel_rfl
@[simp] theorem held102 : Tryz.prog.stoodInHeld 102 = false := by kernel_rfl
@[simp] theorem eqg102 : Tryz.prog.eqGuardType Tryz.prog.depth 102 = false := by kernel_rfl
@[simp] theorem fld102_0 (x : AV) : fieldAddrA Tryz.prog 102 x 0 = (match x with | .fp cs off => some (.fp cs (off + 0)) | .mp l g off => some (.mp l g (off + 0)) | _ => none) := by cases x <;> kernel_rfl
@[simp] theorem agg103 : isAggT Tryz.prog 103 = some true := by kernel_rfl
@[simp] theorem size103 : sizeT Tryz.prog 103 = some 2 := by kernel_rfl
@[simp] theorem zero103 : zeroA Tryz.prog 103 = some [.sc (.pointer none), .sc (.slice none 0 0)] := by kernel_rfl
@[simp] theorem bytes103 : bytesT Tryz.prog 103 = some 32 := by kernel_rfl
@[simp] theorem conc103 : Tryz.prog.concrete 103 = true := by kernel_rfl
@[simp] theorem places103 : placesT Tryz.prog 103 = some [(0, 2)] := by kernel_rfl
@[simp] theorem held103 : Tryz.prog.stoodInHeld 103 = false := by kernel_rfl
@[simp] theorem eqg103 : Tryz.prog.eqGuardType Tryz.prog.depth 103 = false := by kernel_rfl
@[simp] theorem fld103_0 (x : AV) : fieldAddrA Tryz.prog 103 x 0 = (match x with | .fp cs off => some (.fp cs (off + 0)) | .mp l g off => some (.mp l g (off + 0)) | _ => none) := by cases x <;> kernel_rfl
@[simp] theorem agg104 : isAggT Tryz.prog 104 = some false := by kernel_rfl
@[simp] theorem size104 : sizeT Tryz.prog 104 = some 1 := by kernel_rfl
@[simp] theorem zero104 : zeroA Tryz.prog 104 = some [.sc .nilFunc] := by kernel_rfl
@[simp] theorem bytes104 : bytesT Tryz.prog 104 = some 8 := by kernel_rfl
@[simp] theorem conc104 : Tryz.prog.concrete 104 = true := by kernel_rfl
@[simp] theorem agg105 : isAggT Tryz.prog 105 = some false := by kernel_rfl
@[simp] theorem size105 : sizeT Tryz.prog 105 = some 1 := by kernel_rfl
@[simp] theorem zero105 : zeroA Tryz.prog 105 = some [.sc (.int .u64 0)] := by kernel_rfl
@[simp] theorem bytes105 : bytesT Tryz.prog 105 = some 8 := by kernel_rfl
@[simp] theorem conc105 : Tryz.prog.concrete 105 = true := by kernel_rfl
@[simp] theorem slc105 : notIntT Tryz.prog 105 = false := by kernel_rfl
@[simp] theorem int105 : intT Tryz.prog 105 = true := by kernel_rfl
@[simp] theorem agg106 : isAggT Tryz.prog 106 = some false := by kernel_rfl
@[simp] theorem size106 : sizeT Tryz.prog 106 = some 1 := by kernel_rfl
@[simp] theorem zero106 : zeroA Tryz.prog 106 = some [.sc .nilFunc] := by kernel_rfl
@[simp] theorem bytes106 : bytesT Tryz.prog 106 = some 8 := by kernel_rfl
@[simp] theorem conc106 : Tryz.prog.concrete 106 = true := by kernel_rfl
@[simp] theorem agg107 : isAggT Tryz.prog 107 = some false := by kernel_rfl
@[simp] theorem size107 : sizeT Tryz.prog 107 = some 1 := by kernel_rfl
@[simp] theorem zero107 : zeroA Tryz.prog 107 = some [.sc .nilIface] := by kernel_rfl
@[simp] theorem bytes107 : bytesT Tryz.prog 107 = some 16 := by kernel_rfl
@[simp] theorem agg108 : isAggT Tryz.prog 108 = some false := by kernel_rfl
@[simp] theorem size108 : sizeT Tryz.prog 108 = some 1 := by kernel_rfl
@[simp] theorem zero108 : zeroA Tryz.prog 108 = some [.sc .nilIface] := by kernel_rfl
@[simp] theorem bytes108 : bytesT Tryz.prog 108 = some 16 := by kernel_rfl
@[simp] theorem agg109 : isAggT Tryz.prog 109 = some false := by kernel_rfl
@[simp] theorem size109 : sizeT Tryz.prog 109 = some 1 := by kernel_rfl
@[simp] theorem zero109 : zeroA Tryz.prog 109 = some [.sc .nilFunc] := by kernel_rfl
@[simp] theorem bytes109 : bytesT Tryz.prog 109 = some 8 := by kernel_rfl
@[simp] theorem conc109 : Tryz.prog.concrete 109 = true := by kernel_rfl
@[simp] theorem agg110 : isAggT Tryz.prog 110 = some false := by kernel_rfl
@[simp] theorem size110 : sizeT Tryz.prog 110 = some 1 := by kernel_rfl
@[simp] theorem zero110 : zeroA Tryz.prog 110 = some [.sc .nilFunc] := by kernel_rfl
@[simp] theorem bytes110 : bytesT Tryz.prog 110 = some 8 := by kernel_rfl
@[simp] theorem conc110 : Tryz.prog.concrete 110 = true := by kernel_rfl
@[simp] theorem agg111 : isAggT Tryz.prog 111 = some false := by kernel_rfl
@[simp] theorem size111 : sizeT Tryz.prog 111 = some 1 := by kernel_rfl
@[simp] theorem zero111 : zeroA Tryz.prog 111 = some [.sc .nilFunc] := by kernel_rfl
@[simp] theorem bytes111 : bytesT Tryz.prog 111 = some 8 := by kernel_rfl
@[simp] theorem conc111 : Tryz.prog.concrete 111 = true := by kernel_rfl
@[simp] theorem agg112 : isAggT Tryz.prog 112 = some false := by kernel_rfl
@[simp] theorem size112 : sizeT Tryz.prog 112 = some 1 := by kernel_rfl
@[simp] theorem zero112 : zeroA Tryz.prog 112 = some [.sc .nilFunc] := by kernel_rfl
@[simp] theorem bytes112 : bytesT Tryz.prog 112 = some 8 := by kernel_rfl
@[simp] theorem conc112 : Tryz.prog.concrete 112 = true := by kernel_rfl
@[simp] theorem agg113 : isAggT Tryz.prog 113 = some false := by kernel_rfl
@[simp] theorem size113 : sizeT Tryz.prog 113 = some 1 := by kernel_rfl
@[simp] theorem zero113 : zeroA Tryz.prog 113 = some [.sc .nilFunc] := by kernel_rfl
@[simp] theorem bytes113 : bytesT Tryz.prog 113 = some 8 := by kernel_rfl
@[simp] theorem conc113 : Tryz.prog.concrete 113 = true := by kernel_rfl
@[simp] theorem agg114 : isAggT Tryz.prog 114 = some false := by kernel_rfl
@[simp] theorem size114 : sizeT Tryz.prog 114 = some 1 := by kernel_rfl
@[simp] theorem zero114 : zeroA Tryz.prog 114 = some [.sc .nilFunc] := by kernel_rfl
@[simp] theorem bytes114 : bytesT Tryz.prog 114 = some 8 := by kernel_rfl
@[simp] theorem conc114 : Tryz.prog.concrete 114 = true := by kernel_rfl
@[simp] theorem agg116 : isAggT Tryz.prog 116 = some false := by kernel_rfl
@[simp] theorem size116 : sizeT Tryz.prog 116 = some 1 := by kernel_rfl
@[simp] theorem zero116 : zeroA Tryz.prog 116 = some [.sc .nilFunc] := by kernel_rfl
@[simp] theorem bytes116 : bytesT Tryz.prog 116 = some 8 := by kernel_rfl
@[simp] theorem conc116 : Tryz.prog.concrete 116 = true := by kernel_rfl
@[simp] theorem agg117 : isAggT Tryz.prog 117 = some false := by kernel_rfl
@[simp] theorem size117 : sizeT Tryz.prog 117 = some 1 := by kernel_rfl
@[simp] theorem zero117 : zeroA Tryz.prog 117 = some [.sc .nilFunc] := by kernel_rfl
@[simp] theorem bytes117 : bytesT Tryz.prog 117 = some 8 := by kernel_rfl
@[simp] theorem conc117 : Tryz.prog.concrete 117 = true := by kernel_rfl
@[simp] theorem agg118 : isAggT Tryz.prog 118 = some false := by kernel_rfl
@[simp] theorem size118 : sizeT Tryz.prog 118 = some 1 := by kernel_rfl
@[simp] theorem zero118 : zeroA Tryz.prog 118 = some [.sc .nilFunc] := by kernel_rfl
@[simp] theorem bytes118 : bytesT Tryz.prog 118 = some 8 := by kernel_rfl
@[simp] theorem conc118 : Tryz.prog.concrete 118 = true := by kernel_rfl
@[simp] theorem agg119 : isAggT Tryz.prog 119 = some false := by kernel_rfl
@[simp] theorem size119 : sizeT Tryz.prog 119 = some 1 := by kernel_rfl
@[simp] theorem zero119 : zeroA Tryz.prog 119 = some [.sc (.pointer none)] := by kernel_rfl
@[simp] theorem bytes119 : bytesT Tryz.prog 119 = some 8 := by kernel_rfl
@[simp] theorem conc119 : Tryz.prog.concrete 119 = true := by kernel_rfl
@[simp] theorem agg120 : isAggT Tryz.prog 120 = some false := by kernel_rfl
@[simp] theorem size120 : sizeT Tryz.prog 120 = some 1 := by kernel_rfl
@[simp] theorem zero120 : zeroA Tryz.prog 120 = some [.sc (.slice none 0 0)] := by kernel_rfl
@[simp] theorem bytes120 : bytesT Tryz.prog 120 = some 24 := by kernel_rfl
@[simp] theorem conc120 : Tryz.prog.concrete 120 = true := by kernel_rfl
@[simp] theorem elem120 : elemOfT Tryz.prog 120 = some (3, 1) := by kernel_rfl
@[simp] theorem slc120 : notIntT Tryz.prog 120 = true := by kernel_rfl
@[simp] theorem agg121 : isAggT Tryz.prog 121 = some false := by kernel_rfl
@[simp] theorem size121 : sizeT Tryz.prog 121 = some 1 := by kernel_rfl
@[simp] theorem zero121 : zeroA Tryz.prog 121 = some [.sc .nilFunc] := by kernel_rfl
@[simp] theorem bytes121 : bytesT Tryz.prog 121 = some 8 := by kernel_rfl
@[simp] theorem conc121 : Tryz.prog.concrete 121 = true := by kernel_rfl
@[simp] theorem agg122 : isAggT Tryz.prog 122 = some false := by kernel_rfl
@[simp] theorem size122 : sizeT Tryz.prog 122 = some 1 := by kernel_rfl
@[simp] theorem zero122 : zeroA Tryz.prog 122 = some [.sc .nilFunc] := by kernel_rfl
@[simp] theorem bytes122 : bytesT Tryz.prog 122 = some 8 := by kernel_rfl
@[simp] theorem conc122 : Tryz.prog.concrete 122 = true := by kernel_rfl
@[simp] theorem agg123 : isAggT Tryz.prog 123 = some false := by kernel_rfl
@[simp] theorem size123 : sizeT Tryz.prog 123 = some 1 := by kernel_rfl
@[simp] theorem zero123 : zeroA Tryz.prog 123 = some [.sc .nilFunc] := by kernel_rfl
@[simp] theorem bytes123 : bytesT Tryz.prog 123 = some 8 := by kernel_rfl
@[simp] theorem conc123 : Tryz.prog.concrete 123 = true := by kernel_rfl
@[simp] theorem agg124 : isAggT Tryz.prog 124 = some false := by kernel_rfl
@[simp] theorem size124 : sizeT Tryz.prog 124 = some 1 := by kernel_rfl
@[simp] theorem zero124 : zeroA Tryz.prog 124 = some [.sc .nilIface] := by kernel_rfl
@[simp] theorem bytes124 : bytesT Tryz.prog 124 = some 16 := by kernel_rfl
@[simp] theorem agg125 : isAggT Tryz.prog 125 = some false := by kernel_rfl
@[simp] theorem size125 : sizeT Tryz.prog 125 = some 1 := by kernel_rfl
@[simp] theorem zero125 : zeroA Tryz.prog 125 = some [.sc .nilIface] := by kernel_rfl
@[simp] theorem bytes125 : bytesT Tryz.prog 125 = some 16 := by kernel_rfl
@[simp] theorem agg126 : isAggT Tryz.prog 126 = some false := by kernel_rfl
@[simp] theorem size126 : sizeT Tryz.prog 126 = some 1 := by kernel_rfl
@[simp] theorem zero126 : zeroA Tryz.prog 126 = some [.sc .nilFunc] := by kernel_rfl
@[simp] theorem bytes126 : bytesT Tryz.prog 126 = some 8 := by kernel_rfl
@[simp] theorem conc126 : Tryz.prog.concrete 126 = true := by kernel_rfl
@[simp] theorem agg127 : isAggT Tryz.prog 127 = some false := by kernel_rfl
@[simp] theorem size127 : sizeT Tryz.prog 127 = some 1 := by kernel_rfl
@[simp] theorem zero127 : zeroA Tryz.prog 127 = some [.sc .nilFunc] := by kernel_rfl
@[simp] theorem bytes127 : bytesT Tryz.prog 127 = some 8 := by kernel_rfl
@[simp] theorem conc127 : Tryz.prog.concrete 127 = true := by kernel_rfl
@[simp] theorem agg128 : isAggT Tryz.prog 128 = some false := by kernel_rfl
@[simp] theorem size128 : sizeT Tryz.prog 128 = some 1 := by kernel_rfl
@[simp] theorem zero128 : zeroA Tryz.prog 128 = some [.sc .nilFunc] := by kernel_rfl
@[simp] theorem bytes128 : bytesT Tryz.prog 128 = some 8 := by kernel_rfl
@[simp] theorem conc128 : Tryz.prog.concrete 128 = true := by kernel_rfl
@[simp] theorem agg129 : isAggT Tryz.prog 129 = some false := by kernel_rfl
@[simp] theorem size129 : sizeT Tryz.prog 129 = some 1 := by kernel_rfl
@[simp] theorem zero129 : zeroA Tryz.prog 129 = some [.sc .nilFunc] := by kernel_rfl
@[simp] theorem bytes129 : bytesT Tryz.prog 129 = some 8 := by kernel_rfl
@[simp] theorem conc129 : Tryz.prog.concrete 129 = true := by kernel_rfl
@[simp] theorem agg130 : isAggT Tryz.prog 130 = some false := by kernel_rfl
@[simp] theorem size130 : sizeT Tryz.prog 130 = some 1 := by kernel_rfl
@[simp] theorem zero130 : zeroA Tryz.prog 130 = some [.sc (.int .i64 0)] := by kernel_rfl
@[simp] theorem bytes130 : bytesT Tryz.prog 130 = some 8 := by kernel_rfl
@[simp] theorem conc130 : Tryz.prog.concrete 130 = true := by kernel_rfl
@[simp] theorem slc130 : notIntT Tryz.prog 130 = false := by kernel_rfl
@[simp] theorem int130 : intT Tryz.prog 130 = true := by kernel_rfl
@[simp] theorem agg132 : isAggT Tryz.prog 132 = some false := by kernel_rfl
@[simp] theorem size132 : sizeT Tryz.prog 132 = some 1 := by kernel_rfl
@[simp] theorem zero132 : zeroA Tryz.prog 132 = some [.sc .nilFunc] := by kernel_rfl
@[simp] theorem bytes132 : bytesT Tryz.prog 132 = some 8 := by kernel_rfl
@[simp] theorem conc132 : Tryz.prog.concrete 132 = true := by kernel_rfl
@[simp] theorem agg133 : isAggT Tryz.prog 133 = some false := by kernel_rfl
@[simp] theorem size133 : sizeT Tryz.prog 133 = some 1 := by kernel_rfl
@[simp] theorem zero133 : zeroA Tryz.prog 133 = some [.sc .nilFunc] := by kernel_rfl
@[simp] theorem bytes133 : bytesT Tryz.prog 133 = some 8 := by kernel_rfl
@[simp] theorem conc133 : Tryz.prog.concrete 133 = true := by kernel_rfl
@[simp] theorem agg134 : isAggT Tryz.prog 134 = some false := by kernel_rfl
@[simp] theorem size134 : sizeT Tryz.prog 134 = some 1 := by kernel_rfl
@[simp] theorem zero134 : zeroA Tryz.prog 134 = some [.sc .nilFunc] := by kernel_rfl
@[simp] theorem bytes134 : bytesT Tryz.prog 134 = some 8 := by kernel_rfl
@[simp] theorem conc134 : Tryz.prog.concrete 134 = true := by kernel_rfl
@[simp] theorem agg135 : isAggT Tryz.prog 135 = some false := by kernel_rfl
@[simp] theorem size135 : sizeT Tryz.prog 135 = some 1 := by kernel_rfl
@[simp] theorem zero135 : zeroA Tryz.prog 135 = some [.sc .nilFunc] := by kernel_rfl
@[simp] theorem bytes135 : bytesT Tryz.prog 135 = some 8 := by kernel_rfl
@[simp] theorem conc135 : Tryz.prog.concrete 135 = true := by kernel_rfl
@[simp] theorem agg136 : isAggT Tryz.prog 136 = some false := by kernel_rfl
@[simp] theorem size136 : sizeT Tryz.prog 136 = some 1 := by kernel_rfl
@[simp] theorem zero136 : zeroA Tryz.prog 136 = some [.sc .nilFunc] := by kernel_rfl
@[simp] theorem bytes136 : bytesT Tryz.prog 136 = some 8 := by kernel_rfl
@[simp] theorem conc136 : Tryz.prog.concrete 136 = true := by kernel_rfl
@[simp] theorem agg137 : isAggT Tryz.prog 137 = some false := by kernel_rfl
@[simp] theorem size137 : sizeT Tryz.prog 137 = some 1 := by kernel_rfl
@[simp] theorem zero137 : zeroA Tryz.prog 137 = some [.sc (.int .u32 0)] := by kernel_rfl
@[simp] theorem bytes137 : bytesT Tryz.prog 137 = some 4 := by kernel_rfl
@[simp] theorem conc137 : Tryz.prog.concrete 137 = true := by kernel_rfl
@[simp] theorem slc137 : notIntT Tryz.prog 137 = false := by kernel_rfl
@[simp] theorem int137 : intT Tryz.prog 137 = true := by kernel_rfl
@[simp] theorem agg138 : isAggT Tryz.prog 138 = some false := by kernel_rfl
@[simp] theorem size138 : sizeT Tryz.prog 138 = some 1 := by kernel_rfl
@[simp] theorem zero138 : zeroA Tryz.prog 138 = some [.sc .nilFunc] := by kernel_rfl
@[simp] theorem bytes138 : bytesT Tryz.prog 138 = some 8 := by kernel_rfl
@[simp] theorem conc138 : Tryz.prog.concrete 138 = true := by kernel_rfl
@[simp] theorem agg139 : isAggT Tryz.prog 139 = some false := by kernel_rfl
@[simp] theorem size139 : sizeT Tryz.prog 139 = some 1 := by kernel_rfl
@[simp] theorem zero139 : zeroA Tryz.prog 139 = some [.sc (.pointer none)] := by kernel_rfl
@[simp] theorem bytes139 : bytesT Tryz.prog 139 = some 8 := by kernel_rfl
@[simp] theorem conc139 : Tryz.prog.concrete 139 = true := by kernel_rfl
@[simp] theorem agg140 : isAggT Tryz.prog 140 = some false := by kernel_rfl
@[simp] theorem size140 : sizeT Tryz.prog 140 = some 1 := by kernel_rfl
@[simp] theorem zero140 : zeroA Tryz.prog 140 = some [.sc .nilFunc] := by kernel_rfl
@[simp] theorem bytes140 : bytesT Tryz.prog 140 = some 8 := by kernel_rfl
@[simp] theorem conc140 : Tryz.prog.concrete 140 = true := by kernel_rfl
@[simp] theorem agg141 : isAggT Tryz.prog 141 = some false := by kernel_rfl
@[simp] theorem size141 : sizeT Tryz.prog 141 = some 1 := by kernel_rfl
@[simp] theorem zero141 : zeroA Tryz.prog 141 = some [.sc .nilFunc] := by kernel_rfl
@[simp] theorem bytes141 : bytesT Tryz.prog 141 = some 8 := by kernel_rfl
@[simp] theorem conc141 : Tryz.prog.concrete 141 = true := by kernel_rfl
@[simp] theorem agg142 : isAggT Tryz.prog 142 = some false := by kernel_rfl
@[simp] theorem size142 : sizeT Tryz.prog 142 = some 1 := by kernel_rfl
@[simp] theorem zero142 : zeroA Tryz.prog 142 = some [.sc .nilFunc] := by kernel_rfl
@[simp] theorem bytes142 : bytesT Tryz.prog 142 = some 8 := by kernel_rfl
@[simp] theorem conc142 : Tryz.prog.concrete 142 = true := by kernel_rfl
@[simp] theorem agg143 : isAggT Tryz.prog 143 = some false := by kernel_rfl
@[simp] theorem size143 : sizeT Tryz.prog 143 = some 1 := by kernel_rfl
@[simp] theorem zero143 : zeroA Tryz.prog 143 = some [.sc (.pointer none)] := by kernel_rfl
@[simp] theorem bytes143 : bytesT Tryz.prog 143 = some 8 := by kernel_rfl
@[simp] theorem conc143 : Tryz.prog.concrete 143 = true := by kernel_rfl
@[simp] theorem agg144 : isAggT Tryz.prog 144 = some false := by kernel_rfl
@[simp] theorem size144 : sizeT Tryz.prog 144 = some 1 := by kernel_rfl
@[simp] theorem zero144 : zeroA Tryz.prog 144 = some [.sc (.int .u64 0)] := by kernel_rfl
@[simp] theorem bytes144 : bytesT Tryz.prog 144 = some 8 := by kernel_rfl
@[simp] theorem conc144 : Tryz.prog.concrete 144 = true := by kernel_rfl
@[simp] theorem slc144 : notIntT Tryz.prog 144 = false := by kernel_rfl
@[simp] theorem int144 : intT Tryz.prog 144 = true := by kernel_rfl
@[simp] theorem agg145 : isAggT Tryz.prog 145 = some false := by kernel_rfl
@[simp] theorem size145 : sizeT Tryz.prog 145 = some 1 := by kernel_rfl
@[simp] theorem zero145 : zeroA Tryz.prog 145 = some [.sc .nilFunc] := by kernel_rfl
@[simp] theorem bytes145 : bytesT Tryz.prog 145 = some 8 := by kernel_rfl
@[simp] theorem conc145 : Tryz.prog.concrete 145 = true := by kernel_rfl
@[simp] theorem agg146 : isAggT Tryz.prog 146 = some false := by kernel_rfl
@[simp] theorem size146 : sizeT Tryz.prog 146 = some 1 := by kernel_rfl
@[simp] theorem zero146 : zeroA Tryz.prog 146 = some [.sc .nilFunc] := by kernel_rfl
@[simp] theorem bytes146 : bytesT Tryz.prog 146 = some 8 := by kernel_rfl
@[simp] theorem conc146 : Tryz.prog.concrete 146 = true := by kernel_rfl
@[simp] theorem agg147 : isAggT Tryz.prog 147 = some false := by kernel_rfl
@[simp] theorem size147 : sizeT Tryz.prog 147 = some 1 := by kernel_rfl
@[simp] theorem zero147 : zeroA Tryz.prog 147 = some [.sc .nilFunc] := by kernel_rfl
@[simp] theorem bytes147 : bytesT Tryz.prog 147 = some 8 := by kernel_rfl
@[simp] theorem conc147 : Tryz.prog.concrete 147 = true := by kernel_rfl
@[simp] theorem agg148 : isAggT Tryz.prog 148 = some false := by kernel_rfl
@[simp] theorem size148 : sizeT Tryz.prog 148 = some 1 := by kernel_rfl
@[simp] theorem zero148 : zeroA Tryz.prog 148 = some [.sc (.pointer none)] := by kernel_rfl
@[simp] theorem bytes148 : bytesT Tryz.prog 148 = some 8 := by kernel_rfl
@[simp] theorem conc148 : Tryz.prog.concrete 148 = true := by kernel_rfl
@[simp] theorem agg149 : isAggT Tryz.prog 149 = some false := by kernel_rfl
@[simp] theorem size149 : sizeT Tryz.prog 149 = some 1 := by kernel_rfl
@[simp] theorem zero149 : zeroA Tryz.prog 149 = some [.sc .nilFunc] := by kernel_rfl
@[simp] theorem bytes149 : bytesT Tryz.prog 149 = some 8 := by kernel_rfl
@[simp] theorem conc149 : Tryz.prog.concrete 149 = true := by kernel_rfl
@[simp] theorem agg150 : isAggT Tryz.prog 150 = some true := by kernel_rfl
@[simp] theorem size150 : sizeT Tryz.prog 150 = some 2 := by kernel_rfl
@[simp] theorem zero150 : zeroA Tryz.prog 150 = some [.sc (.string ⟨#[]⟩), .sc (.bool false)] := by kernel_rfl
@[simp] theorem bytes150 : bytesT Tryz.prog 150 = some 24 := by kernel_rfl
@[simp] theorem conc150 : Tryz.prog.concrete 150 = true := by kernel_rfl
@[simp] theorem places150 : placesT Tryz.prog 150 = some [(0, 1), (1, 1)] := by kernel_rfl
@[simp] theorem held150 : Tryz.prog.stoodInHeld 150 = false := by kernel_rfl
@[simp] theorem eqg150 : Tryz.prog.eqGuardType Tryz.prog.depth 150 = false := by kernel_rfl
@[simp] theorem fld150_0 (x : AV) : fieldAddrA Tryz.prog 150 x 0 = (match x with | .fp cs off => some (.fp cs (off + 0)) | .mp l g off => some (.mp l g (off + 0)) | _ => none) := by cases x <;> kernel_rfl
@[simp] theorem fld150_1 (x : AV) : fieldAddrA Tryz.prog 150 x 1 = (match x with | .fp cs off => some (.fp cs (off + 1)) | .mp l g off => some (.mp l g (off + 1)) | _ => none) := by cases x <;> kernel_rfl
@[simp] theorem agg151 : isAggT Tryz.prog 151 = some true := by kernel_rfl
@[simp] theorem size151 : sizeT Tryz.prog 151 = some 2 := by kernel_rfl
@[simp] theorem zero151 : zeroA Tryz.prog 151 = some [.sc (.string ⟨#[]⟩), .sc (.bool false)] := by kernel_rfl
@[simp] theorem bytes151 : bytesT Tryz.prog 151 = some 24 := by kernel_rfl
@[simp] theorem conc151 : Tryz.prog.concrete 151 = true := by kernel_rfl
@[simp] theorem places151 : placesT Tryz.prog 151 = some [(0, 1), (1, 1)] := by kernel_rfl
@[simp] theorem held151 : Tryz.prog.stoodInHeld 151 = false := by kernel_rfl
@[simp] theorem eqg151 : Tryz.prog.eqGuardType Tryz.prog.depth 151 = false := by kernel_rfl
@[simp] theorem fld151_0 (x : AV) : fieldAddrA Tryz.prog 151 x 0 = (match x with | .fp cs off => some (.fp cs (off + 0)) | .mp l g off => some (.mp l g (off + 0)) | _ => none) := by cases x <;> kernel_rfl
@[simp] theorem fld151_1 (x : AV) : fieldAddrA Tryz.prog 151 x 1 = (match x with | .fp cs off => some (.fp cs (off + 1)) | .mp l g off => some (.mp l g (off + 1)) | _ => none) := by cases x <;> kernel_rfl
@[simp] theorem agg152 : isAggT Tryz.prog 152 = some false := by kernel_rfl
@[simp] theorem size152 : sizeT Tryz.prog 152 = some 1 := by kernel_rfl
@[simp] theorem zero152 : zeroA Tryz.prog 152 = some [.sc .nilFunc] := by kernel_rfl
@[simp] theorem bytes152 : bytesT Tryz.prog 152 = some 8 := by kernel_rfl
@[simp] theorem conc152 : Tryz.prog.concrete 152 = true := by kernel_rfl
@[simp] theorem agg153 : isAggT Tryz.prog 153 = some false := by kernel_rfl
@[simp] theorem size153 : sizeT Tryz.prog 153 = some 1 := by kernel_rfl
@[simp] theorem zero153 : zeroA Tryz.prog 153 = some [.sc .nilFunc] := by kernel_rfl
@[simp] theorem bytes153 : bytesT Tryz.prog 153 = some 8 := by kernel_rfl
@[simp] theorem conc153 : Tryz.prog.concrete 153 = true := by kernel_rfl
@[simp] theorem agg155 : isAggT Tryz.prog 155 = some false := by kernel_rfl
@[simp] theorem size155 : sizeT Tryz.prog 155 = some 1 := by kernel_rfl
@[simp] theorem zero155 : zeroA Tryz.prog 155 = some [.sc .nilFunc] := by kernel_rfl
@[simp] theorem bytes155 : bytesT Tryz.prog 155 = some 8 := by kernel_rfl
@[simp] theorem conc155 : Tryz.prog.concrete 155 = true := by kernel_rfl
@[simp] theorem agg156 : isAggT Tryz.prog 156 = some false := by kernel_rfl
@[simp] theorem size156 : sizeT Tryz.prog 156 = some 1 := by kernel_rfl
@[simp] theorem zero156 : zeroA Tryz.prog 156 = some [.sc (.pointer none)] := by kernel_rfl
@[simp] theorem bytes156 : bytesT Tryz.prog 156 = some 8 := by kernel_rfl
@[simp] theorem conc156 : Tryz.prog.concrete 156 = true := by kernel_rfl
@[simp] theorem agg158 : isAggT Tryz.prog 158 = some false := by kernel_rfl
@[simp] theorem size158 : sizeT Tryz.prog 158 = some 1 := by kernel_rfl
@[simp] theorem zero158 : zeroA Tryz.prog 158 = some [.sc .nilFunc] := by kernel_rfl
@[simp] theorem bytes158 : bytesT Tryz.prog 158 = some 8 := by kernel_rfl
@[simp] theorem conc158 : Tryz.prog.concrete 158 = true := by kernel_rfl
@[simp] theorem agg159 : isAggT Tryz.prog 159 = some true := by kernel_rfl
@[simp] theorem size159 : sizeT Tryz.prog 159 = some 4 := by kernel_rfl
@[simp] theorem zero159 : zeroA Tryz.prog 159 = some [.sc (.pointer none), .sc (.pointer none), .sc (.pointer none), .sc (.string ⟨#[]⟩)] := by kernel_rfl
@[simp] theorem bytes159 : bytesT Tryz.prog 159 = some 40 := by kernel_rfl
@[simp] theorem conc159 : Tryz.prog.concrete 159 = true := by kernel_rfl
@[simp] theorem places159 : placesT Tryz.prog 159 = some [(0, 1), (1, 1), (2, 1), (3, 1)] := by kernel_rfl
@[simp] theorem eqg159 : Tryz.prog.eqGuardType Tryz.prog.depth 159 = false := by kernel_rfl
@[simp] theorem fld159_0 (x : AV) : fieldAddrA Tryz.prog 159 x 0 = (match x with | .fp cs off => some (.fp cs (off + 0)) | .mp l g off => some (.mp l g (off + 0)) | _ => none) := by cases x <;> kernel_rfl
@[simp] theorem fld159_1 (x : AV) : fieldAddrA Tryz.prog 159 x 1 = (match x with | .fp cs off => some (.fp cs (off + 1)) | .mp l g off => some (.mp l g (off + 1)) | _ => none) := by cases x <;> kernel_rfl
@[simp] theorem fld159_2 (x : AV) : fieldAddrA Tryz.prog 159 x 2 = (match x with | .fp cs off => some (.fp cs (off + 2)) | .mp l g off => some (.mp l g (off + 2)) | _ => none) := by cases x <;> kernel_rfl
@[simp] theorem fld159_3 (x : AV) : fieldAddrA Tryz.prog 159 x 3 = (match x with | .fp cs off => some (.fp cs (off + 3)) | .mp l g off => some (.mp l g (off + 3)) | _ => none) := by cases x <;> kernel_rfl
@[simp] theorem agg160 : isAggT Tryz.prog 160 = some true := by kernel_rfl
@[simp] theorem size160 : sizeT Tryz.prog 160 = some 4 := by kernel_rfl
@[simp] theorem zero160 : zeroA Tryz.prog 160 = some [.sc (.pointer none), .sc (.pointer none), .sc (.pointer none), .sc (.string ⟨#[]⟩)] := by kernel_rfl
@[simp] theorem bytes160 : bytesT Tryz.prog 160 = some 40 := by kernel_rfl
@[simp] theorem conc160 : Tryz.prog.concrete 160 = true := by kernel_rfl
@[simp] theorem places160 : placesT Tryz.prog 160 = some [(0, 1), (1, 1), (2, 1), (3, 1)] := by kernel_rfl
@[simp] theorem eqg160 : Tryz.prog.eqGuardType Tryz.prog.depth 160 = false := by kernel_rfl
@[simp] theorem fld160_0 (x : AV) : fieldAddrA Tryz.prog 160 x 0 = (match x with | .fp cs off => some (.fp cs (off + 0)) | .mp l g off => some (.mp l g (off + 0)) | _ => none) := by cases x <;> kernel_rfl
@[simp] theorem fld160_1 (x : AV) : fieldAddrA Tryz.prog 160 x 1 = (match x with | .fp cs off => some (.fp cs (off + 1)) | .mp l g off => some (.mp l g (off + 1)) | _ => none) := by cases x <;> kernel_rfl
@[simp] theorem fld160_2 (x : AV) : fieldAddrA Tryz.prog 160 x 2 = (match x with | .fp cs off => some (.fp cs (off + 2)) | .mp l g off => some (.mp l g (off + 2)) | _ => none) := by cases x <;> kernel_rfl
@[simp] theorem fld160_3 (x : AV) : fieldAddrA Tryz.prog 160 x 3 = (match x with | .fp cs off => some (.fp cs (off + 3)) | .mp l g off => some (.mp l g (off + 3)) | _ => none) := by cases x <;> kernel_rfl
@[simp] theorem agg164 : isAggT Tryz.prog 164 = some false := by kernel_rfl
@[simp] theorem size164 : sizeT Tryz.prog 164 = some 1 := by kernel_rfl
@[simp] theorem zero164 : zeroA Tryz.prog 164 = some [.sc (.int .u8 0)] := by kernel_rfl
@[simp] theorem bytes164 : bytesT Tryz.prog 164 = some 1 := by kernel_rfl
@[simp] theorem conc164 : Tryz.prog.concrete 164 = true := by kernel_rfl
@[simp] theorem slc164 : notIntT Tryz.prog 164 = false := by kernel_rfl
@[simp] theorem int164 : intT Tryz.prog 164 = true := by kernel_rfl
@[simp] theorem agg165 : isAggT Tryz.prog 165 = some false := by kernel_rfl
@[simp] theorem size165 : sizeT Tryz.prog 165 = some 1 := by kernel_rfl
@[simp] theorem zero165 : zeroA Tryz.prog 165 = some [.sc (.int .u8 0)] := by kernel_rfl
@[simp] theorem bytes165 : bytesT Tryz.prog 165 = some 1 := by kernel_rfl
@[simp] theorem conc165 : Tryz.prog.concrete 165 = true := by kernel_rfl
@[simp] theorem slc165 : notIntT Tryz.prog 165 = false := by kernel_rfl
@[simp] theorem int165 : intT Tryz.prog 165 = true := by kernel_rfl
@[simp] theorem agg166 : isAggT Tryz.prog 166 = some false := by kernel_rfl
@[simp] theorem size166 : sizeT Tryz.prog 166 = some 1 := by kernel_rfl
@[simp] theorem zero166 : zeroA Tryz.prog 166 = some [.sc .nilFunc] := by kernel_rfl
@[simp] theorem bytes166 : bytesT Tryz.prog 166 = some 8 := by kernel_rfl
@[simp] theorem conc166 : Tryz.prog.concrete 166 = true := by kernel_rfl
@[simp] theorem agg167 : isAggT Tryz.prog 167 = some false := by kernel_rfl
@[simp] theorem size167 : sizeT Tryz.prog 167 = some 1 := by kernel_rfl
@[simp] theorem zero167 : zeroA Tryz.prog 167 = some [.sc (.int .i32 0)] := by kernel_rfl
@[simp] theorem bytes167 : bytesT Tryz.prog 167 = some 4 := by kernel_rfl
@[simp] theorem conc167 : Tryz.prog.concrete 167 = true := by kernel_rfl
@[simp] theorem slc167 : notIntT Tryz.prog 167 = false := by kernel_rfl
@[simp] theorem int167 : intT Tryz.prog 167 = true := by kernel_rfl
@[simp] theorem agg168 : isAggT Tryz.prog 168 = some false := by kernel_rfl
@[simp] theorem size168 : sizeT Tryz.prog 168 = some 1 := by kernel_rfl
@[simp] theorem zero168 : zeroA Tryz.prog 168 = some [.sc (.int .i32 0)] := by kernel_rfl
@[simp] theorem bytes168 : bytesT Tryz.prog 168 = some 4 := by kernel_rfl
@[simp] theorem conc168 : Tryz.prog.concrete 168 = true := by kernel_rfl
@[simp] theorem slc168 : notIntT Tryz.prog 168 = false := by kernel_rfl
@[simp] theorem int168 : intT Tryz.prog 168 = true := by kernel_rfl
@[simp] theorem agg169 : isAggT Tryz.prog 169 = some true := by kernel_rfl
@[simp] theorem size169 : sizeT Tryz.prog 169 = some 11 := by kernel_rfl
@[simp] theorem zero169 : zeroA Tryz.prog 169 = some [.sc (.int .u64 0), .sc (.int .u64 0), .sc (.int .u32 0), .sc (.int .u8 0), .sc (.int .u8 0), .sc (.int .u8 0), .sc (.int .u8 0), .sc .nilFunc, .sc (.pointer none), .sc (.int .i32 0), .sc (.int .i32 0)] := by kernel_rfl
@[simp] theorem bytes169 : bytesT Tryz.prog 169 = some 48 := by kernel_rfl
@[simp] theorem conc169 : Tryz.prog.concrete 169 = true := by kernel_rfl
@[simp] theorem places169 : placesT Tryz.prog 169 = some [(0, 1), (1, 1), (2, 1), (3, 1), (4, 1), (5, 1), (6, 1), (7, 1), (8, 1), (9, 1), (10, 1)] := by kernel_rfl
@[simp] theorem eqg169 : Tryz.prog.eqGuardType Tryz.prog.depth 169 = false := by kernel_rfl
@[simp] theorem fld169_0 (x : AV) : fieldAddrA Tryz.prog 169 x 0 = (match x with | .fp cs off => some (.fp cs (off + 0)) | .mp l g off => some (.mp l g (off + 0)) | _ => none) := by cases x <;> kernel_rfl
@[simp] theorem fld169_1 (x : AV) : fieldAddrA Tryz.prog 169 x 1 = (match x with | .fp cs off => some (.fp cs (off + 1)) | .mp l g off => some (.mp l g (off + 1)) | _ => none) := by cases x <;> kernel_rfl
@[simp] theorem fld169_2 (x : AV) : fieldAddrA Tryz.prog 169 x 2 = (match x with | .fp cs off => some (.fp cs (off + 2)) | .mp l g off => some (.mp l g (off + 2)) | _ => none) := by cases x <;> kernel_rfl
@[simp] theorem fld169_3 (x : AV) : fieldAddrA Tryz.prog 169 x 3 = (match x with | .fp cs off => some (.fp cs (off + 3)) | .mp l g off => some (.mp l g (off + 3)) | _ => none) := by cases x <;> kernel_rfl
@[simp] theorem fld169_4 (x : AV) : fieldAddrA Tryz.prog 169 x 4 = (match x with | .fp cs off => some (.fp cs (off + 4)) | .mp l g off => some (.mp l g (off + 4)) | _ => none) := by cases x <;> kernel_rfl
@[simp] theorem fld169_5 (x : AV) : fieldAddrA Tryz.prog 169 x 5 = (match x with | .fp cs off => some (.fp cs (off + 5)) | .mp l g off => some (.mp l g (off + 5)) | _ => none) := by cases x <;> kernel_rfl
@[simp] theorem fld169_6 (x : AV) : fieldAddrA Tryz.prog 169 x 6 = (match x with | .fp cs off => some (.fp cs (off + 6)) | .mp l g off => some (.mp l g (off + 6)) | _ => none) := by cases x <;> kernel_rfl
@[simp] theorem fld169_7 (x : AV) : fieldAddrA Tryz.prog 169 x 7 = (match x with | .fp cs off => some (.fp cs (off + 7)) | .mp l g off => some (.mp l g (off + 7)) | _ => none) := by cases x <;> kernel_rfl
@[simp] theorem fld169_8 (x : AV) : fieldAddrA Tryz.prog 169 x 8 = (match x with | .fp cs off => some (.fp cs (off + 8)) | .mp l g off => some (.mp l g (off + 8)) | _ => none) := by cases x <;> kernel_rfl
@[simp] theorem fld169_9 (x : AV) : fieldAddrA Tryz.prog 169 x 9 = (match x with | .fp cs off => some (.fp cs (off + 9)) | .mp l g off => some (.mp l g (off + 9)) | _ => none) := by cases x <;> kernel_rfl
@[simp] theorem fld169_10 (x : AV) : fieldAddrA Tryz.prog 169 x 10 = (match x with | .fp cs off => some (.fp cs (off + 10)) | .mp l g off => some (.mp l g (off + 10)) | _ => none) := by cases x <;> kernel_rfl
@[simp] theorem agg170 : isAggT Tryz.prog 170 = some true := by kernel_rfl
@[simp] theorem size170 : sizeT Tryz.prog 170 = some 11 := by kernel_rfl
@[simp] theorem zero170 : zeroA Tryz.prog 170 = some [.sc (.int .u64 0), .sc (.int .u64 0), .sc (.int .u32 0), .sc (.int .u8 0), .sc (.int .u8 0), .sc (.int .u8 0), .sc (.int .u8 0), .sc .nilFunc, .sc (.pointer none), .sc (.int .i32 0), .sc (.int .i32 0)] := by kernel_rfl
@[simp] theorem bytes170 : bytesT Tryz.prog 170 = some 48 := by kernel_rfl
@[simp] theorem conc170 : Tryz.prog.concrete 170 = true := by kernel_rfl
@[simp] theorem places170 : placesT Tryz.prog 170 = some [(0, 1), (1, 1), (2, 1), (3, 1), (4, 1), (5, 1), (6, 1), (7, 1), (8, 1), (9, 1), (10, 1)] := by kernel_rfl
@[simp] theorem eqg170 : Tryz.prog.eqGuardType Tryz.prog.depth 170 = false := by kernel_rfl
@[simp] theorem fld170_0 (x : AV) : fieldAddrA Tryz.prog 170 x 0 = (match x with | .fp cs off => some (.fp cs (off + 0)) | .mp l g off => some (.mp l g (off + 0)) | _ => none) := by cases x <;> kernel_rfl
@[simp] theorem fld170_1 (x : AV) : fieldAddrA Tryz.prog 170 x 1 = (match x with | .fp cs off => some (.fp cs (off + 1)) | .mp l g off => some (.mp l g (off + 1)) | _ => none) := by cases x <;> kernel_rfl
@[simp] theorem fld170_2 (x : AV) : fieldAddrA Tryz.prog 170 x 2 = (match x with | .fp cs off => some (.fp cs (off + 2)) | .mp l g off => some (.mp l g (off + 2)) | _ => none) := by cases x <;> kernel_rfl
@[simp] theorem fld170_3 (x : AV) : fieldAddrA Tryz.prog 170 x 3 = (match x with | .fp cs off => some (.fp cs (off + 3)) | .mp l g off => some (.mp l g (off + 3)) | _ => none) := by cases x <;> kernel_rfl
@[simp] theorem fld170_4 (x : AV) : fieldAddrA Tryz.prog 170 x 4 = (match x with | .fp cs off => some (.fp cs (off + 4)) | .mp l g off => some (.mp l g (off + 4)) | _ => none) := by cases x <;> kernel_rfl
@[simp] theorem fld170_5 (x : AV) : fieldAddrA Tryz.prog 170 x 5 = (match x with | .fp cs off => some (.fp cs (off + 5)) | .mp l g off => some (.mp l g (off + 5)) | _ => none) := by cases x <;> kernel_rfl
@[simp] theorem fld170_6 (x : AV) : fieldAddrA Tryz.prog 170 x 6 = (match x with | .fp cs off => some (.fp cs (off + 6)) | .mp l g off => some (.mp l g (off + 6)) | _ => none) := by cases x <;> kernel_rfl
@[simp] theorem fld170_7 (x : AV) : fieldAddrA Tryz.prog 170 x 7 = (match x with | .fp cs off => some (.fp cs (off + 7)) | .mp l g off => some (.mp l g (off + 7)) | _ => none) := by cases x <;> kernel_rfl
@[simp] theorem fld170_8 (x : AV) : fieldAddrA Tryz.prog 170 x 8 = (match x with | .fp cs off => some (.fp cs (off + 8)) | .mp l g off => some (.mp l g (off + 8)) | _ => none) := by cases x <;> kernel_rfl
@[simp] theorem fld170_9 (x : AV) : fieldAddrA Tryz.prog 170 x 9 = (match x with | .fp cs off => some (.fp cs (off + 9)) | .mp l g off => some (.mp l g (off + 9)) | _ => none) := by cases x <;> kernel_rfl
@[simp] theorem fld170_10 (x : AV) : fieldAddrA Tryz.prog 170 x 10 = (match x with | .fp cs off => some (.fp cs (off + 10)) | .mp l g off => some (.mp l g (off + 10)) | _ => none) := by cases x <;> kernel_rfl
@[simp] theorem agg171 : isAggT Tryz.prog 171 = some false := by kernel_rfl
@[simp] theorem size171 : sizeT Tryz.prog 171 = some 1 := by kernel_rfl
@[simp] theorem zero171 : zeroA Tryz.prog 171 = some [.sc .nilFunc] := by kernel_rfl
@[simp] theorem bytes171 : bytesT Tryz.prog 171 = some 8 := by kernel_rfl
@[simp] theorem conc171 : Tryz.prog.concrete 171 = true := by kernel_rfl
attribute [simp] Tryz.underlying1 Tryz.underlying2 Tryz.underlying3 Tryz.underlying4 Tryz.underlying5 Tryz.underlying6 Tryz.underlying7 Tryz.underlying8 Tryz.underlying9 Tryz.underlying10 Tryz.underlying11 Tryz.underlying12 Tryz.underlying13 Tryz.underlying14 Tryz.underlying15 Tryz.underlying16 Tryz.underlying17 Tryz.underlying18 Tryz.underlying19 Tryz.underlying20 Tryz.underlying21 Tryz.underlying22 Tryz.underlying23 Tryz.underlying24 Tryz.underlying25 Tryz.underlying26 Tryz.underlying27 Tryz.underlying29 Tryz.underlying31 Tryz.underlying32 Tryz.underlying33 Tryz.underlying34 Tryz.underlying35 Tryz.underlying36 Tryz.underlying37 Tryz.underlying38 Tryz.underlying39 Tryz.underlying40 Tryz.underlying41 Tryz.underlying42 Tryz.underlying43 Tryz.underlying45 Tryz.underlying46 Tryz.underlying48 Tryz.underlying49 Tryz.underlying50 Tryz.underlying52 Tryz.underlying53 Tryz.underlying54 Tryz.underlying55 Tryz.underlying56 Tryz.underlying57 Tryz.underlying58 Tryz.underlying59 Tryz.underlying60 Tryz.underlying61 Tryz.underlying62 Tryz.underlying63 Tryz.underlying64 Tryz.underlying66 Tryz.underlying67 Tryz.underlying68 Tryz.underlying69 Tryz.underlying70 Tryz.underlying71 Tryz.underlying72 Tryz.underlying73 Tryz.underlying74 Tryz.underlying75 Tryz.underlying76 Tryz.underlying77 Tryz.underlying78 Tryz.underlying79 Tryz.underlying80 Tryz.underlying81 Tryz.underlying82 Tryz.underlying83 Tryz.underlying84 Tryz.underlying86 Tryz.underlying87 Tryz.underlying88 Tryz.underlying89 Tryz.underlying90 Tryz.underlying91 Tryz.underlying92 Tryz.underlying93 Tryz.underlying95 Tryz.underlying96 Tryz.underlying97 Tryz.underlying98 Tryz.underlying99 Tryz.underlying100 Tryz.underlying101 Tryz.underlying102 Tryz.underlying103 Tryz.underlying104 Tryz.underlying105 Tryz.underlying106 Tryz.underlying107 Tryz.underlying108 Tryz.underlying109 Tryz.underlying110 Tryz.underlying111 Tryz.underlying112 Tryz.underlying113 Tryz.underlying114 Tryz.underlying116 Tryz.underlying117 Tryz.underlying118 Tryz.underlying119 Tryz.underlying120 Tryz.underlying121 Tryz.underlying122 Tryz.underlying123 Tryz.underlying124 Tryz.underlying125 Tryz.underlying126 Tryz.underlying127 Tryz.underlying128 Tryz.underlying129 Tryz.underlying130 Tryz.underlying132 Tryz.underlying133 Tryz.underlying134 Tryz.underlying135 Tryz.underlying136 Tryz.underlying137 Tryz.underlying138 Tryz.underlying139 Tryz.underlying140 Tryz.underlying141 Tryz.underlying142 Tryz.underlying143 Tryz.underlying144 Tryz.underlying145 Tryz.underlying146 Tryz.underlying147 Tryz.underlying148 Tryz.underlying149 Tryz.underlying150 Tryz.underlying151 Tryz.underlying152 Tryz.underlying153 Tryz.underlying155 Tryz.underlying156 Tryz.underlying158 Tryz.underlying159 Tryz.underlying160 Tryz.underlying164 Tryz.underlying165 Tryz.underlying166 Tryz.underlying167 Tryz.underlying168 Tryz.underlying169 Tryz.underlying170 Tryz.underlying171
@[simp] theorem good2 : goodF Tryz.prog 2 = true := by kernel_rfl
@[simp] theorem good3 : goodF Tryz.prog 3 = true := by kernel_rfl
@[simp] theorem good4 : goodF Tryz.prog 4 = true := by kernel_rfl
@[simp] theorem good5 : goodF Tryz.prog 5 = true := by kernel_rfl
@[simp] theorem good6 : goodF Tryz.prog 6 = true := by kernel_rfl
@[simp] theorem good7 : goodF Tryz.prog 7 = true := by kernel_rfl
@[simp] theorem good8 : goodF Tryz.prog 8 = true := by kernel_rfl
@[simp] theorem good9 : goodF Tryz.prog 9 = true := by kernel_rfl
@[simp] theorem good10 : goodF Tryz.prog 10 = true := by kernel_rfl
@[simp] theorem good11 : goodF Tryz.prog 11 = true := by kernel_rfl
@[simp] theorem good12 : goodF Tryz.prog 12 = true := by kernel_rfl
@[simp] theorem good13 : goodF Tryz.prog 13 = true := by kernel_rfl
@[simp] theorem good14 : goodF Tryz.prog 14 = true := by kernel_rfl
@[simp] theorem good15 : goodF Tryz.prog 15 = true := by kernel_rfl
@[simp] theorem good16 : goodF Tryz.prog 16 = true := by kernel_rfl
@[simp] theorem good17 : goodF Tryz.prog 17 = true := by kernel_rfl
@[simp] theorem good18 : goodF Tryz.prog 18 = true := by kernel_rfl
@[simp] theorem good19 : goodF Tryz.prog 19 = true := by kernel_rfl
@[simp] theorem good20 : goodF Tryz.prog 20 = true := by kernel_rfl
@[simp] theorem good21 : goodF Tryz.prog 21 = true := by kernel_rfl
@[simp] theorem good22 : goodF Tryz.prog 22 = true := by kernel_rfl
@[simp] theorem good23 : goodF Tryz.prog 23 = true := by kernel_rfl
@[simp] theorem good24 : goodF Tryz.prog 24 = true := by kernel_rfl
@[simp] theorem good25 : goodF Tryz.prog 25 = true := by kernel_rfl
@[simp] theorem good26 : goodF Tryz.prog 26 = true := by kernel_rfl
@[simp] theorem good27 : goodF Tryz.prog 27 = true := by kernel_rfl
@[simp] theorem good28 : goodF Tryz.prog 28 = true := by kernel_rfl
@[simp] theorem good29 : goodF Tryz.prog 29 = true := by kernel_rfl
@[simp] theorem good30 : goodF Tryz.prog 30 = true := by kernel_rfl
@[simp] theorem good31 : goodF Tryz.prog 31 = true := by kernel_rfl
@[simp] theorem good32 : goodF Tryz.prog 32 = true := by kernel_rfl
@[simp] theorem good33 : goodF Tryz.prog 33 = true := by kernel_rfl
@[simp] theorem good34 : goodF Tryz.prog 34 = true := by kernel_rfl
@[simp] theorem good35 : goodF Tryz.prog 35 = true := by kernel_rfl
@[simp] theorem good36 : goodF Tryz.prog 36 = true := by kernel_rfl
@[simp] theorem good37 : goodF Tryz.prog 37 = true := by kernel_rfl
@[simp] theorem good38 : goodF Tryz.prog 38 = true := by kernel_rfl
@[simp] theorem good39 : goodF Tryz.prog 39 = true := by kernel_rfl
@[simp] theorem good40 : goodF Tryz.prog 40 = true := by kernel_rfl
@[simp] theorem good41 : goodF Tryz.prog 41 = true := by kernel_rfl
@[simp] theorem good42 : goodF Tryz.prog 42 = true := by kernel_rfl
@[simp] theorem good43 : goodF Tryz.prog 43 = true := by kernel_rfl
@[simp] theorem good44 : goodF Tryz.prog 44 = true := by kernel_rfl
@[simp] theorem good45 : goodF Tryz.prog 45 = true := by kernel_rfl
@[simp] theorem good46 : goodF Tryz.prog 46 = true := by kernel_rfl
@[simp] theorem good47 : goodF Tryz.prog 47 = true := by kernel_rfl
@[simp] theorem good48 : goodF Tryz.prog 48 = true := by kernel_rfl
@[simp] theorem good49 : goodF Tryz.prog 49 = true := by kernel_rfl
@[simp] theorem good50 : goodF Tryz.prog 50 = true := by kernel_rfl
@[simp] theorem good51 : goodF Tryz.prog 51 = true := by kernel_rfl
@[simp] theorem good52 : goodF Tryz.prog 52 = true := by kernel_rfl
@[simp] theorem good53 : goodF Tryz.prog 53 = true := by kernel_rfl
@[simp] theorem good54 : goodF Tryz.prog 54 = true := by kernel_rfl
@[simp] theorem good55 : goodF Tryz.prog 55 = true := by kernel_rfl
@[simp] theorem good56 : goodF Tryz.prog 56 = true := by kernel_rfl
@[simp] theorem good57 : goodF Tryz.prog 57 = true := by kernel_rfl
@[simp] theorem good58 : goodF Tryz.prog 58 = true := by kernel_rfl
@[simp] theorem good59 : goodF Tryz.prog 59 = true := by kernel_rfl
@[simp] theorem good60 : goodF Tryz.prog 60 = true := by kernel_rfl
@[simp] theorem good61 : goodF Tryz.prog 61 = true := by kernel_rfl
@[simp] theorem good62 : goodF Tryz.prog 62 = true := by kernel_rfl
@[simp] theorem good63 : goodF Tryz.prog 63 = true := by kernel_rfl
@[simp] theorem good64 : goodF Tryz.prog 64 = true := by kernel_rfl
@[simp] theorem good66 : goodF Tryz.prog 66 = true := by kernel_rfl
@[simp] theorem good67 : goodF Tryz.prog 67 = true := by kernel_rfl
@[simp] theorem good68 : goodF Tryz.prog 68 = true := by kernel_rfl
@[simp] theorem good69 : goodF Tryz.prog 69 = true := by kernel_rfl
@[simp] theorem good70 : goodF Tryz.prog 70 = true := by kernel_rfl
@[simp] theorem good71 : goodF Tryz.prog 71 = true := by kernel_rfl
@[simp] theorem good72 : goodF Tryz.prog 72 = true := by kernel_rfl
@[simp] theorem good73 : goodF Tryz.prog 73 = true := by kernel_rfl
@[simp] theorem good74 : goodF Tryz.prog 74 = true := by kernel_rfl
@[simp] theorem good75 : goodF Tryz.prog 75 = true := by kernel_rfl
@[simp] theorem good76 : goodF Tryz.prog 76 = true := by kernel_rfl
@[simp] theorem good77 : goodF Tryz.prog 77 = true := by kernel_rfl
@[simp] theorem good78 : goodF Tryz.prog 78 = true := by kernel_rfl
@[simp] theorem good79 : goodF Tryz.prog 79 = true := by kernel_rfl
@[simp] theorem good80 : goodF Tryz.prog 80 = true := by kernel_rfl
@[simp] theorem good81 : goodF Tryz.prog 81 = true := by kernel_rfl
@[simp] theorem good82 : goodF Tryz.prog 82 = true := by kernel_rfl
@[simp] theorem good83 : goodF Tryz.prog 83 = true := by kernel_rfl
@[simp] theorem good84 : goodF Tryz.prog 84 = true := by kernel_rfl
@[simp] theorem good85 : goodF Tryz.prog 85 = true := by kernel_rfl
@[simp] theorem good86 : goodF Tryz.prog 86 = true := by kernel_rfl
@[simp] theorem good87 : goodF Tryz.prog 87 = true := by kernel_rfl
@[simp] theorem good88 : goodF Tryz.prog 88 = true := by kernel_rfl
@[simp] theorem good89 : goodF Tryz.prog 89 = true := by kernel_rfl
@[simp] theorem good90 : goodF Tryz.prog 90 = true := by kernel_rfl
@[simp] theorem good91 : goodF Tryz.prog 91 = true := by kernel_rfl
@[simp] theorem good92 : goodF Tryz.prog 92 = true := by kernel_rfl
@[simp] theorem good93 : goodF Tryz.prog 93 = true := by kernel_rfl
@[simp] theorem good94 : goodF Tryz.prog 94 = true := by kernel_rfl
@[simp] theorem good95 : goodF Tryz.prog 95 = true := by kernel_rfl
@[simp] theorem good96 : goodF Tryz.prog 96 = true := by kernel_rfl
@[simp] theorem good98 : goodF Tryz.prog 98 = true := by kernel_rfl
@[simp] theorem good115 : goodF Tryz.prog 115 = true := by kernel_rfl
@[simp] theorem good116 : goodF Tryz.prog 116 = true := by kernel_rfl
@[simp] theorem good117 : goodF Tryz.prog 117 = true := by kernel_rfl
@[simp] theorem good118 : goodF Tryz.prog 118 = true := by kernel_rfl
@[simp] theorem good119 : goodF Tryz.prog 119 = true := by kernel_rfl
@[simp] theorem good120 : goodF Tryz.prog 120 = true := by kernel_rfl
@[simp] theorem good122 : goodF Tryz.prog 122 = true := by kernel_rfl
@[simp] theorem mixed : Tryz.prog.follows .mixedOrders = true := by kernel_rfl
end Go.Proofs.YtemijcjgdgdhjabGreat
