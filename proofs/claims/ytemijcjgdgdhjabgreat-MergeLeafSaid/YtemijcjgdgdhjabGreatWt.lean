/- Buffers: sort, Take, Without, Same. -/
import Derived.Test.YtemijcjgdgdhjabGreatWi
import Derived.Test.YtemijcjgdgdhjabGreatLc
namespace Go.Proofs.YtemijcjgdgdhjabGreat
open Go.RowKit
set_option linter.unusedSimpArgs false
set_option maxRecDepth 10000
end Go.Proofs.YtemijcjgdgdhjabGreat
namespace Go.Proofs.YtemijcjgdgdhjabGreat
open Go.RowKit
set_option linter.unusedSimpArgs false
set_option maxRecDepth 10000
theorem RowAt.born {k : Nat} {σ : Sto} {v : AV} {n : Nat} {cs : List AV} (h : RowAt k σ.length σ v n cs) (o : MO) : RowAt k σ.length (σ ++ [o]) v n cs := h.append _
end Go.Proofs.YtemijcjgdgdhjabGreat
namespace Go.Proofs.YtemijcjgdgdhjabGreat
open Go.RowKit
set_option linter.unusedSimpArgs false
set_option maxRecDepth 10000
@[simp] theorem oneM2 (m : Msg) : wr (zerosA [AV.sc (Value.int IntKind.i64 0), AV.sc (Value.string { data := #[] }), AV.sc (Value.string { data := #[] })] 3) 0 (cM m) = cM m := rfl
end Go.Proofs.YtemijcjgdgdhjabGreat
