/- The references: numbers, Apply, Then, Put, With. -/
import Derived.Test.YtemijcjgdgdhjabGreatWt
import Derived.Test.YtemijcjgdgdhjabGreatLc
namespace Go.Proofs.YtemijcjgdgdhjabGreat
open Go.RowKit
set_option linter.unusedSimpArgs false
set_option maxRecDepth 10000
end Go.Proofs.YtemijcjgdgdhjabGreat
namespace Go.Proofs.YtemijcjgdgdhjabGreat
open Go.RowKit
set_option linter.unusedSimpArgs false
set_option maxRecDepth 10000
@[simp] theorem take_cM (m : Msg) : List.take 3 (cM m) = cM m := rfl
@[simp] theorem wrM (a b c : AV) (m : Msg) : wr [a, b, c] 0 (cM m) = cM m := rfl
end Go.Proofs.YtemijcjgdgdhjabGreat
