/- Buffers: sort, Take, Without, Same. -/
import Derived.Test.YtejgopcicenbeaaGreatWw
import Derived.Test.YtejgopcicenbeaaGreatLc
namespace Go.Proofs.YtejgopcicenbeaaGreat
open Go.RowKit
set_option linter.unusedSimpArgs false
set_option maxRecDepth 10000
@[simp] theorem oneM2 (m : Msg) : wr (zerosA [AV.sc (Value.int IntKind.i64 0), AV.sc (Value.string { data := #[] }), AV.sc (Value.string { data := #[] })] 3) 0 (cM m) = cM m := rfl
end Go.Proofs.YtejgopcicenbeaaGreat
