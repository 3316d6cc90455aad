/- Buffers: sort, Take, Without, Same. -/
import Derived.Test.YticpnfgiidljlaaGreatWw
import Derived.Test.YticpnfgiidljlaaGreatLc
namespace Go.Proofs.YticpnfgiidljlaaGreat
open Go.RowKit
set_option linter.unusedSimpArgs false
set_option maxRecDepth 10000
@[simp] theorem oneM2 (m : Msg) : wr (zerosA [AV.sc (Value.int IntKind.i64 0), AV.sc (Value.string { data := #[] }), AV.sc (Value.string { data := #[] })] 3) 0 (cM m) = cM m := rfl
theorem msg_ext {a b : Msg} (h1 : a.kind = b.kind) (h2 : a.key = b.key) (h3 : a.val = b.val) : a = b := by cases a; cases b; simp_all
end Go.Proofs.YticpnfgiidljlaaGreat
