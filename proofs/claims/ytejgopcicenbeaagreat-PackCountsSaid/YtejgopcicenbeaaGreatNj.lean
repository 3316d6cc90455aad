/- Inner nodes: made, Of, Len, Kids, Pivots, Buff, Same. -/
import Derived.Test.YtejgopcicenbeaaGreatNd
import Derived.Test.YtejgopcicenbeaaGreatWt
import Derived.Test.YtejgopcicenbeaaGreatWw
namespace Go.Proofs.YtejgopcicenbeaaGreat
open Go.RowKit
set_option linter.unusedSimpArgs false
set_option linter.unusedVariables false
set_option maxRecDepth 10000
def cIn (kids : List Int) (ps : List Str) (ms : List Msg) : List AV := [.fs (flatN kids) kids.length, .fs (flatS ps) ps.length, .fp (cB ms) 0]
@[simp] theorem cIn_flat (kids : List Int) (ps : List Str) (ms : List Msg) : flatL (cIn kids ps ms) = true := by simp [cIn, cB, flatL, AV.flat]
end Go.Proofs.YtejgopcicenbeaaGreat
