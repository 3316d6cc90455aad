/- The references of pen and msg: what reads, what writes. -/
import Derived.Test.YticpnfgiidljlaaGreatNh
namespace Go.Proofs.YticpnfgiidljlaaGreat
open Go.RowKit
set_option linter.unusedSimpArgs false
set_option linter.unusedVariables false
set_option maxRecDepth 10000
theorem ofL_app (a b : List UInt8) : (ofL' a : ByteArray) ++ ofL' b = ofL' (a ++ b) := by
  apply ByteArray.ext
  apply Array.ext'
  simp [ofL', ByteArray.data_append]
end Go.Proofs.YticpnfgiidljlaaGreat
