/- The references of layers 9 and 13: Same, With, Over. -/
import Derived.Test.YticpnfgiidljlaaGreatWmg
import Derived.Test.YticpnfgiidljlaaGreatLw
namespace Go.Proofs.YticpnfgiidljlaaGreat
open Go.RowKit
set_option linter.unusedSimpArgs false
set_option maxRecDepth 10000
end Go.Proofs.YticpnfgiidljlaaGreat
