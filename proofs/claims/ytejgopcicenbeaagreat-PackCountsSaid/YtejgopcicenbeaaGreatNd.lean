/- slices.ContainsFunc over numbers, texts and messages, at any closure. -/
import Derived.Test.YtejgopcicenbeaaGreatLw
import Derived.Test.YtejgopcicenbeaaGreatFacts
namespace Go.Proofs.YtejgopcicenbeaaGreat
open Go.RowKit
set_option linter.unusedSimpArgs false
set_option linter.unusedVariables false
set_option maxRecDepth 10000
end Go.Proofs.YtejgopcicenbeaaGreat
