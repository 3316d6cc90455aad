/- A message put into a buffer that is still made. -/
import Derived.Test.YtejgopcicenbeaaGreatWi
namespace Go.Proofs.YtejgopcicenbeaaGreat
open Go.RowKit
set_option linter.unusedSimpArgs false
set_option maxRecDepth 10000
end Go.Proofs.YtejgopcicenbeaaGreat
