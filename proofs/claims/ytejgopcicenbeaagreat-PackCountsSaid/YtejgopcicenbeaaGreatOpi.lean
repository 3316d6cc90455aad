/- Rows of items, as arguments. -/
import Derived.Test.YtejgopcicenbeaaGreatOpr
namespace Go.Proofs.YtejgopcicenbeaaGreat
open Go.ChangeShapes Go.WideShapes Go.Deep Go.RowKit
end Go.Proofs.YtejgopcicenbeaaGreat
