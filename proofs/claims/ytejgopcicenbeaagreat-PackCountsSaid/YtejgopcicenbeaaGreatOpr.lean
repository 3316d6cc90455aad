/- Arguments' types: messages, texts. -/
import Derived.Test.YtejgopcicenbeaaGreatOpq
import Derived.Test.YtejgopcicenbeaaGreatWap
namespace Go.Proofs.YtejgopcicenbeaaGreat
open Go.ChangeShapes Go.WideShapes Go.Deep Go.RowKit
end Go.Proofs.YtejgopcicenbeaaGreat
