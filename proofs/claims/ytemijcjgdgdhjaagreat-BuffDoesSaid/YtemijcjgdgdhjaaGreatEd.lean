/- Leaves: Within, half, Join. -/
import Derived.Test.YtemijcjgdgdhjaaGreatEc
namespace Go.Proofs.YtemijcjgdgdhjaaGreat
open Go.RowKit Go.Sort
set_option linter.unusedSimpArgs false
set_option maxRecDepth 10000
end Go.Proofs.YtemijcjgdgdhjaaGreat
