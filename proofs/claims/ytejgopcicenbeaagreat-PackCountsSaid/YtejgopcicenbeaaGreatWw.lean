/- Buffers with more: With, Of. -/
import Derived.Test.YtejgopcicenbeaaGreatWp
namespace Go.Proofs.YtejgopcicenbeaaGreat
open Go.RowKit
set_option linter.unusedSimpArgs false
set_option maxRecDepth 10000
theorem RowAt.born {k : Nat} {σ : Sto} {v : AV} {n : Nat} {cs : List AV} (h : RowAt k σ.length σ v n cs) (o : MO) : RowAt k σ.length (σ ++ [o]) v n cs := h.append _
end Go.Proofs.YtejgopcicenbeaaGreat
