/- The reference of nodes: Fits, Same. -/
import Derived.Test.YticpnfgiidljlaaGreatWt
import Derived.Test.YticpnfgiidljlaaGreatLc
import Derived.Test.YticpnfgiidljlaaGreatNj
import Derived.Test.YticpnfgiidljlaaGreatNk
import Derived.Test.YticpnfgiidljlaaGreatNl
import Derived.Test.YticpnfgiidljlaaGreatWap
import Derived.Test.YticpnfgiidljlaaGreatEj
import Derived.Test.YticpnfgiidljlaaGreatWmh
namespace Go.Proofs.YticpnfgiidljlaaGreat
open Go.RowKit
set_option linter.unusedSimpArgs false
set_option maxRecDepth 10000
end Go.Proofs.YticpnfgiidljlaaGreat
namespace Go.Proofs.YticpnfgiidljlaaGreat
open Go.RowKit
set_option linter.unusedSimpArgs false
set_option maxRecDepth 10000
@[simp] theorem take_cM (m : Msg) : List.take 3 (cM m) = cM m := rfl
@[simp] theorem wrM (a b c : AV) (m : Msg) : wr [a, b, c] 0 (cM m) = cM m := rfl
end Go.Proofs.YticpnfgiidljlaaGreat
namespace Go.Proofs.YticpnfgiidljlaaGreat
open Go.RowKit
set_option linter.unusedSimpArgs false
set_option linter.unusedVariables false
set_option maxRecDepth 10000
/-- An inner node of the reference's, as cells. -/
def cN3 (k : List Int) (p : List Str) (m : List Msg) : List AV := [.fs (flatN k) k.length, .fs (flatS p) p.length, .fs (flatM m) m.length]
@[simp] theorem cN3_flat (k : List Int) (p : List Str) (m : List Msg) : flatL (cN3 k p m) = true := by simp [cN3, flatL, AV.flat]
end Go.Proofs.YticpnfgiidljlaaGreat
namespace Go.Proofs.YticpnfgiidljlaaGreat
open Go.RowKit
set_option linter.unusedSimpArgs false
set_option maxRecDepth 10000
end Go.Proofs.YticpnfgiidljlaaGreat
namespace Go.Proofs.YticpnfgiidljlaaGreat
open Go.RowKit
set_option linter.unusedSimpArgs false
set_option linter.unusedVariables false
set_option maxRecDepth 10000
/-- A node of the reference's, as cells. -/
def cN5 (b : Bool) (o : List Item) (k : List Int) (p : List Str) (m : List Msg) : List AV := [.sc (.bool b), .fs (flatI o) o.length, .fs (flatN k) k.length, .fs (flatS p) p.length, .fs (flatM m) m.length]
@[simp] theorem cN5_flat (b : Bool) (o : List Item) (k : List Int) (p : List Str) (m : List Msg) : flatL (cN5 b o k p m) = true := by simp [cN5, flatL, AV.flat]
end Go.Proofs.YticpnfgiidljlaaGreat
