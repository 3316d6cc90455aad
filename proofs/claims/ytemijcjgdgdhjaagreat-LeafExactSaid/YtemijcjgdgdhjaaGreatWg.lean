/- Ranges: Meet, Cut. -/
import Derived.Test.YtemijcjgdgdhjaaGreatWap
import Derived.Test.YtemijcjgdgdhjaaGreatLc
namespace Go.Proofs.YtemijcjgdgdhjaaGreat
open Go.RowKit
set_option linter.unusedSimpArgs false
set_option maxRecDepth 10000
/-- A range, as cells. -/
def cR (r : Str × Str) : List AV := [.sc (.string r.1), .sc (.string r.2)]
def flatR (l : List (Str × Str)) : List AV := flatC cR l
@[simp] theorem cR_flat (r : Str × Str) : flatL (cR r) = true := rfl
@[simp] theorem cR_one (r : Str × Str) : (cR r).all AV.one = true := rfl
@[simp] theorem take_cR (r : Str × Str) : List.take 2 (cR r) = cR r := rfl
@[simp] theorem wrR (a b : AV) (m : Str × Str) : wr [a, b] 0 (cR m) = cR m := rfl
@[simp] theorem wrR2 (a b : AV) (m : Str × Str) : wr (zerosA [a, b] 2) 0 (cR m) = cR m := rfl
@[simp] theorem cR_length (m : Str × Str) : (cR m).length = 2 := rfl
@[simp] theorem flatR_length (l : List (Str × Str)) : (flatR l).length = l.length * 2 := flatC_length cR_length l
@[simp] theorem flatR_flat (l : List (Str × Str)) : flatL (flatR l) = true := flatC_flat (fun _ => rfl) l
@[simp] theorem flatR_one (l : List (Str × Str)) : (flatR l).all AV.one = true := flatC_one' (fun _ => rfl) l
end Go.Proofs.YtemijcjgdgdhjaaGreat
