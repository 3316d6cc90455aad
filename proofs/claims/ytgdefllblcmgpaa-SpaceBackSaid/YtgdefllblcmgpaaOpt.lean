/- Arguments' types: places, deeds, numbers, bools. -/
import Derived.Test.YtgdefllblcmgpaaOpq
import Derived.Test.YtgdefllblcmgpaaYj
namespace Go.Proofs.Ytgdefllblcmgpaa
open Go.ChangeShapes Go.WideShapes Go.Deep Go.RowKit
/-- A deed. -/
structure Act where
  kind : Int
  n : Int
  l : List Ext
  small : l.length ≤ 9223372036854775807
def cA (a : Act) : List AV := [.sc (.int .i64 a.kind), .sc (.int .i64 a.n), .fs (flatE a.l) a.l.length]
def flatA (l : List Act) : List AV := flatC cA l
@[simp] theorem cA_length (a : Act) : (cA a).length = 3 := rfl
@[simp] theorem flatA_length (l : List Act) : (flatA l).length = l.length * 3 := flatC_length cA_length l
@[simp] theorem flatA_flat (l : List Act) : flatL (flatA l) = true := flatC_flat (fun a => by simp [cA, AV.flat, flatL]) l
theorem typ_ints {n : Nat} {x : AV} (h : TypA Try.prog n 22 [x]) : ∃ l : List Int, x = .fs (flatN l) l.length ∧ l.length ≤ 9223372036854775807 := typ_rows Try.underlying22 (cells_pos (k := 0) (by kernel_rfl)) h fun _ _ h => by
  obtain ⟨z, h, _⟩ := typ_int (k := .i64) Try.underlying3 h
  exact ⟨z, h⟩
end Go.Proofs.Ytgdefllblcmgpaa
