/- Rows of runs, as arguments. -/
import Derived.Test.YtemijcjgdgdhjabGreatOpi
import Derived.Test.YtemijcjgdgdhjabGreatWm3
namespace Go.Proofs.YtemijcjgdgdhjabGreat
open Go.ChangeShapes Go.WideShapes Go.Deep Go.RowKit
theorem typ_run {m : Nat} {ys : List AV} (hy : TypA Tryz.prog m 34 ys) : ∃ l : { l : List Msg // l.length ≤ 9223372036854775807 }, ys = cX l.1 := by
  obtain ⟨cells, len, rfl⟩ := typ_slc Tryz.underlying34 (cells_pos (k := 2) (by kernel_rfl)) hy
  obtain ⟨a, ha, hl⟩ := typ_msgs hy
  exact ⟨⟨a, hl⟩, by rw [ha]; rfl⟩
theorem typ_runs {n : Nat} {x : AV} (h : TypA Tryz.prog n 23 [x]) : ∃ rs : List (List Msg), x = .fs (flatX rs) rs.length ∧ rs.length ≤ 9223372036854775807 ∧ ∀ l ∈ rs, l.length ≤ 9223372036854775807 := by
  obtain ⟨l, rfl, hl⟩ := typ_rows (α := { l : List Msg // l.length ≤ 9223372036854775807 }) (c := fun l => cX l.1) Tryz.underlying23 (cells_pos (k := 0) (by kernel_rfl)) h fun _ _ => typ_run
  refine ⟨l.map (·.1), by simp [flatX, flatC, List.flatMap_map], by simpa using hl, fun q hq => ?_⟩
  obtain ⟨a, _, rfl⟩ := List.mem_map.1 hq
  exact a.2
end Go.Proofs.YtemijcjgdgdhjabGreat
