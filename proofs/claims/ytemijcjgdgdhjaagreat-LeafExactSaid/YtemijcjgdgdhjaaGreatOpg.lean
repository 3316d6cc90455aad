/- A range, as an argument. -/
import Derived.Test.YtemijcjgdgdhjaaGreatOpr
import Derived.Test.YtemijcjgdgdhjaaGreatWg
namespace Go.Proofs.YtemijcjgdgdhjaaGreat
open Go.ChangeShapes Go.WideShapes Go.Deep Go.RowKit
theorem typ_range {n : Nat} {ys : List AV} (h : TypA Tryz.prog n 25 ys) : ∃ r : Str × Str, ys = cR r := by
  obtain ⟨m, L, rfl, hL, hf⟩ := typ_struct Tryz.underlying25 h
  match L, hL with
  | [y0, y1], _ =>
    obtain ⟨s1, rfl⟩ := typ_str Tryz.underlying9 (hf 0 _ y0 rfl rfl)
    obtain ⟨s2, rfl⟩ := typ_str Tryz.underlying9 (hf 1 _ y1 rfl rfl)
    exact ⟨(s1, s2), rfl⟩
end Go.Proofs.YtemijcjgdgdhjaaGreat
