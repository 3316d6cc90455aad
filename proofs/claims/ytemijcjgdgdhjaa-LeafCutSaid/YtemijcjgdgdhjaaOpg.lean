/- A range, as an argument. -/
import Derived.Test.YtemijcjgdgdhjaaOpr
import Derived.Test.YtemijcjgdgdhjaaWg
namespace Go.Proofs.Ytemijcjgdgdhjaa
open Go.ChangeShapes Go.WideShapes Go.Deep Go.RowKit
theorem typ_range {n : Nat} {ys : List AV} (h : TypA Try.prog n 24 ys) : ∃ r : Str × Str, ys = cR r := by
  obtain ⟨m, L, rfl, hL, hf⟩ := typ_struct Try.underlying24 h
  match L, hL with
  | [y0, y1], _ =>
    obtain ⟨s1, rfl⟩ := typ_str Try.underlying9 (hf 0 _ y0 rfl rfl)
    obtain ⟨s2, rfl⟩ := typ_str Try.underlying9 (hf 1 _ y1 rfl rfl)
    exact ⟨(s1, s2), rfl⟩
end Go.Proofs.Ytemijcjgdgdhjaa
