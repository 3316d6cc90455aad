/- Rows of items, as arguments. -/
import Derived.Test.YtemijcjgdgdhjaaGreatOpr
namespace Go.Proofs.YtemijcjgdgdhjaaGreat
open Go.ChangeShapes Go.WideShapes Go.Deep Go.RowKit
theorem typ_item {n : Nat} {ys : List AV} (h : TypA Tryz.prog n 46 ys) : ∃ m : Item, ys = cI m := by
  obtain ⟨m, L, rfl, hL, hf⟩ := typ_struct Tryz.underlying46 h
  match L, hL with
  | [y1, y2], _ =>
    obtain ⟨s1, rfl⟩ := typ_str Tryz.underlying9 (hf 0 _ y1 rfl rfl)
    obtain ⟨s2, rfl⟩ := typ_str Tryz.underlying9 (hf 1 _ y2 rfl rfl)
    exact ⟨⟨s1, s2⟩, rfl⟩
theorem typ_items {n : Nat} {x : AV} (h : TypA Tryz.prog n 22 [x]) : ∃ l : List Item, x = .fs (flatI l) l.length ∧ l.length ≤ 9223372036854775807 := typ_rows Tryz.underlying22 (cells_pos (k := 1) (by kernel_rfl)) h fun _ _ => typ_item
end Go.Proofs.YtemijcjgdgdhjaaGreat
