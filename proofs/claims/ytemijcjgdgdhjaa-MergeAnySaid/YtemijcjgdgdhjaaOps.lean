/- Rows of runs and of items, as arguments. -/
import Derived.Test.YtemijcjgdgdhjaaOpr
import Derived.Test.YtemijcjgdgdhjaaWm3
namespace Go.Proofs.Ytemijcjgdgdhjaa
open Go.ChangeShapes Go.WideShapes Go.Deep Go.RowKit
theorem typ_slc {P : Program} {n : Nat} {t e : TypeId} {ys : List AV} (hu : P.underlying t = some (.slice e)) (hk : 0 < P.cellsOf e) (h : TypA P n t ys) : ∃ cells len, ys = [.fs cells len] := by
  cases n with
  | zero => exact h.elim
  | succ n => unfold TypA at h; rw [hu] at h; obtain ⟨cells, len, rfl, _⟩ := h hk; exact ⟨_, _, rfl⟩
theorem typ_run {m : Nat} {ys : List AV} (hy : TypA Try.prog m 22 ys) : ∃ l : { l : List Msg // l.length ≤ 9223372036854775807 }, ys = cX l.1 := by
  obtain ⟨cells, len, rfl⟩ := typ_slc Try.underlying22 (cells_pos (k := 2) (by kernel_rfl)) hy
  obtain ⟨a, ha, hl⟩ := typ_msgs hy
  exact ⟨⟨a, hl⟩, by rw [ha]; rfl⟩
theorem typ_runs {n : Nat} {x : AV} (h : TypA Try.prog n 56 [x]) : ∃ rs : List (List Msg), x = .fs (flatX rs) rs.length ∧ rs.length ≤ 9223372036854775807 ∧ ∀ l ∈ rs, l.length ≤ 9223372036854775807 := by
  obtain ⟨l, rfl, hl⟩ := typ_rows (α := { l : List Msg // l.length ≤ 9223372036854775807 }) (c := fun l => cX l.1) Try.underlying56 (cells_pos (k := 0) (by kernel_rfl)) h fun _ _ => typ_run
  refine ⟨l.map (·.1), by simp [flatX, flatC, List.flatMap_map], by simpa using hl, fun q hq => ?_⟩
  obtain ⟨a, _, rfl⟩ := List.mem_map.1 hq
  exact a.2
theorem typ_item {n : Nat} {ys : List AV} (h : TypA Try.prog n 68 ys) : ∃ m : Item, ys = cI m := by
  obtain ⟨m, L, rfl, hL, hf⟩ := typ_struct Try.underlying68 h
  match L, hL with
  | [y1, y2], _ =>
    obtain ⟨s1, rfl⟩ := typ_str Try.underlying9 (hf 0 _ y1 rfl rfl)
    obtain ⟨s2, rfl⟩ := typ_str Try.underlying9 (hf 1 _ y2 rfl rfl)
    exact ⟨⟨s1, s2⟩, rfl⟩
theorem typ_items {n : Nat} {x : AV} (h : TypA Try.prog n 66 [x]) : ∃ l : List Item, x = .fs (flatI l) l.length ∧ l.length ≤ 9223372036854775807 := typ_rows Try.underlying66 (cells_pos (k := 1) (by kernel_rfl)) h fun _ _ => typ_item
end Go.Proofs.Ytemijcjgdgdhjaa
