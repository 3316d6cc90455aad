/- Spaces against the document's rows, deed by deed. -/
import Derived.Test.YtgdefllblcmgpaaYj
import Derived.Test.YtgdefllblcmgpaaYk
namespace Go.Proofs.Ytgdefllblcmgpaa
open Go.RowKit
set_option linter.unusedSimpArgs false
theorem chk_out {n : Int} {list : List Ext} {f : Ext → Bool} (h : ¬ list.all (isInX n) = true) : chkR n list f = 3 := by unfold chkR; rw [if_pos (by simpa using h)]
theorem chk_yes {n : Int} {list : List Ext} {f : Ext → Bool} (h : list.all (isInX n) = true) (h1 : ∀ x ∈ list, f x = true) (h2 : Apart list) : chkR n list f = 0 := by
  unfold chkR
  rw [if_neg (by rw [h]; simp), if_neg (by rw [List.all_eq_true.2 h1]; simp), if_neg (by rw [apartX_iff.2 h2]; simp)]
theorem chk_no {n : Int} {list : List Ext} {f : Ext → Bool} (h : list.all (isInX n) = true) (h1 : ¬ ((∀ x ∈ list, f x = true) ∧ Apart list)) : chkR n list f = 11 := by
  unfold chkR
  rw [if_neg (by rw [h]; simp)]
  by_cases h3 : list.all f = true
  · rw [if_neg (by rw [h3]; simp), if_pos]
    cases q : apartX list with
    | false => rfl
    | true => exact absurd ⟨List.all_eq_true.1 h3, apartX_iff.1 q⟩ h1
  · rw [if_pos (by simpa using h3)]
theorem rep_row {l : List Bool} {es : List Ext} (h : Rep l es) : es = rowB l l.length := h.uniq (row_rep l)
end Go.Proofs.Ytgdefllblcmgpaa
