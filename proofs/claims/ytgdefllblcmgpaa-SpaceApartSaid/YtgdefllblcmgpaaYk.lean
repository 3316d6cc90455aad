/- The document's spaces: Row, Best, Text. -/
import Derived.Test.YtgdefllblcmgpaaYj
namespace Go.Proofs.Ytgdefllblcmgpaa
open Go.RowKit
set_option linter.unusedSimpArgs false
set_option maxRecDepth 10000
theorem rowB_no {l : List Bool} {k : Nat} (h : k < l.length) (hb : l[k] = false) : rowB l (k + 1) = rowB l k := by
  rw [rowB, if_neg (by rw [List.getElem?_eq_getElem h, hb]; simp)]
theorem rowB_new {l : List Bool} {k : Nat} (h : k < l.length) (hb : l[k] = true) (hp : ¬ (0 < k ∧ l[k - 1]? = some true)) : rowB l (k + 1) = rowB l k ++ [⟨k, 1⟩] := by
  rw [rowB, if_pos (by rw [List.getElem?_eq_getElem h, hb]), if_neg hp]
theorem rowB_grow {l : List Bool} {k : Nat} (h : k < l.length) (hb : l[k] = true) (hp : 0 < k ∧ l[k - 1]? = some true) : ∃ h : (rowB l k).length - 1 < (rowB l k).length, rowB l (k + 1) = (rowB l k).set ((rowB l k).length - 1) ⟨(rowB l k)[(rowB l k).length - 1].lo, (rowB l k)[(rowB l k).length - 1].sz + 1⟩ ∧ 0 ≤ (rowB l k)[(rowB l k).length - 1].sz ∧ (rowB l k)[(rowB l k).length - 1].sz ≤ k := by
  obtain ⟨o1, o2, o3, o4⟩ := rowB_ok l k (by omega)
  obtain ⟨x, hx, hxe⟩ := o3 hp.1 hp.2
  rw [rowB, if_pos (by rw [List.getElem?_eq_getElem h, hb]), if_pos hp, hx]
  dsimp only
  have hne : rowB l k ≠ [] := fun q => by rw [q] at hx; cases hx
  have hlen : (rowB l k).length - 1 < (rowB l k).length := by have := List.length_pos_iff.2 hne; omega
  have hgx : (rowB l k)[(rowB l k).length - 1] = x := by
    rw [List.getLast?_eq_getElem?, List.getElem?_eq_getElem hlen] at hx
    exact Option.some.inj hx
  refine ⟨hlen, ?_, ?_, ?_⟩
  · rw [hgx, List.set_eq_take_append_cons_drop, if_pos hlen, List.dropLast_eq_take, show (rowB l k).length - 1 + 1 = (rowB l k).length by omega, List.drop_length]
  · rw [hgx]
    have := o1.2 x (List.mem_of_getLast? hx)
    omega
  · rw [hgx]
    have := o1.2 x (List.mem_of_getLast? hx)
    unfold xe at this hxe
    omega
end Go.Proofs.Ytgdefllblcmgpaa
