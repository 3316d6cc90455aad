/- Leaves, plainly: what a message makes of items, place by place. -/
import Derived.Test.YtemijcjgdgdhjabGreatEc
namespace Go.Proofs.YtemijcjgdgdhjabGreat
open Go.RowKit
set_option linter.unusedSimpArgs false
theorem restI_app (k : Str) (a b : List Item) : restI k (a ++ b) = restI k a ++ restI k b := by unfold restI; rw [List.filter_append]
theorem restI_id {k : Str} {l : List Item} (h : ∀ x ∈ l, x.key ≠ k) : restI k l = l := by
  unfold restI
  rw [List.filter_eq_self]
  intro x hx
  simpa using h x hx
theorem insO_split {A D : List Item} {x : Item} (hA : ∀ y ∈ A, slt y.key x.key = true) (hD : ∀ y ∈ D, slt x.key y.key = true) : insO (A ++ D) x = A ++ x :: D := by
  have e : gtAt (A ++ D) x.key = A.length := by
    unfold gtAt
    rw [List.findIdx_append]
    have h1 : List.findIdx (fun y => slt x.key y.key) A = A.length := by
      rw [List.findIdx_eq_length]
      intro y hy
      have := slt_asymm (hA y hy)
      simpa using this
    rw [h1, if_neg (by omega)]
    cases D with
    | nil => simp
    | cons d D => rw [List.findIdx_cons, hD d (by simp)]; simp
  unfold insO
  rw [e, List.take_left' rfl, List.drop_left' rfl]
/-- A row that rises, cut at a key. -/
theorem cut_at {l : List Item} (hr : RiseI l) (k : Str) : (∀ x ∈ l.take (lowI l k), slt x.key k = true) ∧ (hitI l k = false → ∀ x ∈ l.drop (lowI l k), slt k x.key = true) ∧ (hitI l k = true → ∀ x ∈ l.drop (lowI l k + 1), slt k x.key = true) := by
  refine ⟨fun x hx => ?_, fun h x hx => ?_, fun h x hx => ?_⟩
  · obtain ⟨i, hi, rfl⟩ := List.mem_iff_getElem.1 hx
    rw [List.length_take] at hi
    rw [List.getElem_take, lowI_lt hr k i (by omega)]
    exact decide_eq_true (by omega)
  · obtain ⟨i, hi, rfl⟩ := List.mem_iff_getElem.1 hx
    simp at hi
    rw [List.getElem_drop]
    have h1 := lowI_lt hr k (lowI l k + i) (by omega)
    rw [decide_eq_false (by omega)] at h1
    cases e : slt k l[lowI l k + i].key with
    | true => rfl
    | false => exact absurd (slt_tri h1 e) (hitI_no hr h _ (List.getElem_mem _))
  · obtain ⟨hh, hk⟩ := hit_lowI h
    obtain ⟨i, hi, rfl⟩ := List.mem_iff_getElem.1 hx
    simp at hi
    rw [List.getElem_drop]
    have := List.pairwise_iff_getElem.1 hr (lowI l k) (lowI l k + 1 + i) hh (by omega) (by omega)
    rwa [hk] at this
theorem slt_ne' {a b : Str} (h : slt a b = true) : b ≠ a := (slt_ne h).symm
theorem rest_hit {l : List Item} (hr : RiseI l) {k : Str} (h : hitI l k = true) : restI k l = l.take (lowI l k) ++ l.drop (lowI l k + 1) := by
  obtain ⟨hh, hk⟩ := hit_lowI h
  obtain ⟨c1, _, c3⟩ := cut_at hr k
  have e : l = l.take (lowI l k) ++ (l[lowI l k] :: l.drop (lowI l k + 1)) := by rw [← List.drop_eq_getElem_cons hh, List.take_append_drop]
  have e2 : restI k l = restI k (l.take (lowI l k) ++ (l[lowI l k] :: l.drop (lowI l k + 1))) := by rw [← e]
  rw [e2, restI_app, restI_id fun x hx => slt_ne (c1 x hx)]
  congr 1
  show List.filter _ _ = _
  rw [List.filter_cons_of_neg (by simp [hk])]
  exact restI_id fun x hx => slt_ne' (c3 h x hx)
theorem step_set {l : List Item} (hr : RiseI l) {k v : Str} (h : hitI l k = true) : insO (restI k l) ⟨k, v⟩ = l.set (lowI l k) ⟨k, v⟩ := by
  obtain ⟨hh, hk⟩ := hit_lowI h
  obtain ⟨c1, _, c3⟩ := cut_at hr k
  rw [rest_hit hr h, insO_split (x := ⟨k, v⟩) c1 (c3 h), List.set_eq_take_append_cons_drop, if_pos hh]
theorem step_ins {l : List Item} (hr : RiseI l) {k v : Str} (h : hitI l k = false) : insO (restI k l) ⟨k, v⟩ = l.take (lowI l k) ++ ⟨k, v⟩ :: l.drop (lowI l k) := by
  obtain ⟨c1, c2, _⟩ := cut_at hr k
  rw [restI_id (hitI_no hr h)]
  have := insO_split (x := ⟨k, v⟩) c1 (c2 h)
  rwa [List.take_append_drop] at this
end Go.Proofs.YtemijcjgdgdhjabGreat
