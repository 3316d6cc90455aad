/- Spaces against the document's rows, deed by deed. -/
import Derived.Test.YtgdefllblcmgpaaYj
import Derived.Test.YtgdefllblcmgpaaYk
namespace Go.Proofs.Ytgdefllblcmgpaa
open Go.RowKit
set_option linter.unusedSimpArgs false
theorem chk_out {n : Int} {list : List Ext} {f : Ext → Bool} (h : ¬ list.all (isInX n) = true) : chkR n list f = 3 := by unfold chkR; rw [if_pos (by simpa using h)]
theorem chk_yes {n : Int} {list : List Ext} {f : Ext → Bool} (h : list.all (isInX n) = true) (h1 : ∀ x ∈ list, f x = true) (h2 : Apart list) : chkR n list f = 0 := by
  unfold chkR
  rw [if_neg (by rw [h]; simp), if_neg (by rw [List.all_eq_true.2 h1]; simp), if_neg (by rw [apartX_iff.2 h2]; simp)]
theorem chk_no {n : Int} {list : List Ext} {f : Ext → Bool} (h : list.all (isInX n) = true) (h1 : ¬ ((∀ x ∈ list, f x = true) ∧ Apart list)) : chkR n list f = 11 := by
  unfold chkR
  rw [if_neg (by rw [h]; simp)]
  by_cases h3 : list.all f = true
  · rw [if_neg (by rw [h3]; simp), if_pos]
    cases q : apartX list with
    | false => rfl
    | true => exact absurd ⟨List.all_eq_true.1 h3, apartX_iff.1 q⟩ h1
  · rw [if_pos (by simpa using h3)]
theorem give_do {l : List Bool} {es : List Ext} (h : Rep l es) (list : List Ext) : (setB l list true).2 = chkR l.length list (fun x => !touchX es x) ∧ Rep (setB l list true).1 (foldR (chkR l.length list fun x => !touchX es x) es (list.foldl giveX es)) := by
  unfold setB
  by_cases hi : list.all (isInX l.length) = true
  · rw [if_pos hi]
    have hi' := List.all_eq_true.1 hi
    obtain ⟨k1, k2⟩ := give_rep h hi'
    by_cases hc : (∀ x ∈ list, touchX es x = false) ∧ Apart list
    · obtain ⟨l', q1, q2, q3⟩ := k1 hc
      rw [q1, chk_yes hi (fun x hx => by rw [hc.1 x hx]; rfl) hc.2]
      refine ⟨rfl, ?_⟩
      unfold foldR
      rw [if_pos rfl]
      exact q3
    · rw [k2 hc, chk_no hi fun q => hc ⟨fun x hx => by simpa using q.1 x hx, q.2⟩]
      exact ⟨rfl, h⟩
  · rw [if_neg hi, chk_out hi]
    exact ⟨rfl, h⟩
theorem cut_do {l : List Bool} {es : List Ext} (h : Rep l es) (list : List Ext) : (setB l list false).2 = chkR l.length list (fun x => coverX es x) ∧ Rep (setB l list false).1 (foldR (chkR l.length list fun x => coverX es x) es (list.foldl cutX es)) := by
  unfold setB
  by_cases hi : list.all (isInX l.length) = true
  · rw [if_pos hi]
    have hi' := List.all_eq_true.1 hi
    obtain ⟨k1, k2⟩ := cut_rep h hi'
    by_cases hc : (∀ x ∈ list, coverX es x = true) ∧ Apart list
    · obtain ⟨l', q1, q2, q3⟩ := k1 hc
      rw [q1, chk_yes hi hc.1 hc.2]
      refine ⟨rfl, ?_⟩
      unfold foldR
      rw [if_pos rfl]
      exact q3
    · rw [k2 hc, chk_no hi hc]
      exact ⟨rfl, h⟩
  · rw [if_neg hi, chk_out hi]
    exact ⟨rfl, h⟩
/-- One place that is free is taken. -/
theorem cut_one {l : List Bool} {es : List Ext} (h : Rep l es) {x : Ext} (hx : isInX l.length x = true) (hc : coverX es x = true) : Rep (setB l [x] false).1 (cutX es x) := by
  have := (cut_do h [x]).2
  rw [chk_yes (by simp [hx]) (fun y hy => by rw [List.mem_singleton.1 hy]; exact hc) (by simp [Apart])] at this
  exact this
theorem rep_row {l : List Bool} {es : List Ext} (h : Rep l es) : es = rowB l l.length := h.uniq (row_rep l)
theorem rep_text {l : List Bool} {es : List Ext} (h : Rep l es) (m : Nat) : textF (fun i : Nat => hasX es i) m = textF (fun i => l[i]?.getD false) m := textF_congr fun i _ => by
  rw [Bool.eq_iff_iff, hasX_iff]
  rcases Nat.lt_or_ge i l.length with q | q
  · rw [← h.2 i q, List.getElem?_eq_getElem q]
    simp
  · rw [List.getElem?_eq_none q]
    constructor
    · intro hm
      have := h.mem hm
      omega
    · intro hm; cases hm
theorem rep_has {l : List Bool} {es : List Ext} (h : Rep l es) (i : Nat) (hi : i < l.length) : hasX es i = l[i] := by
  rw [Bool.eq_iff_iff, hasX_iff, ← h.2 i hi, List.getElem?_eq_getElem hi]
  simp
theorem rep_has_no {l : List Bool} {es : List Ext} (h : Rep l es) (i : Int) (hi : ¬ (0 ≤ i ∧ i < l.length)) : hasX es i = false := by
  cases q : hasX es i with
  | false => rfl
  | true => exact absurd (h.mem (hasX_iff.1 q)) hi
theorem rep_new (n : Nat) : Rep (List.replicate n false) [] := ⟨norm_nil _, fun i hi => by
  simp only [List.length_replicate] at hi
  rw [List.getElem?_replicate, if_pos hi]
  constructor
  · intro h; cases h
  · intro h; exact absurd h (memX_nil _)⟩
/-- What both do when they take the best. -/
theorem take_best (es : List Ext) (k : Int) (h : 1 ≤ k) : (takeX es k).1 = (bestR es k).1 ∧ (takeX es k).2.1 = (if (bestR es k).2 = true then 0 else 9) := by
  unfold takeX bestR
  rw [if_neg (by omega)]
  by_cases hb : (bestX es k).sz = 0
  · rw [if_pos hb, if_pos hb]; exact ⟨rfl, rfl⟩
  · rw [if_neg hb, if_neg hb]; exact ⟨rfl, rfl⟩
theorem take_rep {l : List Bool} {es : List Ext} (h : Rep l es) {k : Int} (hk : 1 ≤ k) (hb : (bestR es k).2 = true) : Rep (setB l [(bestR es k).1] false).1 (takeX es k).2.2 := by
  by_cases h0 : (bestX es k).sz = 0
  · unfold bestR at hb
    rw [if_pos h0] at hb; cases hb
  · have e1 : takeX es k = (⟨(bestX es k).lo, k⟩, 0, cutX es ⟨(bestX es k).lo, k⟩) := by unfold takeX; rw [if_neg (by omega), if_neg h0]
    have e2 : bestR es k = (⟨(bestX es k).lo, k⟩, true) := by unfold bestR; rw [if_neg h0]
    rw [e1, e2]
    obtain ⟨q1, q2⟩ := best_in h.1 hk h0
    exact cut_one h (isInX_iff.2 q1) q2
theorem take_same {es : List Ext} {k : Int} (h : k < 1 ∨ (bestR es k).2 = false) : (takeX es k).2.2 = es := by
  unfold takeX
  by_cases hk : k < 1
  · rw [if_pos hk]
  · rw [if_neg hk]
    have h := h.resolve_left hk
    unfold bestR at h
    by_cases h0 : (bestX es k).sz = 0
    · rw [if_pos h0]
    · rw [if_neg h0] at h; cases h
end Go.Proofs.Ytgdefllblcmgpaa
