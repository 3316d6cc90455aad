/- Spaces: what is taken and what is free, plainly. -/
import Derived.Test.YtgdefllblcmgpaaYn
namespace Go.Proofs.Ytgdefllblcmgpaa
open Go.RowKit
set_option linter.unusedSimpArgs false
/-- Blocks' bools, set. -/
def setsB (ol : List Bool) (a : Nat) (b : Bool) : Nat → List Bool
  | 0 => ol
  | t + 1 => (setsB ol a b t).set (a + t) b
@[simp] theorem setsB_len (ol : List Bool) (a : Nat) (b : Bool) : ∀ t, (setsB ol a b t).length = ol.length
  | 0 => rfl
  | t + 1 => by rw [setsB, List.length_set, setsB_len ol a b t]
theorem setsB_get (ol : List Bool) (a : Nat) (b : Bool) : ∀ t i, i < ol.length → (setsB ol a b t)[i]? = if a ≤ i ∧ i < a + t then some b else ol[i]?
  | 0, i, _ => by rw [if_neg (by omega)]; rfl
  | t + 1, i, h => by
    rw [setsB]
    by_cases e : a + t = i
    · subst e
      rw [List.getElem?_set_self (by simpa using h), if_pos (by omega)]
    · rw [List.getElem?_set_ne e, setsB_get ol a b t i h]
      by_cases q : a ≤ i ∧ i < a + t
      · rw [if_pos q, if_pos (by omega)]
      · rw [if_neg q, if_neg (by omega)]
/-- What is taken, and what is free: all, and none twice. -/
structure ApP (K : Nat) (es mine : List Ext) (ol : List Bool) : Prop where
  norm : Norm K es
  inn : ∀ x ∈ mine, isInX K x = true
  apart : Apart mine
  len : ol.length = K
  own : ∀ i : Nat, i < K → (ol[i]? = some true ↔ memX mine i)
  free : ∀ i : Nat, i < K → (memX es i ↔ ¬ memX mine i)
theorem ApP.disj {K : Nat} {es mine : List Ext} {ol : List Bool} (h : ApP K es mine ol) {i : Int} (h1 : memX es i) : ¬ memX mine i := by
  obtain ⟨x, hx, x1, x2⟩ := h1
  have hx2 := h.norm.2 x hx
  obtain ⟨j, rfl⟩ := Int.eq_ofNat_of_zero_le (show 0 ≤ i by omega)
  exact (h.free j (by omega)).1 ⟨x, hx, x1, x2⟩
theorem ApP.take {K : Nat} {es mine : List Ext} {ol : List Bool} (h : ApP K es mine ol) {x : Ext} {a z : Nat} (hlo : x.lo = a) (hz : x.sz = z) (hx : 0 ≤ x.lo ∧ 1 ≤ x.sz ∧ xe x ≤ K) (hc : coverX es x = true) :
    ApP K (cutX es x) (mine ++ [x]) (setsB ol a true z) ∧ (∀ i : Nat, a ≤ i → i < a + z → ol[i]? = some false ∧ hasX (cutX es x) i = false) := by
  obtain ⟨c1, c2⟩ := cut_ok h.norm hx.2.1 hc
  have hcov := (cover_iff h.norm hx.2.1).1 hc
  have ex : xe x = a + z := by unfold xe; omega
  have hno : ∀ i : Int, x.lo ≤ i → i < xe x → ¬ memX mine i := fun i i1 i2 => h.disj (hcov i i1 i2)
  have hone : ∀ i : Int, memX [x] i ↔ x.lo ≤ i ∧ i < xe x := fun i => by rw [memX_cons]; exact ⟨fun q => q.elim id fun r => absurd r (memX_nil _), .inl⟩
  refine ⟨⟨c1, fun y hy => ?_, ?_, by simpa using h.len, fun i hi => ?_, fun i hi => ?_⟩, fun i i1 i2 => ⟨?_, ?_⟩⟩
  · rcases List.mem_append.1 hy with q | q
    · exact h.inn y q
    · rw [List.mem_singleton.1 q]; exact isInX_iff.2 hx
  · refine List.pairwise_append.2 ⟨h.apart, by simp, fun y hy w hw => ?_⟩
    rw [List.mem_singleton.1 hw]
    have hy2 := isInX_iff.1 (h.inn y hy)
    apply Classical.byContradiction
    intro hcon
    rcases Int.le_total x.lo y.lo with q | q
    · exact hno y.lo q (by omega) ⟨y, hy, Int.le_refl _, by unfold xe; omega⟩
    · exact hno x.lo (Int.le_refl _) (by omega) ⟨y, hy, q, by omega⟩
  · rw [setsB_get _ _ _ _ _ (by rw [h.len]; exact hi), memX_app, hone]
    by_cases q : a ≤ i ∧ i < a + z
    · rw [if_pos q]
      exact ⟨fun _ => .inr (by omega), fun _ => rfl⟩
    · rw [if_neg q, h.own i hi]
      exact ⟨.inl, fun r => r.elim id fun r => absurd ⟨by omega, by omega⟩ q⟩
  · rw [c2, memX_app, hone, h.free i hi]
    exact ⟨fun q r => r.elim q.1 q.2, fun q => ⟨fun r => q (.inl r), fun r => q (.inr r)⟩⟩
  · have hi : i < K := by omega
    have := hno i (by omega) (by omega)
    rw [← h.own i hi, List.getElem?_eq_getElem (by rw [h.len]; exact hi)] at this
    rw [List.getElem?_eq_getElem (by rw [h.len]; exact hi)]
    cases q : ol[i]'(by rw [h.len]; exact hi) with
    | false => rfl
    | true => rw [q] at this; exact absurd rfl this
  · cases q : hasX (cutX es x) i with
    | false => rfl
    | true => exact absurd ⟨by omega, by omega⟩ ((c2 i).1 (hasX_iff.1 q)).2
theorem ApP.give {K : Nat} {es mine : List Ext} {y : Ext} {ol : List Bool} (h : ApP K es (y :: mine) ol) {a z : Nat} (hlo : y.lo = a) (hz : y.sz = z) :
    chkR K [y] (fun x => !touchX es x) = 0 ∧ chkR K [y] (fun x => !touchX (giveX es y) x) = 11 ∧ ApP K (giveX es y) mine (setsB ol a false z) := by
  have hin := h.inn y (by simp)
  have hx := isInX_iff.1 hin
  have ht : touchX es y = false := by
    cases q : touchX es y with
    | false => rfl
    | true =>
      obtain ⟨i, ⟨i1, i2⟩, hm⟩ := (touch_iff h.norm hx.2.1).1 q
      exact absurd ⟨y, by simp, i1, i2⟩ (h.disj hm)
  obtain ⟨g1, g2⟩ := give_ok h.norm hx ht
  have ht2 : touchX (giveX es y) y = true := (touch_iff g1 hx.2.1).2 ⟨y.lo, ⟨Int.le_refl _, by unfold xe; omega⟩, (g2 _).2 (.inr ⟨Int.le_refl _, by unfold xe; omega⟩)⟩
  have hall : [y].all (isInX K) = true := by simp [hin]
  have ex : xe y = a + z := by unfold xe; omega
  have hap := (List.pairwise_cons.1 h.apart).1
  have hno : ∀ i : Int, y.lo ≤ i → i < xe y → ¬ memX mine i := fun i i1 i2 ⟨w, hw, w1, w2⟩ => by rcases hap w hw with q | q <;> omega
  have hsec : chkR K [y] (fun x => !touchX (giveX es y) x) = 11 := chk_no hall fun q => by
    have := q.1 y (by simp)
    rw [ht2] at this
    cases this
  refine ⟨chk_yes hall (fun x hx => by rw [List.mem_singleton.1 hx, ht]; rfl) (by simp [Apart]), hsec, ⟨g1, fun x hx => h.inn x (by simp [hx]), (List.pairwise_cons.1 h.apart).2, by simpa using h.len, fun i hi => ?_, fun i hi => ?_⟩⟩
  · rw [setsB_get _ _ _ _ _ (by rw [h.len]; exact hi)]
    by_cases q : a ≤ i ∧ i < a + z
    · rw [if_pos q]
      exact ⟨fun r => (by cases r), fun r => absurd r (hno i (by omega) (by omega))⟩
    · rw [if_neg q, h.own i hi, memX_cons]
      exact ⟨fun r => r.elim (fun r => absurd ⟨by omega, by omega⟩ q) id, .inr⟩
  · rw [g2, h.free i hi, memX_cons]
    constructor
    · rintro (q | q)
      · exact fun r => q (.inr r)
      · exact hno i q.1 q.2
    · intro q
      by_cases r : y.lo ≤ i ∧ (i : Int) < xe y
      · exact .inr r
      · exact .inl fun s => s.elim r q
theorem ApP.all {K : Nat} {es mine : List Ext} {ol : List Bool} (h : ApP K es mine ol) (hK : 1 ≤ K) : chkR K mine (fun x => !touchX es x) = 0 ∧ mine.foldl giveX es = [⟨0, K⟩] := by
  have ht : ∀ y ∈ mine, touchX es y = false := fun y hy => by
    have hx := isInX_iff.1 (h.inn y hy)
    cases q : touchX es y with
    | false => rfl
    | true =>
      obtain ⟨i, ⟨i1, i2⟩, hm⟩ := (touch_iff h.norm hx.2.1).1 q
      exact absurd ⟨y, hy, i1, i2⟩ (h.disj hm)
  obtain ⟨g1, g2⟩ := give_all mine es h.norm h.inn ht h.apart
  refine ⟨chk_yes (List.all_eq_true.2 h.inn) (fun x hx => by rw [ht x hx]; rfl) h.apart, ?_⟩
  have hn : Norm K [(⟨0, K⟩ : Ext)] := norm_one ⟨Int.le_refl _, (show (1 : Int) ≤ (K : Int) by omega), by simp [xe]⟩
  refine norm_uniq g1 hn fun i => ?_
  constructor
  · rintro ⟨x, hx, x1, x2⟩
    have := g1.2 x hx
    exact ⟨⟨0, K⟩, by simp, by show (0 : Int) ≤ i; omega, by simp [xe]; omega⟩
  · rintro ⟨x, hx, x1, x2⟩
    rw [List.mem_singleton.1 hx] at x1 x2
    have x1 : 0 ≤ i := x1
    have x2 : i < K := by simpa [xe] using x2
    obtain ⟨j, rfl⟩ := Int.eq_ofNat_of_zero_le x1
    rw [g2]
    by_cases q : memX mine j
    · exact .inr q
    · exact .inl ((h.free j (by omega)).2 q)
end Go.Proofs.Ytgdefllblcmgpaa
