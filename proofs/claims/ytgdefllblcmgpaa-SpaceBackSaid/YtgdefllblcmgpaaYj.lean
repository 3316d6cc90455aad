/- The document's spaces: In, Set. -/
import Derived.Test.YtgdefllblcmgpaaYi
namespace Go.Proofs.Ytgdefllblcmgpaa
open Go.RowKit
set_option linter.unusedSimpArgs false
set_option maxRecDepth 10000
def cB (b : Bool) : AV := .sc (.bool b)
def flatB (l : List Bool) : List AV := l.map cB
@[simp] theorem flatB_length (l : List Bool) : (flatB l).length = l.length := by simp [flatB]
@[simp] theorem flatB_flat (l : List Bool) : flatL (flatB l) = true := by
  rw [flatL_iff]
  intro x hx
  obtain ⟨b, _, rfl⟩ := List.mem_map.1 hx
  rfl
@[simp] theorem flatB_one (l : List Bool) : (flatB l).all AV.one = true := by
  rw [List.all_eq_true]
  intro x hx
  obtain ⟨b, _, rfl⟩ := List.mem_map.1 hx
  rfl
theorem flatB_get (l : List Bool) (k : Nat) (h : k < l.length) : (flatB l)[k]? = some (.sc (.bool l[k])) := by
  unfold flatB
  rw [List.getElem?_map, List.getElem?_eq_getElem h]
  rfl
@[simp] theorem flatB_at (l : List Bool) (k : Nat) (h : k < (flatB l).length) : (flatB l)[k] = .sc (.bool (l[k]'(by simpa using h))) := by
  have h' : k < l.length := by simpa using h
  have := flatB_get l k h'
  rw [List.getElem?_eq_getElem h] at this
  exact Option.some.inj this
theorem flatB_set (l : List Bool) (k : Nat) (b : Bool) : (flatB l).set k (.sc (.bool b)) = flatB (l.set k b) := by
  unfold flatB
  rw [List.map_set]
  rfl
theorem seg_set {c cs : List AV} {off n i : Nat} (h : (c.drop off).take n = cs) (x : AV) : ((c.set (off + i) x).drop off).take n = cs.set i x := by
  rw [List.drop_set, if_neg (by omega), List.take_set, h, Nat.add_sub_cancel_left]
theorem seg_get {c cs : List AV} {off n i : Nat} (h : (c.drop off).take n = cs) (hi : i < n) : c[off + i]? = cs[i]? := by
  rw [← h, List.getElem?_take, if_pos hi, List.getElem?_drop]
def OwB (i g off n : Nat) (o : List Bool) (σ : Sto) : Prop := ∃ c, σ[i]? = some ⟨c, g, false, false⟩ ∧ off + n ≤ c.length ∧ (c.drop off).take n = flatB o ∧ o.length = n
theorem OwB.get {i g off n : Nat} {o : List Bool} {σ : Sto} (h : OwB i g off n o σ) {b : Nat} (hb : b < n) : ∃ c, σ[i]? = some ⟨c, g, false, false⟩ ∧ off + n ≤ c.length ∧ off + b < c.length ∧ ∀ h', c[off + b]'h' = .sc (.bool (o[b]?.getD false)) := by
  obtain ⟨c, h1, h2, h3, h4⟩ := h
  refine ⟨c, h1, h2, by omega, fun h' => ?_⟩
  have := seg_get h3 hb
  rw [List.getElem?_eq_getElem h', flatB_get o b (by omega)] at this
  rw [List.getElem?_eq_getElem (by omega)]
  exact Option.some.inj this
theorem OwB.set {i g off n : Nat} {o : List Bool} {σ : Sto} (h : OwB i g off n o σ) {c : List AV} (hc : σ[i]? = some ⟨c, g, false, false⟩) (b : Nat) (x : Bool) : OwB i g off n (o.set b x) (σ.set i ⟨c.set (off + b) (.sc (.bool x)), g, false, false⟩) := by
  obtain ⟨c', h1, h2, h3, h4⟩ := h
  rw [hc] at h1
  cases h1
  exact ⟨_, List.getElem?_set_self (lt_of_get hc), by simpa using h2, by rw [seg_set h3, flatB_set], by simpa using h4⟩
end Go.Proofs.Ytgdefllblcmgpaa
