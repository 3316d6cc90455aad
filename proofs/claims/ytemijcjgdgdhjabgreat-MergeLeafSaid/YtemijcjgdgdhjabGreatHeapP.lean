/- Heaps, plainly: container/heap's ways over lists. No program. -/
import Derived.Test.YtemijcjgdgdhjabGreatLa
namespace Go.Proofs.YtemijcjgdgdhjabGreat
/-- Whether one comes ahead of another. -/
structure Ahead {α : Type} (lt : α → α → Bool) : Prop where
  asym : ∀ a b, lt a b = true → lt b a = false
  trans : ∀ a b c, lt a b = true → lt b c = true → lt a c = true
  neg : ∀ a b c, lt a b = false → lt b c = false → lt a c = false
theorem Ahead.irr {α : Type} {lt : α → α → Bool} (h : Ahead lt) (a : α) : lt a a = false := by
  cases e : lt a a with
  | false => rfl
  | true => have := h.asym a a e; rw [e] at this; exact this
section
variable {α : Type} [Inhabited α] (lt : α → α → Bool)
abbrev at_ (l : List α) (i : Nat) : α := l.getD i default
def swapG (l : List α) (i j : Nat) : List α := (l.set i (at_ l j)).set j (at_ l i)
def par (k : Nat) : Nat := (k - 1) / 2
def upG : Nat → List α → Nat → List α
  | 0, l, _ => l
  | f + 1, l, j => if j = 0 then l else if lt (at_ l j) (at_ l (par j)) = true then upG f (swapG l (par j) j) (par j) else l
def kidG (l : List α) (i n : Nat) : Nat := if 2 * i + 2 < n ∧ lt (at_ l (2 * i + 2)) (at_ l (2 * i + 1)) = true then 2 * i + 2 else 2 * i + 1
def downG : Nat → List α → Nat → Nat → List α × Nat
  | 0, l, i, _ => (l, i)
  | f + 1, l, i, n => if n ≤ 2 * i + 1 then (l, i) else if lt (at_ l (kidG lt l i n)) (at_ l i) = true then downG f (swapG l i (kidG lt l i n)) (kidG lt l i n) n else (l, i)
def heapUp (l : List α) (j : Nat) : List α := upG lt j l j
def heapDown (l : List α) (i n : Nat) : List α × Nat := downG lt n l i n
/-- What is left, and what is told. -/
def heapPop (l : List α) : List α × α :=
  let m := (heapDown lt (swapG l 0 (l.length - 1)) 0 (l.length - 1)).1
  (m.dropLast, at_ m (l.length - 1))
def initG : Nat → List α → List α
  | 0, l => l
  | i + 1, l => initG i (heapDown lt l i l.length).1
def heapInit (l : List α) : List α := initG lt (l.length / 2) l
variable {lt}
theorem at_lt {l : List α} {i : Nat} (h : i < l.length) : at_ l i = l[i] := by simp [at_, h]
@[simp] theorem swapG_length (l : List α) (i j : Nat) : (swapG l i j).length = l.length := by simp [swapG]
theorem swapG_at {l : List α} {i j : Nat} (hi : i < l.length) (hj : j < l.length) (k : Nat) : at_ (swapG l i j) k = if k = j then at_ l i else if k = i then at_ l j else at_ l k := by
  unfold at_ swapG
  simp only [List.getD_eq_getElem?_getD, List.getElem?_set, List.length_set]
  by_cases h1 : k = j
  · subst h1; simp [hj]
  · by_cases h2 : k = i
    · subst h2; simp [h1, Ne.symm h1, hi]
    · simp [h1, h2, Ne.symm h1, Ne.symm h2]
theorem swapG_perm {l : List α} {i j : Nat} (hi : i < l.length) (hj : j < l.length) : (swapG l i j).Perm l := by
  have h := Array.swap_perm (xs := l.toArray) (i := i) (j := j) (by simpa using hi) (by simpa using hj)
  have h2 := h.toList
  rw [Array.toList_swap] at h2
  unfold swapG
  rw [at_lt hi, at_lt hj]
  simpa using h2
def HeapOn (lt : α → α → Bool) (l : List α) (s n : Nat) : Prop := ∀ k, 0 < k → k < n → s ≤ par k → lt (at_ l k) (at_ l (par k)) = false
theorem heap_top (ha : Ahead lt) {l : List α} {n : Nat} (h : HeapOn lt l 0 n) : ∀ k, k < n → lt (at_ l k) (at_ l 0) = false := by
  intro k
  induction k using Nat.strongRecOn with
  | ind k ih =>
    intro hk
    rcases Nat.eq_zero_or_pos k with rfl | hp
    · exact ha.irr _
    · have h1 := h k hp hk (Nat.zero_le _)
      have h2 := ih (par k) (by unfold par; omega) (by unfold par; omega)
      exact ha.neg _ _ _ h1 h2
theorem kidG_two (l : List α) (i n : Nat) : kidG lt l i n = 2 * i + 1 ∨ (kidG lt l i n = 2 * i + 2 ∧ 2 * i + 2 < n) := by
  unfold kidG
  split
  · rename_i h; exact .inr ⟨rfl, h.1⟩
  · exact .inl rfl
theorem kidG_min (ha : Ahead lt) (l : List α) (i n k : Nat) (hk : 0 < k) (h : k < n) (hp : par k = i) : lt (at_ l k) (at_ l (kidG lt l i n)) = false := by
  have hc : k = 2 * i + 1 ∨ k = 2 * i + 2 := by unfold par at hp; omega
  unfold kidG
  split
  · rename_i hx
    rcases hc with rfl | rfl
    · exact ha.asym _ _ hx.2
    · exact ha.irr _
  · rename_i hx
    rcases hc with rfl | rfl
    · exact ha.irr _
    · cases e : lt (at_ l (2 * i + 2)) (at_ l (2 * i + 1)) with
      | false => rfl
      | true => exact absurd ⟨h, e⟩ hx
def DownInv (lt : α → α → Bool) (l : List α) (s n i : Nat) : Prop := (∀ k, 0 < k → k < n → s ≤ par k → par k ≠ i → lt (at_ l k) (at_ l (par k)) = false) ∧ ∀ k, 0 < k → k < n → par k = i → 0 < i → s ≤ par i → lt (at_ l k) (at_ l (par i)) = false
theorem downG_spec (ha : Ahead lt) : ∀ (f : Nat) (l : List α) (i n : Nat), n ≤ f + i → n ≤ l.length → (downG lt f l i n).1.Perm l ∧ (∀ k, n ≤ k → at_ (downG lt f l i n).1 k = at_ l k) ∧ i ≤ (downG lt f l i n).2 ∧ ((downG lt f l i n).2 = i → (downG lt f l i n).1 = l) ∧ ∀ s, s ≤ i → DownInv lt l s n i → HeapOn lt (downG lt f l i n).1 s n
  | 0, l, i, n, hf, hn => by
    refine ⟨.refl _, fun _ _ => rfl, Nat.le_refl _, fun _ => rfl, fun s hs h k k1 k2 k3 => h.1 k k1 k2 k3 (by unfold par; omega)⟩
  | f + 1, l, i, n, hf, hn => by
    unfold downG
    split
    · rename_i h0
      exact ⟨.refl _, fun _ _ => rfl, Nat.le_refl _, fun _ => rfl, fun s hs h k k1 k2 k3 => h.1 k k1 k2 k3 (by unfold par; omega)⟩
    · rename_i h0
      have hj := kidG_two (lt := lt) l i n
      have hmin := kidG_min ha l i n
      have hpj : par (kidG lt l i n) = i := by unfold par; omega
      generalize kidG lt l i n = j at *
      split
      · rename_i hlt
        obtain ⟨r1, r2, r3, r4, r5⟩ := downG_spec ha f (swapG l i j) j n (by omega) (by simpa using hn)
        refine ⟨r1.trans (swapG_perm (by omega) (by omega)), fun k hk => ?_, by omega, fun h => by omega, fun s hs ⟨u1, u2⟩ => r5 s (by omega) ⟨fun k k1 k2 k3 k4 => ?_, fun k k1 k2 k3 k4 k5 => ?_⟩⟩
        · rw [r2 k hk, swapG_at (by omega) (by omega), if_neg (by omega), if_neg (by omega)]
        · have hk : par k < k := by unfold par; omega
          rw [swapG_at (by omega) (by omega), swapG_at (by omega) (by omega), if_neg (c := par k = j) k4]
          by_cases e1 : k = j
          · rw [if_pos e1, if_pos (by rw [e1]; exact hpj)]; exact ha.asym _ _ hlt
          · rw [if_neg e1]
            by_cases e2 : k = i
            · rw [if_pos e2, if_neg (by omega), e2]
              exact u2 j (by omega) (by omega) hpj (by omega) (by rw [← e2]; exact k3)
            · rw [if_neg e2]
              by_cases e3 : par k = i
              · rw [if_pos e3]; exact hmin k k1 k2 e3
              · rw [if_neg e3]; exact u1 k k1 k2 k3 e3
        · have hk : par k < k := by unfold par; omega
          rw [swapG_at (by omega) (by omega), swapG_at (by omega) (by omega), hpj, if_neg (by omega), if_neg (by omega), if_neg (by omega), if_pos rfl]
          have := u1 k k1 k2 (by omega) (by omega)
          rw [k3] at this
          exact this
      · rename_i hlt
        refine ⟨.refl _, fun _ _ => rfl, Nat.le_refl _, fun _ => rfl, fun s hs ⟨u1, u2⟩ k k1 k2 k3 => ?_⟩
        by_cases e : par k = i
        · rw [e]; exact ha.neg _ _ _ (hmin k k1 k2 e) (by simpa using hlt)
        · exact u1 k k1 k2 k3 e
theorem heapPop_spec (ha : Ahead lt) (l : List α) (h0 : 0 < l.length) : (heapPop lt l).2 = at_ l 0 ∧ ((heapPop lt l).2 :: (heapPop lt l).1).Perm l ∧ (HeapOn lt l 0 l.length → HeapOn lt (heapPop lt l).1 0 (l.length - 1)) := by
  obtain ⟨r1, r2, r3, r4, r5⟩ := downG_spec ha (l.length - 1) (swapG l 0 (l.length - 1)) 0 (l.length - 1) (by omega) (by simp)
  unfold heapPop heapDown
  simp only
  generalize (downG lt (l.length - 1) (swapG l 0 (l.length - 1)) 0 (l.length - 1)).1 = m at *
  have hm : m.length = l.length := by rw [r1.length_eq]; simp
  have e := r2 (l.length - 1) (Nat.le_refl _)
  rw [swapG_at (by omega) (by omega), if_pos rfl] at e
  have hne : m ≠ [] := fun h => by rw [h] at hm; simp at hm; omega
  have hlast : at_ m (l.length - 1) = m.getLast hne := by rw [at_lt (by omega), List.getLast_eq_getElem]; simp [hm]
  refine ⟨e, ?_, fun h => ?_⟩
  · refine List.Perm.trans ?_ (r1.trans (swapG_perm h0 (by omega)))
    rw [hlast]
    refine (List.perm_append_comm (l₁ := [m.getLast hne]) (l₂ := m.dropLast)).trans ?_
    rw [List.dropLast_concat_getLast]
  · have hd : DownInv lt (swapG l 0 (l.length - 1)) 0 (l.length - 1) 0 := by
      refine ⟨fun k k1 k2 k3 k4 => ?_, fun k k1 k2 k3 k4 => by omega⟩
      have : par k < k := by unfold par; omega
      rw [swapG_at (by omega) (by omega), swapG_at (by omega) (by omega), if_neg (by omega), if_neg (by omega), if_neg (by omega), if_neg k4]
      exact h k k1 (by omega) (Nat.zero_le _)
    have h2 := r5 0 (Nat.le_refl _) hd
    intro k k1 k2 k3
    have : par k < k := by unfold par; omega
    have hx : ∀ j, j < l.length - 1 → at_ m.dropLast j = at_ m j := fun j hj => by simp [at_, List.getElem?_dropLast, hm, hj, List.getElem?_eq_getElem (show j < m.length by omega)]
    rw [hx k k2, hx _ (by omega)]
    exact h2 k k1 k2 k3
theorem initG_spec (ha : Ahead lt) : ∀ (i : Nat) (l : List α), (initG lt i l).Perm l ∧ (HeapOn lt l i l.length → HeapOn lt (initG lt i l) 0 l.length)
  | 0, l => ⟨.refl _, fun h => h⟩
  | i + 1, l => by
    obtain ⟨r1, r2, r3, r4, r5⟩ := downG_spec ha l.length l i l.length (by omega) (Nat.le_refl _)
    obtain ⟨q1, q2⟩ := initG_spec ha i (heapDown lt l i l.length).1
    unfold initG
    have hl : (heapDown lt l i l.length).1.length = l.length := r1.length_eq
    refine ⟨q1.trans r1, fun h => ?_⟩
    have hd : DownInv lt l i l.length i := ⟨fun k k1 k2 k3 k4 => h k k1 k2 (by omega), fun k k1 k2 k3 k4 k5 => by unfold par at k5; omega⟩
    rw [hl] at q2
    refine q2 ?_
    exact r5 i (Nat.le_refl _) hd
theorem heapInit_spec (ha : Ahead lt) (l : List α) : (heapInit lt l).Perm l ∧ HeapOn lt (heapInit lt l) 0 l.length := by
  obtain ⟨q1, q2⟩ := initG_spec ha (l.length / 2) l
  exact ⟨q1, q2 fun k k1 k2 k3 => by unfold par at k3; omega⟩
/-- The top is another one: it goes down. -/
theorem heapFix_spec (ha : Ahead lt) (l : List α) (x : α) (h : HeapOn lt l 0 l.length) : (heapDown lt (l.set 0 x) 0 l.length).1.Perm (l.set 0 x) ∧ HeapOn lt (heapDown lt (l.set 0 x) 0 l.length).1 0 l.length := by
  obtain ⟨r1, r2, r3, r4, r5⟩ := downG_spec ha l.length (l.set 0 x) 0 l.length (by omega) (by simp)
  refine ⟨r1, r5 0 (Nat.le_refl _) ⟨fun k k1 k2 k3 k4 => ?_, fun k k1 k2 k3 k4 => by omega⟩⟩
  have hx : ∀ j, j ≠ 0 → at_ (l.set 0 x) j = at_ l j := fun j hj => by simp [at_, List.getElem?_set, Ne.symm hj]
  rw [hx k (by omega), hx _ k4]
  exact h k k1 k2 (Nat.zero_le _)
end
end Go.Proofs.YtemijcjgdgdhjabGreat
