/- Places: rows of deeds, the document's rows of bools; plain. -/
import Derived.Test.YtgdefllblcmgpaaPsp
namespace Go.Proofs.Ytgdefllblcmgpaa
open Go.RowKit
def Apart (l : List Ext) : Prop := l.Pairwise fun x y => xe x ≤ y.lo ∨ xe y ≤ x.lo
theorem norm_len {n : Int} {l : List Ext} (h : Norm n l) (h0 : 0 ≤ n) : (l.length : Int) ≤ n := by
  suffices hs : ∀ (l : List Ext) (a : Int), 0 ≤ a → a ≤ n → Norm n l → (∀ x ∈ l, a ≤ x.lo) → a + l.length ≤ n from by
    have := hs l 0 (Int.le_refl _) h0 h fun x hx => (h.2 x hx).1
    omega
  intro l
  induction l with
  | nil => intro a _ h1 _ _; simpa using h1
  | cons x l ih =>
    intro a h1 h2 hn ha
    obtain ⟨q1, q2⟩ := hn.head
    have e : xe x = x.lo + x.sz := rfl
    have hx := ha x (by simp)
    have := ih (xe x) (by omega) q1.2.2 hn.tail fun y hy => Int.le_of_lt ((List.pairwise_cons.1 hn.1).1 y hy)
    simp only [List.length_cons]
    omega
theorem give_all {n : Int} : ∀ (list every : List Ext), Norm n every → (∀ x ∈ list, isInX n x = true) → (∀ x ∈ list, touchX every x = false) → Apart list → Norm n (list.foldl giveX every) ∧ ∀ i, memX (list.foldl giveX every) i ↔ memX every i ∨ ∃ x ∈ list, x.lo ≤ i ∧ i < xe x
  | [], every, hn, _, _, _ => ⟨hn, fun i => by simp⟩
  | x :: list, every, hn, hi, ht, ha => by
    have hx := isInX_iff.1 (hi x (by simp))
    obtain ⟨g1, g2⟩ := give_ok hn hx (ht x (by simp))
    obtain ⟨p1, p2⟩ := List.pairwise_cons.1 ha
    have ht2 : ∀ y ∈ list, touchX (giveX every x) y = false := fun y hy => by
      have hy1 := isInX_iff.1 (hi y (by simp [hy]))
      cases h : touchX (giveX every x) y with
      | false => rfl
      | true =>
        obtain ⟨i, h1, h2⟩ := (touch_iff g1 hy1.2.1).1 h
        rcases (g2 i).1 h2 with h3 | h3
        · have := (touch_iff hn hy1.2.1).2 ⟨i, h1, h3⟩
          rw [ht y (by simp [hy])] at this; cases this
        · have := p1 y hy
          omega
    obtain ⟨r1, r2⟩ := give_all list (giveX every x) g1 (fun y hy => hi y (by simp [hy])) ht2 p2
    refine ⟨r1, fun i => ?_⟩
    rw [List.foldl_cons, r2 i, g2 i]
    constructor
    · rintro ((h | h) | ⟨y, hy, h⟩)
      · exact .inl h
      · exact .inr ⟨x, by simp, h⟩
      · exact .inr ⟨y, by simp [hy], h⟩
    · rintro (h | ⟨y, hy, h⟩)
      · exact .inl (.inl h)
      · rcases List.mem_cons.1 hy with rfl | hy
        · exact .inl (.inr h)
        · exact .inr ⟨y, hy, h⟩
theorem cut_all {n : Int} : ∀ (list every : List Ext), Norm n every → (∀ x ∈ list, isInX n x = true) → (∀ x ∈ list, coverX every x = true) → Apart list → Norm n (list.foldl cutX every) ∧ ∀ i, memX (list.foldl cutX every) i ↔ memX every i ∧ ¬ ∃ x ∈ list, x.lo ≤ i ∧ i < xe x
  | [], every, hn, _, _, _ => ⟨hn, fun i => by simp⟩
  | x :: list, every, hn, hi, ht, ha => by
    have hx := isInX_iff.1 (hi x (by simp))
    obtain ⟨g1, g2⟩ := cut_ok hn hx.2.1 (ht x (by simp))
    obtain ⟨p1, p2⟩ := List.pairwise_cons.1 ha
    have ht2 : ∀ y ∈ list, coverX (cutX every x) y = true := fun y hy => by
      have hy1 := isInX_iff.1 (hi y (by simp [hy]))
      refine (cover_iff g1 hy1.2.1).2 fun i h1 h2 => (g2 i).2 ⟨(cover_iff hn hy1.2.1).1 (ht y (by simp [hy])) i h1 h2, ?_⟩
      have := p1 y hy
      omega
    obtain ⟨r1, r2⟩ := cut_all list (cutX every x) g1 (fun y hy => hi y (by simp [hy])) ht2 p2
    refine ⟨r1, fun i => ?_⟩
    rw [List.foldl_cons, r2 i, g2 i]
    constructor
    · rintro ⟨⟨h1, h2⟩, h3⟩
      refine ⟨h1, ?_⟩
      rintro ⟨y, hy, h⟩
      rcases List.mem_cons.1 hy with rfl | hy
      · exact h2 h
      · exact h3 ⟨y, hy, h⟩
    · rintro ⟨h1, h2⟩
      exact ⟨⟨h1, fun h => h2 ⟨x, by simp, h⟩⟩, fun ⟨y, hy, h⟩ => h2 ⟨y, by simp [hy], h⟩⟩
theorem apart_take {l : List Ext} (h : Apart l) (k : Nat) : Apart (l.take k) := List.Pairwise.sublist (List.take_sublist k l) h
def blk (x : Ext) : List Nat := List.range' x.lo.toNat x.sz.toNat
/-- A row of bools and its places. -/
def Rep (l : List Bool) (e : List Ext) : Prop := Norm l.length e ∧ ∀ i : Nat, i < l.length → (l[i]? = some true ↔ memX e i)
theorem Rep.mem {l : List Bool} {e : List Ext} (h : Rep l e) {i : Int} (hm : memX e i) : 0 ≤ i ∧ i < l.length := by
  obtain ⟨x, hx, h1, h2⟩ := hm
  have := h.1.2 x hx
  omega
theorem Rep.uniq {l : List Bool} {e e' : List Ext} (h : Rep l e) (h' : Rep l e') : e = e' := by
  refine norm_uniq h.1 h'.1 fun i => ?_
  constructor
  · intro hm
    obtain ⟨h1, h2⟩ := h.mem hm
    obtain ⟨k, rfl⟩ := Int.eq_ofNat_of_zero_le h1
    exact (h'.2 k (by omega)).1 ((h.2 k (by omega)).2 hm)
  · intro hm
    obtain ⟨h1, h2⟩ := h'.mem hm
    obtain ⟨k, rfl⟩ := Int.eq_ofNat_of_zero_le h1
    exact (h.2 k (by omega)).1 ((h'.2 k (by omega)).2 hm)
/-- The places of a row of bools, as the document makes them. -/
def rowB (l : List Bool) : Nat → List Ext
  | 0 => []
  | k + 1 => if l[k]? = some true then (if 0 < k ∧ l[k - 1]? = some true then (match (rowB l k).getLast? with
      | some x => (rowB l k).dropLast ++ [⟨x.lo, x.sz + 1⟩]
      | none => []) else rowB l k ++ [⟨k, 1⟩]) else rowB l k
theorem rowB_ok (l : List Bool) : ∀ k, k ≤ l.length → Norm k (rowB l k) ∧ (∀ i : Int, memX (rowB l k) i ↔ ∃ j : Nat, i = j ∧ j < k ∧ l[j]? = some true) ∧ (0 < k → l[k - 1]? = some true → ∃ x, (rowB l k).getLast? = some x ∧ xe x = k) ∧ (0 < k → l[k - 1]? ≠ some true → ∀ x ∈ rowB l k, xe x < k)
  | 0, _ => ⟨norm_nil _, fun i => ⟨fun h => absurd h (memX_nil i), fun ⟨j, _, h, _⟩ => by omega⟩, fun h => by omega, fun h => by omega⟩
  | k + 1, hk => by
    obtain ⟨h1, h2, h3, h4⟩ := rowB_ok l k (by omega)
    unfold rowB
    have hup : ∀ e : List Ext, Norm k e → Norm ((k + 1 : Nat) : Int) e := fun e he => ⟨he.1, fun x hx => by have := he.2 x hx; omega⟩
    rw [Nat.add_sub_cancel]
    by_cases hb : l[k]? = some true
    · rw [if_pos hb]
      by_cases hp : 0 < k ∧ l[k - 1]? = some true
      · rw [if_pos hp]
        obtain ⟨x, hx, hxe⟩ := h3 hp.1 hp.2
        rw [hx]
        have hsp := List.getLast?_eq_some_iff.1 hx
        obtain ⟨ys, hys⟩ := hsp
        have hdl : (rowB l k).dropLast = ys := by rw [hys]; simp
        dsimp only
        rw [hdl]
        rw [hys] at h1 h2
        obtain ⟨p1, p2, p3⟩ := h1.parts
        have px := p2.2 x (by simp)
        have e0 : xe x = x.lo + x.sz := rfl
        have e1 : xe ⟨x.lo, x.sz + 1⟩ = (k : Int) + 1 := by show x.lo + (x.sz + 1) = _; omega
        refine ⟨(hup _ p1).join (norm_one ⟨px.1, by show 1 ≤ x.sz + 1; omega, by rw [e1]; omega⟩) (fun y hy z hz => by rw [List.mem_singleton.1 hz]; exact p3 y hy x (by simp)), fun i => ?_, fun _ _ => ⟨⟨x.lo, x.sz + 1⟩, by simp, by rw [e1]; omega⟩, fun _ q => absurd hb q⟩
        have h2i := h2 i
        rw [memX_app, memX_cons] at h2i ⊢
        rw [e1]
        constructor
        · rintro (q | q | q)
          · obtain ⟨j, q1, q2, q3⟩ := h2i.1 (.inl q)
            exact ⟨j, q1, by omega, q3⟩
          · by_cases hi : i < xe x
            · obtain ⟨j, q1, q2, q3⟩ := h2i.1 (.inr (.inl ⟨q.1, hi⟩))
              exact ⟨j, q1, by omega, q3⟩
            · exact ⟨k, by omega, by omega, hb⟩
          · exact absurd q (memX_nil i)
        · rintro ⟨j, q1, q2, q3⟩
          by_cases hj : j = k
          · subst hj
            exact .inr (.inl ⟨by show x.lo ≤ i; omega, by omega⟩)
          · rcases h2i.2 ⟨j, q1, by omega, q3⟩ with q | q | q
            · exact .inl q
            · exact .inr (.inl ⟨q.1, by omega⟩)
            · exact absurd q (memX_nil i)
      · rw [if_neg hp]
        have hlt : ∀ x ∈ rowB l k, xe x < k := fun x hx => by
          by_cases h0 : 0 < k
          · exact h4 h0 (fun q => hp ⟨h0, q⟩) x hx
          · have : k = 0 := by omega
            subst this
            cases hx
        have e1 : xe ⟨(k : Int), 1⟩ = (k : Int) + 1 := rfl
        refine ⟨(hup _ h1).join (norm_one ⟨by show (0 : Int) ≤ k; omega, by show (1 : Int) ≤ 1; omega, by rw [e1]; omega⟩) (fun y hy z hz => by rw [List.mem_singleton.1 hz]; exact hlt y hy), fun i => ?_, fun _ _ => ⟨⟨k, 1⟩, by simp, by rw [e1]; omega⟩, fun _ q => absurd hb q⟩
        rw [memX_app, memX_cons, h2 i, e1]
        constructor
        · rintro (⟨j, q1, q2, q3⟩ | q | q)
          · exact ⟨j, q1, by omega, q3⟩
          · exact ⟨k, by have : (k : Int) ≤ i := q.1; omega, by omega, hb⟩
          · exact absurd q (memX_nil i)
        · rintro ⟨j, q1, q2, q3⟩
          by_cases hj : j = k
          · subst hj
            exact .inr (.inl ⟨by show (j : Int) ≤ i; omega, by omega⟩)
          · exact .inl ⟨j, q1, by omega, q3⟩
    · rw [if_neg hb]
      refine ⟨hup _ h1, fun i => ?_, fun _ q => absurd q hb, fun _ _ x hx => by have := h1.2 x hx; omega⟩
      rw [h2 i]
      constructor
      · rintro ⟨j, q1, q2, q3⟩; exact ⟨j, q1, by omega, q3⟩
      · rintro ⟨j, q1, q2, q3⟩
        have : j ≠ k := fun e => hb (e ▸ q3)
        exact ⟨j, q1, by omega, q3⟩
theorem row_rep (l : List Bool) : Rep l (rowB l l.length) := by
  obtain ⟨h1, h2, -⟩ := rowB_ok l l.length (Nat.le_refl _)
  refine ⟨h1, fun i hi => ?_⟩
  rw [h2 i]
  constructor
  · intro h; exact ⟨i, rfl, hi, h⟩
  · rintro ⟨j, q1, _, q3⟩
    have : i = j := by omega
    rw [this]; exact q3
end Go.Proofs.Ytgdefllblcmgpaa
