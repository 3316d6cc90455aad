/- Places, rising, none side by side: plain. -/
import Derived.Test.YtgdefllblcmgpaaLc
namespace Go.Proofs.Ytgdefllblcmgpaa
open Go.RowKit
structure Ext where
  lo : Int
  sz : Int
  deriving DecidableEq
def xe (x : Ext) : Int := x.lo + x.sz
/-- Places of n blocks, rising, none side by side. -/
def Norm (n : Int) (l : List Ext) : Prop := l.Pairwise (fun x y => xe x < y.lo) ∧ ∀ x ∈ l, 0 ≤ x.lo ∧ 1 ≤ x.sz ∧ xe x ≤ n
def memX (l : List Ext) (i : Int) : Prop := ∃ x ∈ l, x.lo ≤ i ∧ i < xe x
theorem memX_nil (i : Int) : ¬ memX [] i := by rintro ⟨x, hx, _⟩; cases hx
theorem memX_cons {x : Ext} {l : List Ext} {i : Int} : memX (x :: l) i ↔ (x.lo ≤ i ∧ i < xe x) ∨ memX l i := by
  constructor
  · rintro ⟨y, hy, h⟩
    rcases List.mem_cons.1 hy with rfl | hy
    · exact .inl h
    · exact .inr ⟨y, hy, h⟩
  · rintro (h | ⟨y, hy, h⟩)
    · exact ⟨x, by simp, h⟩
    · exact ⟨y, by simp [hy], h⟩
theorem memX_app {a b : List Ext} {i : Int} : memX (a ++ b) i ↔ memX a i ∨ memX b i := by
  induction a with
  | nil => simp [memX_nil]
  | cons x a ih => rw [List.cons_append, memX_cons, memX_cons, ih, or_assoc]
theorem Norm.tail {n : Int} {x : Ext} {l : List Ext} (h : Norm n (x :: l)) : Norm n l := ⟨(List.pairwise_cons.1 h.1).2, fun y hy => h.2 y (by simp [hy])⟩
theorem Norm.head {n : Int} {x : Ext} {l : List Ext} (h : Norm n (x :: l)) : (0 ≤ x.lo ∧ 1 ≤ x.sz ∧ xe x ≤ n) ∧ ∀ i, memX l i → xe x < i :=
  ⟨h.2 x (by simp), fun i ⟨y, hy, h1, _⟩ => Int.lt_of_lt_of_le ((List.pairwise_cons.1 h.1).1 y hy) h1⟩
theorem norm_uniq : ∀ {l m : List Ext} {n k : Int}, Norm n l → Norm k m → (∀ i, memX l i ↔ memX m i) → l = m
  | [], [], _, _, _, _, _ => rfl
  | [], y :: m, _, _, _, h2, h => by
    have := h2.head.1
    exact absurd ((h y.lo).2 (memX_cons.2 (.inl ⟨Int.le_refl _, by unfold xe; omega⟩))) (memX_nil _)
  | x :: l, [], _, _, h1, _, h => by
    have := h1.head.1
    exact absurd ((h x.lo).1 (memX_cons.2 (.inl ⟨Int.le_refl _, by unfold xe; omega⟩))) (memX_nil _)
  | x :: l, y :: m, n, k, h1, h2, h => by
    obtain ⟨a1, a2⟩ := h1.head
    obtain ⟨b1, b2⟩ := h2.head
    have ex : xe x = x.lo + x.sz := rfl
    have ey : xe y = y.lo + y.sz := rfl
    have q1 := memX_cons.1 ((h x.lo).1 (memX_cons.2 (.inl ⟨Int.le_refl _, by omega⟩)))
    have q2 := memX_cons.1 ((h y.lo).2 (memX_cons.2 (.inl ⟨Int.le_refl _, by omega⟩)))
    have hlo : x.lo = y.lo := by
      rcases q1 with q1 | q1
      · rcases q2 with q2 | q2
        · omega
        · have := a2 _ q2; omega
      · rcases q2 with q2 | q2
        · have := b2 _ q1; omega
        · have := b2 _ q1; have := a2 _ q2; omega
    have hend : xe x = xe y := by
      rcases Int.lt_trichotomy (xe x) (xe y) with g | g | g
      · have := memX_cons.1 ((h (xe x)).2 (memX_cons.2 (.inl ⟨by omega, g⟩)))
        rcases this with t | t
        · omega
        · have := a2 _ t; omega
      · exact g
      · have := memX_cons.1 ((h (xe y)).1 (memX_cons.2 (.inl ⟨by omega, g⟩)))
        rcases this with t | t
        · omega
        · have := b2 _ t; omega
    have hxy : x = y := by cases x; cases y; simp [xe] at *; omega
    subst hxy
    rw [norm_uniq h1.tail h2.tail fun i => ?_]
    have := h i
    rw [memX_cons, memX_cons] at this
    constructor
    · intro g
      rcases this.1 (.inr g) with t | t
      · have := a2 _ g; omega
      · exact t
    · intro g
      rcases this.2 (.inr g) with t | t
      · have := b2 _ g; omega
      · exact t
/-- The first place that ends behind a block. -/
def findX (l : List Ext) (i : Int) : Nat := l.findIdx fun x => decide (i < xe x)
theorem findX_le (l : List Ext) (i : Int) : findX l i ≤ l.length := List.findIdx_le_length
/-- A row of places, cut where a block is: those that end ahead of it, those that end behind it. -/
theorem find_cut {l : List Ext} (i : Int) : (∀ x ∈ l.take (findX l i), xe x ≤ i) ∧ ∀ (h : findX l i < l.length), i < xe l[findX l i] := by
  constructor
  · intro x hx
    obtain ⟨j, hj, rfl⟩ := List.mem_iff_getElem.1 hx
    have hj2 : j < findX l i := by rw [List.length_take] at hj; omega
    have := List.not_of_lt_findIdx hj2
    rw [List.getElem_take]
    simpa using this
  · intro h
    have := List.findIdx_getElem (w := h)
    simp only [decide_eq_true_eq] at this
    exact this
theorem take_get_drop {α : Type} {l : List α} {k : Nat} (h : k < l.length) : l = l.take k ++ l[k] :: l.drop (k + 1) := by
  rw [← List.drop_eq_getElem_cons h, List.take_append_drop]
theorem Norm.parts {n : Int} {a b : List Ext} (h : Norm n (a ++ b)) : Norm n a ∧ Norm n b ∧ ∀ x ∈ a, ∀ y ∈ b, xe x < y.lo :=
  ⟨⟨(List.pairwise_append.1 h.1).1, fun x hx => h.2 x (by simp [hx])⟩, ⟨(List.pairwise_append.1 h.1).2.1, fun x hx => h.2 x (by simp [hx])⟩, (List.pairwise_append.1 h.1).2.2⟩
theorem Norm.join {n : Int} {a b : List Ext} (h1 : Norm n a) (h2 : Norm n b) (h : ∀ x ∈ a, ∀ y ∈ b, xe x < y.lo) : Norm n (a ++ b) :=
  ⟨List.pairwise_append.2 ⟨h1.1, h2.1, h⟩, fun x hx => (List.mem_append.1 hx).elim (h1.2 x) (h2.2 x)⟩
theorem norm_nil (n : Int) : Norm n [] := ⟨.nil, fun x hx => by cases hx⟩
theorem norm_one {n : Int} {x : Ext} (h : 0 ≤ x.lo ∧ 1 ≤ x.sz ∧ xe x ≤ n) : Norm n [x] := ⟨by simp, fun y hy => by rw [List.mem_singleton.1 hy]; exact h⟩
def hasX (l : List Ext) (i : Int) : Bool := l.any fun x => decide (x.lo ≤ i) && decide (i < xe x)
theorem hasX_iff {l : List Ext} {i : Int} : hasX l i = true ↔ memX l i := by
  unfold hasX memX
  simp [List.any_eq_true]
/-- A row at a block: those ahead, the place that is found, those behind. -/
theorem find_split {n : Int} {l : List Ext} (hn : Norm n l) (i : Int) : (findX l i = l.length ∧ ∀ x ∈ l, xe x ≤ i) ∨ ∃ h : findX l i < l.length, (∀ x ∈ l.take (findX l i), xe x ≤ i) ∧ i < xe l[findX l i] ∧ (∀ x ∈ l.drop (findX l i + 1), xe l[findX l i] < x.lo) ∧ ∀ x ∈ l.take (findX l i), xe x < (l[findX l i]).lo := by
  obtain ⟨c1, c2⟩ := find_cut (l := l) i
  rcases Nat.lt_or_ge (findX l i) l.length with h | h
  · right
    have e := take_get_drop h
    have hn2 := hn
    rw [e] at hn2
    obtain ⟨p1, p2, p3⟩ := hn2.parts
    exact ⟨h, c1, c2 h, (List.pairwise_cons.1 p2.1).1, fun x hx => p3 x hx _ (List.mem_cons_self ..)⟩
  · left
    have := findX_le l i
    have e : findX l i = l.length := by omega
    refine ⟨e, ?_⟩
    rw [e, List.take_length] at c1
    exact c1
theorem has_find {n : Int} {l : List Ext} (hn : Norm n l) (i : Int) : hasX l i = match l[findX l i]? with
  | some x => decide (x.lo ≤ i)
  | none => false := by
  rw [Bool.eq_iff_iff, hasX_iff]
  rcases find_split hn i with ⟨e, h⟩ | ⟨h, c1, c2, c3, c4⟩
  · rw [List.getElem?_eq_none (by omega)]
    simp only [Bool.false_eq_true, iff_false]
    rintro ⟨x, hx, h1, h2⟩
    have := h x hx
    omega
  · rw [List.getElem?_eq_getElem h]
    simp only [decide_eq_true_eq]
    constructor
    · rintro ⟨x, hx, h1, h2⟩
      rw [take_get_drop h] at hx
      rcases List.mem_append.1 hx with hx | hx
      · have := c1 x hx; omega
      · rcases List.mem_cons.1 hx with rfl | hx
        · exact h1
        · have := c3 x hx; omega
    · intro g
      exact ⟨_, List.getElem_mem h, g, c2⟩
def isInX (n : Int) (x : Ext) : Bool := decide (0 ≤ x.lo) && decide (1 ≤ x.sz) && decide (x.lo < n) && decide (x.sz ≤ n - x.lo)
theorem isInX_iff {n : Int} {x : Ext} : isInX n x = true ↔ 0 ≤ x.lo ∧ 1 ≤ x.sz ∧ xe x ≤ n := by
  unfold isInX xe
  simp only [Bool.and_eq_true, decide_eq_true_eq]
  omega
def touchX (l : List Ext) (x : Ext) : Bool := match l[findX l x.lo]? with
  | some y => decide (y.lo < xe x)
  | none => false
def coverX (l : List Ext) (x : Ext) : Bool := match l[findX l x.lo]? with
  | some y => decide (y.lo ≤ x.lo) && decide (xe x ≤ xe y)
  | none => false
theorem touch_iff {n : Int} {l : List Ext} (hn : Norm n l) {x : Ext} (hx : 1 ≤ x.sz) : touchX l x = true ↔ ∃ i, (x.lo ≤ i ∧ i < xe x) ∧ memX l i := by
  unfold touchX
  have ex : xe x = x.lo + x.sz := rfl
  rcases find_split hn x.lo with ⟨e, h⟩ | ⟨h, c1, c2, c3, c4⟩
  · rw [List.getElem?_eq_none (by omega)]
    simp only [Bool.false_eq_true, false_iff]
    rintro ⟨i, h0, y, hy, h1, h2⟩
    have := h y hy
    omega
  · rw [List.getElem?_eq_getElem h]
    simp only [decide_eq_true_eq]
    constructor
    · intro g
      by_cases hlo : (l[findX l x.lo]).lo ≤ x.lo
      · exact ⟨x.lo, ⟨by omega, by omega⟩, _, List.getElem_mem h, hlo, c2⟩
      · have := (hn.2 _ (List.getElem_mem h)).2.1
        exact ⟨(l[findX l x.lo]).lo, ⟨by omega, g⟩, _, List.getElem_mem h, Int.le_refl _, by unfold xe; omega⟩
    · rintro ⟨i, h0, y, hy, h1, h2⟩
      rw [take_get_drop h] at hy
      rcases List.mem_append.1 hy with hy | hy
      · have := c1 y hy; omega
      · rcases List.mem_cons.1 hy with rfl | hy
        · omega
        · have := c3 y hy
          have := (hn.2 _ (List.getElem_mem h)).2.1
          unfold xe at *
          omega
theorem cover_iff {n : Int} {l : List Ext} (hn : Norm n l) {x : Ext} (hx : 1 ≤ x.sz) : coverX l x = true ↔ ∀ i, x.lo ≤ i → i < xe x → memX l i := by
  unfold coverX
  have ex : xe x = x.lo + x.sz := rfl
  rcases find_split hn x.lo with ⟨e, h⟩ | ⟨h, c1, c2, c3, c4⟩
  · rw [List.getElem?_eq_none (by omega)]
    simp only [Bool.false_eq_true, false_iff]
    intro g
    obtain ⟨y, hy, h1, h2⟩ := g x.lo (Int.le_refl _) (by omega)
    have := h y hy
    omega
  · rw [List.getElem?_eq_getElem h]
    simp only [Bool.and_eq_true, decide_eq_true_eq]
    constructor
    · rintro ⟨g1, g2⟩ i h1 h2
      exact ⟨_, List.getElem_mem h, by omega, by omega⟩
    · intro g
      have hin : ∀ i, x.lo ≤ i → i < xe x → i ≤ xe l[findX l x.lo] → (l[findX l x.lo]).lo ≤ i ∧ i < xe l[findX l x.lo] := fun i h1 h2 h3 => by
        obtain ⟨y, hy, k1, k2⟩ := g i h1 h2
        rw [take_get_drop h] at hy
        rcases List.mem_append.1 hy with hy | hy
        · have := c1 y hy; omega
        · rcases List.mem_cons.1 hy with rfl | hy
          · exact ⟨k1, k2⟩
          · have := c3 y hy; omega
      refine ⟨(hin x.lo (Int.le_refl _) (by omega) (by omega)).1, ?_⟩
      apply Int.not_lt.1
      intro hlt
      have := (hin (xe l[findX l x.lo]) (by omega) hlt (Int.le_refl _)).2
      omega
/-- The place among the rising where one belongs. -/
def lowX (l : List Ext) (x : Ext) : Nat := (l.takeWhile fun y => decide (y.lo < x.lo)).length
theorem lowX_le (l : List Ext) (x : Ext) : lowX l x ≤ l.length := (List.takeWhile_sublist _).length_le
theorem low_cut {n : Int} {l : List Ext} (hn : Norm n l) (x : Ext) : (∀ y ∈ l.take (lowX l x), y.lo < x.lo) ∧ ∀ y ∈ l.drop (lowX l x), x.lo ≤ y.lo := by
  induction l with
  | nil => exact ⟨fun y hy => by simp at hy, fun y hy => by simp at hy⟩
  | cons z l ih =>
    by_cases hz : z.lo < x.lo
    · have e : lowX (z :: l) x = lowX l x + 1 := by simp [lowX, hz]
      obtain ⟨i1, i2⟩ := ih hn.tail
      rw [e]
      refine ⟨fun y hy => ?_, fun y hy => i2 y (by simpa using hy)⟩
      rw [List.take_succ_cons] at hy
      rcases List.mem_cons.1 hy with rfl | hy
      · exact hz
      · exact i1 y hy
    · have e : lowX (z :: l) x = 0 := by simp [lowX, hz]
      rw [e]
      refine ⟨fun y hy => by simp at hy, fun y hy => ?_⟩
      rcases List.mem_cons.1 (by simpa using hy) with rfl | hy
      · omega
      · have h1 := (List.pairwise_cons.1 hn.1).1 y hy
        have h2 := (hn.2 z (by simp)).2.1
        unfold xe at h1
        omega
/-- What stands behind a place that is given: its size, grown, and the row without the one that it grew by. -/
def growR (l : List Ext) (x : Ext) : Ext × List Ext := match l[lowX l x]? with
  | some y => if y.lo = xe x then (⟨x.lo, x.sz + y.sz⟩, l.take (lowX l x) ++ l.drop (lowX l x + 1)) else (x, l)
  | none => (x, l)
def giveX (l : List Ext) (x : Ext) : List Ext :=
  match (growR l x).2[lowX l x - 1]? with
  | some y => if 0 < lowX l x ∧ xe y = (growR l x).1.lo then (growR l x).2.set (lowX l x - 1) ⟨y.lo, y.sz + (growR l x).1.sz⟩ else (growR l x).2.take (lowX l x) ++ (growR l x).1 :: (growR l x).2.drop (lowX l x)
  | none => (growR l x).2.take (lowX l x) ++ (growR l x).1 :: (growR l x).2.drop (lowX l x)
/-- What a grown place is: A ahead, B behind, none of them side by side with it from behind. -/
theorem growR_is {n : Int} {l : List Ext} {x : Ext} (hn : Norm n l) (hx : 0 ≤ x.lo ∧ 1 ≤ x.sz ∧ xe x ≤ n) (ht : touchX l x = false) :
    ∃ B, (growR l x).2 = l.take (lowX l x) ++ B ∧ (growR l x).1.lo = x.lo ∧ xe x ≤ xe (growR l x).1 ∧ xe (growR l x).1 ≤ n ∧ Norm n B ∧ (∀ y ∈ B, xe (growR l x).1 < y.lo) ∧ (∀ y ∈ l.take (lowX l x), xe y ≤ x.lo) ∧ ∀ i, (memX (l.drop (lowX l x)) i ∨ (x.lo ≤ i ∧ i < xe x)) ↔ (memX B i ∨ (x.lo ≤ i ∧ i < xe (growR l x).1)) := by
  obtain ⟨c1, c2⟩ := low_cut hn x
  have hap : ∀ i, x.lo ≤ i → i < xe x → ¬ memX l i := fun i h1 h2 h3 => by
    have := (touch_iff hn hx.2.1).2 ⟨i, ⟨h1, h2⟩, h3⟩
    rw [ht] at this; cases this
  have ex : xe x = x.lo + x.sz := rfl
  have hA : ∀ y ∈ l.take (lowX l x), xe y ≤ x.lo := fun y hy => by
    have h1 := c1 y hy
    apply Int.not_lt.1
    intro h2
    exact hap x.lo (Int.le_refl _) (by omega) ⟨y, List.mem_of_mem_take hy, by omega, h2⟩
  have hB : ∀ y ∈ l.drop (lowX l x), xe x ≤ y.lo := fun y hy => by
    have h1 := c2 y hy
    have h3 := (hn.2 y (List.mem_of_mem_drop hy)).2.1
    apply Int.not_lt.1
    intro h2
    exact hap y.lo h1 h2 ⟨y, List.mem_of_mem_drop hy, Int.le_refl _, by unfold xe; omega⟩
  have hsp := hn
  rw [← List.take_append_drop (lowX l x) l] at hsp
  obtain ⟨n1, n2, n3⟩ := hsp.parts
  unfold growR
  rcases Nat.lt_or_ge (lowX l x) l.length with hlt | hge
  · rw [List.getElem?_eq_getElem hlt]
    have hd := List.drop_eq_getElem_cons hlt
    rw [hd] at n2 hB n3 ⊢
    have nh := n2.head
    have hy := hB _ (List.mem_cons_self ..)
    have ey : xe l[lowX l x] = (l[lowX l x]).lo + (l[lowX l x]).sz := rfl
    dsimp only
    by_cases he : (l[lowX l x]).lo = xe x
    · rw [if_pos he]
      have e2 : xe ⟨x.lo, x.sz + (l[lowX l x]).sz⟩ = xe l[lowX l x] := by unfold xe at *; simp only; omega
      refine ⟨l.drop (lowX l x + 1), rfl, rfl, by rw [e2]; omega, by rw [e2]; omega, n2.tail, fun y hy2 => by rw [e2]; exact (List.pairwise_cons.1 n2.1).1 y hy2, hA, fun i => ?_⟩
      rw [memX_cons, e2]
      constructor
      · rintro ((h | h) | h)
        · exact .inr ⟨by omega, h.2⟩
        · exact .inl h
        · exact .inr ⟨h.1, by omega⟩
      · rintro (h | h)
        · exact .inl (.inr h)
        · by_cases hi : i < xe x
          · exact .inr ⟨h.1, hi⟩
          · exact .inl (.inl ⟨by omega, h.2⟩)
    · rw [if_neg he]
      refine ⟨l[lowX l x] :: l.drop (lowX l x + 1), by rw [← hd, List.take_append_drop], rfl, Int.le_refl _, hx.2.2, n2, fun y hy2 => ?_, hA, fun i => Iff.rfl⟩
      rcases List.mem_cons.1 hy2 with rfl | hy2
      · show xe x < _; omega
      · have := (List.pairwise_cons.1 n2.1).1 y hy2
        show xe x < _
        omega
  · rw [List.getElem?_eq_none hge]
    dsimp only
    have hd : l.drop (lowX l x) = [] := List.drop_eq_nil_iff.2 hge
    refine ⟨[], by rw [List.append_nil, List.take_of_length_le hge], rfl, Int.le_refl _, hx.2.2, norm_nil _, fun y hy => (by cases hy), hA, fun i => by rw [hd]⟩
theorem give_ok {n : Int} {l : List Ext} {x : Ext} (hn : Norm n l) (hx : 0 ≤ x.lo ∧ 1 ≤ x.sz ∧ xe x ≤ n) (ht : touchX l x = false) : Norm n (giveX l x) ∧ ∀ i, memX (giveX l x) i ↔ memX l i ∨ (x.lo ≤ i ∧ i < xe x) := by
  obtain ⟨B, g1, g2, g3, g4, g5, g6, g7, g8⟩ := growR_is hn hx ht
  have hle := lowX_le l x
  have hsp := hn
  rw [← List.take_append_drop (lowX l x) l] at hsp
  obtain ⟨n1, n2, n3⟩ := hsp.parts
  have hmem : ∀ i, memX l i ↔ memX (l.take (lowX l x)) i ∨ memX (l.drop (lowX l x)) i := fun i => by rw [← memX_app, List.take_append_drop]
  have hlen : (l.take (lowX l x)).length = lowX l x := by rw [List.length_take]; omega
  have ex : xe x = x.lo + x.sz := rfl
  have eg : xe (growR l x).1 = (growR l x).1.lo + (growR l x).1.sz := rfl
  have plain : (∀ y ∈ l.take (lowX l x), xe y < (growR l x).1.lo) → Norm n ((growR l x).2.take (lowX l x) ++ (growR l x).1 :: (growR l x).2.drop (lowX l x)) ∧ ∀ i, memX ((growR l x).2.take (lowX l x) ++ (growR l x).1 :: (growR l x).2.drop (lowX l x)) i ↔ memX l i ∨ (x.lo ≤ i ∧ i < xe x) := by
    intro hs
    have t1 : (growR l x).2.take (lowX l x) = l.take (lowX l x) := by rw [g1, List.take_append_of_le_length (by omega), List.take_take, Nat.min_self]
    have t2 : (growR l x).2.drop (lowX l x) = B := by rw [g1, List.drop_append_of_le_length (by omega), List.drop_of_length_le (by omega), List.nil_append]
    rw [t1, t2]
    refine ⟨n1.join ((norm_one ⟨by omega, by omega, g4⟩).join g5 fun y hy z hz => by rw [List.mem_singleton.1 hy]; exact g6 z hz) fun y hy z hz => ?_, fun i => ?_⟩
    · rcases List.mem_cons.1 hz with rfl | hz
      · exact hs y hy
      · have := g6 z hz
        have := hs y hy
        omega
    · rw [memX_app, memX_cons, hmem i, or_assoc, g8 i, g2]
      constructor
      · rintro (h | h | h)
        · exact .inl h
        · exact .inr (.inr h)
        · exact .inr (.inl h)
      · rintro (h | h | h)
        · exact .inl h
        · exact .inr (.inr h)
        · exact .inr (.inl h)
  unfold giveX
  cases hq : (growR l x).2[lowX l x - 1]? with
  | none =>
    refine plain fun y hy => ?_
    exfalso
    have h1 : 0 < lowX l x := by
      apply Nat.pos_of_ne_zero
      intro h0; rw [h0] at hy; simp at hy
    rw [g1, List.getElem?_append_left (by omega), List.getElem?_eq_getElem (by omega)] at hq
    cases hq
  | some y =>
    dsimp only
    by_cases hc : 0 < lowX l x ∧ xe y = (growR l x).1.lo
    · rw [if_pos hc]
      obtain ⟨k, hk⟩ : ∃ k, lowX l x = k + 1 := ⟨lowX l x - 1, by omega⟩
      rw [hk, Nat.add_sub_cancel] at hq ⊢
      have hkl : k < l.length := by omega
      rw [g1, hk, List.getElem?_append_left (by rw [List.length_take]; omega), List.getElem?_take_of_lt (by omega), List.getElem?_eq_getElem hkl] at hq
      cases hq
      have hts : l.take (k + 1) = l.take k ++ [l[k]] := by rw [List.take_add_one, List.getElem?_eq_getElem hkl]; rfl
      have hset : (growR l x).2.set k ⟨(l[k]).lo, (l[k]).sz + (growR l x).1.sz⟩ = l.take k ++ ⟨(l[k]).lo, (l[k]).sz + (growR l x).1.sz⟩ :: B := by
        rw [g1, hk, hts, List.append_assoc, List.set_append_right _ _ (by rw [List.length_take]; omega)]
        congr 1
        rw [List.length_take, Nat.min_eq_left (by omega), Nat.sub_self]
        rfl
      rw [hset]
      rw [hk, hts] at n1 g7
      obtain ⟨m1, m2, m3⟩ := n1.parts
      have hkn := m2.2 l[k] (by simp)
      have ek : xe l[k] = (l[k]).lo + (l[k]).sz := rfl
      have en : xe ⟨(l[k]).lo, (l[k]).sz + (growR l x).1.sz⟩ = xe (growR l x).1 := by unfold xe at *; simp only; omega
      refine ⟨m1.join ((norm_one (x := ⟨(l[k]).lo, (l[k]).sz + (growR l x).1.sz⟩) ⟨hkn.1, by show 1 ≤ (l[k]).sz + (growR l x).1.sz; omega, by rw [en]; exact g4⟩).join g5 fun y hy z hz => by rw [List.mem_singleton.1 hy, en]; exact g6 z hz) fun y hy z hz => ?_, fun i => ?_⟩
      · have h1 := m3 y hy l[k] (by simp)
        rcases List.mem_cons.1 hz with rfl | hz
        · exact h1
        · have := g6 z hz
          omega
      · have h8 := g8 i
        rw [memX_app, memX_cons, en, hmem i, hk, hts, memX_app, memX_cons]
        rw [hk] at h8
        have hno : ¬ memX [] i := memX_nil i
        constructor
        · rintro (h | h | h)
          · exact .inl (.inl (.inl h))
          · by_cases hi : i < xe l[k]
            · exact .inl (.inl (.inr (.inl ⟨h.1, hi⟩)))
            · rcases h8.2 (.inr ⟨by omega, h.2⟩) with t | t
              · exact .inl (.inr t)
              · exact .inr t
          · rcases h8.2 (.inl h) with t | t
            · exact .inl (.inr t)
            · exact .inr t
        · rintro (((h | h | h) | h) | h)
          · exact .inl h
          · exact .inr (.inl ⟨h.1, by omega⟩)
          · exact absurd h hno
          · rcases h8.1 (.inl h) with t | t
            · exact .inr (.inr t)
            · exact .inr (.inl ⟨by show (l[k]).lo ≤ i; omega, t.2⟩)
          · rcases h8.1 (.inr h) with t | t
            · exact .inr (.inr t)
            · exact .inr (.inl ⟨by show (l[k]).lo ≤ i; omega, t.2⟩)
    · rw [if_neg hc]
      refine plain fun z hz => ?_
      have h7 := g7 z hz
      have h1 : 0 < lowX l x := by
        apply Nat.pos_of_ne_zero
        intro h0; rw [h0] at hz; simp at hz
      obtain ⟨k, hk⟩ : ∃ k, lowX l x = k + 1 := ⟨lowX l x - 1, by omega⟩
      have hkl : k < l.length := by omega
      rw [g1, hk, Nat.add_sub_cancel, List.getElem?_append_left (by rw [List.length_take]; omega), List.getElem?_take_of_lt (by omega), List.getElem?_eq_getElem hkl] at hq
      cases hq
      have hts : l.take (k + 1) = l.take k ++ [l[k]] := by rw [List.take_add_one, List.getElem?_eq_getElem hkl]; rfl
      rw [hk, hts] at n1 g7 hz
      obtain ⟨m1, m2, m3⟩ := n1.parts
      have hlast : xe l[k] < (growR l x).1.lo := by
        have := g7 l[k] (List.mem_append_right _ (List.mem_singleton.2 rfl))
        have : ¬ xe l[k] = (growR l x).1.lo := fun e => hc ⟨h1, e⟩
        omega
      rcases List.mem_append.1 hz with hz | hz
      · have := m3 z hz l[k] (by simp)
        have := (m2.2 l[k] (by simp)).2.1
        unfold xe at *
        omega
      · rw [List.mem_singleton.1 hz]; exact hlast
/-- The row without a place that was free. -/
def cutX (l : List Ext) (x : Ext) : List Ext := match l[findX l x.lo]? with
  | some o => l.take (findX l x.lo) ++ ((if 0 < x.lo - o.lo then [⟨o.lo, x.lo - o.lo⟩] else []) ++ ((if 0 < xe o - xe x then [⟨xe x, xe o - xe x⟩] else []) ++ l.drop (findX l x.lo + 1)))
  | none => l
theorem cut_ok {n : Int} {l : List Ext} {x : Ext} (hn : Norm n l) (hx : 1 ≤ x.sz) (hc : coverX l x = true) : Norm n (cutX l x) ∧ ∀ i, memX (cutX l x) i ↔ memX l i ∧ ¬ (x.lo ≤ i ∧ i < xe x) := by
  unfold coverX at hc
  unfold cutX
  have ex : xe x = x.lo + x.sz := rfl
  rcases find_split hn x.lo with ⟨e, h⟩ | ⟨h, c1, c2, c3, c4⟩
  · rw [List.getElem?_eq_none (by omega)] at hc
    cases hc
  · rw [List.getElem?_eq_getElem h] at hc ⊢
    simp only [Bool.and_eq_true, decide_eq_true_eq] at hc
    dsimp only
    have hsp := hn
    have hm : ∀ i, memX l i ↔ memX (l.take (findX l x.lo) ++ l[findX l x.lo] :: l.drop (findX l x.lo + 1)) i := fun i => by rw [← take_get_drop h]
    rw [take_get_drop h] at hsp
    obtain ⟨p1, p2, p3⟩ := hsp.parts
    have hr := p2.tail
    have ho := p2.head
    simp only [hm, memX_app, memX_cons]
    generalize l[findX l x.lo] = o at *
    have eo : xe o = o.lo + o.sz := rfl
    generalize l.take (findX l x.lo) = A at *
    generalize l.drop (findX l x.lo + 1) = B at *
    have n3 : Norm n ((if 0 < xe o - xe x then [⟨xe x, xe o - xe x⟩] else []) ++ B) := by
      refine Norm.join ?_ hr ?_
      · split
        · exact norm_one ⟨by show 0 ≤ xe x; omega, by show 1 ≤ xe o - xe x; omega, by show xe x + (xe o - xe x) ≤ n; omega⟩
        · exact norm_nil _
      · intro y hy z hz
        split at hy
        · rw [List.mem_singleton.1 hy]
          have := c3 z hz
          show xe x + (xe o - xe x) < _
          omega
        · cases hy
    have n2 : Norm n ((if 0 < x.lo - o.lo then [⟨o.lo, x.lo - o.lo⟩] else []) ++ ((if 0 < xe o - xe x then [⟨xe x, xe o - xe x⟩] else []) ++ B)) := by
      refine Norm.join ?_ n3 ?_
      · split
        · exact norm_one ⟨by show 0 ≤ o.lo; omega, by show 1 ≤ x.lo - o.lo; omega, by show o.lo + (x.lo - o.lo) ≤ n; omega⟩
        · exact norm_nil _
      · intro y hy z hz
        split at hy
        · rw [List.mem_singleton.1 hy]
          show o.lo + (x.lo - o.lo) < _
          rcases List.mem_append.1 hz with hz | hz
          · split at hz
            · rw [List.mem_singleton.1 hz]; show _ < xe x; omega
            · cases hz
          · have := c3 z hz; omega
        · cases hy
    refine ⟨p1.join n2 fun y hy z hz => ?_, fun i => ?_⟩
    · have h4 := c4 y hy
      rcases List.mem_append.1 hz with hz | hz
      · split at hz
        · rw [List.mem_singleton.1 hz]; exact h4
        · cases hz
      · rcases List.mem_append.1 hz with hz | hz
        · split at hz
          · rw [List.mem_singleton.1 hz]; show _ < xe x; omega
          · cases hz
        · have := c3 z hz; omega
    · have q1 : memX (if 0 < x.lo - o.lo then [⟨o.lo, x.lo - o.lo⟩] else []) i ↔ o.lo ≤ i ∧ i < x.lo := by
        split
        · rw [memX_cons]
          show (o.lo ≤ i ∧ i < o.lo + (x.lo - o.lo)) ∨ _ ↔ _
          constructor
          · rintro (h | h)
            · omega
            · exact absurd h (memX_nil i)
          · intro h; left; omega
        · constructor
          · intro h; exact absurd h (memX_nil i)
          · intro h; omega
      have q2 : memX (if 0 < xe o - xe x then [⟨xe x, xe o - xe x⟩] else []) i ↔ xe x ≤ i ∧ i < xe o := by
        split
        · rw [memX_cons]
          show (xe x ≤ i ∧ i < xe x + (xe o - xe x)) ∨ _ ↔ _
          constructor
          · rintro (h | h)
            · omega
            · exact absurd h (memX_nil i)
          · intro h; left; omega
        · constructor
          · intro h; exact absurd h (memX_nil i)
          · intro h; omega
      rw [q1, q2]
      have qA : memX A i → i < o.lo := fun ⟨y, hy, k1, k2⟩ => by have := c4 y hy; omega
      have qB : memX B i → xe o < i := fun ⟨y, hy, k1, k2⟩ => by have := c3 y hy; omega
      constructor
      · rintro (h | h | h | h)
        · have := qA h; exact ⟨.inl h, by omega⟩
        · exact ⟨.inr (.inl ⟨by omega, by omega⟩), by omega⟩
        · exact ⟨.inr (.inl ⟨by omega, by omega⟩), by omega⟩
        · have := qB h; exact ⟨.inr (.inr h), by omega⟩
      · rintro ⟨h | h | h, g⟩
        · exact .inl h
        · by_cases hi : i < x.lo
          · exact .inr (.inl ⟨h.1, hi⟩)
          · exact .inr (.inr (.inl ⟨by omega, h.2⟩))
        · exact .inr (.inr (.inr h))
end Go.Proofs.Ytgdefllblcmgpaa
