/- Places as cells; rows of the store. -/
import Derived.Test.YtgdefllblcmgpaaFacts
import Derived.Test.YtgdefllblcmgpaaLc
import Derived.Test.YtgdefllblcmgpaaPsq
import Derived.Test.YtgdefllblcmgpaaLw
namespace Go.Proofs.Ytgdefllblcmgpaa
open Go.RowKit
set_option linter.unusedSimpArgs false
set_option maxRecDepth 10000
def cE (x : Ext) : List AV := [.sc (.int .i64 x.lo), .sc (.int .i64 x.sz)]
def flatE (l : List Ext) : List AV := flatC cE l
@[simp] theorem cE_length (m : Ext) : (cE m).length = 2 := rfl
@[simp] theorem flatE_length (l : List Ext) : (flatE l).length = l.length * 2 := flatC_length cE_length l
@[simp] theorem flatE_flat (l : List Ext) : flatL (flatE l) = true := flatC_flat (fun _ => rfl) l
@[simp] theorem flatE_one (l : List Ext) : (flatE l).all AV.one = true := flatC_one' (fun _ => rfl) l
@[simp] theorem cE_one (m : Ext) : (cE m).all AV.one = true := rfl
@[simp] theorem cE_flat (m : Ext) : flatL (cE m) = true := rfl
@[simp] theorem take_cE (r : Ext) : List.take 2 (cE r) = cE r := rfl
@[simp] theorem wrE (a b : AV) (m : Ext) : wr [a, b] 0 (cE m) = cE m := rfl
@[simp] theorem wrE2 (a b : AV) (m : Ext) : wr (zerosA [a, b] 2) 0 (cE m) = cE m := rfl
theorem flatE_seg (l : List Ext) (k : Nat) (h : k < l.length) : ((flatE l).drop (k * 2)).take 2 = cE l[k] := flatC_seg cE_length l k h
theorem flatE_0 (l : List Ext) (k : Nat) (h : k < l.length) : (flatE l)[k * 2]? = some (.sc (.int .i64 l[k].lo)) := flatC_get cE_length l k 0 h (by omega)
theorem flatE_1 (l : List Ext) (k : Nat) (h : k < l.length) : (flatE l)[k * 2 + 1]? = some (.sc (.int .i64 l[k].sz)) := flatC_get cE_length l k 1 h (by omega)
theorem flatE_append (l m : List Ext) : flatE (l ++ m) = flatE l ++ flatE m := flatC_append l m
theorem flatE_take (l : List Ext) (k : Nat) : (flatE l).take (k * 2) = flatE (l.take k) := flatC_take cE_length l k
theorem flatE_drop (l : List Ext) (k : Nat) : (flatE l).drop (k * 2) = flatE (l.drop k) := flatC_drop cE_length l k
theorem wr_mid (c B : List AV) (off a b d : Nat) (hb : B.length = b) (h : off + a + b + d ≤ c.length) : ((wr c (off + a) B).drop off).take (a + b + d) = (c.drop off).take a ++ B ++ ((c.drop off).drop (a + b)).take d := by
  subst hb
  have h4 : (c.take (off + a)).drop off = (c.drop off).take a := by rw [List.drop_take, show off + a - off = a by omega]
  rw [wr_eq _ _ _ (by omega), List.append_assoc, List.drop_append_of_le_length (by simp; omega), h4, ← List.append_assoc, List.take_append, List.take_of_length_le (by simp; omega), List.drop_drop]
  congr 1
  rw [show a + B.length + d - (List.take a (List.drop off c) ++ B).length = d by simp; omega, ← Nat.add_assoc]
theorem wr_setC {α : Type} {c : α → List AV} {w : Nat} (hc : ∀ x, (c x).length = w) {cells : List AV} {l : List α} {off : Nat} (y : α) (k : Nat) (hk : k < l.length) (h3 : off + l.length * w ≤ cells.length) (h4 : (cells.drop off).take (l.length * w) = flatC c l) :
    ((wr cells (off + k * w) (c y)).drop off).take (l.length * w) = flatC c (l.set k y) := by
  have e0 : k * w + w + (l.length - k - 1) * w = l.length * w := by
    rw [show l.length = k + 1 + (l.length - k - 1) by omega]
    simp only [Nat.add_mul, Nat.one_mul]
    rw [show k + 1 + (l.length - k - 1) - k - 1 = l.length - k - 1 by omega]
  have := wr_mid cells (c y) off (k * w) w ((l.length - k - 1) * w) (hc y) (by omega)
  rw [e0] at this
  rw [this, List.set_eq_take_append_cons_drop, if_pos hk, flatC_append, show y :: l.drop (k + 1) = [y] ++ l.drop (k + 1) from rfl, flatC_append, flatC_one]
  rw [← flatC_take hc, ← flatC_drop hc, ← h4, List.take_take, List.append_assoc]
  congr 2
  · congr 1; omega
  · rw [List.drop_take, Nat.succ_mul]; congr 1; omega
/-- A row of the store, or nil. -/
def RowAt (k p : Nat) (σ : Sto) (v : AV) (n : Nat) (cs : List AV) : Prop :=
  (v = .sc (.slice none 0 0) ∧ n = 0 ∧ cs = []) ∨ ∃ i g off c, v = .ms i g off n k ∧ i ≠ p ∧ σ[i]? = some ⟨c, g, false, false⟩ ∧ off + n * k ≤ c.length ∧ (c.drop off).take (n * k) = cs
theorem RowAt.append {k p : Nat} {σ : Sto} {v : AV} {n : Nat} {cs : List AV} (h : RowAt k p σ v n cs) (X : Sto) : RowAt k p (σ ++ X) v n cs := by
  rcases h with h | ⟨i, g, off, c, h1, h2, h3, h4⟩
  · exact .inl h
  · exact .inr ⟨i, g, off, c, h1, h2, by rw [List.getElem?_append_left (lt_of_get h3)]; exact h3, h4⟩
theorem RowAt.set_p {k p : Nat} {σ : Sto} {v : AV} {n : Nat} {cs : List AV} (h : RowAt k p σ v n cs) (X : MO) : RowAt k p (σ.set p X) v n cs := by
  rcases h with h | ⟨i, g, off, c, h1, h2, h3, h4⟩
  · exact .inl h
  · exact .inr ⟨i, g, off, c, h1, h2, by rw [List.getElem?_set_ne (Ne.symm h2)]; exact h3, h4⟩
theorem RowAt.fresh {k p : Nat} {σ : Sto} {v : AV} {n : Nat} {cs : List AV} (h : RowAt k p σ v n cs) (g off n' k' : Nat) : v ≠ .ms σ.length g off n' k' := by
  rcases h with ⟨rfl, _⟩ | ⟨i, g', off', c, rfl, h2, h3, h4⟩
  · simp
  · have := lt_of_get h3
    intro e
    cases e
    omega
theorem wr_end (c : List AV) (off n : Nat) (ys : List AV) (h : off + n + ys.length ≤ c.length) : ((wr c (off + n) ys).drop off).take (n + ys.length) = (c.drop off).take n ++ ys := by
  rw [wr_eq _ _ _ h, List.append_assoc, List.drop_append_of_le_length (by simp; omega), List.drop_take, ← List.append_assoc]
  rw [show off + n - off = n by omega]
  exact List.take_left' (by simp; omega)
theorem wr_fill (A Z B C : List AV) (a b : Nat) (ha : A.length = a) (hb : B.length = b) (hz : Z.length = b + C.length) : wr (wr (A ++ Z) a B) (a + b) C = A ++ B ++ C := by
  subst ha hb
  have h1 : wr (A ++ Z) A.length B = A ++ B ++ Z.drop B.length := by
    rw [wr_eq _ _ _ (by simp; omega), List.take_left' rfl, List.drop_append]
    simp
  rw [h1, wr_eq _ _ _ (by simp; omega), List.take_left' (by simp), List.drop_eq_nil_of_le (by simp; omega), List.append_nil]
theorem wr_shift (c B D : List AV) (off a b d : Nat) (hb : B.length = b) (hd : D.length = d) (h : off + a + b + d ≤ c.length) : ((wr (wr c (off + (a + b)) D) (off + a) B).drop off).take (a + b + d) = (c.drop off).take a ++ B ++ D := by
  subst hb hd
  have h1 : wr c (off + (a + B.length)) D = c.take (off + (a + B.length)) ++ (D ++ c.drop (off + (a + B.length) + D.length)) := by rw [wr_eq _ _ _ (by omega), List.append_assoc]
  have hl : (c.take (off + (a + B.length))).length = off + (a + B.length) := by simp; omega
  have h2 : (wr c (off + (a + B.length)) D).take (off + a) = c.take (off + a) := by
    rw [h1, List.take_append_of_le_length (by omega), List.take_take, show min (off + a) (off + (a + B.length)) = off + a by omega]
  have h3 : (wr c (off + (a + B.length)) D).drop (off + a + B.length) = D ++ c.drop (off + (a + B.length) + D.length) := by
    rw [h1]; exact List.drop_left' (by omega)
  have h4 : (c.take (off + a)).drop off = (c.drop off).take a := by rw [List.drop_take, show off + a - off = a by omega]
  rw [wr_eq _ _ _ (by rw [wr_length _ _ _ (by omega)]; omega), h2, h3, List.append_assoc, List.drop_append_of_le_length (by simp; omega), h4, ← List.append_assoc, ← List.append_assoc]
  exact List.take_left' (by simp; omega)
theorem rowAt_set {k p : Nat} {σ : Sto} {i g off n : Nat} {c cs : List AV} (h1 : i ≠ p) (hi : i < σ.length) (h2 : off + n * k ≤ c.length) (h3 : (c.drop off).take (n * k) = cs) : RowAt k p (σ.set i ⟨c, g, false, false⟩) (.ms i g off n k) n cs ∧ (σ.set i ⟨c, g, false, false⟩)[p]? = σ[p]? :=
  ⟨.inr ⟨i, g, off, c, rfl, h1, List.getElem?_set_self hi, h2, h3⟩, List.getElem?_set_ne h1⟩
theorem rowAt_new {k p : Nat} {σ : Sto} {n : Nat} {c cs : List AV} (hp : p < σ.length) (h2 : n * k ≤ c.length) (h3 : c.take (n * k) = cs) : RowAt k p (σ ++ [⟨c, 0, false, false⟩]) (.ms σ.length 0 0 n k) n cs ∧ (σ ++ [⟨c, 0, false, false⟩])[p]? = σ[p]? :=
  ⟨.inr ⟨σ.length, 0, 0, c, rfl, by omega, by simp, by omega, h3⟩, List.getElem?_append_left hp⟩
theorem segE {c : List AV} {l : List Ext} {off : Nat} (h3 : (c.drop off).take (l.length * 2) = flatE l) (k : Nat) (h : k < l.length) : List.take 2 (List.drop (off + k * 2) c) = cE l[k] := by
  rw [← flatC_seg cE_length l k h, show flatC cE l = flatE l from rfl, ← h3, List.drop_take, List.take_take, List.drop_drop]
  congr 1; omega
@[simp] theorem flatE_at0 (l : List Ext) (k : Nat) (h : k * 2 < (flatE l).length) : (flatE l)[k * 2] = .sc (.int .i64 (l[k]'(by simp at h; omega)).lo) := by
  have := flatE_0 l k (by simp at h; omega)
  rw [List.getElem?_eq_getElem h] at this
  exact Option.some.inj this
@[simp] theorem flatE_at1 (l : List Ext) (k : Nat) (h : k * 2 + 1 < (flatE l).length) : (flatE l)[k * 2 + 1] = .sc (.int .i64 (l[k]'(by simp at h; omega)).sz) := by
  have := flatE_1 l k (by simp at h; omega)
  rw [List.getElem?_eq_getElem h] at this
  exact Option.some.inj this
theorem rowAt_shape {k p : Nat} {σ : Sto} {v : AV} {n : Nat} {cs : List AV} (h : RowAt k p σ v n cs) : v = .sc (.slice none 0 0) ∨ ∃ i g off, v = .ms i g off n k := by
  rcases h with ⟨h, _⟩ | ⟨i, g, off, c, h, _⟩
  · exact .inl h
  · exact .inr ⟨i, g, off, h⟩
def mid (i j : Nat) : Nat := (i + j) / 2
theorem mid_eq {i j : Nat} (h : i + j ≤ 4000000000000) : IntKind.i64.wrap ((IntKind.u64.wrap ((i : Int) + (j : Int))).fdiv (2 ^ min 1 IntKind.u64.bits)) = (mid i j : Nat) := by
  unfold mid
  have h1 : IntKind.u64.wrap ((i : Int) + (j : Int)) = (i : Int) + (j : Int) := by rw [IntKind.wrap_u64]; omega
  rw [h1, show (2 : Int) ^ min 1 IntKind.u64.bits = 2 from rfl, Int.fdiv_eq_ediv_of_nonneg _ (by omega), wrap_id (by omega) (by omega)]
  omega
theorem mid_eq2 {i j : Nat} (h : i + j ≤ 4000000000000) : IntKind.i64.wrap (((i : Int) + (j : Int)).fdiv (2 ^ min 1 IntKind.u64.bits)) = (mid i j : Nat) := by
  unfold mid
  rw [show (2 : Int) ^ min 1 IntKind.u64.bits = 2 from rfl, Int.fdiv_eq_ediv_of_nonneg _ (by omega), wrap_id (by omega) (by omega)]
  omega
theorem mem_takeW {α : Type} {p : α → Bool} : ∀ {l : List α} {x : α}, x ∈ l.takeWhile p → p x = true
  | a :: l, x, h => by
    rw [List.takeWhile_cons] at h
    split at h
    · rcases List.mem_cons.1 h with rfl | h
      · assumption
      · exact mem_takeW h
    · cases h
end Go.Proofs.Ytgdefllblcmgpaa
