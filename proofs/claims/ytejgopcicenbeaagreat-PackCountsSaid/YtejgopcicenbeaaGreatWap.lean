/- What buffers and leaves both need: the references of keys and messages, a message put on a value, items. -/
import Derived.Test.YtejgopcicenbeaaGreatWb
namespace Go.Proofs.YtejgopcicenbeaaGreat
open Go.RowKit
set_option linter.unusedSimpArgs false
set_option maxRecDepth 10000
theorem wr_mid (c B : List AV) (off a b d : Nat) (hb : B.length = b) (h : off + a + b + d ≤ c.length) : ((wr c (off + a) B).drop off).take (a + b + d) = (c.drop off).take a ++ B ++ ((c.drop off).drop (a + b)).take d := by
  subst hb
  have h4 : (c.take (off + a)).drop off = (c.drop off).take a := by rw [List.drop_take, show off + a - off = a by omega]
  rw [wr_eq _ _ _ (by omega), List.append_assoc, List.drop_append_of_le_length (by simp; omega), h4, ← List.append_assoc, List.take_append, List.take_of_length_le (by simp; omega), List.drop_drop]
  congr 1
  rw [show a + B.length + d - (List.take a (List.drop off c) ++ B).length = d by simp; omega, ← Nat.add_assoc]
theorem wr_setC {α : Type} {c : α → List AV} {w : Nat} (hc : ∀ x, (c x).length = w) {cells : List AV} {l : List α} {off : Nat} (y : α) (k : Nat) (hk : k < l.length) (h3 : off + l.length * w ≤ cells.length) (h4 : (cells.drop off).take (l.length * w) = flatC c l) :
    ((wr cells (off + k * w) (c y)).drop off).take (l.length * w) = flatC c (l.set k y) := by
  have e0 : k * w + w + (l.length - k - 1) * w = l.length * w := by
    rw [show l.length = k + 1 + (l.length - k - 1) by omega]
    simp only [Nat.add_mul, Nat.one_mul]
    rw [show k + 1 + (l.length - k - 1) - k - 1 = l.length - k - 1 by omega]
  have := wr_mid cells (c y) off (k * w) w ((l.length - k - 1) * w) (hc y) (by omega)
  rw [e0] at this
  rw [this, List.set_eq_take_append_cons_drop, if_pos hk, flatC_append, show y :: l.drop (k + 1) = [y] ++ l.drop (k + 1) from rfl, flatC_append, flatC_one]
  rw [← flatC_take hc, ← flatC_drop hc, ← h4, List.take_take, List.append_assoc]
  congr 2
  · congr 1; omega
  · rw [List.drop_take, Nat.succ_mul]; congr 1; omega
theorem out_own1 {k : Nat} {σ : Sto} {v : AV} {n : Nat} {cs : List AV} {u : Value} (h : Own k σ v n cs) (hf : flatL cs = true) : ∃ m x, frz σ (List.range σ.length) m (.tup [v, .sc u]) = some x ∧ Wk x (.tup [.fs cs n, .sc u]) := by
  obtain ⟨x, h1, h2⟩ := frz_own h hf 1
  refine ⟨5, .tup [x, .sc u], ?_, Wk.tupL (.cons h2 (.cons (.refl _) .nil))⟩
  rw [frz]
  split
  · rename_i hfl
    simp [AV.flat, flatL] at hfl
    rw [frz_flat1 hfl] at h1
    cases h1; rfl
  · show (frzL σ (List.range σ.length) 4 [v, .sc u]).map AV.tup = _
    rcases frzL_2 2 h1 (frz_flat1 (x := .sc u) rfl 2) with e | ⟨e, rfl, _⟩ <;> (rw [e]; rfl)
def putI (x : Item) : Msg := ⟨1, x.key, x.val⟩
def okI (x : Item) : Bool := isMsg (putI x)
theorem okI_is (x : Item) : okI x = (isKey x.key && isVal x.val) := isMsg_put
end Go.Proofs.YtejgopcicenbeaaGreat
