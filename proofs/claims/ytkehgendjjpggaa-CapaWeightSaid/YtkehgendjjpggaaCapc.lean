/- awake of layer 20 answers true. -/
import Derived.Test.YtkehgendjjpggaaCapb
namespace Go.Proofs.Ytkehgendjjpggaa
open Go.RowKit

theorem plan64 {L F D H V C : Int} (h : PlanOk 64 L F D H V C) : L = 8 ∧ F = 10 ∧ D = 54 ∧ H = 26 ∧ V = 19 ∧ C = 4084 := by
  unfold PlanOk at h; omega

theorem blk_old {w w' : World} {B b : Nat} {o : Obj} (h : Below B w w') (hb : w.heap[b]? = some o) (hB : b < B) : w'.heap[b]? = some o := (h.block b hB).trans hb
theorem blk_new {w w' : World} {B : Nat} {o : Obj} (h : Below B (w.alloc o) w') (hB : w.heap.size < B) : w'.heap[w.heap.size]? = some o := by
  rw [h.block _ hB]; show (w.heap.push o)[w.heap.size]? = _; simp
theorem blk_lt {w : World} {b : Nat} {o : Obj} (h : w.heap[b]? = some o) : b < w.heap.size := by
  rcases Nat.lt_or_ge b w.heap.size with h1 | h1
  · exact h1
  · rw [Array.getElem?_eq_none h1] at h; cases h
theorem load7 {w : World} {b : Nat} {t : TypeId} {z : Nat × Nat} {a0 a1 a2 a3 a4 a5 a6 : Value} (h : w.heap[b]? = some (.cells #[a0, a1, a2, a3, a4, a5, a6] t z)) :
    w.cell? ⟨b, 0, none⟩ = some a0 ∧ w.cell? ⟨b, 1, none⟩ = some a1 ∧ w.cell? ⟨b, 2, none⟩ = some a2 ∧ w.cell? ⟨b, 3, none⟩ = some a3 ∧ w.cell? ⟨b, 4, none⟩ = some a4 ∧ w.cell? ⟨b, 5, none⟩ = some a5 ∧ w.cell? ⟨b, 6, none⟩ = some a6 := by
  simp [World.cell?, h]

set_option maxRecDepth 100000 in
set_option maxHeartbeats 800000 in
theorem awake_walk (w : World) : Calls Try.prog 8 #[] w (BoolIs true w) := by
  go_enter Try.func8, Try.ntmps8
  go_wp2_with fail
  refine (of_in 64 _ (by omega) (by omega)).mono ?_
  rintro e w1 ⟨L, F, D, H, V, C, hp, rfl, hb1⟩
  obtain ⟨rfl, rfl, rfl, rfl, rfl, rfl⟩ := plan64 hp
  clear hp
  go_wp2_with fail
  refine (of_out 63 _ (by omega)).mono ?_
  rintro e w2 ⟨rfl, hb2⟩
  have k2 := blk_new hb2 (by simp)
  have hb : Below w.heap.size w w2 := (hb1.alloc hb1.size _).trans (hb2.mono (by have := hb1.size; simp; omega))
  have hB1 : w.heap.size ≤ w1.heap.size := hb1.size
  generalize w1.heap.size = B1 at k2 hB1 ⊢
  clear hb1 hb2
  go_wp2_with fail
  refine (of_out 513 _ (by omega)).mono ?_
  rintro e w3 ⟨rfl, hb3⟩
  have k3 := blk_old hb3 (b := B1) (by rw [Below.heap_alloc _ _ _ (blk_lt k2)]; exact k2) (by have := blk_lt k2; simp; omega)
  have hb' : Below w.heap.size w w3 := (hb.alloc hb.size _).trans (hb3.mono (by have := hb.size; simp; omega))
  clear hb hb3 k2
  obtain ⟨c0, c1, c2, c3, c4, c5, c6⟩ := load7 k3
  have hlt := blk_lt k3
  have e1 : holdsB 4084 4084 = true := by decide
  have e2 : holdsB 4084 4085 = false := by decide
  have e3 : kindOf 64 10 9 = 2 := by decide
  have e4 : kindOf 64 10 10 = 3 := by decide
  go_wp2_with fail
  refine (holds_any 64 8 10 54 26 19 4084 4084 _).mono ?_
  rintro e w4 ⟨rfl, hb4⟩
  have k4 := blk_old hb4 (b := B1) (by rw [Below.heap_alloc _ _ _ (blk_lt k3)]; exact k3) (by have := blk_lt k3; simp; omega)
  have hb : Below w.heap.size w w4 := (hb'.alloc hb'.size _).trans (hb4.mono (by have := hb'.size; simp; omega))
  clear hb' hb4 k3 c0 c1 c2 c3 c4 c5 c6 hlt
  obtain ⟨c0, c1, c2, c3, c4, c5, c6⟩ := load7 k4
  have hlt := blk_lt k4
  go_wp2_with fail
  refine (holds_any 64 8 10 54 26 19 4084 4085 _).mono ?_
  rintro e w5 ⟨rfl, hb5⟩
  have k5 := blk_old hb5 k4 hlt
  have hb' : Below w.heap.size w w5 := hb.trans (hb5.mono hb.size)
  clear hb hb5 k4 c0 c1 c2 c3 c4 c5 c6 hlt
  obtain ⟨c0, c1, c2, c3, c4, c5, c6⟩ := load7 k5
  have hlt := blk_lt k5
  go_wp2_with fail
  refine (kind_any 64 8 10 54 26 19 4084 9 _).mono ?_
  rintro e w6 ⟨rfl, hb6⟩
  have k6 := blk_old hb6 k5 hlt
  have hb : Below w.heap.size w w6 := hb'.trans (hb6.mono hb'.size)
  clear hb' hb6 k5 c0 c1 c2 c3 c4 c5 c6 hlt
  obtain ⟨c0, c1, c2, c3, c4, c5, c6⟩ := load7 k6
  have hlt := blk_lt k6
  go_wp2_with fail
  refine (kind_any 64 8 10 54 26 19 4084 10 _).mono ?_
  rintro e w7 ⟨rfl, hb7⟩
  have hb' : Below w.heap.size w w7 := hb.trans (hb7.mono hb.size)
  clear hb hb7 k6 c0 c1 c2 c3 c4 c5 c6 hlt
  go_wp2_with fail
  go_ret
  exact ⟨rfl, hb'⟩
end Go.Proofs.Ytkehgendjjpggaa
