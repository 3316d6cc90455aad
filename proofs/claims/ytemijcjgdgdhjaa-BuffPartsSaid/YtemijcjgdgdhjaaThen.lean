/- msg.Then where it refuses, or the second message is all. -/
import Derived.Test.YtemijcjgdgdhjaaMsg
namespace Go.Proofs.Ytemijcjgdgdhjaa.Old
open Go.RowKit
theorem cells3 {w : World} {b : Nat} {t : TypeId} {z : Nat × Nat} {x y u : Value} (h : w.heap[b]? = some (.cells #[x, y, u] t z)) : w.cell? ⟨b, 0, none⟩ = some x ∧ w.cell? ⟨b, 1, none⟩ = some y ∧ w.cell? ⟨b, 2, none⟩ = some u := by
  simp [World.cell?, h]
theorem blk_self1 (w : World) (o o' : Obj) : ((w.alloc o).alloc o').heap[w.heap.size + 1]? = some o' := by have := blk_self (w.alloc o) o'; simpa using this
theorem blk_self2 (w : World) (o o' o'' : Obj) : (((w.alloc o).alloc o').alloc o'').heap[w.heap.size + 1 + 1]? = some o'' := by have := blk_self ((w.alloc o).alloc o') o''; simpa using this

set_option maxRecDepth 100000 in
set_option maxHeartbeats 1000000 in
theorem then_bad1 (q : Int) (k v : Str) (q' : Int) (k' v' : Str) (w : World) (ha : isMsg ⟨q, k, v⟩ = false) :
    Calls Try.prog 85 #[.agg #[.int .i64 q, .string k, .string v], .agg #[.int .i64 q', .string k', .string v']] w (Gives (.tuple #[.agg #[.int .i64 0, .string ⟨#[]⟩, .string ⟨#[]⟩], .int .i64 1]) w) := by
  have HA := Lib.hid ha
  clear ha
  go_enter Try.func85, Try.ntmps85
  go_wp2_with fail
  refine (isNot_calls q k v _).mono ?_
  rintro e w1 ⟨rfl, hb1⟩
  have k0 := blk_old hb1 (blk_alloc (blk_alloc (blk_self w (.cells #[.int .i64 q, .string k, .string v] 43)))) (by simp <;> omega)
  have k1 := blk_old hb1 (blk_alloc (blk_self1 w _ (.cells #[.int .i64 q', .string k', .string v'] 43))) (by simp <;> omega)
  have k2 := blk_old hb1 (blk_self2 w _ _ (.cells #[.int .i64 0, .string ⟨#[]⟩, .string ⟨#[]⟩] 43)) (by simp <;> omega)
  have hB : Below w.heap.size w w1 := ((((Below.refl _ w).alloc (Nat.le_refl _) _).alloc (by simp) _).alloc (by simp; omega) _).trans (hb1.mono (by simp; omega))
  have hs1 := blk_lt k2
  rw [HA.out]
  obtain ⟨g, hg⟩ : ∃ g, g = w.heap.size := ⟨_, rfl⟩
  rw [← hg] at k0 k1 k2 hs1 ⊢
  have HG := Lib.hid hg
  clear hg hb1
  obtain ⟨c00, c01, c02⟩ := cells3 k0
  obtain ⟨c10, c11, c12⟩ := cells3 k1
  obtain ⟨c20, c21, c22⟩ := cells3 k2
  have fz := blk_free k2
  have fa := blk_free k0
  have K2 := Lib.hid k2
  have K0 := Lib.hid k0
  have K1 := Lib.hid k1
  clear k0 k1 k2
  go_wp2_with fail
  refine bodyPost_ret (v := .tuple #[.agg #[.int .i64 0, .string ⟨#[]⟩, .string ⟨#[]⟩], .int .i64 1]) (by simp [results, Try.results85, go_sem, c20, c21, c22]) rfl ⟨rfl, ?_⟩
  exact ((hB.setCell (p := ⟨g + 2, 0, none⟩) (by have := HG.out; simp; omega) _).setCell (p := ⟨g + 2, 1, none⟩) (by have := HG.out; simp; omega) _).setCell (p := ⟨g + 2, 2, none⟩) (by have := HG.out; simp; omega) _

set_option maxRecDepth 100000 in
set_option maxHeartbeats 1000000 in
theorem then_bad2 (q : Int) (k v : Str) (q' : Int) (k' v' : Str) (w : World) (ha : isMsg ⟨q, k, v⟩ = true) (hb : isMsg ⟨q', k', v'⟩ = false) :
    Calls Try.prog 85 #[.agg #[.int .i64 q, .string k, .string v], .agg #[.int .i64 q', .string k', .string v']] w (Gives (.tuple #[.agg #[.int .i64 0, .string ⟨#[]⟩, .string ⟨#[]⟩], .int .i64 1]) w) := by
  have HA := Lib.hid ha
  have HB := Lib.hid hb
  clear ha hb
  go_enter Try.func85, Try.ntmps85
  go_wp2_with fail
  refine (isNot_calls q k v _).mono ?_
  rintro e w1 ⟨rfl, hb1⟩
  have k0 := blk_old hb1 (blk_alloc (blk_alloc (blk_self w (.cells #[.int .i64 q, .string k, .string v] 43)))) (by simp <;> omega)
  have k1 := blk_old hb1 (blk_alloc (blk_self1 w _ (.cells #[.int .i64 q', .string k', .string v'] 43))) (by simp <;> omega)
  have k2 := blk_old hb1 (blk_self2 w _ _ (.cells #[.int .i64 0, .string ⟨#[]⟩, .string ⟨#[]⟩] 43)) (by simp <;> omega)
  have hB : Below w.heap.size w w1 := ((((Below.refl _ w).alloc (Nat.le_refl _) _).alloc (by simp) _).alloc (by simp; omega) _).trans (hb1.mono (by simp; omega))
  have hs1 := blk_lt k2
  rw [HA.out]
  obtain ⟨g, hg⟩ : ∃ g, g = w.heap.size := ⟨_, rfl⟩
  rw [← hg] at k0 k1 k2 hs1 ⊢
  have HG := Lib.hid hg
  clear hg hb1
  obtain ⟨c00, c01, c02⟩ := cells3 k0
  obtain ⟨c10, c11, c12⟩ := cells3 k1
  obtain ⟨c20, c21, c22⟩ := cells3 k2
  have fz := blk_free k2
  have fa := blk_free k0
  have K2 := Lib.hid k2
  have K0 := Lib.hid k0
  have K1 := Lib.hid k1
  clear k0 k1 k2
  go_wp2_with fail
  refine (isNot_calls q' k' v' _).mono ?_
  rintro e w2 ⟨rfl, hb2⟩
  have k0 := blk_old hb2 K0.out (blk_lt K0.out)
  have k1 := blk_old hb2 K1.out (blk_lt K1.out)
  have k2 := blk_old hb2 K2.out (blk_lt K2.out)
  have hB2 := hB.trans (hb2.mono hB.size)
  have hs2 := blk_lt k2
  rw [HB.out]
  clear c00 c01 c02 c10 c11 c12 c20 c21 c22 fz fa hb2 hB K0 K1 K2 hs1
  obtain ⟨c00, c01, c02⟩ := cells3 k0
  obtain ⟨c10, c11, c12⟩ := cells3 k1
  obtain ⟨c20, c21, c22⟩ := cells3 k2
  have fz := blk_free k2
  have fa := blk_free k0
  have K2 := Lib.hid k2
  have K0 := Lib.hid k0
  clear k0 k1 k2
  go_wp2_with fail
  refine bodyPost_ret (v := .tuple #[.agg #[.int .i64 0, .string ⟨#[]⟩, .string ⟨#[]⟩], .int .i64 1]) (by simp [results, Try.results85, go_sem, c20, c21, c22]) rfl ⟨rfl, ?_⟩
  exact ((hB2.setCell (p := ⟨g + 2, 0, none⟩) (by have := HG.out; simp; omega) _).setCell (p := ⟨g + 2, 1, none⟩) (by have := HG.out; simp; omega) _).setCell (p := ⟨g + 2, 2, none⟩) (by have := HG.out; simp; omega) _

set_option maxRecDepth 100000 in
set_option maxHeartbeats 1000000 in
theorem then_bad3 (q : Int) (k v : Str) (q' : Int) (k' v' : Str) (w : World) (ha : isMsg ⟨q, k, v⟩ = true) (hb : isMsg ⟨q', k', v'⟩ = true) (hk : k ≠ k') :
    Calls Try.prog 85 #[.agg #[.int .i64 q, .string k, .string v], .agg #[.int .i64 q', .string k', .string v']] w (Gives (.tuple #[.agg #[.int .i64 0, .string ⟨#[]⟩, .string ⟨#[]⟩], .int .i64 1]) w) := by
  have HA := Lib.hid ha
  have HB := Lib.hid hb
  have hk' : (k.toList == k'.toList) = false := by rw [beq_is]; simpa using hk
  clear ha hb hk
  go_enter Try.func85, Try.ntmps85
  go_wp2_with fail
  refine (isNot_calls q k v _).mono ?_
  rintro e w1 ⟨rfl, hb1⟩
  have k0 := blk_old hb1 (blk_alloc (blk_alloc (blk_self w (.cells #[.int .i64 q, .string k, .string v] 43)))) (by simp <;> omega)
  have k1 := blk_old hb1 (blk_alloc (blk_self1 w _ (.cells #[.int .i64 q', .string k', .string v'] 43))) (by simp <;> omega)
  have k2 := blk_old hb1 (blk_self2 w _ _ (.cells #[.int .i64 0, .string ⟨#[]⟩, .string ⟨#[]⟩] 43)) (by simp <;> omega)
  have hB : Below w.heap.size w w1 := ((((Below.refl _ w).alloc (Nat.le_refl _) _).alloc (by simp) _).alloc (by simp; omega) _).trans (hb1.mono (by simp; omega))
  have hs1 := blk_lt k2
  rw [HA.out]
  obtain ⟨g, hg⟩ : ∃ g, g = w.heap.size := ⟨_, rfl⟩
  rw [← hg] at k0 k1 k2 hs1 ⊢
  have HG := Lib.hid hg
  clear hg hb1
  obtain ⟨c00, c01, c02⟩ := cells3 k0
  obtain ⟨c10, c11, c12⟩ := cells3 k1
  obtain ⟨c20, c21, c22⟩ := cells3 k2
  have fz := blk_free k2
  have fa := blk_free k0
  have K2 := Lib.hid k2
  have K0 := Lib.hid k0
  have K1 := Lib.hid k1
  clear k0 k1 k2
  go_wp2_with fail
  refine (isNot_calls q' k' v' _).mono ?_
  rintro e w2 ⟨rfl, hb2⟩
  have k0 := blk_old hb2 K0.out (blk_lt K0.out)
  have k1 := blk_old hb2 K1.out (blk_lt K1.out)
  have k2 := blk_old hb2 K2.out (blk_lt K2.out)
  have hB2 := hB.trans (hb2.mono hB.size)
  have hs2 := blk_lt k2
  rw [HB.out]
  clear c00 c01 c02 c10 c11 c12 c20 c21 c22 fz fa hb2 hB K0 K1 K2 hs1
  obtain ⟨c00, c01, c02⟩ := cells3 k0
  obtain ⟨c10, c11, c12⟩ := cells3 k1
  obtain ⟨c20, c21, c22⟩ := cells3 k2
  have fz := blk_free k2
  have fa := blk_free k0
  have K2 := Lib.hid k2
  have K0 := Lib.hid k0
  clear k0 k1 k2
  go_wp2_with fail
  refine bodyPost_ret (v := .tuple #[.agg #[.int .i64 0, .string ⟨#[]⟩, .string ⟨#[]⟩], .int .i64 1]) (by simp [results, Try.results85, go_sem, c20, c21, c22]) rfl ⟨rfl, ?_⟩
  exact ((hB2.setCell (p := ⟨g + 2, 0, none⟩) (by have := HG.out; simp; omega) _).setCell (p := ⟨g + 2, 1, none⟩) (by have := HG.out; simp; omega) _).setCell (p := ⟨g + 2, 2, none⟩) (by have := HG.out; simp; omega) _

set_option maxRecDepth 100000 in
set_option maxHeartbeats 1000000 in
theorem then_other (q : Int) (k v : Str) (q' : Int) (k' v' : Str) (w : World) (ha : isMsg ⟨q, k, v⟩ = true) (hb : isMsg ⟨q', k', v'⟩ = true) (hk : k = k') (h3 : q' ≠ 3) :
    Calls Try.prog 85 #[.agg #[.int .i64 q, .string k, .string v], .agg #[.int .i64 q', .string k', .string v']] w (Gives (.tuple #[.agg #[.int .i64 q', .string k', .string v'], .int .i64 0]) w) := by
  subst hk
  have HA := Lib.hid ha
  have HB := Lib.hid hb
  have t3 : (q' == 3) = false := beq_eq_false_iff_ne.2 h3
  have t4 : (q' != 3) = true := by simp [bne, t3]
  clear ha hb h3
  go_enter Try.func85, Try.ntmps85
  go_wp2_with fail
  refine (isNot_calls q k v _).mono ?_
  rintro e w1 ⟨rfl, hb1⟩
  have k0 := blk_old hb1 (blk_alloc (blk_alloc (blk_self w (.cells #[.int .i64 q, .string k, .string v] 43)))) (by simp <;> omega)
  have k1 := blk_old hb1 (blk_alloc (blk_self1 w _ (.cells #[.int .i64 q', .string k, .string v'] 43))) (by simp <;> omega)
  have k2 := blk_old hb1 (blk_self2 w _ _ (.cells #[.int .i64 0, .string ⟨#[]⟩, .string ⟨#[]⟩] 43)) (by simp <;> omega)
  have hB : Below w.heap.size w w1 := ((((Below.refl _ w).alloc (Nat.le_refl _) _).alloc (by simp) _).alloc (by simp; omega) _).trans (hb1.mono (by simp; omega))
  have hs1 := blk_lt k2
  rw [HA.out]
  obtain ⟨g, hg⟩ : ∃ g, g = w.heap.size := ⟨_, rfl⟩
  rw [← hg] at k0 k1 k2 hs1 ⊢
  have HG := Lib.hid hg
  clear hg hb1
  obtain ⟨c00, c01, c02⟩ := cells3 k0
  obtain ⟨c10, c11, c12⟩ := cells3 k1
  obtain ⟨c20, c21, c22⟩ := cells3 k2
  have fz := blk_free k2
  have fa := blk_free k0
  have K2 := Lib.hid k2
  have K0 := Lib.hid k0
  have K1 := Lib.hid k1
  clear k0 k1 k2
  go_wp2_with fail
  refine (isNot_calls q' k v' _).mono ?_
  rintro e w2 ⟨rfl, hb2⟩
  have k0 := blk_old hb2 K0.out (blk_lt K0.out)
  have k1 := blk_old hb2 K1.out (blk_lt K1.out)
  have k2 := blk_old hb2 K2.out (blk_lt K2.out)
  have hB2 := hB.trans (hb2.mono hB.size)
  have hs2 := blk_lt k2
  rw [HB.out]
  clear c00 c01 c02 c10 c11 c12 c20 c21 c22 fz fa hb2 hB K0 K1 K2 hs1
  obtain ⟨c00, c01, c02⟩ := cells3 k0
  obtain ⟨c10, c11, c12⟩ := cells3 k1
  obtain ⟨c20, c21, c22⟩ := cells3 k2
  have fz := blk_free k2
  have fa := blk_free k0
  have K2 := Lib.hid k2
  have K0 := Lib.hid k0
  clear k0 k1 k2
  go_wp2_with fail
  refine bodyPost_ret (v := .tuple #[.agg #[.int .i64 q', .string k, .string v'], .int .i64 0]) (by simp [results, Try.results85, go_sem, c20, c21, c22]) rfl ⟨rfl, ?_⟩
  exact ((hB2.setCell (p := ⟨g + 2, 0, none⟩) (by have := HG.out; simp; omega) _).setCell (p := ⟨g + 2, 1, none⟩) (by have := HG.out; simp; omega) _).setCell (p := ⟨g + 2, 2, none⟩) (by have := HG.out; simp; omega) _
end Go.Proofs.Ytemijcjgdgdhjaa.Old
