/- The walk of CapaKinds. -/
import Derived.Test.YtkehgendjjpggaaCape
namespace Go.Proofs.Ytkehgendjjpggaa
open Go.RowKit

/-- How many blocks below k are of a kind. -/
def cnt (B F c : Int) : Nat → Int
  | 0 => 0
  | k + 1 => cnt B F c k + if kindOf B F (k : Int) = c then 1 else 0
theorem cnt_succ (B F c : Int) (k : Nat) : cnt B F c (k + 1) = cnt B F c k + if kindOf B F (k : Int) = c then 1 else 0 := rfl
theorem cnt_bd (B F c : Int) (k : Nat) : 0 ≤ cnt B F c k ∧ cnt B F c k ≤ k := by
  induction k with
  | zero => simp [cnt]
  | succ k ih => rw [cnt_succ]; split <;> omega
/-- what stands behind k blocks. -/
theorem cnt_is (B F : Int) (k : Nat) (hk : (k : Int) ≤ B) (hF : 2 ≤ F) : cnt B F 0 k = 0 ∧ (cnt B F 1 k = if (k : Int) ≤ 2 then (k : Int) else 2) ∧ (cnt B F 2 k = if (k : Int) ≤ 2 then 0 else if (k : Int) ≤ F then (k : Int) - 2 else F - 2) ∧ (cnt B F 3 k = if (k : Int) ≤ F then 0 else (k : Int) - F) := by
  induction k with
  | zero => refine ⟨rfl, by simp [cnt], by simp [cnt], ?_⟩; rw [if_pos (by omega)]; rfl
  | succ k ih =>
    obtain ⟨h0, h1, h2, h3⟩ := ih (by omega)
    have hv : kindOf B F (k : Int) = if (k : Int) < 2 then 1 else if (k : Int) < F then 2 else 3 := by
      unfold kindOf; rw [if_neg (by omega), if_neg (by omega)]
    rw [cnt_succ, cnt_succ, cnt_succ, cnt_succ, h0, h1, h2, h3, hv]
    by_cases c1 : (k : Int) < 2
    · simp [c1]; omega
    · by_cases c2 : (k : Int) < F
      · simp [c1, c2]; omega
      · simp [c1, c2]; omega
theorem kind_le (B F : Int) (b : Nat) (hB : (b : Int) < B) : 1 ≤ kindOf B F b ∧ kindOf B F b ≤ 3 := by unfold kindOf; split; omega; split; omega; split; omega; split <;> omega
theorem kind_mono (B F : Int) (a b : Nat) (h : a ≤ b) (hB : (b : Int) < B) : kindOf B F a ≤ kindOf B F b := by
  have ha : kindOf B F (a : Int) = if (a : Int) < 2 then 1 else if (a : Int) < F then 2 else 3 := by
    unfold kindOf; rw [if_neg (by omega), if_neg (by omega)]
  have hb : kindOf B F (b : Int) = if (b : Int) < 2 then 1 else if (b : Int) < F then 2 else 3 := by
    unfold kindOf; rw [if_neg (by omega), if_neg (by omega)]
  rw [ha, hb]; split <;> split <;> (try split) <;> (try split) <;> omega
/-- the kind of the block ahead of k; 1 at the head. -/
def wasOf (B F : Int) (k : Nat) : Int := if k = 0 then 1 else kindOf B F ((k - 1 : Nat) : Int)

theorem blk_self (w : World) (o : Obj) : (w.alloc o).heap[w.heap.size]? = some o := by show (w.heap.push o)[w.heap.size]? = _; simp
theorem blk_self1 (w : World) (o o' : Obj) : ((w.alloc o).alloc o').heap[w.heap.size + 1]? = some o' := by have := blk_self (w.alloc o) o'; simpa using this
theorem load4 {w : World} {b : Nat} {t : TypeId} {z : Nat × Nat} {a0 a1 a2 a3 : Value} (h : w.heap[b]? = some (.cells #[a0, a1, a2, a3] t z)) :
    w.cell? ⟨b, 0, none⟩ = some a0 ∧ w.cell? ⟨b, 1, none⟩ = some a1 ∧ w.cell? ⟨b, 2, none⟩ = some a2 ∧ w.cell? ⟨b, 3, none⟩ = some a3 := by
  simp [World.cell?, h]
theorem free4 {w : World} {b : Nat} {t : TypeId} {a : Array Value} (h : w.heap[b]? = some (.cells a t (0, 0))) (i : Nat) : w.frozen? ⟨b, i, none⟩ = false := by
  simp [World.frozen?, h]
theorem blk_set {w : World} {b o : Nat} {cs : Array Value} {t : TypeId} {z : Nat × Nat} {v : Value} (h : w.heap[b]? = some (.cells cs t z)) : (w.setCell ⟨b, o, none⟩ v).heap[b]? = some (.cells (cs.setIfInBounds o v) t z) := by
  simp [World.setCell, Array.getElem?_modify, h]

set_option maxRecDepth 100000 in
set_option maxHeartbeats 1600000 in
theorem kinds_walk (x : Int) (w : World) : Calls Try.prog 4 #[.int .i64 x] w (BoolIs true w) := by
  obtain ⟨n, h1, h2, hk⟩ := k_bd x
  have HK := Lib.hid hk
  clear hk
  go_enter Try.func4, Try.ntmps4
  go_wp2_with fail
  refine (awake_walk _).mono ?_
  rintro e w1 ⟨rfl, hb1⟩
  go_wp2_with fail
  rw [HK.out]
  refine (of_in n _ h1 h2).mono ?_
  rintro e w2 ⟨L, F, D, H, V, C, hp, rfl, hb2⟩
  have hB : Below w.heap.size w w2 := hb1.trans (hb2.mono hb1.size)
  have hF : 2 ≤ F ∧ F - 2 = L ∧ n - F = D ∧ F ≤ n := by unfold PlanOk at hp; omega
  obtain ⟨f1, f2, f3, f4⟩ := hF
  have F2 := Lib.hid f2
  have F3 := Lib.hid f3
  clear f2 f3
  have hB2 := hB.size
  clear hb1 hb2
  go_wp2_with fail
  go_loopw [7, 8, 9] (fun v7 v8 v9 wr => ∃ k : Nat, (k : Int) ≤ n ∧ v8 = .int .i64 k ∧ v7 = .int .i64 (wasOf n F k) ∧ Below w.heap.size w wr ∧ w2.heap.size + 1 < wr.heap.size
      ∧ wr.heap[w2.heap.size]? = some (.cells #[.int .i64 n, .int .i64 L, .int .i64 F, .int .i64 D, .int .i64 H, .int .i64 V, .int .i64 C] 25)
      ∧ wr.heap[w2.heap.size + 1]? = some (.cells #[.int .i64 (cnt n F 0 k), .int .i64 (cnt n F 1 k), .int .i64 (cnt n F 2 k), .int .i64 (cnt n F 3 k)] 30)) (fun _ b _ _ => (n - intOf b).toNat)
  case atStart =>
    refine ⟨0, by omega, rfl, rfl, (hB.alloc hB.size _).alloc (by simp; omega) _, by simp, ?_, ?_⟩
    · rw [Below.heap_alloc _ _ _ (by simp)]; exact blk_self _ _
    · exact blk_self1 _ _ _
  case round =>
    obtain ⟨k, hk, rfl, rfl, hBr, hsz, g0, g1⟩ := hrel
    have HP := Lib.hid hp
    clear hp
    obtain ⟨c0, c1, c2, c3, c4, c5, c6⟩ := load7 g0
    generalize w2.heap.size = B2 at c0 c1 c2 c3 c4 c5 c6 g0 g1 hsz hB2 ⊢
    clear hB
    by_cases hlt : (k : Int) < n
    · have hw1 : wasOf n F k ≤ kindOf n F k := by
        unfold wasOf; split
        · exact (kind_le n F k hlt).1
        · exact kind_mono n F _ _ (by omega) hlt
      have hw2 := (kind_le n F k hlt).2
      have hw3 := (kind_le n F k hlt).1
      have t1 : decide (kindOf n F (k : Int) < wasOf n F k) = false := by simp; omega
      have t2 : decide (3 < kindOf n F (k : Int)) = false := by simp; omega
      go_wp2_with fail
      rcases (by omega : kindOf n F (k : Int) = 1 ∨ kindOf n F (k : Int) = 2 ∨ kindOf n F (k : Int) = 3) with e | e | e
      all_goals
        have hwas : wasOf n F (k + 1) = kindOf n F (k : Int) := by unfold wasOf; rw [if_neg (by omega)]; rfl
        have E := Lib.hid e
        have HW := Lib.hid hwas
        rw [e] at t1 t2
        clear e hwas
        refine (kind_any n L F D H V C k wr).mono ?_
        rintro e w5 ⟨rfl, hb5⟩
        rw [E.out]
        have g0' := blk_old hb5 g0 (by omega)
        have g1' := blk_old hb5 g1 (by omega)
        have hBr' := hBr.trans (hb5.mono hBr.size)
        have hsz' := Nat.lt_of_lt_of_le hsz hb5.size
        obtain ⟨z0, z1, z2, z3⟩ := load4 g1'
        have fz := free4 g1'
        have G0 := Lib.hid g0'
        have G1 := Lib.hid g1'
        have q0 := cnt_bd n F 0 k
        have q1 := cnt_bd n F 1 k
        have q2 := cnt_bd n F 2 k
        have q3 := cnt_bd n F 3 k
        clear hb5 g0 g1 g0' g1' c0 c1 c2 c3 c4 c5 c6 hBr hsz
        go_wp2_with fail
        go_roundw
        case rel =>
          refine ⟨k + 1, by omega, by go_num, by rw [HW.out, E.out], hBr'.setCell (by simp; omega) _, by simp; omega, ?_, ?_⟩
          · rw [Below.heap_setCell _ _ _ _ (by simp)]; exact G0.out
          · rw [blk_set G1.out]
            rw [cnt_succ, cnt_succ, cnt_succ, cnt_succ, E.out]
            simp
        case measure => simp [intOf]; omega
    · have hkn : (k : Int) = n := by omega
      obtain ⟨i0, i1, i2, i3⟩ := cnt_is n F k (by omega) f1
      have e1 : cnt n F 1 k = 2 := by rw [i1]; split <;> omega
      have e2 : cnt n F 2 k = L := by have := F2.out; rw [i2]; split; omega; split <;> omega
      have e3 : cnt n F 3 k = D := by have := F3.out; rw [i3]; split <;> omega
      have p1 : kindOf n F n = 0 := by unfold kindOf; split; rfl; rw [if_pos (by omega)]
      have p2 : kindOf n F (-1) = 0 := by unfold kindOf; rw [if_pos (by omega)]
      have P1 := Lib.hid p1
      have P2 := Lib.hid p2
      rw [e1, e2, e3] at g1
      obtain ⟨z0, z1, z2, z3⟩ := load4 g1
      have t1 : decide ((k : Int) < n) = false := by simp; omega
      clear i0 i1 i2 i3 e1 e2 e3 p1 p2
      have HKN := Lib.hid hkn
      clear hkn
      go_wp2_with fail
      refine (kind_any n L F D H V C n wr).mono ?_
      rintro e w5 ⟨rfl, hb5⟩
      rw [P1.out]
      have g0' := blk_old hb5 g0 (by omega)
      have hBr' := hBr.trans (hb5.mono hBr.size)
      clear hb5 g1 c0 c1 c2 c3 c4 c5 c6 hBr z0 z1 z2 z3
      obtain ⟨c0, c1, c2, c3, c4, c5, c6⟩ := load7 g0'
      go_wp2_with fail
      refine (kind_any n L F D H V C (-1) w5).mono ?_
      rintro e w6 ⟨rfl, hb6⟩
      rw [P2.out]
      have hB6 := hBr'.trans (hb6.mono hBr'.size)
      clear hb6 c0 c1 c2 c3 c4 c5 c6 hBr'
      go_wp2_with fail
      go_ret
      exact ⟨rfl, hB6⟩
theorem kinds_law (x : Int) (w : World) (_ : (Lit.int .i64 x).wf = true) : Calls Try.prog 4 #[.int .i64 x] w (BoolIs true w) := kinds_walk x w
end Go.Proofs.Ytkehgendjjpggaa
