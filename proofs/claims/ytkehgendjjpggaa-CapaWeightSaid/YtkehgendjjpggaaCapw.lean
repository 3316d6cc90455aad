/- The walks of key.Weight, capa.sum, capa.Weight: what items weigh together. -/
import Derived.Test.YtkehgendjjpggaaCapf
namespace Go.Proofs.Ytkehgendjjpggaa
open Go.RowKit

abbrev It := ByteArray × ByteArray
/-- A row of items in memory. -/
def Items (w : World) (A : Option Addr) (l : List It) : Prop :=
  ∀ (i : Nat) (x : It), l[i]? = some x → ∃ b o, A = some ⟨b, o, none⟩ ∧ b < w.heap.size ∧ w.cell? ⟨b, o + i * 2, none⟩ = some (.string x.1) ∧ w.cell? ⟨b, o + i * 2 + 1, none⟩ = some (.string x.2)
theorem Items.below {w w' : World} {A : Option Addr} {l : List It} (h : Items w A l) (hb : Below w.heap.size w w') : Items w' A l := by
  intro i x hx
  obtain ⟨b, o, hA, hlt, h1, h2⟩ := h i x hx
  exact ⟨b, o, hA, Nat.lt_of_lt_of_le hlt hb.size, (hb.cell (p := ⟨b, _, none⟩) hlt).trans h1, (hb.cell (p := ⟨b, _, none⟩) hlt).trans h2⟩
def wt (x : It) : Int := 2 + (x.1.size : Int) + (x.2.size : Int)
def wts (l : List It) : Int := (l.map wt).sum
def Small (l : List It) : Prop := ∀ x ∈ l, x.1.size ≤ 1024 ∧ x.2.size ≤ 1024
theorem wts_take (l : List It) (k : Nat) (x : It) (h : l[k]? = some x) : wts (l.take (k + 1)) = wts (l.take k) + wt x := by
  unfold wts
  rw [List.take_add_one, h]
  simp
theorem wts_bd (l : List It) (h : Small l) (k : Nat) : 0 ≤ wts (l.take k) ∧ wts (l.take k) ≤ 2050 * k := by
  induction k with
  | zero => simp [wts]
  | succ k ih =>
    cases hx : l[k]? with
    | none =>
      have : l.length ≤ k := by simpa using hx
      rw [List.take_of_length_le (by omega)] at *
      omega
    | some x =>
      rw [wts_take l k x hx]
      have := h x (List.mem_of_getElem? hx)
      unfold wt
      omega

set_option maxHeartbeats 400000 in
theorem weight_walk (x : It) (w : World) (h1 : x.1.size ≤ 1024) (h2 : x.2.size ≤ 1024) : Calls Try.prog 18 #[.agg #[.string x.1, .string x.2]] w (IntIs (wt x) w) := by
  obtain ⟨a, b⟩ := x
  have hk : wt (a, b) = 2 + (a.size : Int) + (b.size : Int) := rfl
  have HK := Lib.hid hk
  clear hk
  dsimp only at h1 h2
  go_enter Try.func18, Try.ntmps18
  go_wp2
  go_ret
  exact ⟨ret_int HK.out.symm, (Below.refl _ _).alloc (Nat.le_refl _) _⟩

set_option maxHeartbeats 400000 in
theorem sum_walk (A : Option Addr) (n c : Nat) (l : List It) (w : World) (hn : l.length = n) (hl : n ≤ 1024) (hs : Small l) (hI : Items w A l) :
    Calls Try.prog 17 #[.slice A n c, .func (.func 18) #[] #[]] w (IntIs (wts l) w) := by
  go_enter Try.func17, Try.ntmps17
  go_wp2
  go_loopw [5, 10] (fun s i wr => ∃ k : Nat, k ≤ n ∧ i = .int .i64 k ∧ s = .int .i64 (wts (l.take k)) ∧ Below w.heap.size w wr) (fun _ i _ => n - (intOf i).toNat)
  case atStart => exact ⟨0, by omega, rfl, rfl, Below.refl _ _⟩
  case round =>
    obtain ⟨k, hk, rfl, rfl, hb⟩ := hrel
    have hI' := hI.below hb
    obtain ⟨z1, z2⟩ := wts_bd l hs k
    by_cases hlt : k < n
    · obtain ⟨x, hx⟩ : ∃ x, l[k]? = some x := ⟨l[k]'(by omega), List.getElem?_eq_getElem _⟩
      obtain ⟨b, o, rfl, hbl, c1, c2⟩ := hI' k x hx
      have hw := wts_take l k x hx
      have HW := Lib.hid hw
      have hxs := hs x (List.mem_of_getElem? hx)
      have hwt : 0 ≤ wt x ∧ wt x ≤ 2050 := by unfold wt; omega
      have HX := Lib.hid hxs
      have HI := Lib.hid hI
      clear hw hI' hx hs hxs hn hI
      go_wp2_with fail
      refine (weight_walk x _ HX.out.1 HX.out.2).mono ?_
      rintro e w1 ⟨rfl, hb1⟩
      have hb' : Below w.heap.size w w1 := (hb.alloc hb.size _).trans (hb1.mono (by have := hb.size; simp; omega))
      clear hb hb1 c1 c2
      go_wp2_with fail
      go_roundw
      case rel => exact ⟨k + 1, by omega, by go_num, by rw [HW.out], hb'⟩
      case measure => simp [intOf]; omega
    · have hkn : k = n := by omega
      have hw : wts (l.take k) = wts l := by rw [List.take_of_length_le (by omega)]
      have HW := Lib.hid hw
      have t1 : decide ((k : Int) < n) = false := by simp; omega
      clear hkn hw
      go_wp2_with fail
      go_ret
      exact ⟨ret_int HW.out, hb⟩

set_option maxHeartbeats 400000 in
theorem weights_walk (A : Option Addr) (n c : Nat) (l : List It) (w : World) (hn : l.length = n) (hl : n ≤ 1024) (hs : Small l) (hI : Items w A l) :
    Calls Try.prog 11 #[.slice A n c] w (fun e w' => e = .returned (.int .i64 (wts l)) ∧ Below w.heap.size w w') := by
  go_enter Try.func11, Try.ntmps11
  go_wp2_with fail
  refine (sum_walk A n c l w hn hl hs hI).mono ?_
  rintro e w1 ⟨rfl, hb⟩
  go_wp2_with fail
  go_ret
  exact ⟨rfl, hb⟩

theorem below_drewN {B : Nat} {a w : World} (h : Below B a w) (n : Nat) : Below B a (w.drewN n) := ⟨h.os, h.tape, h.output, h.size, h.block⟩
theorem small_snoc {l : List It} {k : Nat} {a b : ByteArray} (h : Small (l.take k)) (hx : l[k]? = some (a, b)) (h1 : a.size ≤ 1024) (h2 : b.size ≤ 1024) : Small (l.take (k + 1)) := by
  intro y hy
  rw [List.take_add_one, hx] at hy
  simp at hy
  rcases hy with hy | rfl
  · exact h y hy
  · exact ⟨h1, h2⟩

set_option maxRecDepth 100000 in
set_option maxHeartbeats 1600000 in
theorem law_walk (A : Option Addr) (n c : Nat) (l : List It) (w : World) (hn : l.length = n) (hI : Items w A l) (hm : n ≤ 9223372036854775807) (hz : ∀ x ∈ l, x.1.size ≤ 9223372036854775807 ∧ x.2.size ≤ 9223372036854775807) :
    Calls Try.prog 5 #[.slice A n c] w (BoolIs true w) := by
  go_enter Try.func5, Try.ntmps5
  go_wp2_with fail
  refine (awake_walk _).mono ?_
  rintro e w1 ⟨rfl, hb1⟩
  have hI1 := hI.below hb1
  by_cases hn1 : 1024 < n
  · go_wp2
    go_ret
    exact ⟨rfl, hb1⟩
  · have t1 : decide ((1024 : Int) < n) = false := by simp; omega
    have hn2 : n ≤ 1024 := by omega
    clear hn1
    go_wp2_with fail
    go_loopw [3, 4] (fun s i wr => ∃ k : Nat, k ≤ n ∧ i = .int .i64 k ∧ s = .int .i64 (wts (l.take k)) ∧ Small (l.take k) ∧ Below w.heap.size w wr) (fun _ i _ => n - (intOf i).toNat)
    case atStart => exact ⟨0, by omega, rfl, rfl, by intro x hx; simp at hx, hb1⟩
    case round =>
      obtain ⟨k, hk, rfl, rfl, hsm, hb⟩ := hrel
      have hI' := hI.below hb
      obtain ⟨z1, z2⟩ := wts_bd (l.take k) hsm k
      rw [List.take_take, Nat.min_self] at z1 z2
      by_cases hlt : k < n
      · obtain ⟨x, hx⟩ : ∃ x, l[k]? = some x := ⟨l[k]'(by omega), List.getElem?_eq_getElem _⟩
        obtain ⟨b, o, rfl, hbl, c1, c2⟩ := hI' k x hx
        have hzx := hz x (List.mem_of_getElem? hx)
        obtain ⟨hz1, hz2⟩ := hzx
        have hw := wts_take l k x hx
        have HW := Lib.hid hw
        have HX := Lib.hid hx
        have HN := Lib.hid hn
        have HI := Lib.hid hI
        have HZ := Lib.hid hz
        have HS := Lib.hid hsm
        have hwx : wt x = 2 + (x.1.size : Int) + (x.2.size : Int) := rfl
        have HWX := Lib.hid hwx
        obtain ⟨xa, xb⟩ := x
        dsimp only at c1 c2 hz1 hz2
        clear hw hI' hI1 hx hn hI hz hsm hwx
        by_cases g1 : 1024 < xa.size
        · have t2 : decide ((1024 : Int) < xa.size) = true := by simp; omega
          go_wp2_with fail
          go_ret
          exact ⟨rfl, hb⟩
        · have t2 : decide ((1024 : Int) < xa.size) = false := by simp; omega
          by_cases g2 : 1024 < xb.size
          · have t3 : decide ((1024 : Int) < xb.size) = true := by simp; omega
            go_wp2_with fail
            go_ret
            exact ⟨rfl, hb⟩
          · have t3 : decide ((1024 : Int) < xb.size) = false := by simp; omega
            have g3 : xa.size ≤ 1024 := by omega
            have g4 : xb.size ≤ 1024 := by omega
            clear g1 g2
            go_wp2_with fail
            go_quiet (fail)
            go_wp2_with fail
            go_roundw
            case rel => exact ⟨k + 1, by omega, by go_num, by have := HW.out; have := HWX.out; congr 1; omega, small_snoc HS.out HX.out g3 g4, below_drewN hb _⟩
            case measure => simp [intOf]; omega
      · have hkn : k = n := by omega
        have hw : l.take k = l := by rw [List.take_of_length_le (by omega)]
        rw [hw] at hsm z1 z2 ⊢
        have hz : wts [] = 0 := rfl
        have HZ := Lib.hid hz
        have t1 : decide ((k : Int) < n) = false := by simp; omega
        clear hkn hw hz
        go_wp2_with fail
        refine (weights_walk A n c l wr hn hn2 hsm hI').mono ?_
        rintro e w2 ⟨rfl, hb2⟩
        have hb' := hb.trans (hb2.mono hb.size)
        clear hb2 hb hI'
        go_wp2_with fail
        refine (weights_walk none 0 0 [] w2 rfl (by omega) (by intro x hx; simp at hx) (by intro i x hx; simp at hx)).mono ?_
        rintro e w3 ⟨rfl, hb3⟩
        have hb := hb'.trans (hb3.mono hb'.size)
        rw [HZ.out]
        clear hb3 hb'
        go_wp2_with fail
        go_ret
        exact ⟨rfl, hb⟩
theorem weight_law (A : Option Addr) (n c : Nat) (l : List It) (w : World) (hn : l.length = n) (hI : Items w A l) (hm : n ≤ maxLen) (hz : ∀ y ∈ l, y.1.size ≤ maxLen ∧ y.2.size ≤ maxLen) :
    Calls Try.prog 5 #[.slice A n c] w (BoolIs true w) := by
  unfold maxLen at hm hz
  exact law_walk A n c l w hn hI hm hz
end Go.Proofs.Ytkehgendjjpggaa
