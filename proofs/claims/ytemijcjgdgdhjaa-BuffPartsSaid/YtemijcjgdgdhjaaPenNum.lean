/- (*pen.Out).Num of numbers that fit: their bytes are written, the highest first. -/
import Derived.Test.YtemijcjgdgdhjaaPen
namespace Go.Proofs.Ytemijcjgdgdhjaa.Old
open Go.RowKit

theorem byte_is (x : Int) (q : Nat) (h : 0 ≤ x) : x / 2 ^ (8 * q) % 256 = ((UInt8.ofNat (x.toNat / 2 ^ (8 * q))).toNat : Int) := by
  obtain ⟨n, rfl⟩ := Int.eq_ofNat_of_zero_le h
  rw [UInt8.toNat_ofNat']
  simp

set_option maxRecDepth 100000 in
set_option maxHeartbeats 1000000 in
theorem outNum_ok (wd : Nat) (T : TypeId) (hT : Holds2 T) (B b : Nat) (A : Option Addr) (n c : Nat) (zs : List Int) (bs : List UInt8) (w : World) (hw : wd = 1 ∨ wd = 2 ∨ wd = 4 ∨ wd = 8) (h : BAt T B b (Lib.byteCells bs) w)
    (hn : zs.length = n) (hm : n ≤ 1000) (hI : Ints w A zs) (hA : ∀ a o, A = some ⟨a, o, none⟩ → zs ≠ [] → a ≠ b ∧ ¬ IsElem w 5 a ∧ a < w.heap.size) (hB : B ≤ w.heap.size) (hz : ∀ z ∈ zs, Fits wd z ∧ z ≤ 9223372036854775807)
    (hlen : bs.length + wd * n ≤ 140737488355328) :
    Calls Try.prog 135 #[.pointer (some ⟨b, 0, none⟩), .int .i64 wd, .slice A n c] w fun e w' => e = .returned (.int .i64 0) ∧ BAt T B b (Lib.byteCells (bs ++ bes wd zs)) w' ∧ FrT 5 B b w w' := by
  have hiw : isWidth wd = true := by rcases hw with rfl | rfl | rfl | rfl <;> decide
  have hb : b < w.heap.size := by obtain ⟨p, v, _, hh, _⟩ := h; exact blk_lt hh
  have hw8 : 1 ≤ wd ∧ wd ≤ 8 := by omega
  obtain ⟨w1', w8⟩ := hw8
  have HN := Lib.hid hn
  have HW := Lib.hid hw
  have HA := Lib.hid hA
  have HZ := Lib.hid hz
  have HIW := Lib.hid hiw
  have h0 : NumAt wd T B b w.heap.size A zs bs w (w.alloc (.cells #[.int .i64 wd] 3)) :=
    ⟨h.kept fun k hk hlt => Below.heap_alloc _ _ _ hlt, (FrT.refl _ _ _ _).alloc _, blk_self _ _, hI.keep (fun a o _ hlt _ => Below.heap_alloc _ _ _ hlt) (by simp), by simp; omega⟩
  have H0 := Lib.hid h0
  clear hn hw hA hz hiw h hI h0
  go_enter Try.func135, Try.ntmps135
  go_wp2_with fail
  refine (isWidth_calls _ _).mono ?_
  rintro e w' ⟨rfl, rfl⟩
  rw [HIW.out]
  go_wp2_with fail
  refine (contInt_none wd w.heap.size A n c zs _ HN.out (by omega) H0.out.2.2.2.1 HW.out HZ.out (by rw [blk_cell H0.out.2.2.1]; rfl)).mono ?_
  rintro e w' ⟨rfl, rfl⟩
  go_wp2_with fail
  go_loopw [8, 9, 24] (fun _ _ i wr => ∃ k : Nat, k ≤ n ∧ i = .int .i64 k ∧ Hid (NumAt wd T B b w.heap.size A zs (bs ++ bes wd (zs.take k)) w wr)) (fun _ _ i _ => n - (intOf i).toNat)
  case atStart => exact ⟨0, by omega, rfl, by simpa [bes, Hid] using H0.out⟩
  case round =>
    obtain ⟨k, hk, rfl, HR⟩ := hrel
    by_cases hlt : k < n
    · obtain ⟨x, hx⟩ : ∃ x, zs[k]? = some x := ⟨zs[k]'(by have := HN.out; omega), List.getElem?_eq_getElem _⟩
      obtain ⟨a, o, hAe, hbl, c1⟩ := HR.out.2.2.2.1 k x hx
      have hcw : wr.cell? ⟨w.heap.size, 0, none⟩ = some (.int .i64 wd) := by rw [blk_cell HR.out.2.2.1]; rfl
      obtain ⟨⟨x0, x1⟩, x2⟩ := HZ.out x (List.mem_of_getElem? hx)
      have HX1 := Lib.hid x1
      have HX := Lib.hid (bes_take wd zs k x hx)
      have hAA := HA.out a o hAe (by rintro rfl; simp at hx)
      have HAA := Lib.hid hAA
      subst hAe
      clear hx hAA x1
      go_wp2_with fail
      go_loopw [9] (fun i wi => ∃ j : Nat, j ≤ wd ∧ i = .int .i64 ((wd : Int) - 1 - j) ∧ Hid (NumAt wd T B b w.heap.size (some ⟨a, o, none⟩) zs (bs ++ bes wd (zs.take k) ++ (be x.toNat wd).take j) w wi)) (fun i _ => ((intOf i) + 1).toNat)
      case atStart => exact ⟨0, by omega, by simp, by simpa [Hid] using HR.out⟩
      case round =>
        obtain ⟨j, hj, rfl, HJ⟩ := hrel
        by_cases hjl : j < wd
        · obtain ⟨q, hq⟩ : ∃ q : Nat, q = wd - 1 - j := ⟨_, rfl⟩
          have hqi : (wd : Int) - 1 - (j : Int) = (q : Int) := by omega
          have hq7 : q ≤ 7 := by omega
          rw [hqi]
          have HQ := Lib.hid hq
          have HQI := Lib.hid hqi
          clear hq hqi
          have s1 : IntKind.i64.wrap (8 * (q : Int)) = 8 * (q : Int) := by rw [IntKind.wrap_i64]; omega
          have s2 : (0 : Int) ≤ 8 * (q : Int) := by omega
          have s3 : 8 * (q : Int) ≤ 64 := by omega
          have t1 : decide ((0 : Int) ≤ (q : Int)) = true := by simp
          go_wp2_with fail
          go_still_tail 8, (by kernel_rfl)
          go_wp2_with fail
          have hJ := HJ.out.drew
          rw [byte_is x q x0]
          have hl : (bs ++ bes wd (zs.take k) ++ (be x.toNat wd).take j).length + 1 ≤ 140737488355328 := by
            have := HN.out
            simp only [List.length_append, List.length_take, be_length, bes_length]
            have : wd * min k zs.length ≤ wd * n := Nat.mul_le_mul_left _ (by omega)
            have : wd * min k zs.length + wd ≤ wd * n := by
              have : min k zs.length + 1 ≤ n := by omega
              have := Nat.mul_le_mul_left wd this
              rw [Nat.mul_add] at this; omega
            omega
          refine (writeByte_calls hT B b (Lib.byteCells (bs ++ bes wd (zs.take k) ++ (be x.toNat wd).take j)) _ _ hJ.1 (by rw [Lib.byteCells_length]; exact hl) hJ.2.2.2.2).mono ?_
          rintro e w2 ⟨rfl, hb2, hf2⟩
          have hN2 := NumAt.write hJ (by omega) (fun a' o' h' hne => by cases h'; exact HAA.out) hb2 ⟨hf2.os, hf2.tape, hf2.output, hf2.size, hf2.block⟩
          have H2 := Lib.hid hN2
          clear hJ hb2 hf2 hN2 hl
          go_wp2_with fail
          go_roundw
          case rel =>
            refine ⟨j + 1, by omega, by have := HQI.out; congr 1; omega, ?_⟩
            have e := be_take x.toNat wd j hjl
            rw [← HQ.out] at e
            rw [e, ← List.append_assoc]
            exact H2
          case measure => simp [intOf]
        · have hjw : j = wd := by omega
          subst hjw
          have t1 : decide ((0 : Int) ≤ (j : Int) - 1 - j) = false := by simp; omega
          go_wp2_with fail
          go_roundw
          case rel =>
            refine ⟨k + 1, by omega, by go_num, ?_⟩
            rw [HX.out, ← List.append_assoc]
            have hJ := HJ.out
            rw [show (be x.toNat j).take j = be x.toNat j from List.take_of_length_le (by rw [be_length]; exact Nat.le_refl _)] at hJ
            exact hJ
          case measure => simp [intOf]; omega
    · have t1 : decide (k < n) = false := by simp; omega
      have hk : zs.take k = zs := List.take_of_length_le (by have := HN.out; omega)
      have hR := HR.out
      rw [hk] at hR
      have HR2 := Lib.hid hR
      clear hR
      go_wp2_with fail
      go_ret
      exact ⟨rfl, HR2.out.1, HR2.out.2.1⟩
end Go.Proofs.Ytemijcjgdgdhjaa.Old
