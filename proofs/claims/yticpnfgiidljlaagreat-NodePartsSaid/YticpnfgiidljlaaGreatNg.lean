/- pen.Out: numbers, texts, messages. -/
import Derived.Test.YticpnfgiidljlaaGreatNb
import Derived.Test.YticpnfgiidljlaaGreatNc
import Derived.Test.YticpnfgiidljlaaGreatNd
import Derived.Test.YticpnfgiidljlaaGreatWk
namespace Go.Proofs.YticpnfgiidljlaaGreat
open Go.RowKit
set_option linter.unusedSimpArgs false
set_option linter.unusedVariables false
set_option maxRecDepth 10000
theorem fits_spec (w : Nat) (z : Int) (hw : w = 1 ∨ w = 2) (h0 : 0 ≤ z) (h1 : z < 256 ^ w) : PSpec Tryz.prog 126 [.sc (.int .i64 w), .sc (.int .i64 z)] (.sc (.bool true)) :=
  pspec_gives [.int .i64 w, .int .i64 z] good126 fun W => (Old.fits_yes w z W (by omega) ⟨h0, by rcases hw with rfl | rfl <;> simpa using h1⟩ (by rcases hw with rfl | rfl <;> omega)).mono fun e w' h => ⟨h.1, h.2 ▸ Below.refl _ _⟩
theorem outNumF_spec (w : Nat) (z : Int) (hw : w = 1 ∨ w = 2) (h0 : 0 ≤ z) (h1 : z < 256 ^ w) : PSpec Tryz.prog 125 [.sc (.int .i64 z), .fp [.sc (.int .i64 w)] 0] (.sc (.bool (!true))) := by
  have hf := fits_spec w z hw h0 h1
  clear hw h0 h1
  refine spec_pure (by simp) (by simp) ?_
  refine spec_intro Tryz.func125 good125 rfl (by simp [Tryz.ntmps125]) ?_
  exact go0 [] [] (cns hf (cns Tryz.results125 trivial))
theorem numB_length (z w : Nat) : (numB z w).length = w := by
  induction w with
  | zero => rfl
  | succ w ih => simp [numB, ih]
theorem numB_get (z : Nat) : ∀ (w i : Nat), i < w → (numB z w)[w - (i + 1)]? = some (UInt8.ofNat (z / 256 ^ i))
  | 0, i, h => by omega
  | w + 1, i, h => by
    rcases Nat.lt_or_ge i w with h1 | h1
    · have := numB_get z w i h1
      rw [numB, show w + 1 - (i + 1) = (w - (i + 1)) + 1 by omega, List.getElem?_cons_succ]
      exact this
    · obtain rfl : i = w := by omega
      simp [numB]
theorem numB_step (z w i : Nat) (h : i < w) : (numB z w).take (w - i) = (numB z w).take (w - (i + 1)) ++ [UInt8.ofNat (z / 256 ^ i)] := by
  rw [show w - i = (w - (i + 1)) + 1 by omega, List.take_add_one, numB_get z w i h]
  rfl
/-- Numbers' bytes. -/
def numsB (w : Nat) (zs : List Int) : List UInt8 := zs.flatMap fun z => numB z.toNat w
theorem numsB_length (w : Nat) (zs : List Int) : (numsB w zs).length = w * zs.length := by
  induction zs with
  | nil => simp [numsB]
  | cons z zs ih => simp [numsB, numB_length, Nat.mul_add] at *; omega
theorem numsB_take (w : Nat) (zs : List Int) (j : Nat) (h : j < zs.length) : numsB w (zs.take (j + 1)) = numsB w (zs.take j) ++ numB (zs[j]).toNat w := by
  rw [List.take_succ_eq_append_getElem h, numsB, List.flatMap_append]
  simp [numsB]
theorem out_there (l : Nat) (bs : List UInt8) : ∃ σ, OutAt l bs σ :=
  ⟨List.replicate l default ++ [⟨[.sc (.pointer none), .ms (l + 1) 0 0 bs.length 1], 0, false, .ty 84⟩, ⟨bytesL bs, 0, false, .el 5⟩], .sc (.pointer none), .ms (l + 1) 0 0 bs.length 1, .inl rfl, by simp, .inr ⟨l + 1, 0, bytesL bs, rfl, by simp, by simp, List.take_of_length_le (by simp)⟩, fun h => by have := isH_ms h; omega⟩
theorem outNum_spec {l : Nat} {bs : List UInt8} {σ : Sto} (w : Nat) (zs : List Int) (hw : w = 1 ∨ w = 2) (hz : ∀ z ∈ zs, 0 ≤ z ∧ z < 256 ^ w) (hl : zs.length ≤ 1000) (h : OutAt l bs σ) (hn : bs.length ≤ 1000000) :
    Spec Tryz.prog 90 [.mp l 0 0, .sc (.int .i64 w), .fs (flatN zs) zs.length] σ fun r σ' => r = .sc (.int .i64 0) ∧ OutAt l (bs ++ numsB w zs) σ' := by
  have hi := isWidth_spec (w : Int)
  have hwt : Old.isWidth (w : Int) = true := by rcases hw with rfl | rfl <;> decide
  rw [hwt] at hi
  have hc := contN_of 125 [.fp [.sc (.int .i64 w)] 0] (by simp [flatL, AV.flat]) (fun _ => true) zs (by omega) fun x hx => outNumF_spec w x hw (hz x hx).1 (hz x hx).2
  have hall : zs.all (fun _ => true) = true := by simp
  rw [hall] at hc
  replace hz := Lib.hid hz
  replace hw := Lib.hid hw
  replace h := Lib.hid h
  clear hall hwt
  refine spec_intro Tryz.func90 good90 rfl (by simp [Tryz.ntmps90]) ?_
  refine go1 [] [] (cns hi (cns hc (cns Tryz.results90 trivial))) ?_
  refine tri_for [0, 4, 6, 22, 23] zs.length (fun k_ e σ => e 24 = .sc (.int .i64 k_) ∧ OutAt l (bs ++ numsB w (zs.take k_)) σ) ?_ (fun j env' σ' hlt hk hI => ?_) (fun env' σ' hk hI => ?_)
  · exact ⟨by simp, by simpa [numsB] using h.out⟩
  · clear h
    (try simp at hk)
    obtain ⟨h24, h⟩ := hI
    have hzj := hz.out _ (List.getElem_mem hlt)
    have hlen := numsB_length w (zs.take j)
    have hwk := hw.out
    have hlen2 : (bs ++ numsB w (zs.take j)).length ≤ 1002000 := by
      rw [List.length_append, hlen, List.length_take]
      rcases hwk with rfl | rfl
      · omega
      · omega
    rw [numsB_take w zs j hlt, ← List.append_assoc]
    generalize bs ++ numsB w (zs.take j) = cs at hlen2 h ⊢
    obtain ⟨z, hzz⟩ := Int.eq_ofNat_of_zero_le hzj.1
    have hzl : z < 65536 := by
      have := hzj.2
      rw [hzz] at this
      rcases hwk with rfl | rfl
      · omega
      · omega
    rw [hzz]
    have hld : ∀ h, (flatN zs)[j]'h = .sc (.int .i64 z) := fun h => by rw [flatN_at, hzz]
    simp only [Int.toNat_natCast]
    clear hlen hz hzj hi hc
    replace h := Lib.hid h
    have hw2 : w ≤ 2 := by omega
    clear hwk hw
    refine go1 [] [] (cns Tryz.results90 trivial) ?_
    refine tri_whl [0, 4, 6, 8, 22, 23, 24] w (fun m e σ => e 24 = .sc (.int .i64 j) ∧ m ≤ w ∧ e 9 = .sc (.int .i64 ((m : Int) - 1)) ∧ OutAt l (cs ++ (numB z w).take (w - m)) σ) ?_ (fun m env' σ' hm hk hI => ?_)
    · exact ⟨w, by omega, by simp [*], by omega, by simp, by simpa using h.out⟩
    · clear h
      (try simp at hk)
      obtain ⟨h24', hmw, h9, h⟩ := hI
      rcases Nat.eq_zero_or_pos m with rfl | hm0
      · rw [Nat.sub_zero, List.take_of_length_le (by rw [numB_length]; omega)] at h
        replace h := Lib.hid h
        have h9' : env' 9 = .sc (.int .i64 (-1)) := h9
        clear h9 hm hmw
        refine go1 [] [] (cns Tryz.results90 trivial) ?_
        exact ⟨by simp [*], by simp, h.out⟩
      · obtain ⟨i, rfl⟩ : ∃ i, m = i + 1 := ⟨m - 1, by omega⟩
        have hst := numB_step z w i (by omega)
        have hb := writeByte_spec (UInt8.ofNat (z / 256 ^ i)) h (by simp only [List.length_append, List.length_take, numB_length]; omega)
        have h9' : env' 9 = .sc (.int .i64 i) := by rw [h9]; congr 2; omega
        rw [List.append_assoc, ← hst] at hb
        clear h9 h hst hm0
        have hm8 : IntKind.i64.wrap (8 * (i : Int)) = 8 * i := by rw [IntKind.wrap_i64]; omega
        have hv : IntKind.u8.wrap ((z : Int).fdiv (2 ^ min (8 * (i : Int)).toNat IntKind.i64.bits)) = ((UInt8.ofNat (z / 256 ^ i)).toNat : Int) := by
          rcases (by omega : i = 0 ∨ i = 1) with rfl | rfl
          · simp [IntKind.wrap_u8]
          · simp [IntKind.wrap_u8, IntKind.bits, Int.fdiv_eq_ediv]
        refine go1 [] [(11, [(8, .w)])] (cns Tryz.results90 trivial) ?_
        refine rwc_cw rfl fun C' hC => ?_
        (try simp [*, -List.all_eq_true]); (try (simp (disch := first | assumption | omega) only [wrap_id, wrapu_id, wrapb_id, tmod_nn, tdiv_nn, ite_yes, flatM_seg, flatM_0, flatM_1, flatM_2, flatI_seg, flatI_0, flatI_1, flatS_get]; (try simp [*, -List.all_eq_true])))
        refine hC.out _ _ _ (hb) ?_ fun r S1 hq => ?_
        · obtain ⟨S, hS⟩ := out_there l (cs ++ (numB z w).take (w - i))
          exact ⟨_, S, rfl, hS⟩
        obtain ⟨rfl, h2⟩ := hq
        replace h2 := Lib.hid h2
        clear hb hv hm8
        have hmi : IntKind.i64.wrap ((i : Int) - 1) = (i : Int) - 1 := by rw [IntKind.wrap_i64]; omega
        refine go1 [] [(11, [(8, .w)])] (cns Tryz.results90 trivial) ?_
        refine ⟨by simp [*], i, by omega, by simp [*], by omega, by simp [*], ?_⟩
        exact h2.out
  · skip
    (try simp at hk)
    obtain ⟨h24, h⟩ := hI
    rw [List.take_length] at h
    replace h := Lib.hid h
    refine go1 [] [] (cns Tryz.results90 trivial) ?_
    exact ⟨rfl, h.out⟩
theorem outTextF_spec (t : Str) (h : t.size ≤ 255) : PSpec Tryz.prog 129 [.sc (.string t)] (.sc (.bool (!true))) := by
  have h2 : ¬ (255 : Int) < (t.size : Int) := by omega
  refine spec_pure (by simp) (by simp) ?_
  refine spec_intro Tryz.func129 good129 rfl (by simp [Tryz.ntmps129]) ?_
  exact go0 [] [] (cns Tryz.results129 trivial)
/-- Texts' bytes. -/
def textsB (ts : List Str) : List UInt8 := ts.flatMap fun t => textB (strL t)
theorem textsB_length {ts : List Str} (h : ∀ t ∈ ts, t.size ≤ 255) : (textsB ts).length ≤ 256 * ts.length := by
  induction ts with
  | nil => simp [textsB]
  | cons t ts ih =>
    have h1 := ih fun x hx => h x (List.mem_cons_of_mem _ hx)
    have h2 := h t List.mem_cons_self
    simp [textsB, textB, strL_len] at *
    omega
theorem textsB_take (ts : List Str) (j : Nat) (h : j < ts.length) : textsB (ts.take (j + 1)) = textsB (ts.take j) ++ textB (strL ts[j]) := by
  rw [List.take_succ_eq_append_getElem h, textsB, List.flatMap_append]
  simp [textsB]
theorem outText_spec {l : Nat} {bs : List UInt8} {σ : Sto} (ts : List Str) (hz : ∀ t ∈ ts, t.size ≤ 255) (hl : ts.length ≤ 1000) (h : OutAt l bs σ) (hn : bs.length ≤ 1000000) :
    Spec Tryz.prog 91 [.mp l 0 0, .fs (flatS ts) ts.length] σ fun r σ' => r = .sc (.int .i64 0) ∧ OutAt l (bs ++ textsB ts) σ' := by
  have hc := contS_of 129 [] (by simp [flatL]) (fun _ => true) ts (by omega) fun x hx => outTextF_spec x (hz x hx)
  have hall : ts.all (fun _ => true) = true := by simp
  rw [hall] at hc
  replace hz := Lib.hid hz
  replace h := Lib.hid h
  clear hall
  refine spec_intro Tryz.func91 good91 rfl (by simp [Tryz.ntmps91]) ?_
  refine go1 [] [] (cns hc (cns Tryz.results91 trivial)) ?_
  refine tri_for [0, 4, 13, 14] ts.length (fun k_ e σ => e 15 = .sc (.int .i64 k_) ∧ OutAt l (bs ++ textsB (ts.take k_)) σ) ?_ (fun j env' σ' hlt hk hI => ?_) (fun env' σ' hk hI => ?_)
  · exact ⟨by simp, by simpa [textsB] using h.out⟩
  · clear h
    (try simp at hk)
    obtain ⟨h15, h⟩ := hI
    have hzj := hz.out _ (List.getElem_mem hlt)
    have hlen := textsB_length (ts := ts.take j) fun t ht => hz.out t (List.mem_of_mem_take ht)
    have hlen2 : (bs ++ textsB (ts.take j)).length ≤ 1300000 := by
      rw [List.length_append]
      rw [List.length_take] at hlen
      omega
    rw [textsB_take ts j hlt, ← List.append_assoc]
    generalize bs ++ textsB (ts.take j) = cs at hlen2 h ⊢
    have hld : ∀ h, (flatS ts)[j]'h = .sc (.string ts[j]) := fun h => by rw [flatS_at]
    generalize ts[j] = t at hzj hld ⊢
    have hb := writeByte_spec (UInt8.ofNat t.size) h (by omega)
    have hu : (UInt8.ofNat t.size).toNat = t.size := by rw [UInt8.toNat_ofNat', Nat.mod_eq_of_lt (by omega)]
    rw [hu] at hb
    clear hlen hz h hc
    refine go1 [] [] (cns Tryz.results91 trivial) ?_
    refine rwf_ca rfl fun C' hC hP => ?_
    clear hP
    (try simp [*, -List.all_eq_true]); (try (simp (disch := first | assumption | omega) only [wrap_id, wrapu_id, wrapb_id, tmod_nn, tdiv_nn, ite_yes, flatM_seg, flatM_0, flatM_1, flatM_2, flatI_seg, flatI_0, flatI_1, flatS_get]; (try simp [*, -List.all_eq_true])))
    refine hC.out _ _ _ (hb) fun r S1 hq => ?_
    clear hC C'
    obtain ⟨rfl, h1⟩ := hq
    have hs := writeString_spec t h1 (by simp only [List.length_append, List.length_singleton]; omega)
    rw [List.append_assoc, ← strL_len] at hs
    clear h1 hb
    refine go1 [] [] (cns Tryz.results91 trivial) ?_
    refine rwf_ca rfl fun C' hC hP => ?_
    clear hP
    (try simp [*, -List.all_eq_true]); (try (simp (disch := first | assumption | omega) only [wrap_id, wrapu_id, wrapb_id, tmod_nn, tdiv_nn, ite_yes, flatM_seg, flatM_0, flatM_1, flatM_2, flatI_seg, flatI_0, flatI_1, flatS_get]; (try simp [*, -List.all_eq_true])))
    refine hC.out _ _ _ (hs) fun r S2 hq => ?_
    clear hC C'
    obtain ⟨rfl, h2⟩ := hq
    replace h2 := Lib.hid h2
    clear hs
    refine go1 [] [] (cns Tryz.results91 trivial) ?_
    exact ⟨by simp [*], by simp, h2.out⟩
  · skip
    (try simp at hk)
    obtain ⟨h15, h⟩ := hI
    rw [List.take_length] at h
    replace h := Lib.hid h
    refine go1 [] [] (cns Tryz.results91 trivial) ?_
    exact ⟨rfl, h.out⟩
theorem outBytes_spec {l : Nat} {bs : List UInt8} {σ : Sto} (h : OutAt l bs σ) (h0 : bs ≠ []) (hn : bs.length < 10000000) :
    Spec Tryz.prog 40 [.mp l 0 0] σ fun r σ' => r = .sc (.string ⟨bs.toArray⟩) := by
  have hs := bString_spec h h0 hn
  clear h h0
  refine spec_intro Tryz.func40 good40 rfl (by simp [Tryz.ntmps40]) ?_
  refine go1 [] [] (cns Tryz.results40 trivial) ?_
  refine rwf_ca rfl fun C' hC hP => ?_
  clear hP
  (try simp [*, -List.all_eq_true]); (try (simp (disch := first | assumption | omega) only [wrap_id, wrapu_id, wrapb_id, tmod_nn, tdiv_nn, ite_yes, flatM_seg, flatM_0, flatM_1, flatM_2, flatI_seg, flatI_0, flatI_1, flatS_get]; (try simp [*, -List.all_eq_true])))
  refine hC.out _ _ _ (hs) fun r S1 hq => ?_
  clear hC C'
  obtain rfl := hq
  exact go0 [] [] (cns Tryz.results40 trivial)
theorem msgB_eq (m : Msg) : msgB m = numsB 1 [m.kind] ++ textsB [m.key, m.val] := by
  simp [msgB, numsB, numB, textsB]
theorem flatMap_take {α : Type} (f : α → List UInt8) (l : List α) (j : Nat) (h : j < l.length) : (l.take (j + 1)).flatMap f = (l.take j).flatMap f ++ f l[j] := by
  rw [List.take_succ_eq_append_getElem h, List.flatMap_append]
  simp
theorem msgB_length {m : Msg} (h : isMsg m = true) : (msgB m).length ≤ 100 := by
  have := isMsg_sm h
  simp [msgB, textB, strL_len]
  omega
theorem flatMap_length_le {α : Type} (f : α → List UInt8) (c : Nat) : ∀ (l : List α), (∀ x ∈ l, (f x).length ≤ c) → (l.flatMap f).length ≤ c * l.length
  | [], _ => by simp
  | x :: l, h => by
    have h1 := flatMap_length_le f c l fun y hy => h y (List.mem_cons_of_mem _ hy)
    have h2 := h x List.mem_cons_self
    rw [List.flatMap_cons, List.length_append, List.length_cons, Nat.mul_add]
    omega
theorem mWrite_spec {l : Nat} {bs : List UInt8} {σ : Sto} (ms : List Msg) (hz : ∀ m ∈ ms, isMsg m = true) (hl : ms.length ≤ 1000) (h : OutAt l bs σ) (hn : bs.length ≤ 100000) :
    Spec Tryz.prog 93 [.mp l 0 0, .fs (flatM ms) ms.length] σ fun r σ' => r = .sc (.int .i64 0) ∧ OutAt l (bs ++ ms.flatMap msgB) σ' := by
  have hc := contM_of 132 [] (by simp [flatL]) isMsg ms (by omega) fun x hx => isNot_spec x
  have hall : ms.all isMsg = true := List.all_eq_true.2 hz
  rw [hall] at hc
  replace hz := Lib.hid hz
  replace h := Lib.hid h
  clear hall
  refine spec_intro Tryz.func93 good93 rfl (by simp [Tryz.ntmps93]) ?_
  refine go1 [] [] (cns hc (cns Tryz.results93 trivial)) ?_
  refine tri_for [0, 4, 13, 14] ms.length (fun k_ e σ => e 15 = .sc (.int .i64 k_) ∧ OutAt l (bs ++ (ms.take k_).flatMap msgB) σ) ?_ (fun j env' σ' hlt hk hI => ?_) (fun env' σ' hk hI => ?_)
  · exact ⟨by simp, by simpa using h.out⟩
  · clear h
    (try simp at hk)
    obtain ⟨h15, h⟩ := hI
    have hzj := hz.out _ (List.getElem_mem hlt)
    have hlen := flatMap_length_le msgB 100 (ms.take j) fun t ht => msgB_length (hz.out t (List.mem_of_mem_take ht))
    have hlen2 : (bs ++ (ms.take j).flatMap msgB).length ≤ 300000 := by
      rw [List.length_append]
      rw [List.length_take] at hlen
      omega
    rw [flatMap_take msgB ms j hlt, ← List.append_assoc]
    generalize bs ++ (ms.take j).flatMap msgB = cs at hlen2 h ⊢
    have sg := flatM_seg ms j hlt
    generalize ms[j] = m at hzj sg ⊢
    obtain ⟨s1, s2, s3, s4⟩ := isMsg_sm hzj
    have hb : Spec Tryz.prog 90 [.mp l 0 0, .sc (.int .i64 1), .fs [.sc (.int .i64 m.kind)] 1] _ _ := outNum_spec 1 [m.kind] (.inl rfl) (by intro z hz; simp at hz; subst hz; omega) (by simp) h (by omega)
    clear hlen hz h hc
    obtain ⟨q, k, v⟩ := m
    simp only [cM] at sg hb
    refine go1 [] [] (cns Tryz.results93 trivial) ?_
    refine rwf_ca rfl fun C' hC hP => ?_
    clear hP
    (try simp [*, -List.all_eq_true]); (try (simp (disch := first | assumption | omega) only [wrap_id, wrapu_id, wrapb_id, tmod_nn, tdiv_nn, ite_yes, flatM_seg, flatM_0, flatM_1, flatM_2, flatI_seg, flatI_0, flatI_1, flatS_get]; (try simp [*, -List.all_eq_true])))
    refine hC.out _ _ _ (hb) fun r S1 hq => ?_
    clear hC C'
    obtain ⟨rfl, h1⟩ := hq
    have ht : Spec Tryz.prog 91 [.mp l 0 0, .fs [.sc (.string k), .sc (.string v)] 2] _ _ := outText_spec [k, v] (by simp only at s1 s2; intro t ht; simp at ht; rcases ht with rfl | rfl <;> omega) (by simp) h1 (by rw [List.length_append, numsB_length]; simp; omega)
    rw [List.append_assoc, ← msgB_eq ⟨q, k, v⟩] at ht
    clear h1 hb s1 s2 s3 s4 hzj
    refine go1 [] [] (cns Tryz.results93 trivial) ?_
    refine rwf_ca rfl fun C' hC hP => ?_
    clear hP
    (try simp [*, -List.all_eq_true]); (try (simp (disch := first | assumption | omega) only [wrap_id, wrapu_id, wrapb_id, tmod_nn, tdiv_nn, ite_yes, flatM_seg, flatM_0, flatM_1, flatM_2, flatI_seg, flatI_0, flatI_1, flatS_get]; (try simp [*, -List.all_eq_true])))
    refine hC.out _ _ _ (ht) fun r S2 hq => ?_
    clear hC C'
    obtain ⟨rfl, h2⟩ := hq
    replace h2 := Lib.hid h2
    clear ht
    refine go1 [] [] (cns Tryz.results93 trivial) ?_
    exact ⟨by simp [*], by simp, h2.out⟩
  · skip
    (try simp at hk)
    obtain ⟨h15, h⟩ := hI
    rw [List.take_length] at h
    replace h := Lib.hid h
    refine go1 [] [] (cns Tryz.results93 trivial) ?_
    exact ⟨rfl, h.out⟩
end Go.Proofs.YticpnfgiidljlaaGreat
