/- Spaces: Parse. -/
import Derived.Test.YtgdefllblcmgpaaYm
import Derived.Test.YtgdefllblcmgpaaYn
namespace Go.Proofs.Ytgdefllblcmgpaa
open Go.RowKit
set_option linter.unusedSimpArgs false
set_option maxRecDepth 10000
theorem byte_and : ∀ n : Fin 256, ∀ q : Fin 8, n.1 &&& 2 ^ (7 - q.1) = if bitN n.1 q.1 = true then 2 ^ (7 - q.1) else 0 := by decide +kernel
theorem and_bit (B r : Nat) (h : B < 256) (hr : r < 8) : B % 2 ^ IntKind.u8.bits &&& 2 ^ (7 - r) % 2 ^ IntKind.u8.bits = if bitN B r = true then 2 ^ (7 - r) else 0 := by
  have h2 : 2 ^ (7 - r) < 256 := by
    match r, hr with
    | 0, _ | 1, _ | 2, _ | 3, _ | 4, _ | 5, _ | 6, _ | 7, _ => decide
  rw [show (2 : Nat) ^ IntKind.u8.bits = 256 from rfl, Nat.mod_eq_of_lt h, Nat.mod_eq_of_lt h2]
  exact byte_and ⟨B, h⟩ ⟨r, hr⟩
theorem bitsF_at {t : List UInt8} {i k : Nat} (h : i < t.length) (hk : k < 8) : bitsF t (8 * i + k) = bitN t[i].toNat k := by
  unfold bitsF
  rw [show (8 * i + k) / 8 = i by omega, show (8 * i + k) % 8 = k by omega, List.getElem?_eq_getElem h]
/-- Of the bits ahead of m those that are set are free. -/
def ParI (p n : Nat) (bits : Nat → Bool) (v0 : AV) (σ0 : Sto) (m : Nat) (s : Sto) : Prop := ∃ v es, SpV p n v es s ∧ FrR p v0 σ0 s v ∧ Norm n es ∧ ∀ j : Int, memX es j ↔ ∃ i : Nat, j = i ∧ i < m ∧ bits i = true
theorem ParI.no {p n m : Nat} {bits : Nat → Bool} {v0 : AV} {σ0 s : Sto} (h : ParI p n bits v0 σ0 m s) (hb : bits m = false) : ParI p n bits v0 σ0 (m + 1) s := by
  obtain ⟨v, es, h1, h2, h3, h4⟩ := h
  refine ⟨v, es, h1, h2, h3, fun j => ?_⟩
  rw [h4]
  constructor
  · rintro ⟨i, rfl, q1, q2⟩; exact ⟨i, rfl, by omega, q2⟩
  · rintro ⟨i, rfl, q1, q2⟩
    refine ⟨i, rfl, ?_, q2⟩
    rcases Nat.lt_succ_iff_lt_or_eq.1 q1 with q | rfl
    · exact q
    · rw [hb] at q2; cases q2
theorem ParI.give {p n m : Nat} {bits : Nat → Bool} {v0 : AV} {σ0 s : Sto} (h : ParI p n bits v0 σ0 m s) (hb : bits m = true) (hn : 1 ≤ n ∧ n ≤ 512) :
    Spec Try.prog 9 [.mp p 0 0, .fs [.sc (.int .i64 m), .sc (.int .i64 1)] 1] s (fun r s' => (m < n ∧ r = .sc (.int .i64 0) ∧ ParI p n bits v0 σ0 (m + 1) s') ∨ (¬ m < n ∧ r = .sc (.int .i64 3) ∧ ∃ v, FrR p v0 σ0 s' v)) := by
  obtain ⟨v, es, h1, h2, h3, h4⟩ := h
  have g := sGiveA_spec p n es [⟨m, 1⟩] _ v h1 h3 (by omega) (by simp)
  rw [show flatE [(⟨m, 1⟩ : Ext)] = [.sc (.int .i64 m), .sc (.int .i64 1)] from rfl, show [(⟨m, 1⟩ : Ext)].length = 1 from rfl] at g
  refine g.mono fun r s' hq => ?_
  obtain ⟨rfl, v', k1, k2⟩ := hq
  by_cases hm : m < n
  · have hx : isInX n ⟨m, 1⟩ = true := isInX_iff.2 ⟨by simp, by simp, by unfold xe; simp; omega⟩
    have ht : touchX es ⟨m, 1⟩ = false := by
      cases q : touchX es ⟨m, 1⟩ with
      | false => rfl
      | true =>
        obtain ⟨i, ⟨i1, i2⟩, hmm⟩ := (touch_iff h3 (by simp)).1 q
        obtain ⟨i', rfl, q1, _⟩ := (h4 i).1 hmm
        simp [xe] at i1 i2
        omega
    have hc : chkR n [⟨m, 1⟩] (fun x => !touchX es x) = 0 := chk_yes (by simp [hx]) (fun x hx => by rw [List.mem_singleton.1 hx, ht]; rfl) (by simp [Apart])
    rw [hc] at k1 ⊢
    have k1 : SpV p n v' (giveX es ⟨m, 1⟩) s' := k1
    obtain ⟨g1, g2⟩ := give_ok h3 (isInX_iff.1 hx) ht
    refine .inl ⟨hm, rfl, v', _, k1, h2.trans k2, g1, fun j => ?_⟩
    rw [g2, h4]
    constructor
    · rintro (⟨i, rfl, q1, q2⟩ | ⟨q1, q2⟩)
      · exact ⟨i, rfl, by omega, q2⟩
      · simp [xe] at q1 q2
        exact ⟨m, by omega, by omega, hb⟩
    · rintro ⟨i, rfl, q1, q2⟩
      rcases Nat.lt_succ_iff_lt_or_eq.1 q1 with q | rfl
      · exact .inl ⟨i, rfl, q, q2⟩
      · exact .inr ⟨by simp, by simp [xe]; omega⟩
  · have hc : chkR n [⟨m, 1⟩] (fun x => !touchX es x) = 3 := chk_out (by simp [isInX]; omega)
    rw [hc]
    exact .inr ⟨hm, rfl, v', h2.trans k2⟩
theorem sParse_no (n : Int) (h : n < 1 ∨ 512 < n) (t : Str) : PSpec Try.prog 24 [.sc (.int .i64 n), .sc (.string t)] (.tup [.sc (.pointer none), .sc (.int .i64 1)]) := by
  have hN := sNew_no n h
  refine spec_pure (by simp) (by simp) ?_
  refine spec_intro Try.func24 good24 rfl (by simp [Try.ntmps24]) ?_
  exact go0 [] [] (cns hN (cns Try.results24 trivial))
set_option maxHeartbeats 1000000 in
theorem sParse_spec (n : Nat) (h : 1 ≤ n ∧ n ≤ 512) (t : List UInt8) (ht : t.length ≤ 1000) (σ : Sto) :
    Spec Try.prog 24 [.sc (.int .i64 n), .sc (.string ⟨t.toArray⟩)] σ (fun r s => (((∀ i, i < 8 * t.length → bitsF t i = true → i < n) ∧ t.length = (n + 7) / 8) ∧ r = .tup [.mp σ.length 0 0, .sc (.int .i64 0)] ∧ ParI σ.length n (bitsF t) (.sc (.slice none 0 0)) (σ ++ [⟨[.sc (.int .i64 n), .sc (.slice none 0 0)], 0, false, false⟩]) (8 * t.length) s) ∨
      (¬ ((∀ i, i < 8 * t.length → bitsF t i = true → i < n) ∧ t.length = (n + 7) / 8) ∧ r = .tup [.sc (.pointer none), .sc (.int .i64 5)] ∧ ∃ v, FrR σ.length (.sc (.slice none 0 0)) (σ ++ [⟨[.sc (.int .i64 n), .sc (.slice none 0 0)], 0, false, false⟩]) s v)) := by
  have hN := sNew_ok n (by omega) σ
  have hS := SpV.new n σ
  refine spec_intro Try.func24 good24 rfl (by simp [Try.ntmps24]) ?_
  repeat' (first
   | (with_reducible first | refine Stp.pf ?_ | refine block_x (by decide) ?_ | refine ret_n ?_)
   | refine tri_reg [] ?_ | refine tri_regc [] [] mixed (by decide +kernel) ?_
   | (refine rwf_nilt rfl (by decide +kernel) fun B hB => ?_; (try simp [*]); refine hB.out _ fun b => ?_; clear hB B)
   | (refine Rul.pf ⟨rfl, rfl⟩ fun B C hB => ?_; (try simp [*, -List.all_eq_true, Try.results24]); (try (simp (disch := first | assumption | omega) only [wc, ite_yes]; (try simp [*, -List.all_eq_true, Try.results24]))); first | (first | refine hB.out.1 _ (fun hb => ?_) fun hb => ⟨rfl, ?_⟩ | refine hB.out.1 _ (fun hb => ?_) fun hb => ?_) <;> clear hB C B <;> (try simp only [Bool.not_true, Bool.not_false] at hb) <;> (first | (exfalso; simp at hb; done) | (exfalso; simp at hb; omega) | (rw [hb]; (try simp at hb)) | (try simp at hb)) | ((first | refine hB.out.1 _ _ ?_ | refine hB.out.1 _ ?_ | refine hB.out.2 ⟨rfl, ?_⟩); clear hB C B) | (refine hB.out.2 _ ?_; clear hB C B; (try rfl)))
   | refine rwf_o ?_ | refine rwc_o .n rfl ?_ | refine rwc_o .z rfl ?_ | refine rwc_o .w rfl ?_ | refine rwc_o .b rfl ?_ | refine rwc_o _ rfl ?_)
  refine rwf_ca rfl fun C' hC hP => ?_
  clear hP
  (try simp [*, -List.all_eq_true]); (try (simp (disch := first | assumption | omega) only [wrap_id, wrapu_id, wrapb_id, tmod_nn, tdiv_nn, ite_yes, flatM_seg, flatM_0, flatM_1, flatM_2, flatI_seg, flatI_0, flatI_1, flatS_get]; (try simp [*, -List.all_eq_true])))
  refine hC.out _ _ _ (hN) fun r s0 hq => ?_
  clear hC C'
  obtain ⟨rfl, rfl⟩ := hq
  clear hN
  obtain ⟨p, hp⟩ : ∃ p, p = σ.length := ⟨_, rfl⟩
  rw [← hp] at hS ⊢
  obtain ⟨S0, hS0⟩ : ∃ S0, S0 = σ ++ [(⟨[.sc (.int .i64 n), .sc (.slice none 0 0)], 0, false, false⟩ : MO)] := ⟨_, rfl⟩
  rw [← hS0] at hS ⊢
  have hI0 : ParI p n (bitsF t) (.sc (.slice none 0 0)) S0 0 S0 := ⟨_, [], hS, FrR.refl .., norm_nil _, fun j => ⟨fun q => absurd q (memX_nil j), fun ⟨i, _, q, _⟩ => by omega⟩⟩
  clear hS0 hp hS
  replace hI0 := Lib.hid hI0
  have hsz : ByteArray.size ⟨t.toArray⟩ = t.length := List.size_toArray
  have hbl : (bytesA ⟨t.toArray⟩).length = t.length := by simp [bytesA]
  repeat' (first
   | (with_reducible first | refine Stp.pf ?_ | refine block_x (by decide) ?_ | refine ret_n ?_)
   | refine tri_reg [] ?_ | refine tri_regc [] [] mixed (by decide +kernel) ?_
   | (refine rwf_nilt rfl (by decide +kernel) fun B hB => ?_; (try simp [*]); refine hB.out _ fun b => ?_; clear hB B)
   | (refine Rul.pf ⟨rfl, rfl⟩ fun B C hB => ?_; (try simp [*, -List.all_eq_true, Try.results24]); (try (simp (disch := first | assumption | omega) only [wc, ite_yes]; (try simp [*, -List.all_eq_true, Try.results24]))); first | (first | refine hB.out.1 _ (fun hb => ?_) fun hb => ⟨rfl, ?_⟩ | refine hB.out.1 _ (fun hb => ?_) fun hb => ?_) <;> clear hB C B <;> (try simp only [Bool.not_true, Bool.not_false] at hb) <;> (first | (exfalso; simp at hb; done) | (exfalso; simp at hb; omega) | (rw [hb]; (try simp at hb)) | (try simp at hb)) | ((first | refine hB.out.1 _ _ ?_ | refine hB.out.1 _ ?_ | refine hB.out.2 ⟨rfl, ?_⟩); clear hB C B) | (refine hB.out.2 _ ?_; clear hB C B; (try rfl)))
   | refine rwf_o ?_ | refine rwc_o .n rfl ?_ | refine rwc_o .z rfl ?_ | refine rwc_o .w rfl ?_ | refine rwc_o .b rfl ?_ | refine rwc_o _ rfl ?_)
  obtain ⟨S, hS⟩ : ∃ S, S = S0 := ⟨_, rfl⟩
  rw [← hS]
  rw [← hS] at hI0
  clear hS
  refine tri_for [1, 6, 15, 16] t.length (fun k_ e σ => e 17 = .sc (.int .i64 k_) ∧ ParI p n (bitsF t) (.sc (.slice none 0 0)) S (8 * k_) σ ∧ ∀ i, i < 8 * k_ → bitsF t i = true → i < n) ?_ (fun j env' σ' hlt hk hI => ?_) (fun env' σ' hk hI => ?_)
  · exact ⟨by simp, by simpa using hI0.out, fun i hi => by omega⟩
  · skip
    (try simp at hk)
    obtain ⟨h17, hI, ha⟩ := hI
    clear hI0
    have hB : (bytesA ⟨t.toArray⟩)[j]? = some (.sc (.int .u8 t[j].toNat)) := by
      unfold bytesA
      show (t.map _)[j]? = _
      rw [List.getElem?_map, List.getElem?_eq_getElem hlt]
      rfl
    have hB : ∀ h, (bytesA ⟨t.toArray⟩)[j]'h = .sc (.int .u8 t[j].toNat) := fun h => by rw [List.getElem?_eq_getElem h] at hB; exact Option.some.inj hB
    have hB8 := UInt8.toNat_lt t[j]
    have hbit := fun k hk => bitsF_at (t := t) (i := j) (k := k) hlt hk
    generalize t[j].toNat = B at *
    replace hI := Lib.hid hI
    replace ha := Lib.hid ha
    refine go1 [] [] (cns Try.results24 trivial) ?_
    refine tri_for [1, 6, 7, 8, 15, 16, 17] 8 (fun k e σ => e 22 = .sc (.int .i64 k) ∧ ParI p n (bitsF t) (.sc (.slice none 0 0)) S (8 * j + k) σ ∧ ∀ i, i < 8 * j + k → bitsF t i = true → i < n) ?_ (fun k env' σ' hlt hk hI => ?_) (fun env' σ' hk hI => ?_)
    · exact ⟨by simp, by simpa using hI.out, fun i hi => ha.out i (by omega)⟩
    · skip
      (try simp at hk)
      obtain ⟨h22, hI2, ha2⟩ := hI
      have hbk := hbit k (by omega)
      clear hI ha hbit
      have hshr := shr_bit k (by omega)
      have hand := and_bit B k hB8 (by omega)
      have hpos : 2 ^ (7 - k) ≠ 0 := by have := Nat.two_pow_pos (7 - k); omega
      have hmul : (j : Int) * 8 + (k : Int) = ((8 * j + k : Nat) : Int) := by omega
      cases hbb : bitN B k with
      | false =>
        rw [hbb] at hand hbk
        have hI3 := Lib.hid (hI2.no hbk)
        have ha3 : ∀ i, i < 8 * j + k + 1 → bitsF t i = true → i < n := fun i hi hb => by
          rcases Nat.lt_succ_iff_lt_or_eq.1 hi with q | rfl
          · exact ha2 i q hb
          · rw [hbk] at hb; cases hb
        replace ha3 := Lib.hid ha3
        simp only [Bool.false_eq_true, if_false] at hand
        clear hI2 ha2 hbk hbb
        generalize 2 ^ (7 - k) = R at *
        refine go1 [] [] (cns Try.results24 trivial) ?_
        exact ⟨by simp [*], by simp, hI3.out, ha3.out⟩
      | true =>
        rw [hbb] at hand hbk
        simp only [if_true] at hand
        have hg := hI2.give hbk h
        have hnz : ¬ (2 ^ (7 - k) : Nat) = 0 := hpos
        have hR8 : 2 ^ (7 - k) ≤ 255 := by
          match k, hlt with
          | 0, _ | 1, _ | 2, _ | 3, _ | 4, _ | 5, _ | 6, _ | 7, _ => decide
        have ha3 : 8 * j + k < n → ∀ i, i < 8 * j + (k + 1) → bitsF t i = true → i < n := fun hn i hi hb => by
          rcases Nat.lt_succ_iff_lt_or_eq.1 hi with q | rfl
          · exact ha2 i q hb
          · exact hn
        have hbad : ¬ 8 * j + k < n → ¬ ((∀ i, i < 8 * t.length → bitsF t i = true → i < n) ∧ t.length = (n + 7) / 8) := fun hn q => hn (q.1 _ (by omega) hbk)
        replace ha3 := Lib.hid ha3
        replace hbad := Lib.hid hbad
        rw [← Nat.add_assoc] at ha3 ⊢
        clear hI2 hbb ha2 hbk
        generalize 2 ^ (7 - k) = R at *
        generalize 8 * j + k = m at *
        repeat' (first
         | (with_reducible first | refine Stp.pf ?_ | refine block_x (by decide) ?_ | refine ret_n ?_)
         | refine tri_reg [] ?_ | refine tri_regc [] [] mixed (by decide +kernel) ?_
         | (refine rwf_nilt rfl (by decide +kernel) fun B hB => ?_; (try simp [*]); refine hB.out _ fun b => ?_; clear hB B)
         | (refine Rul.pf ⟨rfl, rfl⟩ fun B C hB => ?_; (try simp [*, -List.all_eq_true, Try.results24]); (try (simp (disch := first | assumption | omega) only [wc, ite_yes]; (try simp [*, -List.all_eq_true, Try.results24]))); first | (first | refine hB.out.1 _ (fun hb => ?_) fun hb => ⟨rfl, ?_⟩ | refine hB.out.1 _ (fun hb => ?_) fun hb => ?_) <;> clear hB C B <;> (try simp only [Bool.not_true, Bool.not_false] at hb) <;> (first | (exfalso; simp at hb; done) | (exfalso; simp at hb; omega) | (rw [hb]; (try simp at hb)) | (try simp at hb)) | ((first | refine hB.out.1 _ _ ?_ | refine hB.out.1 _ ?_ | refine hB.out.2 ⟨rfl, ?_⟩); clear hB C B) | (refine hB.out.2 _ ?_; clear hB C B; (try rfl)))
         | refine rwf_o ?_ | refine rwc_o .n rfl ?_ | refine rwc_o .z rfl ?_ | refine rwc_o .w rfl ?_ | refine rwc_o .b rfl ?_ | refine rwc_o _ rfl ?_)
        refine rwf_ca rfl fun C' hC hP => ?_
        clear hP
        (try simp [*, -List.all_eq_true]); (try (simp (disch := first | assumption | omega) only [wrap_id, wrapu_id, wrapb_id, tmod_nn, tdiv_nn, ite_yes, flatM_seg, flatM_0, flatM_1, flatM_2, flatI_seg, flatI_0, flatI_1, flatS_get]; (try simp [*, -List.all_eq_true])))
        refine hC.out _ _ _ (hg) fun r s2 hq => ?_
        clear hC C'
        clear hg
        rcases hq with ⟨hmn, rfl, hI3⟩ | ⟨hmn, rfl, hv⟩
        · have ha4 := Lib.hid (ha3.out hmn)
          replace hI3 := Lib.hid hI3
          clear ha3 hbad
          repeat' (first
           | (with_reducible first | refine Stp.pf ?_ | refine block_x (by decide) ?_ | refine ret_n ?_)
           | refine tri_reg [] ?_ | refine tri_regc [] [] mixed (by decide +kernel) ?_
           | (refine rwf_nilt rfl (by decide +kernel) fun B hB => ?_; (try simp [*]); refine hB.out _ fun b => ?_; clear hB B)
           | (refine Rul.pf ⟨rfl, rfl⟩ fun B C hB => ?_; (try simp [*, -List.all_eq_true, Try.results24]); (try (simp (disch := first | assumption | omega) only [wc, ite_yes]; (try simp [*, -List.all_eq_true, Try.results24]))); first | (first | refine hB.out.1 _ (fun hb => ?_) fun hb => ⟨rfl, ?_⟩ | refine hB.out.1 _ (fun hb => ?_) fun hb => ?_) <;> clear hB C B <;> (try simp only [Bool.not_true, Bool.not_false] at hb) <;> (first | (exfalso; simp at hb; done) | (exfalso; simp at hb; omega) | (rw [hb]; (try simp at hb)) | (try simp at hb)) | ((first | refine hB.out.1 _ _ ?_ | refine hB.out.1 _ ?_ | refine hB.out.2 ⟨rfl, ?_⟩); clear hB C B) | (refine hB.out.2 _ ?_; clear hB C B; (try rfl)))
           | refine rwf_o ?_ | refine rwc_o .n rfl ?_ | refine rwc_o .z rfl ?_ | refine rwc_o .w rfl ?_ | refine rwc_o .b rfl ?_ | refine rwc_o _ rfl ?_)
          exact ⟨by simp [*], by simp, hI3.out, ha4.out⟩
        · have hb2 := Lib.hid (hbad.out hmn)
          replace hv := Lib.hid hv
          clear ha3 hbad
          repeat' (first
           | (with_reducible first | refine Stp.pf ?_ | refine block_x (by decide) ?_ | refine ret_n ?_)
           | refine tri_reg [] ?_ | refine tri_regc [] [] mixed (by decide +kernel) ?_
           | (refine rwf_nilt rfl (by decide +kernel) fun B hB => ?_; (try simp [*]); refine hB.out _ fun b => ?_; clear hB B)
           | (refine Rul.pf ⟨rfl, rfl⟩ fun B C hB => ?_; (try simp [*, -List.all_eq_true, Try.results24]); (try (simp (disch := first | assumption | omega) only [wc, ite_yes]; (try simp [*, -List.all_eq_true, Try.results24]))); first | (first | refine hB.out.1 _ (fun hb => ?_) fun hb => ⟨rfl, ?_⟩ | refine hB.out.1 _ (fun hb => ?_) fun hb => ?_) <;> clear hB C B <;> (try simp only [Bool.not_true, Bool.not_false] at hb) <;> (first | (exfalso; simp at hb; done) | (exfalso; simp at hb; omega) | (rw [hb]; (try simp at hb)) | (try simp at hb)) | ((first | refine hB.out.1 _ _ ?_ | refine hB.out.1 _ ?_ | refine hB.out.2 ⟨rfl, ?_⟩); clear hB C B) | (refine hB.out.2 _ ?_; clear hB C B; (try rfl)))
           | refine rwf_o ?_ | refine rwc_o .n rfl ?_ | refine rwc_o .z rfl ?_ | refine rwc_o .w rfl ?_ | refine rwc_o .b rfl ?_ | refine rwc_o _ rfl ?_)
          exact .inr ⟨hb2.out, rfl, hv.out⟩
    · skip
      (try simp at hk)
      obtain ⟨h22, hI2, ha2⟩ := hI
      clear hI ha
      replace hI2 := Lib.hid hI2
      replace ha2 := Lib.hid ha2
      refine go1 [] [] (cns Try.results24 trivial) ?_
      exact ⟨by simp [*], by simp, by rw [Nat.mul_succ]; exact hI2.out, fun i hi => ha2.out i (by omega)⟩
  · skip
    (try simp at hk)
    obtain ⟨h17, hI, ha⟩ := hI
    clear hI0
    obtain ⟨v, es, k1, k2, k3, k4⟩ := id hI
    obtain ⟨m, hmm⟩ : ∃ m, m = (n + 7) / 8 := ⟨_, rfl⟩
    have hlen : ByteArray.size ⟨(textF (fun i : Nat => hasX es i) m).toArray⟩ = m := by
      show (textF _ m).toArray.size = m
      rw [List.size_toArray, textF_length]
    have qt := qText k1 k3 (by omega) (m := m) (by omega) []
    simp only [List.append_nil] at qt
    generalize textF (fun i : Nat => hasX es i) m = T at *
    have hgood : Hid (t.length = m → ((∀ i, i < 8 * t.length → bitsF t i = true → i < n) ∧ t.length = (n + 7) / 8)) := Lib.hid fun q => ⟨ha, by omega⟩
    have hbad : Hid (t.length ≠ m → ¬ ((∀ i, i < 8 * t.length → bitsF t i = true → i < n) ∧ t.length = (n + 7) / 8)) := Lib.hid fun q r => q (by omega)
    have hfr : Hid (∃ v, FrR p (.sc (.slice none 0 0)) S σ' v) := Lib.hid ⟨v, k2⟩
    replace hI := Lib.hid hI
    clear k1 k2 k3 k4 ha
    by_cases htm : t.length = m
    · skip
      repeat' (first
       | (with_reducible first | refine Stp.pf ?_ | refine block_x (by decide) ?_ | refine ret_n ?_)
       | refine tri_reg [] ?_ | refine tri_regc [] [] mixed (by decide +kernel) ?_
       | (refine rwf_nilt rfl (by decide +kernel) fun B hB => ?_; (try simp [*]); refine hB.out _ fun b => ?_; clear hB B)
       | (refine Rul.pf ⟨rfl, rfl⟩ fun B C hB => ?_; (try simp [*, -List.all_eq_true, Try.results24]); (try (simp (disch := first | assumption | omega) only [wc, ite_yes]; (try simp [*, -List.all_eq_true, Try.results24]))); first | (first | refine hB.out.1 _ (fun hb => ?_) fun hb => ⟨rfl, ?_⟩ | refine hB.out.1 _ (fun hb => ?_) fun hb => ?_) <;> clear hB C B <;> (try simp only [Bool.not_true, Bool.not_false] at hb) <;> (first | (exfalso; simp at hb; done) | (exfalso; simp at hb; omega) | (rw [hb]; (try simp at hb)) | (try simp at hb)) | ((first | refine hB.out.1 _ _ ?_ | refine hB.out.1 _ ?_ | refine hB.out.2.1 _ _ _ (qt) ?_ | refine hB.out.2.2 _ _ _ (qt) ?_ | refine hB.out.2 ⟨rfl, ?_⟩); clear hB C B) | (refine hB.out.2 _ ?_; clear hB C B; (try rfl)))
       | refine rwf_o ?_ | refine rwc_o .n rfl ?_ | refine rwc_o .z rfl ?_ | refine rwc_o .w rfl ?_ | refine rwc_o .b rfl ?_ | refine rwc_o _ rfl ?_)
      exact .inl ⟨hgood.out htm, rfl, hI.out⟩
    · skip
      repeat' (first
       | (with_reducible first | refine Stp.pf ?_ | refine block_x (by decide) ?_ | refine ret_n ?_)
       | refine tri_reg [] ?_ | refine tri_regc [] [] mixed (by decide +kernel) ?_
       | (refine rwf_nilt rfl (by decide +kernel) fun B hB => ?_; (try simp [*]); refine hB.out _ fun b => ?_; clear hB B)
       | (refine Rul.pf ⟨rfl, rfl⟩ fun B C hB => ?_; (try simp [*, -List.all_eq_true, Try.results24]); (try (simp (disch := first | assumption | omega) only [wc, ite_yes]; (try simp [*, -List.all_eq_true, Try.results24]))); first | (first | refine hB.out.1 _ (fun hb => ?_) fun hb => ⟨rfl, ?_⟩ | refine hB.out.1 _ (fun hb => ?_) fun hb => ?_) <;> clear hB C B <;> (try simp only [Bool.not_true, Bool.not_false] at hb) <;> (first | (exfalso; simp at hb; done) | (exfalso; simp at hb; omega) | (rw [hb]; (try simp at hb)) | (try simp at hb)) | ((first | refine hB.out.1 _ _ ?_ | refine hB.out.1 _ ?_ | refine hB.out.2.1 _ _ _ (qt) ?_ | refine hB.out.2.2 _ _ _ (qt) ?_ | refine hB.out.2 ⟨rfl, ?_⟩); clear hB C B) | (refine hB.out.2 _ ?_; clear hB C B; (try rfl)))
       | refine rwf_o ?_ | refine rwc_o .n rfl ?_ | refine rwc_o .z rfl ?_ | refine rwc_o .w rfl ?_ | refine rwc_o .b rfl ?_ | refine rwc_o _ rfl ?_)
      exact .inr ⟨hbad.out htm, rfl, hfr.out⟩
end Go.Proofs.Ytgdefllblcmgpaa
