/- The law SpaceParse's body. -/
import Derived.Test.YtgdefllblcmgpaaYq
import Derived.Test.YtgdefllblcmgpaaPsu
import Derived.Test.YtgdefllblcmgpaaOpt
namespace Go.Proofs.Ytgdefllblcmgpaa
open Go.RowKit
set_option linter.unusedSimpArgs false
set_option maxRecDepth 10000
def upF (bits : Nat → Bool) (k n : Nat) : List Bool := (List.range n).map fun i => decide (i < k) && bits i
@[simp] theorem upF_len (bits : Nat → Bool) (k n : Nat) : (upF bits k n).length = n := by simp [upF]
theorem upF_get (bits : Nat → Bool) (k n i : Nat) (h : i < n) : (upF bits k n)[i]? = some (decide (i < k) && bits i) := by
  unfold upF
  rw [List.getElem?_map, List.getElem?_range h]
  rfl
theorem upF_zero (bits : Nat → Bool) (n : Nat) : upF bits 0 n = List.replicate n false := by
  apply List.ext_getElem (by simp)
  intro i h1 h2
  simp [upF]
theorem upF_set (bits : Nat → Bool) (k n : Nat) (h : k < n) : (upF bits k n).set k (bits k) = upF bits (k + 1) n := by
  apply List.ext_getElem?
  intro i
  by_cases e : k = i
  · subst e
    rw [List.getElem?_set_self (by simpa using h), upF_get _ _ _ _ h]
    simp
  · rw [List.getElem?_set_ne e]
    rcases Nat.lt_or_ge i n with q | q
    · rw [upF_get _ _ _ _ q, upF_get _ _ _ _ q]
      congr 2
      rw [decide_eq_decide]
      omega
    · rw [List.getElem?_eq_none (by simpa using q), List.getElem?_eq_none (by simpa using q)]
theorem upF_out (bits : Nat → Bool) (k n : Nat) (h : n ≤ k) : upF bits (k + 1) n = upF bits k n := by
  apply List.ext_getElem?
  intro i
  rcases Nat.lt_or_ge i n with q | q
  · rw [upF_get _ _ _ _ q, upF_get _ _ _ _ q]
    congr 2
    rw [decide_eq_decide]
    omega
  · rw [List.getElem?_eq_none (by simpa using q), List.getElem?_eq_none (by simpa using q)]
theorem shr_any (B q : Nat) (h : q ≤ 8) : (B : Int).fdiv (2 ^ min q IntKind.u8.bits) = ((B / 2 ^ q : Nat) : Int) := by
  have : min q IntKind.u8.bits = q := Nat.min_eq_left h
  rw [this, Int.fdiv_eq_ediv_of_nonneg _ (by exact_mod_cast Nat.zero_le _)]
  exact_mod_cast rfl
theorem and_one (C : Nat) (h : C < 256) : C % 2 ^ IntKind.u8.bits &&& 1 % 2 ^ IntKind.u8.bits = C % 2 := by
  rw [show (2 : Nat) ^ IntKind.u8.bits = 256 from rfl, Nat.mod_eq_of_lt h, show 1 % 256 = 1 from rfl, Nat.and_one_is_mod]
/-- What bytes must be. -/
def GoodT (n : Nat) (t : List UInt8) : Prop := (∀ i, i < 8 * t.length → bitsF t i = true → i < n) ∧ t.length = (n + 7) / 8
/-- The space that bytes tell, beside an object o. -/
def SpT (n : Nat) (t : List UInt8) (o : Nat) (σ : Sto) : Prop := ∃ v es, SpV 0 n v es σ ∧ ¬ isH o v ∧ Norm n es ∧ ∀ j : Int, memX es j ↔ ∃ i : Nat, j = i ∧ i < 8 * t.length ∧ bitsF t i = true
theorem SpT.rep {n : Nat} {t : List UInt8} {es : List Ext} (hn : Norm n es) (hm : ∀ j : Int, memX es j ↔ ∃ i : Nat, j = i ∧ i < 8 * t.length ∧ bitsF t i = true) (hg : GoodT n t) : Rep (upF (bitsF t) (8 * t.length) n) es := by
  refine ⟨by simpa using hn, fun i hi => ?_⟩
  have hi : i < n := by simpa using hi
  rw [upF_get _ _ _ _ hi, hm]
  have h8 : i < 8 * t.length := by have := hg.2; omega
  simp only [h8, decide_true, Bool.true_and, Option.some.injEq]
  exact ⟨fun q => ⟨i, rfl, h8, q⟩, fun ⟨j, e, _, q⟩ => by obtain rfl : i = j := by omega
                                                          exact q⟩
theorem SpT.text {t : List UInt8} {es : List Ext} (hm : ∀ j : Int, memX es j ↔ ∃ i : Nat, j = i ∧ i < 8 * t.length ∧ bitsF t i = true) : textF (fun i : Nat => hasX es i) t.length = t := by
  have := text_bits t
  rw [← this]
  rw [this]
  conv => rhs; rw [← this]
  refine textF_congr fun i hi => ?_
  rw [Bool.eq_iff_iff, hasX_iff, hm]
  exact ⟨fun ⟨j, e, _, q⟩ => by obtain rfl : i = j := by omega
                                exact q, fun q => ⟨i, rfl, hi, q⟩⟩
theorem SpT.set {n : Nat} {t : List UInt8} {o : Nat} {σ : Sto} (h : SpT n t o σ) (ho : o ≠ 0) (X : MO) : SpT n t o (σ.set o X) := by
  obtain ⟨v, es, k1, k2, k3, k4⟩ := h
  exact ⟨v, es, k1.set_ne ho k2 X, k2, k3, k4⟩
set_option maxHeartbeats 2000000 in
theorem parse_spec (n : Int) (str : Str) : PSpec Try.prog 5 [.sc (.int .i64 n), .sc (.string str)] (.sc (.bool true)) := by
  have haw := awake_spec
  obtain ⟨t, rfl⟩ : ∃ t : List UInt8, str = ⟨t.toArray⟩ := ⟨str.data.toList, rfl⟩
  have hsz : ByteArray.size ⟨t.toArray⟩ = t.length := List.size_toArray
  refine spec_pure (by simp) (by simp) ?_
  refine spec_intro Try.func5 good5 rfl (by simp [Try.ntmps5]) ?_
  by_cases h70 : t.length ≤ 70
  · by_cases hn : 1 ≤ n ∧ n ≤ 512
    · obtain ⟨nn, rfl⟩ := Int.eq_ofNat_of_zero_le (show 0 ≤ n by omega)
      have hp := sParse_spec nn (by omega) t (by omega) []
      repeat' (first
       | (with_reducible first | refine Stp.pf ?_ | refine block_x (by decide) ?_ | refine ret_n ?_)
       | refine tri_reg [] ?_ | refine tri_regc [] [] mixed (by decide +kernel) ?_
       | (refine rwf_nilt rfl (by decide +kernel) fun B hB => ?_; (try simp [*]); refine hB.out _ fun b => ?_; clear hB B)
       | (refine Rul.pf ⟨rfl, rfl⟩ fun B C hB => ?_; (try simp [*, -List.all_eq_true, Try.results5]); (try (simp (disch := first | assumption | omega) only [wc, ite_yes]; (try simp [*, -List.all_eq_true, Try.results5]))); first | (first | refine hB.out.1 _ (fun hb => ?_) fun hb => ⟨rfl, ?_⟩ | refine hB.out.1 _ (fun hb => ?_) fun hb => ?_) <;> clear hB C B <;> (try simp only [Bool.not_true, Bool.not_false] at hb) <;> (first | (exfalso; simp at hb; done) | (exfalso; simp at hb; omega) | (rw [hb]; (try simp at hb)) | (try simp at hb)) | ((first | refine hB.out.1 _ _ ?_ | refine hB.out.1 _ ?_ | refine hB.out.2.1 _ _ _ (haw) ?_ | refine hB.out.2.2 _ _ _ (haw) ?_ | refine hB.out.2 ⟨rfl, ?_⟩); clear hB C B) | (refine hB.out.2 _ ?_; clear hB C B; (try rfl)))
       | refine rwf_o ?_ | refine rwc_o .n rfl ?_ | refine rwc_o .z rfl ?_ | refine rwc_o .w rfl ?_ | refine rwc_o .b rfl ?_ | refine rwc_o _ rfl ?_)
      refine rwf_ca rfl fun C' hC hP => ?_
      clear hP
      (try simp [*, -List.all_eq_true]); (try (simp (disch := first | assumption | omega) only [wrap_id, wrapu_id, wrapb_id, tmod_nn, tdiv_nn, ite_yes, flatM_seg, flatM_0, flatM_1, flatM_2, flatI_seg, flatI_0, flatI_1, flatS_get]; (try simp [*, -List.all_eq_true])))
      refine hC.out _ _ _ (hp) fun r s hq => ?_
      clear hC C'
      clear hp haw
      have hR : ∃ r5 r6, r = .tup [r5, .sc (.int .i64 r6)] ∧ AV.one r5 = true ∧ ((GoodT nn t ∧ r5 = .mp 0 0 0 ∧ r6 = 0 ∧ SpT nn t s.length s) ∨ (¬ GoodT nn t ∧ r5 = .sc (.pointer none) ∧ r6 = 5)) := by
        rcases hq with ⟨q1, rfl, v, es, q2, _, q3, q4⟩ | ⟨q1, rfl, _⟩
        · refine ⟨_, _, rfl, rfl, .inl ⟨q1, rfl, rfl, v, es, q2, fun q => ?_, q3, q4⟩⟩
          rcases q2.2 with ⟨w, _⟩ | ⟨i, g, off, c, rfl, w1, w2, _⟩
          · rw [w] at q; exact isH_nil _ q
          · have := isH_ms q; have := lt_of_get w2; omega
        · exact ⟨_, _, rfl, rfl, .inr ⟨q1, rfl, rfl⟩⟩
      clear hq
      obtain ⟨r5, r6, rfl, h15, hR⟩ := hR
      have hS1 : OwB s.length 0 0 nn (upF (bitsF t) 0 nn) (s ++ [⟨List.replicate nn (.sc (.bool false)), 0, false, false⟩]) := ⟨List.replicate nn (.sc (.bool false)), by simp, by simp, by rw [upF_zero]; simp [flatB, cB], by simp⟩
      have hS2 : GoodT nn t → SpT nn t s.length (s ++ [⟨List.replicate nn (.sc (.bool false)), 0, false, false⟩]) := fun q => by
        rcases hR with ⟨_, _, _, v, es, k1, k2, k3, k4⟩ | ⟨q2, _⟩
        · exact ⟨v, es, k1.app _, k2, k3, k4⟩
        · exact absurd q q2
      have hR2 : (GoodT nn t ∧ r5 = .mp 0 0 0 ∧ r6 = 0) ∨ (¬ GoodT nn t ∧ r5 = .sc (.pointer none) ∧ r6 = 5) := hR.imp (fun q => ⟨q.1, q.2.1, q.2.2.1⟩) id
      have ho : GoodT nn t → s.length ≠ 0 := fun q => by
        obtain ⟨v, es, k1, _⟩ := hS2 q
        rcases hR with ⟨_, _, _, v, es, k1, _⟩ | ⟨q2, _⟩
        · have := lt_of_get k1.1; omega
        · exact absurd q q2
      clear hR
      replace hR2 := Lib.hid hR2
      replace hS1 := Lib.hid hS1
      replace hS2 := Lib.hid hS2
      replace ho := Lib.hid ho
      have hdiv : ((nn : Int) + 7).tdiv 8 = (((nn + 7) / 8 : Nat) : Int) := by rw [Int.tdiv_eq_ediv_of_nonneg (by omega)]; omega
      have hm64 : (nn + 7) / 8 ≤ 64 := by omega
      obtain ⟨mm, hmm⟩ : ∃ mm, (nn + 7) / 8 = mm := ⟨_, rfl⟩
      rw [hmm] at hdiv hm64
      replace hmm := Lib.hid hmm
      repeat' (first
       | (with_reducible first | refine Stp.pf ?_ | refine block_x (by decide) ?_ | refine ret_n ?_)
       | refine tri_reg [35] ?_ | refine tri_regc [35] [] mixed (by decide +kernel) ?_
       | (refine rwf_nilt rfl (by decide +kernel) fun B hB => ?_; (try simp [*]); refine hB.out _ fun b => ?_; clear hB B)
       | (refine Rul.pf ⟨rfl, rfl⟩ fun B C hB => ?_; (try simp [*, -List.all_eq_true, Try.results5]); (try (simp (disch := first | assumption | omega) only [wc, ite_yes]; (try simp [*, -List.all_eq_true, Try.results5]))); first | (first | refine hB.out.1 _ (fun hb => ?_) fun hb => ⟨rfl, ?_⟩ | refine hB.out.1 _ (fun hb => ?_) fun hb => ?_) <;> clear hB C B <;> (try simp only [Bool.not_true, Bool.not_false] at hb) <;> (first | (exfalso; simp at hb; done) | (exfalso; simp at hb; omega) | (rw [hb]; (try simp at hb)) | (try simp at hb)) | ((first | refine hB.out.1 _ _ ?_ | refine hB.out.1 _ ?_ | refine hB.out.2 ⟨rfl, ?_⟩); clear hB C B) | (refine hB.out.2 _ ?_; clear hB C B; (try rfl)))
       | refine rwf_o ?_ | refine rwc_o .n rfl ?_ | refine rwc_o .z rfl ?_ | refine rwc_o .w rfl ?_ | refine rwc_o .b rfl ?_ | refine rwc_o _ rfl ?_)
      refine tri_whx [0, 1, 4, 5, 6, 7] (8 * t.length) (fun m e σ => ∃ (k : Nat) (g : Bool), e 9 = .sc (.int .i64 k) ∧ e 8 = .sc (.bool g) ∧ k + m = 8 * t.length ∧ (g = true ↔ t.length = mm ∧ ∀ i, i < k → bitsF t i = true → i < nn) ∧ OwB s.length 0 0 nn (upF (bitsF t) k nn) σ ∧ (GoodT nn t → SpT nn t s.length σ)) (fun e σ => ∃ g : Bool, e 8 = .sc (.bool g) ∧ (g = true ↔ GoodT nn t) ∧ (GoodT nn t → OwB s.length 0 0 nn (upF (bitsF t) (8 * t.length) nn) σ ∧ SpT nn t s.length σ)) ?_ (fun m env' σ' hm hk hI => ?_) (fun env' σ' hk hI => ?_)
      · refine ⟨8 * t.length, Nat.le_refl _, 0, decide (t.length = mm), by simp, by simp; try norm_cast, by omega, ?_, by simpa using hS1.out, by simpa using hS2.out⟩
        simp
      · skip
        (try simp at hk)
        obtain ⟨k, g, h9, h8, hkm, hg, hO, hT⟩ := hI
        clear hS1 hS2
        have hgood : Hid (GoodT nn t ↔ (t.length = mm ∧ ∀ i, i < 8 * t.length → bitsF t i = true → i < nn)) := Lib.hid (by unfold GoodT; rw [hmm.out]; exact And.comm)
        have hle : k ≤ 8 * t.length := by omega
        cases g with
        | false =>
          have hno : Hid (¬ GoodT nn t) := Lib.hid fun q => by
            have := hg.2 ⟨(hgood.out.1 q).1, fun i hi hb => (hgood.out.1 q).2 i (by omega) hb⟩
            cases this
          clear hg hO hT hgood
          by_cases hk8 : (k : Int) < 8 * (t.length : Int)
          · skip
            refine go1 [35] [] (cns Try.results5 trivial) ?_
            exact ⟨rfl, by simp [*], false, by simp [*], by simp [hno.out], fun q => absurd q hno.out⟩
          · skip
            refine go1 [35] [] (cns Try.results5 trivial) ?_
            exact ⟨rfl, by simp [*], false, by simp [*], by simp [hno.out], fun q => absurd q hno.out⟩
        | true =>
          obtain ⟨ga, gb⟩ := hg.1 rfl
          rcases Nat.lt_or_ge k (8 * t.length) with hk8 | hk8
          · have hd : k / 8 < t.length := by omega
            have hr8 : k % 8 < 8 := Nat.mod_lt _ (by omega)
            have hbit := bitsF_at (t := t) (i := k / 8) (k := k % 8) hd hr8
            rw [Nat.div_add_mod] at hbit
            have hdiv : (k : Int).tdiv 8 = ((k / 8 : Nat) : Int) := by rw [Int.tdiv_eq_ediv_of_nonneg (by omega)]; omega
            have hmod : (k : Int).tmod 8 = ((k % 8 : Nat) : Int) := by rw [Int.tmod_eq_emod_of_nonneg (by omega)]; omega
            have hk8' : (k : Int) < 8 * (t.length : Int) := by omega
            have hB8 := UInt8.toNat_lt t[k / 8]
            generalize k / 8 = d at *
            generalize k % 8 = r at *
            have h7 : (7 : Int) - (r : Int) = ((7 - r : Nat) : Int) := by omega
            have hshr := shr_any t[d].toNat (7 - r) (by omega)
            have hand := and_one (t[d].toNat / 2 ^ (7 - r)) (Nat.lt_of_le_of_lt (Nat.div_le_self _ _) hB8)
            unfold bitN at hbit
            replace hg := Lib.hid hg
            replace hO := Lib.hid hO
            replace hT := Lib.hid hT
            replace gb := Lib.hid gb
            have hidx : (⟨t.toArray⟩ : ByteArray)[d]? = some t[d] := by
              show (t.toArray)[d]? = _
              rw [List.getElem?_toArray, List.getElem?_eq_getElem hd]
            have hkk : bitsF t k = decide (t[d].toNat / 2 ^ (7 - r) % 2 = 1) := hbit
            generalize t[d].toNat / 2 ^ (7 - r) = C at *
            clear hbit
            cases hbk : bitsF t k with
            | true =>
              rw [hbk] at hkk
              have hC : C % 2 = 1 := by simpa using hkk.symm
              rw [hC] at hand
              clear hkk
              by_cases hkn : k < nn
              · have hnot : ¬ (nn : Int) ≤ (k : Int) := by omega
                obtain ⟨c, c1, c2, c3, c4⟩ := hO.out.get hkn
                have hset := hO.out.set c1 k true
                rw [← hbk, upF_set _ _ _ hkn, hbk] at hset
                simp only [Nat.zero_add] at c2 c3 hset
                have hT2 : Hid (GoodT nn t → SpT nn t s.length (List.set σ' s.length ⟨c.set k (.sc (.bool true)), 0, false, false⟩)) := Lib.hid fun q => (hT.out q).set (ho.out q) _
                have hg2 : Hid (true = true ↔ t.length = mm ∧ ∀ i, i < k + 1 → bitsF t i = true → i < nn) := Lib.hid ⟨fun _ => ⟨ga, fun i hi hb => by
                  rcases Nat.lt_succ_iff_lt_or_eq.1 hi with q | rfl
                  · exact gb.out i q hb
                  · exact hkn⟩, fun _ => rfl⟩
                replace hset := Lib.hid hset
                clear hO hT hg gb c4 hbk
                repeat' (first
                 | (with_reducible first | refine Stp.pf ?_ | refine block_x (by decide) ?_ | refine ret_n ?_)
                 | refine tri_reg [35] ?_ | refine tri_regc [35] [] mixed (by decide +kernel) ?_
                 | (refine rwf_nilt rfl (by decide +kernel) fun B hB => ?_; (try simp [*]); refine hB.out _ fun b => ?_; clear hB B)
                 | (refine Rul.pf ⟨rfl, rfl⟩ fun B C hB => ?_; (try simp [*, -List.all_eq_true, Try.results5]); (try (simp (disch := first | assumption | omega) only [wc, ite_yes]; (try simp [*, -List.all_eq_true, Try.results5]))); first | (first | refine hB.out.1 _ (fun hb => ?_) fun hb => ⟨rfl, ?_⟩ | refine hB.out.1 _ (fun hb => ?_) fun hb => ?_) <;> clear hB C B <;> (try simp only [Bool.not_true, Bool.not_false] at hb) <;> (first | (exfalso; simp at hb; done) | (exfalso; simp at hb; omega) | (rw [hb]; (try simp at hb)) | (try simp at hb)) | ((first | refine hB.out.1 _ _ ?_ | refine hB.out.1 _ ?_ | refine hB.out.2 ⟨rfl, ?_⟩); clear hB C B) | (refine hB.out.2 _ ?_; clear hB C B; (try rfl)))
                 | refine rwf_o ?_ | refine rwc_o .n rfl ?_ | refine rwc_o .z rfl ?_ | refine rwc_o .w rfl ?_ | refine rwc_o .b rfl ?_ | refine rwc_o _ rfl ?_)
                exact ⟨by simp [*], m - 1, by omega, k + 1, true, by simp, by simp [*], by omega, hg2.out, hset.out, hT2.out⟩
              · have hnot : (nn : Int) ≤ (k : Int) := by omega
                have hO2 := hO.out
                rw [← upF_out _ _ _ (by omega)] at hO2
                replace hO2 := Lib.hid hO2
                have hg2 : Hid (false = true ↔ t.length = mm ∧ ∀ i, i < k + 1 → bitsF t i = true → i < nn) := Lib.hid ⟨fun q => (by cases q), fun q => absurd (q.2 k (by omega) hbk) hkn⟩
                clear hO hg gb hbk
                repeat' (first
                 | (with_reducible first | refine Stp.pf ?_ | refine block_x (by decide) ?_ | refine ret_n ?_)
                 | refine tri_reg [35] ?_ | refine tri_regc [35] [] mixed (by decide +kernel) ?_
                 | (refine rwf_nilt rfl (by decide +kernel) fun B hB => ?_; (try simp [*]); refine hB.out _ fun b => ?_; clear hB B)
                 | (refine Rul.pf ⟨rfl, rfl⟩ fun B C hB => ?_; (try simp [*, -List.all_eq_true, Try.results5]); (try (simp (disch := first | assumption | omega) only [wc, ite_yes]; (try simp [*, -List.all_eq_true, Try.results5]))); first | (first | refine hB.out.1 _ (fun hb => ?_) fun hb => ⟨rfl, ?_⟩ | refine hB.out.1 _ (fun hb => ?_) fun hb => ?_) <;> clear hB C B <;> (try simp only [Bool.not_true, Bool.not_false] at hb) <;> (first | (exfalso; simp at hb; done) | (exfalso; simp at hb; omega) | (rw [hb]; (try simp at hb)) | (try simp at hb)) | ((first | refine hB.out.1 _ _ ?_ | refine hB.out.1 _ ?_ | refine hB.out.2 ⟨rfl, ?_⟩); clear hB C B) | (refine hB.out.2 _ ?_; clear hB C B; (try rfl)))
                 | refine rwf_o ?_ | refine rwc_o .n rfl ?_ | refine rwc_o .z rfl ?_ | refine rwc_o .w rfl ?_ | refine rwc_o .b rfl ?_ | refine rwc_o _ rfl ?_)
                exact ⟨by simp [*], m - 1, by omega, k + 1, false, by simp, by simp, by omega, hg2.out, hO2.out, hT.out⟩
            | false =>
              rw [hbk] at hkk
              have hC : C % 2 = 0 := by have : ¬ C % 2 = 1 := (by simpa using hkk.symm); omega
              rw [hC] at hand
              clear hkk
              by_cases hkn : k < nn
              · have hnot : ¬ (nn : Int) ≤ (k : Int) := by omega
                obtain ⟨c, c1, c2, c3, c4⟩ := hO.out.get hkn
                have hset := hO.out.set c1 k false
                rw [← hbk, upF_set _ _ _ hkn, hbk] at hset
                simp only [Nat.zero_add] at c2 c3 hset
                have hT2 : Hid (GoodT nn t → SpT nn t s.length (List.set σ' s.length ⟨c.set k (.sc (.bool false)), 0, false, false⟩)) := Lib.hid fun q => (hT.out q).set (ho.out q) _
                have hg2 : Hid (true = true ↔ t.length = mm ∧ ∀ i, i < k + 1 → bitsF t i = true → i < nn) := Lib.hid ⟨fun _ => ⟨ga, fun i hi hb => by
                  rcases Nat.lt_succ_iff_lt_or_eq.1 hi with q | rfl
                  · exact gb.out i q hb
                  · exact hkn⟩, fun _ => rfl⟩
                replace hset := Lib.hid hset
                clear hO hT hg gb c4 hbk
                repeat' (first
                 | (with_reducible first | refine Stp.pf ?_ | refine block_x (by decide) ?_ | refine ret_n ?_)
                 | refine tri_reg [35] ?_ | refine tri_regc [35] [] mixed (by decide +kernel) ?_
                 | (refine rwf_nilt rfl (by decide +kernel) fun B hB => ?_; (try simp [*]); refine hB.out _ fun b => ?_; clear hB B)
                 | (refine Rul.pf ⟨rfl, rfl⟩ fun B C hB => ?_; (try simp [*, -List.all_eq_true, Try.results5]); (try (simp (disch := first | assumption | omega) only [wc, ite_yes]; (try simp [*, -List.all_eq_true, Try.results5]))); first | (first | refine hB.out.1 _ (fun hb => ?_) fun hb => ⟨rfl, ?_⟩ | refine hB.out.1 _ (fun hb => ?_) fun hb => ?_) <;> clear hB C B <;> (try simp only [Bool.not_true, Bool.not_false] at hb) <;> (first | (exfalso; simp at hb; done) | (exfalso; simp at hb; omega) | (rw [hb]; (try simp at hb)) | (try simp at hb)) | ((first | refine hB.out.1 _ _ ?_ | refine hB.out.1 _ ?_ | refine hB.out.2 ⟨rfl, ?_⟩); clear hB C B) | (refine hB.out.2 _ ?_; clear hB C B; (try rfl)))
                 | refine rwf_o ?_ | refine rwc_o .n rfl ?_ | refine rwc_o .z rfl ?_ | refine rwc_o .w rfl ?_ | refine rwc_o .b rfl ?_ | refine rwc_o _ rfl ?_)
                exact ⟨by simp [*], m - 1, by omega, k + 1, true, by simp, by simp [*], by omega, hg2.out, hset.out, hT2.out⟩
              · have hnot : (nn : Int) ≤ (k : Int) := by omega
                have hO2 := hO.out
                rw [← upF_out _ _ _ (by omega)] at hO2
                replace hO2 := Lib.hid hO2
                have hg2 : Hid (true = true ↔ t.length = mm ∧ ∀ i, i < k + 1 → bitsF t i = true → i < nn) := Lib.hid ⟨fun _ => ⟨ga, fun i hi hb => by
                  rcases Nat.lt_succ_iff_lt_or_eq.1 hi with q | rfl
                  · exact gb.out i q hb
                  · rw [hbk] at hb; cases hb⟩, fun _ => rfl⟩
                clear hO hg gb hbk
                repeat' (first
                 | (with_reducible first | refine Stp.pf ?_ | refine block_x (by decide) ?_ | refine ret_n ?_)
                 | refine tri_reg [35] ?_ | refine tri_regc [35] [] mixed (by decide +kernel) ?_
                 | (refine rwf_nilt rfl (by decide +kernel) fun B hB => ?_; (try simp [*]); refine hB.out _ fun b => ?_; clear hB B)
                 | (refine Rul.pf ⟨rfl, rfl⟩ fun B C hB => ?_; (try simp [*, -List.all_eq_true, Try.results5]); (try (simp (disch := first | assumption | omega) only [wc, ite_yes]; (try simp [*, -List.all_eq_true, Try.results5]))); first | (first | refine hB.out.1 _ (fun hb => ?_) fun hb => ⟨rfl, ?_⟩ | refine hB.out.1 _ (fun hb => ?_) fun hb => ?_) <;> clear hB C B <;> (try simp only [Bool.not_true, Bool.not_false] at hb) <;> (first | (exfalso; simp at hb; done) | (exfalso; simp at hb; omega) | (rw [hb]; (try simp at hb)) | (try simp at hb)) | ((first | refine hB.out.1 _ _ ?_ | refine hB.out.1 _ ?_ | refine hB.out.2 ⟨rfl, ?_⟩); clear hB C B) | (refine hB.out.2 _ ?_; clear hB C B; (try rfl)))
                 | refine rwf_o ?_ | refine rwc_o .n rfl ?_ | refine rwc_o .z rfl ?_ | refine rwc_o .w rfl ?_ | refine rwc_o .b rfl ?_ | refine rwc_o _ rfl ?_)
                exact ⟨by simp [*], m - 1, by omega, k + 1, true, by simp, by simp, by omega, hg2.out, hO2.out, hT.out⟩
          · obtain rfl : k = 8 * t.length := by omega
            have hyes : Hid (GoodT nn t) := Lib.hid (hgood.out.2 ⟨ga, gb⟩)
            have hOT : Hid (OwB s.length 0 0 nn (upF (bitsF t) (8 * t.length) nn) σ' ∧ SpT nn t s.length σ') := Lib.hid ⟨hO, hT hyes.out⟩
            have hnl : ¬ ((8 * t.length : Nat) : Int) < 8 * (t.length : Int) := by omega
            clear hg hO hT hgood gb
            refine go1 [35] [] (cns Try.results5 trivial) ?_
            exact ⟨rfl, by simp [*], true, by simp [*], by simp [hyes.out], fun _ => hOT.out⟩
      · skip
        (try simp at hk)
        obtain ⟨g, h8, hg, hT⟩ := hI
        clear hS1 hS2
        rcases hR2.out with ⟨hG, rfl, rfl⟩ | ⟨hG, rfl, rfl⟩
        · obtain rfl := hg.2 hG
          obtain ⟨⟨c, c1, c2, c3, c4⟩, v, es, k1, k2, k3, k4⟩ := hT hG
          have ho0 := ho.out hG
          have hrep := SpT.rep k3 k4 hG
          have htx := SpT.text k4
          have hel := norm_len k3 (by omega)
          have hrow := rRow_spec (upF (bitsF t) (8 * t.length) nn) (by simp; omega)
          rw [← rep_row hrep, upF_len] at hrow
          refine Stp.pf ?_
          refine tri_frzL [s.length] 7 9 (u := .fs (flatB (upF (bitsF t) (8 * t.length) nn)) nn) (by
            have h7 : env' 7 = .ms s.length 0 0 nn 1 := by simp [hk]
            rw [h7]
            have c2' : nn ≤ c.length := by omega
            rw [List.drop_zero] at c3
            simp [frz, frzL, c1, c2', c3, AV.flat]) ?_
          have hS : SpV 0 nn v es (freezeL σ' [s.length]) := by
            show SpV 0 nn v es (σ'.freeze s.length)
            have hget : ∀ q (ob : MO), q ≠ s.length → σ'[q]? = some ob → (σ'.freeze s.length)[q]? = some ob := fun q ob hq ho => by rw [freeze_get, ho]; simp; omega
            refine ⟨hget 0 _ (Ne.symm ho0) k1.1, ?_⟩
            rcases k1.2 with q | ⟨i2, g2, off2, c2', rfl, q2, q3, q4⟩
            · exact .inl q
            · exact .inr ⟨i2, g2, off2, c2', rfl, q2, hget i2 _ (fun e => k2 (by rw [← e]; exact isH_self ..)) q3, q4⟩
          have hme : t.length = (nn + 7) / 8 := hG.2
          have q1 := qRow hS (by omega) []
          have q2 := qText hS k3 (by omega) (m := t.length) (by omega) []
          have q3 := qLen hS []
          have hsame := same_spec es es (by omega) (by omega)
          rw [decide_eq_true rfl] at hsame
          rw [htx] at q2
          simp only [List.append_nil] at q1 q2 q3
          clear hS k1 k3 k4 c1 c2 c3 c4 hT hg hrep htx hme hG hmm ho
          generalize freezeL σ' _ = S at *
          repeat' (first
           | (with_reducible first | refine Stp.pf ?_ | refine block_x (by decide) ?_ | refine ret_n ?_)
           | refine tri_reg [35] ?_ | refine tri_regc [35] [] mixed (by decide +kernel) ?_
           | (refine rwf_nilt rfl (by decide +kernel) fun B hB => ?_; (try simp [*]); refine hB.out _ fun b => ?_; clear hB B)
           | (refine Rul.pf ⟨rfl, rfl⟩ fun B C hB => ?_; (try simp [*, -List.all_eq_true, Try.results5]); (try (simp (disch := first | assumption | omega) only [wc, ite_yes]; (try simp [*, -List.all_eq_true, Try.results5]))); first | (first | refine hB.out.1 _ (fun hb => ?_) fun hb => ⟨rfl, ?_⟩ | refine hB.out.1 _ (fun hb => ?_) fun hb => ?_) <;> clear hB C B <;> (try simp only [Bool.not_true, Bool.not_false] at hb) <;> (first | (exfalso; simp at hb; done) | (exfalso; simp at hb; omega) | (rw [hb]; (try simp at hb)) | (try simp at hb)) | ((first | refine hB.out.1 _ _ ?_ | refine hB.out.1 _ ?_ | refine hB.out.2.1 _ _ _ (q1) ?_ | refine hB.out.2.2 _ _ _ (q1) ?_ | refine hB.out.2.1 _ _ _ (hrow) ?_ | refine hB.out.2.2 _ _ _ (hrow) ?_ | refine hB.out.2.1 _ _ _ (hsame) ?_ | refine hB.out.2.2 _ _ _ (hsame) ?_ | refine hB.out.2.1 _ _ _ (q2) ?_ | refine hB.out.2.2 _ _ _ (q2) ?_ | refine hB.out.2.1 _ _ _ (q3) ?_ | refine hB.out.2.2 _ _ _ (q3) ?_ | refine hB.out.2 ⟨rfl, ?_⟩); clear hB C B) | (refine hB.out.2 _ ?_; clear hB C B; (try rfl)))
           | refine rwf_o ?_ | refine rwc_o .n rfl ?_ | refine rwc_o .z rfl ?_ | refine rwc_o .w rfl ?_ | refine rwc_o .b rfl ?_ | refine rwc_o _ rfl ?_)
        · have : g = false := by
            cases g with
            | false => rfl
            | true => exact absurd (hg.1 rfl) hG
          subst this
          clear hT hg hG hmm ho
          repeat' (first
           | (with_reducible first | refine Stp.pf ?_ | refine block_x (by decide) ?_ | refine ret_n ?_)
           | refine tri_reg [35] ?_ | refine tri_regc [35] [] mixed (by decide +kernel) ?_
           | (refine rwf_nilt rfl (by decide +kernel) fun B hB => ?_; (try simp [*]); refine hB.out _ fun b => ?_; clear hB B)
           | (refine Rul.pf ⟨rfl, rfl⟩ fun B C hB => ?_; (try simp [*, -List.all_eq_true, Try.results5]); (try (simp (disch := first | assumption | omega) only [wc, ite_yes]; (try simp [*, -List.all_eq_true, Try.results5]))); first | (first | refine hB.out.1 _ (fun hb => ?_) fun hb => ⟨rfl, ?_⟩ | refine hB.out.1 _ (fun hb => ?_) fun hb => ?_) <;> clear hB C B <;> (try simp only [Bool.not_true, Bool.not_false] at hb) <;> (first | (exfalso; simp at hb; done) | (exfalso; simp at hb; omega) | (rw [hb]; (try simp at hb)) | (try simp at hb)) | ((first | refine hB.out.1 _ _ ?_ | refine hB.out.1 _ ?_ | refine hB.out.2 ⟨rfl, ?_⟩); clear hB C B) | (refine hB.out.2 _ ?_; clear hB C B; (try rfl)))
           | refine rwf_o ?_ | refine rwc_o .n rfl ?_ | refine rwc_o .z rfl ?_ | refine rwc_o .w rfl ?_ | refine rwc_o .b rfl ?_ | refine rwc_o _ rfl ?_)
    · have hp := sParse_no n (by omega) ⟨t.toArray⟩
      by_cases h1 : n < 1
      · skip
        repeat' (first
         | (with_reducible first | refine Stp.pf ?_ | refine block_x (by decide) ?_ | refine ret_n ?_)
         | refine tri_reg [] ?_ | refine tri_regc [] [] mixed (by decide +kernel) ?_
         | (refine rwf_nilt rfl (by decide +kernel) fun B hB => ?_; (try simp [*]); refine hB.out _ fun b => ?_; clear hB B)
         | (refine Rul.pf ⟨rfl, rfl⟩ fun B C hB => ?_; (try simp [*, -List.all_eq_true, Try.results5]); (try (simp (disch := first | assumption | omega) only [wc, ite_yes]; (try simp [*, -List.all_eq_true, Try.results5]))); first | (first | refine hB.out.1 _ (fun hb => ?_) fun hb => ⟨rfl, ?_⟩ | refine hB.out.1 _ (fun hb => ?_) fun hb => ?_) <;> clear hB C B <;> (try simp only [Bool.not_true, Bool.not_false] at hb) <;> (first | (exfalso; simp at hb; done) | (exfalso; simp at hb; omega) | (rw [hb]; (try simp at hb)) | (try simp at hb)) | ((first | refine hB.out.1 _ _ ?_ | refine hB.out.1 _ ?_ | refine hB.out.2.1 _ _ _ (haw) ?_ | refine hB.out.2.2 _ _ _ (haw) ?_ | refine hB.out.2.1 _ _ _ (hp) ?_ | refine hB.out.2.2 _ _ _ (hp) ?_ | refine hB.out.2 ⟨rfl, ?_⟩); clear hB C B) | (refine hB.out.2 _ ?_; clear hB C B; (try rfl)))
         | refine rwf_o ?_ | refine rwc_o .n rfl ?_ | refine rwc_o .z rfl ?_ | refine rwc_o .w rfl ?_ | refine rwc_o .b rfl ?_ | refine rwc_o _ rfl ?_)
      · have h2 : 512 < n := by omega
        repeat' (first
         | (with_reducible first | refine Stp.pf ?_ | refine block_x (by decide) ?_ | refine ret_n ?_)
         | refine tri_reg [] ?_ | refine tri_regc [] [] mixed (by decide +kernel) ?_
         | (refine rwf_nilt rfl (by decide +kernel) fun B hB => ?_; (try simp [*]); refine hB.out _ fun b => ?_; clear hB B)
         | (refine Rul.pf ⟨rfl, rfl⟩ fun B C hB => ?_; (try simp [*, -List.all_eq_true, Try.results5]); (try (simp (disch := first | assumption | omega) only [wc, ite_yes]; (try simp [*, -List.all_eq_true, Try.results5]))); first | (first | refine hB.out.1 _ (fun hb => ?_) fun hb => ⟨rfl, ?_⟩ | refine hB.out.1 _ (fun hb => ?_) fun hb => ?_) <;> clear hB C B <;> (try simp only [Bool.not_true, Bool.not_false] at hb) <;> (first | (exfalso; simp at hb; done) | (exfalso; simp at hb; omega) | (rw [hb]; (try simp at hb)) | (try simp at hb)) | ((first | refine hB.out.1 _ _ ?_ | refine hB.out.1 _ ?_ | refine hB.out.2.1 _ _ _ (haw) ?_ | refine hB.out.2.2 _ _ _ (haw) ?_ | refine hB.out.2.1 _ _ _ (hp) ?_ | refine hB.out.2.2 _ _ _ (hp) ?_ | refine hB.out.2 ⟨rfl, ?_⟩); clear hB C B) | (refine hB.out.2 _ ?_; clear hB C B; (try rfl)))
         | refine rwf_o ?_ | refine rwc_o .n rfl ?_ | refine rwc_o .z rfl ?_ | refine rwc_o .w rfl ?_ | refine rwc_o .b rfl ?_ | refine rwc_o _ rfl ?_)
  · have h71 : 70 < t.length := by omega
    repeat' (first
     | (with_reducible first | refine Stp.pf ?_ | refine block_x (by decide) ?_ | refine ret_n ?_)
     | refine tri_reg [] ?_ | refine tri_regc [] [] mixed (by decide +kernel) ?_
     | (refine rwf_nilt rfl (by decide +kernel) fun B hB => ?_; (try simp [*]); refine hB.out _ fun b => ?_; clear hB B)
     | (refine Rul.pf ⟨rfl, rfl⟩ fun B C hB => ?_; (try simp [*, -List.all_eq_true, Try.results5]); (try (simp (disch := first | assumption | omega) only [wc, ite_yes]; (try simp [*, -List.all_eq_true, Try.results5]))); first | (first | refine hB.out.1 _ (fun hb => ?_) fun hb => ⟨rfl, ?_⟩ | refine hB.out.1 _ (fun hb => ?_) fun hb => ?_) <;> clear hB C B <;> (try simp only [Bool.not_true, Bool.not_false] at hb) <;> (first | (exfalso; simp at hb; done) | (exfalso; simp at hb; omega) | (rw [hb]; (try simp at hb)) | (try simp at hb)) | ((first | refine hB.out.1 _ _ ?_ | refine hB.out.1 _ ?_ | refine hB.out.2.1 _ _ _ (haw) ?_ | refine hB.out.2.2 _ _ _ (haw) ?_ | refine hB.out.2 ⟨rfl, ?_⟩); clear hB C B) | (refine hB.out.2 _ ?_; clear hB C B; (try rfl)))
     | refine rwf_o ?_ | refine rwc_o .n rfl ?_ | refine rwc_o .z rfl ?_ | refine rwc_o .w rfl ?_ | refine rwc_o .b rfl ?_ | refine rwc_o _ rfl ?_)
end Go.Proofs.Ytgdefllblcmgpaa
