/- The law SpaceBack's body. -/
import Derived.Test.YtgdefllblcmgpaaYq
import Derived.Test.YtgdefllblcmgpaaPsu
import Derived.Test.YtgdefllblcmgpaaOpt
namespace Go.Proofs.Ytgdefllblcmgpaa
open Go.RowKit
set_option linter.unusedSimpArgs false
set_option maxRecDepth 10000
theorem bitsF_text (f : Nat → Bool) (m i : Nat) (h : i < 8 * m) : bitsF (textF f m) i = f i := by
  unfold bitsF
  rw [textF_get _ _ _ (by omega)]
  have hb := byteF_lt fun q => f (8 * (i / 8) + q)
  show bitN (UInt8.ofNat _).toNat (i % 8) = _
  rw [UInt8.toNat_ofNat', Nat.mod_eq_of_lt (by simpa using hb), byteF_bit _ _ (Nat.mod_lt _ (by omega)), Nat.div_add_mod]
theorem text_ne {f g : Nat → Bool} {m i : Nat} (h : i < 8 * m) (hf : f i = true) (hg : g i = false) : ¬ (⟨(textF f m).toArray⟩ : Str) = ⟨(textF g m).toArray⟩ := fun q => by
  have q2 : textF f m = textF g m := by
    have := congrArg (fun b : ByteArray => b.data.toList) q
    simpa using this
  have := bitsF_text f m i h
  rw [q2, bitsF_text g m i h, hf, hg] at this
  cases this
theorem norm_has {n : Int} {a b : List Ext} (ha : Norm n a) (hb : Norm n b) (h : a = b) (i : Int) : hasX a i = hasX b i := by rw [h]
theorem lendS2 {f : FuncId} {p q : Nat} {n m : Int} {e u : List Ext} {v v' : AV} {σ : Sto} {w : AV} (h : SpV p n v e σ) (h' : SpV q m v' u σ) (hw : w.bare = true) (hs : PSpec Try.prog f [.fp (cSp n e) 0, .fp (cSp m u) 0] w) : Spec Try.prog f [.mp p 0 0, .mp q 0 0] σ (fun r s => r = w ∧ s = σ) := by
  obtain ⟨hσ, hr⟩ := h
  obtain ⟨hσ', hr'⟩ := h'
  rcases hr with ⟨rfl, h1, h2⟩ | ⟨i, g, off, c, rfl, h1, h2, h3, h4⟩
  · obtain rfl : e = [] := List.length_eq_zero_iff.1 h1
    rcases hr' with ⟨rfl, k1, k2⟩ | ⟨i', g', off', c', rfl, k1, k2, k3, k4⟩
    · obtain rfl : u = [] := List.length_eq_zero_iff.1 k1
      refine lend [p, q] 9 (xs' := [.fp [.sc (.int .i64 n), .sc (.slice none 0 0)] 0, .fp [.sc (.int .i64 m), .sc (.slice none 0 0)] 0]) (by simp [frz, frzL, hσ, hσ', AV.flat, flatL]) hw ?_
      exact pspec_args hs (.cons (.fpL (.cons (.refl _) (.cons .nil .nil))) (.cons (.fpL (.cons (.refl _) (.cons .nil .nil))) .nil))
    · refine lend [p, q, i'] 9 (xs' := [.fp [.sc (.int .i64 n), .sc (.slice none 0 0)] 0, .fp (cSp m u) 0]) (by simp [frz, frzL, hσ, hσ', k2, k3, k4, AV.flat, flatL, cSp]) hw ?_
      exact pspec_args hs (.cons (.fpL (.cons (.refl _) (.cons .nil .nil))) (.cons (.refl _) .nil))
  · rcases hr' with ⟨rfl, k1, k2⟩ | ⟨i', g', off', c', rfl, k1, k2, k3, k4⟩
    · obtain rfl : u = [] := List.length_eq_zero_iff.1 k1
      refine lend [p, q, i] 9 (xs' := [.fp (cSp n e) 0, .fp [.sc (.int .i64 m), .sc (.slice none 0 0)] 0]) (by simp [frz, frzL, hσ, hσ', h2, h3, h4, AV.flat, flatL, cSp]) hw ?_
      exact pspec_args hs (.cons (.refl _) (.cons (.fpL (.cons (.refl _) (.cons .nil .nil))) .nil))
    · exact lend [p, q, i, i'] 9 (xs' := [.fp (cSp n e) 0, .fp (cSp m u) 0]) (by simp [frz, frzL, hσ, hσ', h2, h3, h4, k2, k3, k4, AV.flat, flatL, cSp]) hw hs
/-- Two spaces, apart. -/
def TwoS (K p : Nat) (v v2 : AV) (es es2 : List Ext) (σ : Sto) : Prop := SpV 0 K v es σ ∧ SpV p K v2 es2 σ ∧ p ≠ 0 ∧ ¬ isH 0 v2 ∧ ∀ l, isH l v → l ≠ p ∧ ¬ isH l v2
theorem SpV.frame {p q : Nat} {n m : Int} {v v2 r : AV} {es : List Ext} {σ s : Sto} (h : SpV p n v es σ) (hF : FrR q v2 σ s r) (hpq : p ≠ q) (hp : ¬ isH p v2) (hv : ∀ l, isH l v → l ≠ q ∧ ¬ isH l v2) : SpV p n v es s := by
  refine ⟨hF.1 p _ hpq hp h.1, ?_⟩
  rcases h.2 with k | ⟨i, g, off, c, rfl, k1, k2, k3, k4⟩
  · exact .inl k
  · have := hv i (isH_self ..)
    exact .inr ⟨i, g, off, c, rfl, k1, hF.1 i _ this.1 this.2 k2, k3, k4⟩
theorem SpV.own_lt {p : Nat} {n : Int} {v : AV} {es : List Ext} {σ : Sto} (h : SpV p n v es σ) {l : Nat} (hl : isH l v) : l < σ.length ∧ l ≠ p := by
  rcases h.2 with ⟨k, _⟩ | ⟨i, g, off, c, rfl, k1, k2, k3, k4⟩
  · rw [k] at hl; exact absurd hl (isH_nil l)
  · rw [isH_ms hl]; exact ⟨lt_of_get k2, k1⟩
theorem TwoS.step {K p : Nat} {v v2 : AV} {es es2 es3 : List Ext} {σ s : Sto} (h : TwoS K p v v2 es es2 σ) (hs : StepP p K v2 es3 σ s) : ∃ v3, TwoS K p v v3 es es3 s := by
  obtain ⟨h1, h2, h3, h4, h5⟩ := h
  obtain ⟨v3, k1, k2⟩ := hs
  refine ⟨v3, h1.frame (m := 0) k2 (Ne.symm h3) h4 h5, k1, h3, fun q => ?_, fun l hl => ⟨(h5 l hl).1, fun q => ?_⟩⟩
  · exact (k2.2.1 0 q).elim h4 fun r => by have := lt_of_get h1.1; omega
  · exact (k2.2.1 l q).elim (h5 l hl).2 fun r => by have := (h1.own_lt hl).1; omega
theorem give_norm {n : Int} {es : List Ext} (hn : Norm n es) (list : List Ext) : Norm n (foldR (chkR n list fun x => !touchX es x) es (list.foldl giveX es)) := by
  unfold foldR
  by_cases hc : chkR n list (fun x => !touchX es x) = 0
  · rw [if_pos hc]
    obtain ⟨c1, c2, c3⟩ := chk_zero hc
    exact (give_all list es hn c1 (fun x hx => by simpa using c2 x hx) c3).1
  · rw [if_neg hc]; exact hn
/-- What is told is read as it was. -/
theorem back_parse {K : Nat} (hK : 1 ≤ K ∧ K ≤ 512) {v : AV} {es : List Ext} {σ : Sto} (h : SpV 0 K v es σ) (hn : Norm K es) :
    Spec Try.prog 24 [.sc (.int .i64 K), .sc (.string ⟨(textF (fun i : Nat => hasX es i) ((K + 7) / 8)).toArray⟩)] σ (fun r s => r = .tup [.mp σ.length 0 0, .sc (.int .i64 0)] ∧ ∃ v2, TwoS K σ.length v v2 es es s) := by
  refine (sParse_spec K hK (textF (fun i : Nat => hasX es i) ((K + 7) / 8)) (by rw [textF_length]; omega) σ).mono fun r s hq => ?_
  rw [textF_length] at hq
  have hb : ∀ i, i < 8 * ((K + 7) / 8) → bitsF (textF (fun i : Nat => hasX es i) ((K + 7) / 8)) i = hasX es i := fun i hi => bitsF_text _ _ _ hi
  have hin : ∀ i : Int, memX es i → 0 ≤ i ∧ i < K := fun i ⟨x, hx, x1, x2⟩ => by have := hn.2 x hx; omega
  have hg : (∀ i, i < 8 * ((K + 7) / 8) → bitsF (textF (fun i : Nat => hasX es i) ((K + 7) / 8)) i = true → i < K) := fun i hi hq => by
    rw [hb i hi] at hq
    have := hin _ (hasX_iff.1 hq)
    omega
  rcases hq with ⟨_, rfl, v2, es2, q1, q2, q3, q4⟩ | ⟨q, _⟩
  · have he : es2 = es := norm_uniq q3 hn fun j => by
      rw [q4]
      constructor
      · rintro ⟨i, rfl, i1, i2⟩
        rw [hb i i1] at i2
        exact hasX_iff.1 i2
      · intro hm
        obtain ⟨j1, j2⟩ := hin j hm
        obtain ⟨i, rfl⟩ := Int.eq_ofNat_of_zero_le j1
        exact ⟨i, rfl, by omega, by rw [hb i (by omega)]; exact hasX_iff.2 hm⟩
    subst he
    have h0 := lt_of_get h.1
    have hv2 : ∀ l, isH l v2 → σ.length < l := fun l hl => by
      rcases q2.2.1 l hl with r | r
      · exact absurd r (isH_nil l)
      · simp at r; omega
    refine ⟨rfl, v2, (h.app _).frame (m := 0) q2 (by omega) (isH_nil _) (fun l hl => ⟨by have := (h.own_lt hl).1; omega, isH_nil l⟩), q1, by omega, fun q => by have := hv2 _ q; omega, fun l hl => ⟨by have := (h.own_lt hl).1; omega, fun q => by have := hv2 _ q; have := (h.own_lt hl).1; omega⟩⟩
  · exact absurd ⟨hg, rfl⟩ q
set_option maxHeartbeats 2000000 in
theorem back_spec (n more : Int) (list : List Int) (hl : list.length ≤ 9223372036854775807) : PSpec Try.prog 6 [.sc (.int .i64 n), .fs (flatN list) list.length, .sc (.int .i64 more)] (.sc (.bool true)) := by
  have haw := awake_spec
  refine spec_pure (by simp) (by simp) ?_
  refine spec_intro Try.func6 good6 rfl (by simp [Try.ntmps6]) ?_
  by_cases hsl : list.length ≤ 60
  · obtain ⟨u, hu⟩ := Int.eq_ofNat_of_zero_le (show 0 ≤ IntKind.u64.wrap n by rw [IntKind.wrap_u64]; omega)
    have hmod : (u : Int).tmod 512 = ((u % 512 : Nat) : Int) := by rw [Int.tmod_eq_emod_of_nonneg (by omega)]; omega
    have hadd : (1 : Int) + ((u % 512 : Nat) : Int) = ((1 + u % 512 : Nat) : Int) := by omega
    have hK1 : 1 ≤ 1 + u % 512 ∧ 1 + u % 512 ≤ 512 := by omega
    have hu2 : u % 512 < 512 := by omega
    generalize u % 512 = um at *
    generalize hKK : 1 + um = K at *
    have hnew := sNew_ok K (by omega) []
    repeat' (first
     | (with_reducible first | refine Stp.pf ?_ | refine block_x (by decide) ?_ | refine ret_n ?_)
     | refine tri_reg [] ?_ | refine tri_regc [] [] mixed (by decide +kernel) ?_
     | (refine rwf_nilt rfl (by decide +kernel) fun B hB => ?_; (try simp [*]); refine hB.out _ fun b => ?_; clear hB B)
     | (refine Rul.pf ⟨rfl, rfl⟩ fun B C hB => ?_; (try simp [*, -List.all_eq_true, Try.results6]); (try (simp (disch := first | assumption | omega) only [wc, ite_yes]; (try simp [*, -List.all_eq_true, Try.results6]))); first | (first | refine hB.out.1 _ (fun hb => ?_) fun hb => ⟨rfl, ?_⟩ | refine hB.out.1 _ (fun hb => ?_) fun hb => ?_) <;> clear hB C B <;> (try simp only [Bool.not_true, Bool.not_false] at hb) <;> (first | (exfalso; simp at hb; done) | (exfalso; simp at hb; omega) | (rw [hb]; (try simp at hb)) | (try simp at hb)) | ((first | refine hB.out.1 _ _ ?_ | refine hB.out.1 _ ?_ | refine hB.out.2.1 _ _ _ (haw) ?_ | refine hB.out.2.2 _ _ _ (haw) ?_ | refine hB.out.2 ⟨rfl, ?_⟩); clear hB C B) | (refine hB.out.2 _ ?_; clear hB C B; (try rfl)))
     | refine rwf_o ?_ | refine rwc_o .n rfl ?_ | refine rwc_o .z rfl ?_ | refine rwc_o .w rfl ?_ | refine rwc_o .b rfl ?_ | refine rwc_o _ rfl ?_)
    refine rwf_ca rfl fun C' hC hP => ?_
    clear hP
    (try simp [*, -List.all_eq_true]); (try (simp (disch := first | assumption | omega) only [wrap_id, wrapu_id, wrapb_id, tmod_nn, tdiv_nn, ite_yes, flatM_seg, flatM_0, flatM_1, flatM_2, flatI_seg, flatI_0, flatI_1, flatS_get]; (try simp [*, -List.all_eq_true])))
    refine hC.out _ _ _ (hnew) fun r s hq => ?_
    clear hC C'
    obtain ⟨rfl, rfl⟩ := hq
    clear hnew haw hmod hadd hKK hu2 hu
    have hI0 : Hid (∃ v es, SpV 0 K v es [⟨[.sc (.int .i64 K), .sc (.slice none 0 0)], 0, false, false⟩] ∧ Norm K es) := Lib.hid ⟨_, [], SpV.new K [], norm_nil _⟩
    repeat' (first
     | (with_reducible first | refine Stp.pf ?_ | refine block_x (by decide) ?_ | refine ret_n ?_)
     | refine tri_reg [] ?_ | refine tri_regc [] [] mixed (by decide +kernel) ?_
     | (refine rwf_nilt rfl (by decide +kernel) fun B hB => ?_; (try simp [*]); refine hB.out _ fun b => ?_; clear hB B)
     | (refine Rul.pf ⟨rfl, rfl⟩ fun B C hB => ?_; (try simp [*, -List.all_eq_true, Try.results6]); (try (simp (disch := first | assumption | omega) only [wc, ite_yes]; (try simp [*, -List.all_eq_true, Try.results6]))); first | (first | refine hB.out.1 _ (fun hb => ?_) fun hb => ⟨rfl, ?_⟩ | refine hB.out.1 _ (fun hb => ?_) fun hb => ?_) <;> clear hB C B <;> (try simp only [Bool.not_true, Bool.not_false] at hb) <;> (first | (exfalso; simp at hb; done) | (exfalso; simp at hb; omega) | (rw [hb]; (try simp at hb)) | (try simp at hb)) | ((first | refine hB.out.1 _ _ ?_ | refine hB.out.1 _ ?_ | refine hB.out.2 ⟨rfl, ?_⟩); clear hB C B) | (refine hB.out.2 _ ?_; clear hB C B; (try rfl)))
     | refine rwf_o ?_ | refine rwc_o .n rfl ?_ | refine rwc_o .z rfl ?_ | refine rwc_o .w rfl ?_ | refine rwc_o .b rfl ?_ | refine rwc_o _ rfl ?_)
    refine tri_for [1, 2, 6, 7, 8] list.length (fun k_ e σ => e 9 = .sc (.int .i64 k_) ∧ ∃ v es, SpV 0 K v es σ ∧ Norm K es) ?_ (fun j env' σ' hlt hk hI => ?_) (fun env' σ' hk hI => ?_)
    · exact ⟨by simp, by simpa using hI0.out⟩
    · skip
      (try simp at hk)
      obtain ⟨h9, v, es, hS, hn1⟩ := hI
      clear hI0
      have a1 := flatN_get list j hlt
      obtain ⟨u2, hu2⟩ := Int.eq_ofNat_of_zero_le (show 0 ≤ IntKind.u64.wrap list[j] by rw [IntKind.wrap_u64]; omega)
      have hKu : IntKind.u64.wrap (K : Int) = K := by rw [IntKind.wrap_u64]; omega
      have hmod2 : (u2 : Int).tmod (K : Int) = ((u2 % K : Nat) : Int) := by rw [Int.tmod_eq_emod_of_nonneg (by omega)]; exact_mod_cast rfl
      have hm2 : u2 % K < K := Nat.mod_lt _ (by omega)
      have hK0 : ¬ K = 0 := by omega
      generalize u2 % K = b at *
      have g1 := sGiveA_spec 0 K es [⟨b, 1⟩] _ v hS hn1 (by omega) (by simp)
      rw [show flatE [(⟨b, 1⟩ : Ext)] = [.sc (.int .i64 b), .sc (.int .i64 1)] from rfl, show [(⟨b, 1⟩ : Ext)].length = 1 from rfl] at g1
      have e1 := ext_spec b 1
      repeat' (first
       | (with_reducible first | refine Stp.pf ?_ | refine block_x (by decide) ?_ | refine ret_n ?_)
       | refine tri_reg [] ?_ | refine tri_regc [] [] mixed (by decide +kernel) ?_
       | (refine rwf_nilt rfl (by decide +kernel) fun B hB => ?_; (try simp [*]); refine hB.out _ fun b => ?_; clear hB B)
       | (refine Rul.pf ⟨rfl, rfl⟩ fun B C hB => ?_; (try simp [*, -List.all_eq_true, cE, Try.results6]); (try (simp (disch := first | assumption | omega) only [wc, ite_yes]; (try simp [*, -List.all_eq_true, cE, Try.results6]))); first | (first | refine hB.out.1 _ (fun hb => ?_) fun hb => ⟨rfl, ?_⟩ | refine hB.out.1 _ (fun hb => ?_) fun hb => ?_) <;> clear hB C B <;> (try simp only [Bool.not_true, Bool.not_false] at hb) <;> (first | (exfalso; simp at hb; done) | (exfalso; simp at hb; omega) | (rw [hb]; (try simp at hb)) | (try simp at hb)) | ((first | refine hB.out.1 _ _ ?_ | refine hB.out.1 _ ?_ | refine hB.out.2.1 _ _ _ (e1) ?_ | refine hB.out.2.2 _ _ _ (e1) ?_ | refine hB.out.2 ⟨rfl, ?_⟩); clear hB C B) | (refine hB.out.2 _ ?_; clear hB C B; (try rfl)))
       | refine rwf_o ?_ | refine rwc_o .n rfl ?_ | refine rwc_o .z rfl ?_ | refine rwc_o .w rfl ?_ | refine rwc_o .b rfl ?_ | refine rwc_o _ rfl ?_)
      refine rwf_ca rfl fun C' hC hP => ?_
      clear hP
      (try simp [*, -List.all_eq_true, cE]); (try (simp (disch := first | assumption | omega) only [wrap_id, wrapu_id, wrapb_id, tmod_nn, tdiv_nn, ite_yes, flatM_seg, flatM_0, flatM_1, flatM_2, flatI_seg, flatI_0, flatI_1, flatS_get]; (try simp [*, -List.all_eq_true, cE])))
      refine hC.out _ _ _ (g1) fun r s hq => ?_
      clear hC C'
      obtain ⟨rfl, v3, k1, _⟩ := hq
      have hnx : Hid (∃ v es, SpV 0 K v es s ∧ Norm K es) := Lib.hid ⟨v3, _, k1, give_norm hn1 _⟩
      clear g1 k1 hS hn1
      repeat' (first
       | (with_reducible first | refine Stp.pf ?_ | refine block_x (by decide) ?_ | refine ret_n ?_)
       | refine tri_reg [] ?_ | refine tri_regc [] [] mixed (by decide +kernel) ?_
       | (refine rwf_nilt rfl (by decide +kernel) fun B hB => ?_; (try simp [*]); refine hB.out _ fun b => ?_; clear hB B)
       | (refine Rul.pf ⟨rfl, rfl⟩ fun B C hB => ?_; (try simp [*, -List.all_eq_true, cE, Try.results6]); (try (simp (disch := first | assumption | omega) only [wc, ite_yes]; (try simp [*, -List.all_eq_true, cE, Try.results6]))); first | (first | refine hB.out.1 _ (fun hb => ?_) fun hb => ⟨rfl, ?_⟩ | refine hB.out.1 _ (fun hb => ?_) fun hb => ?_) <;> clear hB C B <;> (try simp only [Bool.not_true, Bool.not_false] at hb) <;> (first | (exfalso; simp at hb; done) | (exfalso; simp at hb; omega) | (rw [hb]; (try simp at hb)) | (try simp at hb)) | ((first | refine hB.out.1 _ _ ?_ | refine hB.out.1 _ ?_ | refine hB.out.2 ⟨rfl, ?_⟩); clear hB C B) | (refine hB.out.2 _ ?_; clear hB C B; (try rfl)))
       | refine rwf_o ?_ | refine rwc_o .n rfl ?_ | refine rwc_o .z rfl ?_ | refine rwc_o .w rfl ?_ | refine rwc_o .b rfl ?_ | refine rwc_o _ rfl ?_)
      exact ⟨by simp [*], by simp, hnx.out⟩
    · skip
      (try simp at hk)
      obtain ⟨h9, v, es, hS, hn1⟩ := hI
      clear hI0
      have qt := qText hS hn1 (by omega) (m := (K + 7) / 8) (by omega) []
      simp only [List.append_nil] at qt
      have hp := back_parse hK1 hS hn1
      clear hS
      generalize hT : textF (fun i : Nat => hasX es i) ((K + 7) / 8) = T at *
      replace hT := Lib.hid hT
      repeat' (first
       | (with_reducible first | refine Stp.pf ?_ | refine block_x (by decide) ?_ | refine ret_n ?_)
       | refine tri_reg [] ?_ | refine tri_regc [] [] mixed (by decide +kernel) ?_
       | (refine rwf_nilt rfl (by decide +kernel) fun B hB => ?_; (try simp [*]); refine hB.out _ fun b => ?_; clear hB B)
       | (refine Rul.pf ⟨rfl, rfl⟩ fun B C hB => ?_; (try simp [*, -List.all_eq_true, Try.results6]); (try (simp (disch := first | assumption | omega) only [wc, ite_yes]; (try simp [*, -List.all_eq_true, Try.results6]))); first | (first | refine hB.out.1 _ (fun hb => ?_) fun hb => ⟨rfl, ?_⟩ | refine hB.out.1 _ (fun hb => ?_) fun hb => ?_) <;> clear hB C B <;> (try simp only [Bool.not_true, Bool.not_false] at hb) <;> (first | (exfalso; simp at hb; done) | (exfalso; simp at hb; omega) | (rw [hb]; (try simp at hb)) | (try simp at hb)) | ((first | refine hB.out.1 _ _ ?_ | refine hB.out.1 _ ?_ | refine hB.out.2.1 _ _ _ (qt) ?_ | refine hB.out.2.2 _ _ _ (qt) ?_ | refine hB.out.2 ⟨rfl, ?_⟩); clear hB C B) | (refine hB.out.2 _ ?_; clear hB C B; (try rfl)))
       | refine rwf_o ?_ | refine rwc_o .n rfl ?_ | refine rwc_o .z rfl ?_ | refine rwc_o .w rfl ?_ | refine rwc_o .b rfl ?_ | refine rwc_o _ rfl ?_)
      refine rwf_ca rfl fun C' hC hP => ?_
      clear hP
      (try simp [*, -List.all_eq_true]); (try (simp (disch := first | assumption | omega) only [wrap_id, wrapu_id, wrapb_id, tmod_nn, tdiv_nn, ite_yes, flatM_seg, flatM_0, flatM_1, flatM_2, flatI_seg, flatI_0, flatI_1, flatS_get]; (try simp [*, -List.all_eq_true])))
      refine hC.out _ _ _ (hp) fun r s hq => ?_
      clear hC C'
      obtain ⟨rfl, v2, h2⟩ := hq
      clear hp qt
      have w1 := lendS2 h2.1 h2.2.1 (w := .sc (.bool true)) rfl (by have := sSame_spec K K es es (by have := norm_len hn1 (by omega); omega) (by have := norm_len hn1 (by omega); omega); simpa using this)
      have w2 := lendS2 h2.2.1 h2.1 (w := .sc (.bool true)) rfl (by have := sSame_spec K K es es (by have := norm_len hn1 (by omega); omega) (by have := norm_len hn1 (by omega); omega); simpa using this)
      have hp0 : σ'.length ≠ 0 := h2.2.2.1
      generalize σ'.length = p at *
      obtain ⟨um, hum⟩ := Int.eq_ofNat_of_zero_le (show 0 ≤ IntKind.u64.wrap more by rw [IntKind.wrap_u64]; omega)
      have hKu : IntKind.u64.wrap (K : Int) = K := by rw [IntKind.wrap_u64]; omega
      have hmod2 : (um : Int).tmod (K : Int) = ((um % K : Nat) : Int) := by rw [Int.tmod_eq_emod_of_nonneg (by omega)]; exact_mod_cast rfl
      have hm2 : um % K < K := Nat.mod_lt _ (by omega)
      have hK0 : ¬ K = 0 := by omega
      generalize um % K = b at *
      have qh := qHas h2.1 hn1 (by omega) b []
      simp only [List.append_nil] at qh
      have e1 := ext_spec b 1
      have hx : isInX K ⟨b, 1⟩ = true := isInX_iff.2 ⟨by simp, by simp, by unfold xe; simp; omega⟩
      have hxe : xe (⟨b, 1⟩ : Ext) = (b : Int) + 1 := rfl
      have gt := sTakeA_spec p K es [⟨b, 1⟩] _ v2 h2.2.1 hn1 (by omega) (by simp)
      rw [show flatE [(⟨b, 1⟩ : Ext)] = [.sc (.int .i64 b), .sc (.int .i64 1)] from rfl, show [(⟨b, 1⟩ : Ext)].length = 1 from rfl] at gt
      cases hb1 : hasX es b with
      | true =>
        have hc : coverX es ⟨b, 1⟩ = true := (cover_iff hn1 (by simp)).2 fun i i1 i2 => by
          rw [hxe] at i2
          have : i = b := by simp at i1; omega
          rw [this]; exact hasX_iff.1 hb1
        have hch : chkR K [⟨b, 1⟩] (fun x => coverX es x) = 0 := chk_yes (by simp [hx]) (fun x hx => by rw [List.mem_singleton.1 hx]; exact hc) (by simp [Apart])
        unfold foldR at gt
        rw [hch, if_pos rfl, show [(⟨b, 1⟩ : Ext)].foldl cutX es = cutX es ⟨b, 1⟩ from rfl] at gt
        rw [hb1] at qh
        obtain ⟨c1, c2⟩ := cut_ok hn1 (x := ⟨b, 1⟩) (by simp) hc
        have hno : hasX (cutX es ⟨b, 1⟩) b = false := by
          cases q : hasX (cutX es ⟨b, 1⟩) b with
          | false => rfl
          | true => exact absurd ⟨Int.le_refl _, by rw [hxe]; omega⟩ ((c2 b).1 (hasX_iff.1 q)).2
        have hne : es ≠ cutX es ⟨b, 1⟩ := fun q => by
          have := norm_has hn1 c1 q b
          rw [hb1, hno] at this; cases this
        have htx : ¬ (⟨(textF (fun i : Nat => hasX es i) ((K + 7) / 8)).toArray⟩ : Str) = ⟨(textF (fun i : Nat => hasX (cutX es ⟨b, 1⟩) i) ((K + 7) / 8)).toArray⟩ := fun q => text_ne (by omega) hb1 hno q
        clear c2 hc hch
        repeat' (first
         | (with_reducible first | refine Stp.pf ?_ | refine block_x (by decide) ?_ | refine ret_n ?_)
         | refine tri_reg [] ?_ | refine tri_regc [] [] mixed (by decide +kernel) ?_
         | (refine rwf_nilt rfl (by decide +kernel) fun B hB => ?_; (try simp [*]); refine hB.out _ fun b => ?_; clear hB B)
         | (refine Rul.pf ⟨rfl, rfl⟩ fun B C hB => ?_; (try simp [*, -List.all_eq_true, cE, Try.results6]); (try (simp (disch := first | assumption | omega) only [wc, ite_yes]; (try simp [*, -List.all_eq_true, cE, Try.results6]))); first | (first | refine hB.out.1 _ (fun hb => ?_) fun hb => ⟨rfl, ?_⟩ | refine hB.out.1 _ (fun hb => ?_) fun hb => ?_) <;> clear hB C B <;> (try simp only [Bool.not_true, Bool.not_false] at hb) <;> (first | (exfalso; simp at hb; done) | (exfalso; simp at hb; omega) | (rw [hb]; (try simp at hb)) | (try simp at hb)) | ((first | refine hB.out.1 _ _ ?_ | refine hB.out.1 _ ?_ | refine hB.out.2.1 _ _ _ (w1) ?_ | refine hB.out.2.2 _ _ _ (w1) ?_ | refine hB.out.2.1 _ _ _ (w2) ?_ | refine hB.out.2.2 _ _ _ (w2) ?_ | refine hB.out.2.1 _ _ _ (qh) ?_ | refine hB.out.2.2 _ _ _ (qh) ?_ | refine hB.out.2.1 _ _ _ (e1) ?_ | refine hB.out.2.2 _ _ _ (e1) ?_ | refine hB.out.2 ⟨rfl, ?_⟩); clear hB C B) | (refine hB.out.2 _ ?_; clear hB C B; (try rfl)))
         | refine rwf_o ?_ | refine rwc_o .n rfl ?_ | refine rwc_o .z rfl ?_ | refine rwc_o .w rfl ?_ | refine rwc_o .b rfl ?_ | refine rwc_o _ rfl ?_)
        refine rwf_ca rfl fun C' hC hP => ?_
        clear hP
        (try simp [*, -List.all_eq_true, cE]); (try (simp (disch := first | assumption | omega) only [wrap_id, wrapu_id, wrapb_id, tmod_nn, tdiv_nn, ite_yes, flatM_seg, flatM_0, flatM_1, flatM_2, flatI_seg, flatI_0, flatI_1, flatS_get]; (try simp [*, -List.all_eq_true, cE])))
        refine hC.out _ _ _ (gt) fun r s2 hq => ?_
        clear hC C'
        obtain ⟨rfl, hst⟩ := hq
        obtain ⟨v3, h3⟩ := h2.step hst
        have w3 := lendS2 h3.1 h3.2.1 (w := .sc (.bool false)) rfl (by have := sSame_spec K K es (cutX es ⟨b, 1⟩) (by have := norm_len hn1 (by omega); omega) (by have := norm_len c1 (by omega); omega); simpa [hne] using this)
        have qa := qText h3.1 hn1 (by omega) (m := (K + 7) / 8) (by omega) []
        have qb := qText h3.2.1 c1 (by omega) (m := (K + 7) / 8) (by omega) []
        simp only [List.append_nil] at qa qb
        clear hst gt h2 w1 w2 h3 hn1 c1 hne hno qh
        generalize (⟨(textF (fun i : Nat => hasX es i) ((K + 7) / 8)).toArray⟩ : Str) = TA at *
        generalize (⟨(textF (fun i : Nat => hasX (cutX es ⟨b, 1⟩) i) ((K + 7) / 8)).toArray⟩ : Str) = TB at *
        repeat' (first
         | (with_reducible first | refine Stp.pf ?_ | refine block_x (by decide) ?_ | refine ret_n ?_)
         | refine tri_reg [] ?_ | refine tri_regc [] [] mixed (by decide +kernel) ?_
         | (refine rwf_nilt rfl (by decide +kernel) fun B hB => ?_; (try simp [*]); refine hB.out _ fun b => ?_; clear hB B)
         | (refine Rul.pf ⟨rfl, rfl⟩ fun B C hB => ?_; (try simp [*, -List.all_eq_true, Try.results6]); (try (simp (disch := first | assumption | omega) only [wc, ite_yes]; (try simp [*, -List.all_eq_true, Try.results6]))); first | (first | refine hB.out.1 _ (fun hb => ?_) fun hb => ⟨rfl, ?_⟩ | refine hB.out.1 _ (fun hb => ?_) fun hb => ?_) <;> clear hB C B <;> (try simp only [Bool.not_true, Bool.not_false] at hb) <;> (first | (exfalso; simp at hb; done) | (exfalso; simp at hb; omega) | (rw [hb]; (try simp at hb)) | (try simp at hb)) | ((first | refine hB.out.1 _ _ ?_ | refine hB.out.1 _ ?_ | refine hB.out.2.1 _ _ _ (w3) ?_ | refine hB.out.2.2 _ _ _ (w3) ?_ | refine hB.out.2.1 _ _ _ (qa) ?_ | refine hB.out.2.2 _ _ _ (qa) ?_ | refine hB.out.2.1 _ _ _ (qb) ?_ | refine hB.out.2.2 _ _ _ (qb) ?_ | refine hB.out.2 ⟨rfl, ?_⟩); clear hB C B) | (refine hB.out.2 _ ?_; clear hB C B; (try rfl)))
         | refine rwf_o ?_ | refine rwc_o .n rfl ?_ | refine rwc_o .z rfl ?_ | refine rwc_o .w rfl ?_ | refine rwc_o .b rfl ?_ | refine rwc_o _ rfl ?_)
      | false =>
        have hcf : coverX es ⟨b, 1⟩ = false := by
          cases q : coverX es ⟨b, 1⟩ with
          | false => rfl
          | true =>
            have := hasX_iff.2 ((cover_iff hn1 (by simp)).1 q b (Int.le_refl _) (by rw [hxe]; omega))
            rw [hb1] at this; cases this
        have ht : touchX es ⟨b, 1⟩ = false := by
          cases q : touchX es ⟨b, 1⟩ with
          | false => rfl
          | true =>
            obtain ⟨i, ⟨i1, i2⟩, hmm⟩ := (touch_iff hn1 (by simp)).1 q
            rw [hxe] at i2
            have : i = b := by simp at i1; omega
            rw [this] at hmm
            have := hasX_iff.2 hmm
            rw [hb1] at this; cases this
        have hch : chkR K [⟨b, 1⟩] (fun x => coverX es x) = 11 := chk_no (by simp [hx]) fun q => by
          have := q.1 ⟨b, 1⟩ (by simp)
          rw [hcf] at this; cases this
        have hch2 : chkR K [⟨b, 1⟩] (fun x => !touchX es x) = 0 := chk_yes (by simp [hx]) (fun x hx => by rw [List.mem_singleton.1 hx, ht]; rfl) (by simp [Apart])
        unfold foldR at gt
        rw [hch, if_neg (by decide)] at gt
        rw [hb1] at qh
        obtain ⟨c1, c2⟩ := give_ok hn1 (isInX_iff.1 hx) ht
        have hyes : hasX (giveX es ⟨b, 1⟩) b = true := hasX_iff.2 ((c2 b).2 (.inr ⟨Int.le_refl _, by rw [hxe]; omega⟩))
        have hne : es ≠ giveX es ⟨b, 1⟩ := fun q => by
          have := norm_has hn1 c1 q b
          rw [hb1, hyes] at this; cases this
        clear c2 hcf hch ht
        repeat' (first
         | (with_reducible first | refine Stp.pf ?_ | refine block_x (by decide) ?_ | refine ret_n ?_)
         | refine tri_reg [] ?_ | refine tri_regc [] [] mixed (by decide +kernel) ?_
         | (refine rwf_nilt rfl (by decide +kernel) fun B hB => ?_; (try simp [*]); refine hB.out _ fun b => ?_; clear hB B)
         | (refine Rul.pf ⟨rfl, rfl⟩ fun B C hB => ?_; (try simp [*, -List.all_eq_true, cE, Try.results6]); (try (simp (disch := first | assumption | omega) only [wc, ite_yes]; (try simp [*, -List.all_eq_true, cE, Try.results6]))); first | (first | refine hB.out.1 _ (fun hb => ?_) fun hb => ⟨rfl, ?_⟩ | refine hB.out.1 _ (fun hb => ?_) fun hb => ?_) <;> clear hB C B <;> (try simp only [Bool.not_true, Bool.not_false] at hb) <;> (first | (exfalso; simp at hb; done) | (exfalso; simp at hb; omega) | (rw [hb]; (try simp at hb)) | (try simp at hb)) | ((first | refine hB.out.1 _ _ ?_ | refine hB.out.1 _ ?_ | refine hB.out.2.1 _ _ _ (w1) ?_ | refine hB.out.2.2 _ _ _ (w1) ?_ | refine hB.out.2.1 _ _ _ (w2) ?_ | refine hB.out.2.2 _ _ _ (w2) ?_ | refine hB.out.2.1 _ _ _ (qh) ?_ | refine hB.out.2.2 _ _ _ (qh) ?_ | refine hB.out.2.1 _ _ _ (e1) ?_ | refine hB.out.2.2 _ _ _ (e1) ?_ | refine hB.out.2 ⟨rfl, ?_⟩); clear hB C B) | (refine hB.out.2 _ ?_; clear hB C B; (try rfl)))
         | refine rwf_o ?_ | refine rwc_o .n rfl ?_ | refine rwc_o .z rfl ?_ | refine rwc_o .w rfl ?_ | refine rwc_o .b rfl ?_ | refine rwc_o _ rfl ?_)
        refine rwf_ca rfl fun C' hC hP => ?_
        clear hP
        (try simp [*, -List.all_eq_true, cE]); (try (simp (disch := first | assumption | omega) only [wrap_id, wrapu_id, wrapb_id, tmod_nn, tdiv_nn, ite_yes, flatM_seg, flatM_0, flatM_1, flatM_2, flatI_seg, flatI_0, flatI_1, flatS_get]; (try simp [*, -List.all_eq_true, cE])))
        refine hC.out _ _ _ (gt) fun r s2 hq => ?_
        clear hC C'
        obtain ⟨rfl, hst⟩ := hq
        obtain ⟨v3, h3⟩ := h2.step hst
        have gg := sGiveA_spec p K es [⟨b, 1⟩] _ v3 h3.2.1 hn1 (by omega) (by simp)
        rw [show flatE [(⟨b, 1⟩ : Ext)] = [.sc (.int .i64 b), .sc (.int .i64 1)] from rfl, show [(⟨b, 1⟩ : Ext)].length = 1 from rfl] at gg
        unfold foldR at gg
        rw [hch2, if_pos rfl, show [(⟨b, 1⟩ : Ext)].foldl giveX es = giveX es ⟨b, 1⟩ from rfl] at gg
        clear hst gt h2 w1 w2 hch2 qh
        repeat' (first
         | (with_reducible first | refine Stp.pf ?_ | refine block_x (by decide) ?_ | refine ret_n ?_)
         | refine tri_reg [] ?_ | refine tri_regc [] [] mixed (by decide +kernel) ?_
         | (refine rwf_nilt rfl (by decide +kernel) fun B hB => ?_; (try simp [*]); refine hB.out _ fun b => ?_; clear hB B)
         | (refine Rul.pf ⟨rfl, rfl⟩ fun B C hB => ?_; (try simp [*, -List.all_eq_true, cE, Try.results6]); (try (simp (disch := first | assumption | omega) only [wc, ite_yes]; (try simp [*, -List.all_eq_true, cE, Try.results6]))); first | (first | refine hB.out.1 _ (fun hb => ?_) fun hb => ⟨rfl, ?_⟩ | refine hB.out.1 _ (fun hb => ?_) fun hb => ?_) <;> clear hB C B <;> (try simp only [Bool.not_true, Bool.not_false] at hb) <;> (first | (exfalso; simp at hb; done) | (exfalso; simp at hb; omega) | (rw [hb]; (try simp at hb)) | (try simp at hb)) | ((first | refine hB.out.1 _ _ ?_ | refine hB.out.1 _ ?_ | refine hB.out.2.1 _ _ _ (e1) ?_ | refine hB.out.2.2 _ _ _ (e1) ?_ | refine hB.out.2 ⟨rfl, ?_⟩); clear hB C B) | (refine hB.out.2 _ ?_; clear hB C B; (try rfl)))
         | refine rwf_o ?_ | refine rwc_o .n rfl ?_ | refine rwc_o .z rfl ?_ | refine rwc_o .w rfl ?_ | refine rwc_o .b rfl ?_ | refine rwc_o _ rfl ?_)
        refine rwf_ca rfl fun C' hC hP => ?_
        clear hP
        (try simp [*, -List.all_eq_true, cE]); (try (simp (disch := first | assumption | omega) only [wrap_id, wrapu_id, wrapb_id, tmod_nn, tdiv_nn, ite_yes, flatM_seg, flatM_0, flatM_1, flatM_2, flatI_seg, flatI_0, flatI_1, flatS_get]; (try simp [*, -List.all_eq_true, cE])))
        refine hC.out _ _ _ (gg) fun r s3 hq => ?_
        clear hC C'
        obtain ⟨rfl, hst⟩ := hq
        obtain ⟨v4, h4⟩ := h3.step hst
        have w3 := lendS2 h4.1 h4.2.1 (w := .sc (.bool false)) rfl (by have := sSame_spec K K es (giveX es ⟨b, 1⟩) (by have := norm_len hn1 (by omega); omega) (by have := norm_len c1 (by omega); omega); simpa [hne] using this)
        have w4 := sSame_nil0
        have w5 := lendS1 (y := .sc (.pointer none)) h4.1.at_ rfl rfl (sSame_nil1 K es)
        clear hst gg h3 h4 hn1 c1 hne hyes
        repeat' (first
         | (with_reducible first | refine Stp.pf ?_ | refine block_x (by decide) ?_ | refine ret_n ?_)
         | refine tri_reg [] ?_ | refine tri_regc [] [] mixed (by decide +kernel) ?_
         | (refine rwf_nilt rfl (by decide +kernel) fun B hB => ?_; (try simp [*]); refine hB.out _ fun b => ?_; clear hB B)
         | (refine Rul.pf ⟨rfl, rfl⟩ fun B C hB => ?_; (try simp [*, -List.all_eq_true, Try.results6]); (try (simp (disch := first | assumption | omega) only [wc, ite_yes]; (try simp [*, -List.all_eq_true, Try.results6]))); first | (first | refine hB.out.1 _ (fun hb => ?_) fun hb => ⟨rfl, ?_⟩ | refine hB.out.1 _ (fun hb => ?_) fun hb => ?_) <;> clear hB C B <;> (try simp only [Bool.not_true, Bool.not_false] at hb) <;> (first | (exfalso; simp at hb; done) | (exfalso; simp at hb; omega) | (rw [hb]; (try simp at hb)) | (try simp at hb)) | ((first | refine hB.out.1 _ _ ?_ | refine hB.out.1 _ ?_ | refine hB.out.2.1 _ _ _ (w3) ?_ | refine hB.out.2.2 _ _ _ (w3) ?_ | refine hB.out.2.1 _ _ _ (w4) ?_ | refine hB.out.2.2 _ _ _ (w4) ?_ | refine hB.out.2.1 _ _ _ (w5) ?_ | refine hB.out.2.2 _ _ _ (w5) ?_ | refine hB.out.2 ⟨rfl, ?_⟩); clear hB C B) | (refine hB.out.2 _ ?_; clear hB C B; (try rfl)))
         | refine rwf_o ?_ | refine rwc_o .n rfl ?_ | refine rwc_o .z rfl ?_ | refine rwc_o .w rfl ?_ | refine rwc_o .b rfl ?_ | refine rwc_o _ rfl ?_)
  · skip
    repeat' (first
     | (with_reducible first | refine Stp.pf ?_ | refine block_x (by decide) ?_ | refine ret_n ?_)
     | refine tri_reg [] ?_ | refine tri_regc [] [] mixed (by decide +kernel) ?_
     | (refine rwf_nilt rfl (by decide +kernel) fun B hB => ?_; (try simp [*]); refine hB.out _ fun b => ?_; clear hB B)
     | (refine Rul.pf ⟨rfl, rfl⟩ fun B C hB => ?_; (try simp [*, -List.all_eq_true, Try.results6]); (try (simp (disch := first | assumption | omega) only [wc, ite_yes]; (try simp [*, -List.all_eq_true, Try.results6]))); first | (first | refine hB.out.1 _ (fun hb => ?_) fun hb => ⟨rfl, ?_⟩ | refine hB.out.1 _ (fun hb => ?_) fun hb => ?_) <;> clear hB C B <;> (try simp only [Bool.not_true, Bool.not_false] at hb) <;> (first | (exfalso; simp at hb; done) | (exfalso; simp at hb; omega) | (rw [hb]; (try simp at hb)) | (try simp at hb)) | ((first | refine hB.out.1 _ _ ?_ | refine hB.out.1 _ ?_ | refine hB.out.2.1 _ _ _ (haw) ?_ | refine hB.out.2.2 _ _ _ (haw) ?_ | refine hB.out.2 ⟨rfl, ?_⟩); clear hB C B) | (refine hB.out.2 _ ?_; clear hB C B; (try rfl)))
     | refine rwf_o ?_ | refine rwc_o .n rfl ?_ | refine rwc_o .z rfl ?_ | refine rwc_o .w rfl ?_ | refine rwc_o .b rfl ?_ | refine rwc_o _ rfl ?_)
end Go.Proofs.Ytgdefllblcmgpaa
