/- slices.Insert, slices.Delete of one place. -/
import Derived.Test.YtgdefllblcmgpaaZc
import Derived.Lib.Overlaps
import Derived.Laws.Externs
namespace Go.Proofs.Ytgdefllblcmgpaa
open Go.RowKit Go.Sort
set_option linter.unusedSimpArgs false
set_option maxRecDepth 10000
theorem ovlI_spec {σ : Sto} {l l' g g' off off' len len' k k' : Nat} {c c' : List AV} {u u' : Bool} (h1 : σ[l]? = some ⟨c, g, false, u⟩) (h2 : σ[l']? = some ⟨c', g', false, u'⟩) (hne : l ≠ l') (hc : c' ≠ []) : ESpec Try.prog 50 [.ms l g off len k, .ms l' g' off' len' k'] σ (.sc (.bool false)) := by
  intro w Im T A hW hR
  obtain ⟨va, ha, hra⟩ := hR.get (i := 0) (x := .ms l g off len k) rfl
  obtain ⟨vb, hb, hrb⟩ := hR.get (i := 1) (x := .ms l' g' off' len' k') rfl
  have hA : A = #[va, vb] := by
    apply Array.ext'
    have h3 := hR.1
    match A.toList, h3, ha, hb with
    | [x, y], _, ha, hb => simp at ha hb; subst ha hb; rfl
  subst hA
  refine ⟨.bool false, ?_, .sc _⟩
  cases hra with
  | ms a _ _ _ _ _ cap p hp hge hlc hsp hpl =>
    cases hrb with
    | ms b _ _ _ _ _ cap' p' hp' hge' hlc' hsp' hpl' =>
      have e1 := hW.gen l _ p h1 hp
      have e2 := hW.gen l' _ p' h2 hp'
      obtain ⟨rfl, _⟩ := hpl e1.symm
      obtain ⟨rfl, _⟩ := hpl' e2.symm
      obtain ⟨q1, t1, f1, b1, b2, b3, _⟩ := hW.obj l _ p h1 hp
      obtain ⟨q2, t2, f2, d1, d2, d3, _⟩ := hW.obj l' _ p' h2 hp'
      obtain rfl := b2 rfl
      obtain rfl := d2 rfl
      have hroom := hW.room l' _ p' h2 hp'
      have hblk := hW.inj l l' _ _ p p' h1 hp h2 hp' hne rfl rfl
      have hl : c'.length ≠ 0 := fun e => hc (List.length_eq_zero_iff.1 e)
      rw [run_callFunc_extern Try.func50 (by kernel_rfl) (by kernel_rfl) (by kernel_rfl) (e := Extern.SlicesOverlaps.overlaps #[33, 33] #[4]) (by kernel_rfl),
        Lib.run_overlaps_apart w 33 4 31 Try.underlying33 2 (fun _ => by kernel_rfl) _ _ len cap len' cap' hblk t1 t2 q1.size q2.size (by simp [World.shape?, b1]) (by simp [World.shape?, d1]) (by simp at hroom; omega) (by simp [World.frozen?, b1]) (by simp [World.frozen?, b1])]
      rfl
/-- What a row's change leaves: all but p and the row's own object. -/
def FrR (p : Nat) (v : AV) (σ s : Sto) (r : AV) : Prop := (∀ (k : Nat) (o : MO), k ≠ p → ¬ isH k v → σ[k]? = some o → s[k]? = some o) ∧ (∀ k, isH k r → isH k v ∨ σ.length ≤ k) ∧ σ.length ≤ s.length
theorem fr_out {A B : Prop} {p : Nat} {v : AV} {σ s : Sto} {r : AV} {F : Sto → AV → Prop} (hF : ∀ s r, FrR p v σ s r → F s r) (h : A ∧ B ∧ FrR p v σ s r) : A ∧ B ∧ F s r := ⟨h.1, h.2.1, hF _ _ h.2.2⟩
theorem isH_self (i g off n k : Nat) : isH i (.ms i g off n k) := ⟨g, off, n, k, rfl⟩
theorem rowFr_set {k p : Nat} {σ : Sto} {i g g0 off off0 n m : Nat} {c cs : List AV} (h1 : i ≠ p) (hi : i < σ.length) (h2 : off + n * k ≤ c.length) (h3 : (c.drop off).take (n * k) = cs) : RowAt k p (σ.set i ⟨c, g, false, false⟩) (.ms i g off n k) n cs ∧ (σ.set i ⟨c, g, false, false⟩)[p]? = σ[p]? ∧ FrR p (.ms i g0 off0 m k) σ (σ.set i ⟨c, g, false, false⟩) (.ms i g off n k) :=
  ⟨(rowAt_set h1 hi h2 h3).1, (rowAt_set h1 hi h2 h3).2, fun q o _ hq ho => by rw [List.getElem?_set_ne (fun e : i = q => hq (by rw [← e]; exact isH_self i g0 off0 m k))]; exact ho, fun q hq => .inl (by rw [isH_ms hq]; exact isH_self i g0 off0 m k), by simp⟩
theorem rowFr_new {k p : Nat} {σ : Sto} {n : Nat} {c cs : List AV} {v : AV} (hp : p < σ.length) (h2 : n * k ≤ c.length) (h3 : c.take (n * k) = cs) : RowAt k p (σ ++ [⟨c, 0, false, false⟩]) (.ms σ.length 0 0 n k) n cs ∧ (σ ++ [⟨c, 0, false, false⟩])[p]? = σ[p]? ∧ FrR p v σ (σ ++ [⟨c, 0, false, false⟩]) (.ms σ.length 0 0 n k) :=
  ⟨(rowAt_new hp h2 h3).1, (rowAt_new hp h2 h3).2, fun q o _ _ ho => by rw [List.getElem?_append_left (lt_of_get ho)]; exact ho, fun q hq => .inr (by rw [isH_ms hq]; exact Nat.le_refl _), by simp⟩
set_option maxHeartbeats 4000000 in
/-- slices.Insert: one message, at a place. -/
theorem insI_spec (l : List Ext) (hl : l.length ≤ 1000000) (m : Ext) (at_ : Nat) (ha : at_ ≤ l.length) (σ : Sto) (v : AV) (p j : Nat) (hp : p < σ.length) (hv : RowAt 2 p σ v l.length (flatE l)) (hj : σ[j]? = some ⟨cE m, 0, false, false⟩) (hne : ∀ g off n k, v ≠ .ms j g off n k) :
    Spec Try.prog 43 [v, .sc (.int .i64 at_), .ms j 0 0 1 2] σ (fun r s => RowAt 2 p s r (l.length + 1) (flatE (l.take at_ ++ m :: l.drop at_)) ∧ s[p]? = σ[p]? ∧ FrR p v σ s r) := by
  have hja : ∀ X, (σ ++ X)[j]? = some ⟨cE m, 0, false, false⟩ := fun X => by rw [List.getElem?_append_left (lt_of_get hj)]; exact hj
  have hjc : List.take 2 (cE m) = cE m := rfl
  have hm1 : flatE [m] = cE m := by simp [flatE, flatC]
  rcases hv with ⟨rfl, h1, h2⟩ | ⟨i, g, off, c, rfl, h1, h2, h3, h4⟩
  · have : l = [] := List.length_eq_zero_iff.1 h1
    subst this
    have h0 : at_ = 0 := by simpa using ha
    subst h0
    refine spec_intro Try.func43 good43 rfl (by simp [Try.ntmps43]) ?_
    refine go1 [25] [] (cns Try.results43 trivial) ?_
    exact rowFr_new hp (by simp) (by simp [hjc, hm1])
  · have hij : i ≠ j := fun e => hne g off l.length 2 (by rw [e])
    have hi : i < σ.length := lt_of_get h2
    clear hne
    by_cases hat : at_ = l.length
    · refine spec_intro Try.func43 good43 rfl (by simp [Try.ntmps43]) ?_
      subst hat
      clear hi ha
      rw [show l.take l.length ++ m :: l.drop l.length = l ++ [m] by simp, flatE_append, hm1]
      by_cases hfit : off + (l.length + 1) * 2 ≤ c.length
      · have fin : RowAt 2 p (σ.set i ⟨wr c (off + l.length * 2) (cE m), g, false, false⟩) (.ms i g off (l.length + 1) 2) (l.length + 1) (flatE l ++ cE m) ∧ (σ.set i ⟨wr c (off + l.length * 2) (cE m), g, false, false⟩)[p]? = σ[p]? ∧ FrR p (.ms i g off l.length 2) σ (σ.set i ⟨wr c (off + l.length * 2) (cE m), g, false, false⟩) (.ms i g off (l.length + 1) 2) := by
          refine rowFr_set h1 (lt_of_get h2) (by rw [wr_length _ _ _ (by simp; omega)]; omega) ?_
          rw [← h4]
          have := wr_end c off (l.length * 2) (cE m) (by simp; omega)
          rw [cE_length, ← Nat.succ_mul] at this
          exact this
        rcases Nat.eq_zero_or_pos l.length with hn | hn
        · obtain rfl := List.length_eq_zero_iff.1 hn
          simp at hfit h3
          refine go1 [25] [] (cns Try.results43 trivial) ?_
          simpa using fin
        · skip
          refine go1 [25] [] (cns Try.results43 trivial) ?_
          exact fin
      · rcases Nat.eq_zero_or_pos l.length with hn | hn
        · obtain rfl := List.length_eq_zero_iff.1 hn
          have hfit : ¬ off + 2 ≤ c.length := by simpa using hfit
          refine go1 [25] [] (cns Try.results43 trivial) ?_
          exact rowFr_set h1 (lt_of_get h2) (by simp) (by simp [hjc, flatE, flatC])
        · skip
          refine go1 [25] [] (cns Try.results43 trivial) ?_
          exact rowFr_set h1 (lt_of_get h2) (by simp; omega) (List.take_of_length_le (by simp; omega))
    · have hlt : at_ < l.length := by omega
      have hne1 : ¬ at_ = l.length + 1 := by omega
      have hne2 : ¬ (at_ : Int) = (l.length : Nat) := by omega
      refine spec_intro Try.func43 good43 rfl (by simp [Try.ntmps43]) ?_
      clear hi
      refine go1 [40] [] (cns Try.results43 trivial) ?_
      refine rwf_cap rfl (by decide +kernel) fun G hG => ?_
      simp
      refine hG.out _ _ _ _ _ _ h2 rfl rfl fun N hN1 hN2 => ?_
      clear hG G
      have hdr : ((c ++ List.replicate (off + N * 2 - c.length) AV.top).drop off).take (l.length * 2) = flatE l := by
        rw [List.drop_append_of_le_length (by omega), List.take_append_of_le_length (by simp; omega)]
        exact h4
      have hcl : (c ++ List.replicate (off + N * 2 - c.length) AV.top).length = off + N * 2 := by simp; simp at hN2; omega
      simp only at hN2 ⊢
      generalize c ++ List.replicate (off + N * 2 - c.length) AV.top = c1 at hdr hcl ⊢
      obtain ⟨σ1, hσ1⟩ : ∃ σ1, σ1 = σ.set i ⟨c1, g, false, true⟩ := ⟨_, rfl⟩
      have k1 : σ1[i]? = some ⟨c1, g, false, true⟩ := by rw [hσ1]; exact List.getElem?_set_self (lt_of_get h2)
      have k2 : σ1[j]? = some ⟨cE m, 0, false, false⟩ := by rw [hσ1, List.getElem?_set_ne hij]; exact hj
      have k3 : σ1[p]? = σ[p]? := by rw [hσ1, List.getElem?_set_ne h1]
      have k4 : p < σ1.length := by rw [hσ1]; simpa using hp
      obtain ⟨F, hF⟩ : ∃ F : Sto → AV → Prop, F = FrR p (.ms i g off l.length 2) σ := ⟨_, rfl⟩
      have hF2 : ∀ s r, FrR p (.ms i g off l.length 2) σ1 s r → F s r := fun s r h => by
        rw [hF]
        refine ⟨fun q o h5 h6 h7 => h.1 q o h5 h6 ?_, fun q hq => ?_, ?_⟩
        · rw [hσ1, List.getElem?_set_ne (fun e : i = q => h6 (by rw [← e]; exact isH_self i g off l.length 2))]; exact h7
        · have := h.2.1 q hq
          rwa [show σ1.length = σ.length by rw [hσ1]; simp] at this
        · have := h.2.2
          rwa [show σ1.length = σ.length by rw [hσ1]; simp] at this
      rw [← hσ1, ← k3, ← hF]
      clear k3 hσ1 hja hj h2 h3 h4 hN2 c hp hF σ
      have htk : List.take ((l.length - at_) * 2) (List.drop (off + at_ * 2) c1) = flatE (l.drop at_) := by
        rw [← flatE_drop, ← hdr, List.drop_take, List.drop_drop, ← Nat.sub_mul]
      have htk0 : List.take (at_ * 2) (List.drop off c1) = flatE (l.take at_) := by
        rw [← flatE_take, ← hdr, List.take_take, show min (at_ * 2) (l.length * 2) = at_ * 2 by omega]
      have hmin : min (l.length + 1 - at_) (l.length - at_) = l.length - at_ := by omega
      have hmin2 : min ((l.length - at_) * 2) ((l.length + 1 - at_) * 2) = (l.length - at_) * 2 := by omega
      have hmin1 : min 1 (l.length + 1 - at_) = 1 := by omega
      have htk3 : List.take ((l.length - at_) * 2) (flatE (l.drop at_)) = flatE (l.drop at_) := List.take_of_length_le (by simp)
      have hadd : at_ + (l.length + 1 - at_) = l.length + 1 := by omega
      have htk2 : List.take ((l.length - at_) * 2) (List.take ((l.length + 1 - at_) * 2) (List.drop (off + at_ * 2) c1)) = flatE (l.drop at_) := by rw [List.take_take, hmin2, htk]
      by_cases hg : N < l.length + 1
      · have k5 : ∀ X, (σ1 ++ X)[j]? = some ⟨cE m, 0, false, false⟩ := fun X => by rw [List.getElem?_append_left (lt_of_get k2)]; exact k2
        have k6 : ∀ X, (σ1 ++ X)[i]? = some ⟨c1, g, false, true⟩ := fun X => by rw [List.getElem?_append_left (lt_of_get k1)]; exact k1
        have hbig : ¬ (l.length + 1) * 2 ≤ N * 2 := by omega
        have hwl : (wr (flatE (List.take at_ l) ++ zerosA [AV.sc (Value.int IntKind.i64 0), AV.sc (Value.int IntKind.i64 0)] ((l.length + 1 - at_) * 2)) (at_ * 2) (cE m)).length = (l.length + 1) * 2 := by
          rw [wr_length _ _ _ (by simp; omega)]; simp; omega
        have hfit2 : (at_ + 1) * 2 + (l.length - at_) * 2 ≤ (l.length + 1) * 2 := by omega
        refine go1 [40] [] (cns Try.results43 trivial) ?_
        have hw := wr_fill (flatE (List.take at_ l)) (zerosA [AV.sc (Value.int IntKind.i64 0), AV.sc (Value.int IntKind.i64 0)] ((l.length + 1 - at_) * 2)) (cE m) (flatE (l.drop at_)) (at_ * 2) 2 (by simp; omega) rfl (by simp; omega)
        rw [← Nat.succ_mul] at hw
        rw [show ∀ X, wr X ((at_ + 1) * 2) = wr X (at_.succ * 2) from fun _ => rfl, hw]
        refine fr_out hF2 (rowFr_new k4 (by simp; omega) ?_)
        rw [List.take_of_length_le (by simp; omega), flatE_append, ← hm1, List.append_assoc, ← flatE_append]
        rfl
      · have hc1 : c1 ≠ [] := by rintro rfl; simp at hcl; omega
        have k7 : ∀ X, (σ1.set i X)[i]? = some X := fun X => List.getElem?_set_self (lt_of_get k1)
        have k8 : ∀ X, (σ1.set i X)[j]? = some ⟨cE m, 0, false, false⟩ := fun X => by rw [List.getElem?_set_ne hij]; exact k2
        have hwl : (wr c1 (off + (at_ + 1) * 2) (flatE (List.drop at_ l))).length = off + N * 2 := by rw [wr_length _ _ _ (by simp; omega)]; exact hcl
        repeat' (first
         | (with_reducible first | refine Stp.pf ?_ | refine block_x (by decide) ?_ | refine ret_n ?_)
         | refine tri_reg [40] ?_ | refine tri_regc [40] [] mixed (by decide +kernel) ?_
         | (refine rwf_nilt rfl (by decide +kernel) fun B hB => ?_; (try simp [*]); refine hB.out _ fun b => ?_; clear hB B)
         | (refine rwf_ext rfl fun G hG => ?_; (try simp [*, -List.all_eq_true, Try.results43]); refine hG.out _ _ (ovlI_spec k2 k1 (Ne.symm hij) hc1) ?_; clear hG G)
         | (refine Rul.pf ⟨rfl, rfl⟩ fun B C hB => ?_; (try simp [*, -List.all_eq_true, Try.results43]); (try (simp (disch := first | assumption | omega) only [wc, ite_yes]; (try simp [*, -List.all_eq_true, Try.results43]))); first | (first | refine hB.out.1 _ (fun hb => ?_) fun hb => ⟨rfl, ?_⟩ | refine hB.out.1 _ (fun hb => ?_) fun hb => ?_) <;> clear hB C B <;> (try simp only [Bool.not_true, Bool.not_false] at hb) <;> (first | (exfalso; simp at hb; done) | (exfalso; simp at hb; omega) | (rw [hb]; (try simp at hb)) | (try simp at hb)) | ((first | refine hB.out.1 _ _ ?_ | refine hB.out.1 _ ?_ | refine hB.out.2 ⟨rfl, ?_⟩); clear hB C B) | (refine hB.out.2 _ ?_; clear hB C B; (try rfl)))
         | refine rwf_o ?_ | refine rwc_o .n rfl ?_ | refine rwc_o .z rfl ?_ | refine rwc_o .w rfl ?_ | refine rwc_o .b rfl ?_ | refine rwc_o _ rfl ?_)
        have hw := wr_shift c1 (cE m) (flatE (l.drop at_)) off (at_ * 2) 2 ((l.length - at_) * 2) rfl (by simp) (by omega)
        rw [← Nat.succ_mul] at hw
        refine fr_out hF2 (rowFr_set h1 (lt_of_get k1) ?_ ?_)
        · rw [wr_length _ _ _ (by rw [hwl]; simp; omega), hwl]; omega
        · rw [show (l.length + 1) * 2 = at_.succ * 2 + (l.length - at_) * 2 by omega]
          refine hw.trans ?_
          rw [htk0, flatE_append, ← hm1, List.append_assoc, ← flatE_append]
          rfl
theorem wr_pre (c : List AV) (off n : Nat) (ys : List AV) (h : off + n + ys.length ≤ c.length) : ((wr c (off + n) ys).drop off).take n = (c.drop off).take n := by
  have := congrArg (List.take n) (wr_end c off n ys h)
  rw [List.take_take, Nat.min_eq_left (by omega), List.take_append_of_le_length (by simp; omega), List.take_take, Nat.min_self] at this
  exact this
set_option maxHeartbeats 1000000 in
/-- slices.Delete of one item. -/
theorem delI_spec (l : List Ext) (hl : l.length ≤ 1000000) (at_ : Nat) (ha : at_ < l.length) (σ : Sto) (i g off : Nat) (c : List AV) (u : Bool) (h1 : σ[i]? = some ⟨c, g, false, u⟩) (h2 : off + l.length * 2 ≤ c.length) (h3 : (c.drop off).take (l.length * 2) = flatE l) :
    Spec Try.prog 42 [.ms i g off l.length 2, .sc (.int .i64 at_), .sc (.int .i64 (at_ + 1 : Nat))] σ (fun r s => ∃ c', r = .ms i g off (l.length - 1) 2 ∧ s = σ.set i ⟨c', g, false, false⟩ ∧ off + (l.length - 1) * 2 ≤ c'.length ∧ (c'.drop off).take ((l.length - 1) * 2) = flatE (l.take at_ ++ l.drop (at_ + 1))) := by
  obtain ⟨b, hb1⟩ : ∃ b, at_ + 1 = b := ⟨_, rfl⟩
  obtain ⟨e, he⟩ : ∃ e, l.length = e + 1 := ⟨l.length - 1, by omega⟩
  have t0 : (c.drop off).take (at_ * 2) = flatE (l.take at_) := by
    rw [← flatE_take, ← h3, List.take_take, Nat.min_eq_left (by omega)]
  have t1 : List.take ((l.length - b) * 2) (List.drop (off + b * 2) c) = flatE (l.drop b) := by
    rw [← flatE_drop, ← h3, List.drop_take, List.drop_drop, ← Nat.sub_mul]
  have hD : (flatE (l.drop b)).length = (l.length - b) * 2 := by simp
  have w0 := wr_length c (off + at_ * 2) (flatE (l.drop b)) (by rw [hD]; omega)
  have w1 := wr_end c off (at_ * 2) (flatE (l.drop b)) (by rw [hD]; omega)
  rw [t0, hD, ← flatE_append, show at_ * 2 + (l.length - b) * 2 = (l.length - 1) * 2 by omega] at w1
  have hone : (flatE (l.drop b)).all AV.one = true := by simp
  rw [hb1]
  have hbe : b ≤ l.length := by omega
  have hae : at_ + (l.length - b) = e := by omega
  have hin : off + e * 2 + 2 ≤ c.length := by omega
  have hin2 : off + (e + 1) * 2 ≤ c.length := by omega
  have hsz : e * 16 ≤ 140737488355328 := by omega
  rw [he] at hl h2 hbe hae hD w1 t1 ha ⊢
  have e0 : e + 1 - 1 = e := rfl
  rw [e0] at *
  generalize flatE (l.take at_ ++ l.drop b) = R at *
  generalize flatE (l.drop b) = D at *
  clear h3 he t0 e0 h2
  generalize hn1 : e + 1 = n1 at *
  rw [show n1 - 1 = e by omega] at w1
  have hab : ¬ at_ = b := by omega
  have hen : ¬ e = n1 := by omega
  have hen2 : n1 - e = 1 := by omega
  have hbp : 0 < b := by omega
  have hat : off + at_ * 2 ≤ c.length := by omega
  refine spec_intro Try.func42 good42 rfl (by simp [Try.ntmps42]) ?_
  rcases Nat.eq_or_lt_of_le hbe with hbn | hbn
  · have hD0 : D = [] := List.length_eq_zero_iff.1 (by rw [hD]; omega)
    subst hD0
    have hae2 : at_ = e := by omega
    subst hae2
    have hR : List.take (at_ * 2) (List.drop off c) = R := by
      rw [← w1, wr_pre _ _ _ _ (by simp; omega)]
    replace w1 := Lib.hid w1
    refine go1 [26] [] (cns Try.results42 trivial) ?_
    refine ⟨_, rfl, rfl, by rw [wr_length _ _ _ (by simp; omega)]; omega, ?_⟩
    rw [wr_pre _ _ _ _ (by simp; omega)]
    exact hR
  · have hbn2 : ¬ b = n1 := by omega
    replace w1 := Lib.hid w1
    refine go1 [26] [] (cns Try.results42 trivial) ?_
    refine ⟨_, rfl, rfl, by rw [wr_length _ _ _ (by rw [w0]; simp; omega), w0]; omega, ?_⟩
    rw [wr_pre _ _ _ _ (by rw [w0]; simp; omega)]
    exact w1.out
end Go.Proofs.Ytgdefllblcmgpaa
