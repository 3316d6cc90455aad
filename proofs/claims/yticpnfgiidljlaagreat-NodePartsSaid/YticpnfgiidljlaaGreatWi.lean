/- slices.Insert of one message. -/
import Derived.Test.YticpnfgiidljlaaGreatWap
import Derived.Test.YticpnfgiidljlaaGreatLw
import Derived.Lib.Overlaps
import Derived.Laws.Externs
namespace Go.Proofs.YticpnfgiidljlaaGreat
open Go.RowKit
set_option linter.unusedSimpArgs false
set_option maxRecDepth 10000
/-- A row of the store, or nil. -/
def RowAt (k p : Nat) (σ : Sto) (v : AV) (n : Nat) (cs : List AV) : Prop :=
  (v = .sc (.slice none 0 0) ∧ n = 0 ∧ cs = []) ∨ ∃ i g off c, v = .ms i g off n k ∧ i ≠ p ∧ σ[i]? = some ⟨c, g, false, false⟩ ∧ off + n * k ≤ c.length ∧ (c.drop off).take (n * k) = cs
theorem RowAt.append {k p : Nat} {σ : Sto} {v : AV} {n : Nat} {cs : List AV} (h : RowAt k p σ v n cs) (X : Sto) : RowAt k p (σ ++ X) v n cs := by
  rcases h with h | ⟨i, g, off, c, h1, h2, h3, h4⟩
  · exact .inl h
  · exact .inr ⟨i, g, off, c, h1, h2, by rw [List.getElem?_append_left (lt_of_get h3)]; exact h3, h4⟩
theorem RowAt.fresh {k p : Nat} {σ : Sto} {v : AV} {n : Nat} {cs : List AV} (h : RowAt k p σ v n cs) (g off n' k' : Nat) : v ≠ .ms σ.length g off n' k' := by
  rcases h with ⟨rfl, _⟩ | ⟨i, g', off', c, rfl, h2, h3, h4⟩
  · simp
  · have := lt_of_get h3
    intro e
    cases e
    omega
theorem ovl_spec {σ : Sto} {l l' g g' off off' len len' k k' : Nat} {c c' : List AV} {u u' : Bool} (h1 : σ[l]? = some ⟨c, g, false, u⟩) (h2 : σ[l']? = some ⟨c', g', false, u'⟩) (hne : l ≠ l') (hc : c' ≠ []) : ESpec Tryz.prog 160 [.ms l g off len k, .ms l' g' off' len' k'] σ (.sc (.bool false)) := by
  intro w Im T A hW hR
  obtain ⟨va, ha, hra⟩ := hR.get (i := 0) (x := .ms l g off len k) rfl
  obtain ⟨vb, hb, hrb⟩ := hR.get (i := 1) (x := .ms l' g' off' len' k') rfl
  have hA : A = #[va, vb] := by
    apply Array.ext'
    have h3 := hR.1
    match A.toList, h3, ha, hb with
    | [x, y], _, ha, hb => simp at ha hb; subst ha hb; rfl
  subst hA
  refine ⟨.bool false, ?_, .sc _⟩
  cases hra with
  | ms a _ _ _ _ _ cap p hp hge hlc hsp hpl =>
    cases hrb with
    | ms b _ _ _ _ _ cap' p' hp' hge' hlc' hsp' hpl' =>
      have e1 := hW.gen l _ p h1 hp
      have e2 := hW.gen l' _ p' h2 hp'
      obtain ⟨rfl, _⟩ := hpl e1.symm
      obtain ⟨rfl, _⟩ := hpl' e2.symm
      obtain ⟨q1, t1, f1, b1, b2, b3, _⟩ := (hW.obj l _ p h1 hp).cells rfl
      obtain ⟨q2, t2, f2, d1, d2, d3, _⟩ := (hW.obj l' _ p' h2 hp').cells rfl
      obtain rfl := b2 rfl
      obtain rfl := d2 rfl
      have hroom := hW.room l' _ p' h2 hp'
      have hblk := hW.inj l l' _ _ p p' h1 hp h2 hp' hne rfl rfl
      have hl : c'.length ≠ 0 := fun e => hc (List.length_eq_zero_iff.1 e)
      rw [run_callFunc_extern Tryz.func160 (by kernel_rfl) (by kernel_rfl) (by kernel_rfl) (e := Extern.SlicesOverlaps.overlaps #[25, 25] #[4]) (by kernel_rfl),
        Lib.run_overlaps_apart w 25 4 73 Tryz.underlying25 3 (fun _ => by kernel_rfl) _ _ len cap len' cap' hblk t1 t2 q1.size q2.size (by simp [World.shape?, b1]) (by simp [World.shape?, d1]) (by simp at hroom; omega) (by simp [World.frozen?, b1]) (by simp [World.frozen?, b1])]
      rfl
theorem clone_row (l : List Msg) (hl : l.length ≤ 1000000) (σ : Sto) : Spec Tryz.prog 103 [.fs (flatM l) l.length] σ (fun r s => RowAt 3 s.length s r l.length (flatM l)) := by
  cases l with
  | nil =>
    refine spec_intro Tryz.func103 good103 rfl (by simp [Tryz.ntmps103]) ?_
    repeat' (first
     | (with_reducible first | refine Stp.pf ?_ | refine block_x (by decide) ?_ | refine ret_n ?_)
     | refine tri_reg [5,7] ?_ | refine tri_regc [5,7] [] mixed (by decide +kernel) ?_
     | (refine rwf_nilt rfl (by decide +kernel) fun B hB => ?_; (try simp [*]); refine hB.out _ fun b => ?_; clear hB B)
     | (refine Rul.pf ⟨rfl, rfl⟩ fun B C hB => ?_; (try simp [*, -List.all_eq_true, flatM, flatC, Tryz.results103]); (try (simp (disch := first | assumption | omega) only [wc, ite_yes]; (try simp [*, -List.all_eq_true, flatM, flatC, Tryz.results103]))); first | (first | refine hB.out.1 _ (fun hb => ?_) fun hb => ⟨rfl, ?_⟩ | refine hB.out.1 _ (fun hb => ?_) fun hb => ?_) <;> clear hB C B <;> (try simp only [Bool.not_true, Bool.not_false] at hb) <;> (first | (exfalso; simp at hb; done) | (exfalso; simp at hb; omega) | (rw [hb]; (try simp at hb)) | (try simp at hb)) | ((first | refine hB.out.1 _ _ ?_ | refine hB.out.1 _ ?_ | refine hB.out.2 ⟨rfl, ?_⟩); clear hB C B) | (refine hB.out.2 _ ?_; clear hB C B; (try rfl)))
     | refine rwf_o ?_ | refine rwc_o .n rfl ?_ | refine rwc_o .z rfl ?_ | refine rwc_o .w rfl ?_ | refine rwc_o .b rfl ?_ | refine rwc_o _ rfl ?_)
    · exact .inl ⟨rfl, rfl, rfl⟩
    · exact .inr ⟨σ.length, 0, 0, [], rfl, by simp, by simp, by simp, rfl⟩
  | cons m l =>
    simp at hl
    refine spec_intro Tryz.func103 good103 rfl (by simp [Tryz.ntmps103]) ?_
    refine go1 [5,7] [] (cns Tryz.results103 trivial) ?_
    exact .inr ⟨σ.length, 1, 0, flatM (m :: l), rfl, by simp, by simp, by simp, by simp [List.take_of_length_le]⟩
theorem bList_row (l : List Msg) (hl : l.length ≤ 1000000) (σ : Sto) : Spec Tryz.prog 55 [.fp (cB l) 0] σ (fun r s => RowAt 3 s.length s r l.length (flatM l)) := by
  refine spec_intro Tryz.func55 good55 rfl (by simp [Tryz.ntmps55]) ?_
  refine go1 [] [] (cns Tryz.results55 (cns cB.eq_1 trivial)) ?_
  refine rwf_ca rfl fun C' hC hP => ?_
  simp
  refine hC.out _ _ _ (clone_row l hl _) fun r s hq => ?_
  clear hC hP C'
  refine go1 [] [] (cns Tryz.results55 (cns cB.eq_1 trivial)) ?_
  exact hq
theorem wr_end (c : List AV) (off n : Nat) (ys : List AV) (h : off + n + ys.length ≤ c.length) : ((wr c (off + n) ys).drop off).take (n + ys.length) = (c.drop off).take n ++ ys := by
  rw [wr_eq _ _ _ h, List.append_assoc, List.drop_append_of_le_length (by simp; omega), List.drop_take, ← List.append_assoc]
  rw [show off + n - off = n by omega]
  exact List.take_left' (by simp; omega)
theorem wr_fill (A Z B C : List AV) (a b : Nat) (ha : A.length = a) (hb : B.length = b) (hz : Z.length = b + C.length) : wr (wr (A ++ Z) a B) (a + b) C = A ++ B ++ C := by
  subst ha hb
  have h1 : wr (A ++ Z) A.length B = A ++ B ++ Z.drop B.length := by
    rw [wr_eq _ _ _ (by simp; omega), List.take_left' rfl, List.drop_append]
    simp
  rw [h1, wr_eq _ _ _ (by simp; omega), List.take_left' (by simp), List.drop_eq_nil_of_le (by simp; omega), List.append_nil]
theorem wr_shift (c B D : List AV) (off a b d : Nat) (hb : B.length = b) (hd : D.length = d) (h : off + a + b + d ≤ c.length) : ((wr (wr c (off + (a + b)) D) (off + a) B).drop off).take (a + b + d) = (c.drop off).take a ++ B ++ D := by
  subst hb hd
  have h1 : wr c (off + (a + B.length)) D = c.take (off + (a + B.length)) ++ (D ++ c.drop (off + (a + B.length) + D.length)) := by rw [wr_eq _ _ _ (by omega), List.append_assoc]
  have hl : (c.take (off + (a + B.length))).length = off + (a + B.length) := by simp; omega
  have h2 : (wr c (off + (a + B.length)) D).take (off + a) = c.take (off + a) := by
    rw [h1, List.take_append_of_le_length (by omega), List.take_take, show min (off + a) (off + (a + B.length)) = off + a by omega]
  have h3 : (wr c (off + (a + B.length)) D).drop (off + a + B.length) = D ++ c.drop (off + (a + B.length) + D.length) := by
    rw [h1]; exact List.drop_left' (by omega)
  have h4 : (c.take (off + a)).drop off = (c.drop off).take a := by rw [List.drop_take, show off + a - off = a by omega]
  rw [wr_eq _ _ _ (by rw [wr_length _ _ _ (by omega)]; omega), h2, h3, List.append_assoc, List.drop_append_of_le_length (by simp; omega), h4, ← List.append_assoc, ← List.append_assoc]
  exact List.take_left' (by simp; omega)
theorem rowAt_set {k p : Nat} {σ : Sto} {i g off n : Nat} {c cs : List AV} (h1 : i ≠ p) (hi : i < σ.length) (h2 : off + n * k ≤ c.length) (h3 : (c.drop off).take (n * k) = cs) : RowAt k p (σ.set i ⟨c, g, false, false⟩) (.ms i g off n k) n cs ∧ (σ.set i ⟨c, g, false, false⟩)[p]? = σ[p]? :=
  ⟨.inr ⟨i, g, off, c, rfl, h1, List.getElem?_set_self hi, h2, h3⟩, List.getElem?_set_ne h1⟩
theorem rowAt_new {k p : Nat} {σ : Sto} {n : Nat} {c cs : List AV} (hp : p < σ.length) (h2 : n * k ≤ c.length) (h3 : c.take (n * k) = cs) : RowAt k p (σ ++ [⟨c, 0, false, false⟩]) (.ms σ.length 0 0 n k) n cs ∧ (σ ++ [⟨c, 0, false, false⟩])[p]? = σ[p]? :=
  ⟨.inr ⟨σ.length, 0, 0, c, rfl, by omega, by simp, by omega, h3⟩, List.getElem?_append_left hp⟩
set_option maxHeartbeats 4000000 in
/-- slices.Insert: one message, at a place. -/
theorem insM_spec (l : List Msg) (hl : l.length ≤ 1000000) (m : Msg) (at_ : Nat) (ha : at_ ≤ l.length) (σ : Sto) (v : AV) (p j : Nat) (hp : p < σ.length) (hv : RowAt 3 p σ v l.length (flatM l)) (hj : σ[j]? = some ⟨cM m, 0, false, false⟩) (hne : ∀ g off n k, v ≠ .ms j g off n k) :
    Spec Tryz.prog 140 [v, .sc (.int .i64 at_), .ms j 0 0 1 3] σ (fun r s => RowAt 3 p s r (l.length + 1) (flatM (l.take at_ ++ m :: l.drop at_)) ∧ s[p]? = σ[p]?) := by
  have hja : ∀ X, (σ ++ X)[j]? = some ⟨cM m, 0, false, false⟩ := fun X => by rw [List.getElem?_append_left (lt_of_get hj)]; exact hj
  have hjc : List.take 3 (cM m) = cM m := rfl
  have hm1 : flatM [m] = cM m := by simp [flatM, flatC]
  rcases hv with ⟨rfl, h1, h2⟩ | ⟨i, g, off, c, rfl, h1, h2, h3, h4⟩
  · have : l = [] := List.length_eq_zero_iff.1 h1
    subst this
    have h0 : at_ = 0 := by simpa using ha
    subst h0
    refine spec_intro Tryz.func140 good140 rfl (by simp [Tryz.ntmps140]) ?_
    refine go1 [25] [] (cns Tryz.results140 trivial) ?_
    exact rowAt_new hp (by simp) (by simp [hjc, hm1])
  · have hij : i ≠ j := fun e => hne g off l.length 3 (by rw [e])
    have hi : i < σ.length := lt_of_get h2
    clear hne
    by_cases hat : at_ = l.length
    · refine spec_intro Tryz.func140 good140 rfl (by simp [Tryz.ntmps140]) ?_
      subst hat
      clear hi ha
      rw [show l.take l.length ++ m :: l.drop l.length = l ++ [m] by simp, flatM_append, hm1]
      by_cases hfit : off + (l.length + 1) * 3 ≤ c.length
      · have fin : RowAt 3 p (σ.set i ⟨wr c (off + l.length * 3) (cM m), g, false, false⟩) (.ms i g off (l.length + 1) 3) (l.length + 1) (flatM l ++ cM m) ∧ (σ.set i ⟨wr c (off + l.length * 3) (cM m), g, false, false⟩)[p]? = σ[p]? := by
          refine rowAt_set h1 (lt_of_get h2) (by rw [wr_length _ _ _ (by simp; omega)]; omega) ?_
          rw [← h4]
          have := wr_end c off (l.length * 3) (cM m) (by simp; omega)
          rw [cM_length, ← Nat.succ_mul] at this
          exact this
        rcases Nat.eq_zero_or_pos l.length with hn | hn
        · obtain rfl := List.length_eq_zero_iff.1 hn
          simp at hfit h3
          refine go1 [25] [] (cns Tryz.results140 trivial) ?_
          simpa using fin
        · skip
          refine go1 [25] [] (cns Tryz.results140 trivial) ?_
          exact fin
      · rcases Nat.eq_zero_or_pos l.length with hn | hn
        · obtain rfl := List.length_eq_zero_iff.1 hn
          have hfit : ¬ off + 3 ≤ c.length := by simpa using hfit
          refine go1 [25] [] (cns Tryz.results140 trivial) ?_
          exact rowAt_set h1 (lt_of_get h2) (by simp) (by simp [hjc, flatM, flatC])
        · skip
          refine go1 [25] [] (cns Tryz.results140 trivial) ?_
          exact rowAt_set h1 (lt_of_get h2) (by simp; omega) (List.take_of_length_le (by simp; omega))
    · have hlt : at_ < l.length := by omega
      have hne1 : ¬ at_ = l.length + 1 := by omega
      have hne2 : ¬ (at_ : Int) = (l.length : Nat) := by omega
      refine spec_intro Tryz.func140 good140 rfl (by simp [Tryz.ntmps140]) ?_
      clear hi
      refine go1 [40] [] (cns Tryz.results140 trivial) ?_
      refine rwf_cap rfl (by decide +kernel) fun G hG => ?_
      simp
      refine hG.out _ _ _ _ _ _ h2 rfl rfl rfl fun N hN1 hN2 => ?_
      clear hG G
      have hdr : ((c ++ List.replicate (off + N * 3 - c.length) AV.top).drop off).take (l.length * 3) = flatM l := by
        rw [List.drop_append_of_le_length (by omega), List.take_append_of_le_length (by simp; omega)]
        exact h4
      have hcl : (c ++ List.replicate (off + N * 3 - c.length) AV.top).length = off + N * 3 := by simp; simp at hN2; omega
      simp only at hN2 ⊢
      generalize c ++ List.replicate (off + N * 3 - c.length) AV.top = c1 at hdr hcl ⊢
      obtain ⟨σ1, hσ1⟩ : ∃ σ1, σ1 = σ.set i ⟨c1, g, false, true⟩ := ⟨_, rfl⟩
      have k1 : σ1[i]? = some ⟨c1, g, false, true⟩ := by rw [hσ1]; exact List.getElem?_set_self (lt_of_get h2)
      have k2 : σ1[j]? = some ⟨cM m, 0, false, false⟩ := by rw [hσ1, List.getElem?_set_ne hij]; exact hj
      have k3 : σ1[p]? = σ[p]? := by rw [hσ1, List.getElem?_set_ne h1]
      have k4 : p < σ1.length := by rw [hσ1]; simpa using hp
      rw [← hσ1, ← k3]
      clear k3 hσ1 hja hj h2 h3 h4 hN2 c hp σ
      have htk : List.take ((l.length - at_) * 3) (List.drop (off + at_ * 3) c1) = flatM (l.drop at_) := by
        rw [← flatM_drop, ← hdr, List.drop_take, List.drop_drop, ← Nat.sub_mul]
      have htk0 : List.take (at_ * 3) (List.drop off c1) = flatM (l.take at_) := by
        rw [← flatM_take, ← hdr, List.take_take, show min (at_ * 3) (l.length * 3) = at_ * 3 by omega]
      have hmin : min (l.length + 1 - at_) (l.length - at_) = l.length - at_ := by omega
      have hmin2 : min ((l.length - at_) * 3) ((l.length + 1 - at_) * 3) = (l.length - at_) * 3 := by omega
      have hmin1 : min 1 (l.length + 1 - at_) = 1 := by omega
      have htk3 : List.take ((l.length - at_) * 3) (flatM (l.drop at_)) = flatM (l.drop at_) := List.take_of_length_le (by simp)
      have hadd : at_ + (l.length + 1 - at_) = l.length + 1 := by omega
      have htk2 : List.take ((l.length - at_) * 3) (List.take ((l.length + 1 - at_) * 3) (List.drop (off + at_ * 3) c1)) = flatM (l.drop at_) := by rw [List.take_take, hmin2, htk]
      by_cases hg : N < l.length + 1
      · have k5 : ∀ X, (σ1 ++ X)[j]? = some ⟨cM m, 0, false, false⟩ := fun X => by rw [List.getElem?_append_left (lt_of_get k2)]; exact k2
        have k6 : ∀ X, (σ1 ++ X)[i]? = some ⟨c1, g, false, true⟩ := fun X => by rw [List.getElem?_append_left (lt_of_get k1)]; exact k1
        have hbig : ¬ (l.length + 1) * 3 ≤ N * 3 := by omega
        have hwl : (wr (flatM (List.take at_ l) ++ zerosA [AV.sc (Value.int IntKind.i64 0), AV.sc (Value.string { data := #[] }), AV.sc (Value.string { data := #[] })] ((l.length + 1 - at_) * 3)) (at_ * 3) (cM m)).length = (l.length + 1) * 3 := by
          rw [wr_length _ _ _ (by simp; omega)]; simp; omega
        have hfit2 : (at_ + 1) * 3 + (l.length - at_) * 3 ≤ (l.length + 1) * 3 := by omega
        refine go1 [40] [] (cns Tryz.results140 trivial) ?_
        have hw := wr_fill (flatM (List.take at_ l)) (zerosA [AV.sc (Value.int IntKind.i64 0), AV.sc (Value.string { data := #[] }), AV.sc (Value.string { data := #[] })] ((l.length + 1 - at_) * 3)) (cM m) (flatM (l.drop at_)) (at_ * 3) 3 (by simp; omega) rfl (by simp; omega)
        rw [← Nat.succ_mul] at hw
        rw [show ∀ X, wr X ((at_ + 1) * 3) = wr X (at_.succ * 3) from fun _ => rfl, hw]
        refine rowAt_new k4 (by simp; omega) ?_
        rw [List.take_of_length_le (by simp; omega), flatM_append, ← hm1, List.append_assoc, ← flatM_append]
        rfl
      · have hc1 : c1 ≠ [] := by rintro rfl; simp at hcl; omega
        have k7 : ∀ X, (σ1.set i X)[i]? = some X := fun X => List.getElem?_set_self (lt_of_get k1)
        have k8 : ∀ X, (σ1.set i X)[j]? = some ⟨cM m, 0, false, false⟩ := fun X => by rw [List.getElem?_set_ne hij]; exact k2
        have hwl : (wr c1 (off + (at_ + 1) * 3) (flatM (List.drop at_ l))).length = off + N * 3 := by rw [wr_length _ _ _ (by simp; omega)]; exact hcl
        repeat' (first
         | (with_reducible first | refine Stp.pf ?_ | refine block_x (by decide) ?_ | refine ret_n ?_)
         | refine tri_reg [40] ?_ | refine tri_regc [40] [] mixed (by decide +kernel) ?_
         | (refine rwf_nilt rfl (by decide +kernel) fun B hB => ?_; (try simp [*]); refine hB.out _ fun b => ?_; clear hB B)
         | (refine rwf_ext rfl fun G hG => ?_; (try simp [*, -List.all_eq_true, Tryz.results140]); refine hG.out _ _ (ovl_spec k2 k1 (Ne.symm hij) hc1) ?_; clear hG G)
         | (refine Rul.pf ⟨rfl, rfl⟩ fun B C hB => ?_; (try simp [*, -List.all_eq_true, Tryz.results140]); (try (simp (disch := first | assumption | omega) only [wc, ite_yes]; (try simp [*, -List.all_eq_true, Tryz.results140]))); first | (first | refine hB.out.1 _ (fun hb => ?_) fun hb => ⟨rfl, ?_⟩ | refine hB.out.1 _ (fun hb => ?_) fun hb => ?_) <;> clear hB C B <;> (try simp only [Bool.not_true, Bool.not_false] at hb) <;> (first | (exfalso; simp at hb; done) | (exfalso; simp at hb; omega) | (rw [hb]; (try simp at hb)) | (try simp at hb)) | ((first | refine hB.out.1 _ _ ?_ | refine hB.out.1 _ ?_ | refine hB.out.2 ⟨rfl, ?_⟩); clear hB C B) | (refine hB.out.2 _ ?_; clear hB C B; (try rfl)))
         | refine rwf_o ?_ | refine rwc_o .n rfl ?_ | refine rwc_o .z rfl ?_ | refine rwc_o .w rfl ?_ | refine rwc_o .b rfl ?_ | refine rwc_o _ rfl ?_)
        have hw := wr_shift c1 (cM m) (flatM (l.drop at_)) off (at_ * 3) 3 ((l.length - at_) * 3) rfl (by simp) (by omega)
        rw [← Nat.succ_mul] at hw
        refine rowAt_set h1 (lt_of_get k1) ?_ ?_
        · rw [wr_length _ _ _ (by rw [hwl]; simp; omega), hwl]; omega
        · rw [show (l.length + 1) * 3 = at_.succ * 3 + (l.length - at_) * 3 by omega]
          refine hw.trans ?_
          rw [htk0, flatM_append, ← hm1, List.append_assoc, ← flatM_append]
          rfl
end Go.Proofs.YticpnfgiidljlaaGreat
