/- Inner nodes: Parts. -/
import Derived.Test.YticpnfgiidljlaaGreatPnp
import Derived.Test.YticpnfgiidljlaaGreatNzc
namespace Go.Proofs.YticpnfgiidljlaaGreat
open Go.RowKit
set_option linter.unusedSimpArgs false
set_option linter.unusedVariables false
/-- How many parts; where one begins; how long it is. -/
def cntP (n : Nat) : Nat := (n + 5) / 6
def fromP (n c i : Nat) : Nat := i * (n / c) + min i (n % c)
def sizeP (n c i : Nat) : Nat := if i < n % c then n / c + 1 else n / c
theorem cntP_ok {n : Nat} (h : 1 ≤ n) : 1 ≤ cntP n ∧ n ≤ 6 * cntP n ∧ cntP n ≤ n := by unfold cntP; omega
theorem fromP_succ (n c i : Nat) : fromP n c (i + 1) = fromP n c i + sizeP n c i := by
  unfold fromP sizeP
  rw [Nat.add_mul, Nat.one_mul]
  split <;> omega
theorem fromP_zero (n c : Nat) : fromP n c 0 = 0 := by simp [fromP]
theorem fromP_end {n c : Nat} (h : 1 ≤ c) : fromP n c c = n := by
  unfold fromP
  have h1 := Nat.div_add_mod n c
  have h2 := Nat.mod_lt n (show 0 < c by omega)
  rw [Nat.min_eq_right (by omega)]
  exact h1
theorem fromP_le {n c i : Nat} (h : 1 ≤ c) (hi : i ≤ c) : fromP n c i ≤ n := by
  have h1 : fromP n c i ≤ fromP n c c := by
    unfold fromP
    have := Nat.mul_le_mul_right (n / c) hi
    omega
  rw [fromP_end h] at h1
  exact h1
theorem sizeP_ok {n c i : Nat} (h : 1 ≤ c) (h1 : c ≤ n) (h2 : n ≤ 6 * c) : 1 ≤ sizeP n c i ∧ sizeP n c i ≤ 6 := by
  have q1 := Nat.div_add_mod n c
  have q2 := Nat.mod_lt n (show 0 < c by omega)
  have q3 : 1 ≤ n / c := (Nat.one_le_div_iff (by omega)).2 h1
  have q4 : n / c ≤ 6 := by
    have : n / c ≤ 6 * c / c := Nat.div_le_div_right h2
    rwa [Nat.mul_div_cancel _ (by omega)] at this
  unfold sizeP
  split
  · refine ⟨by omega, ?_⟩
    rcases (by omega : n / c ≤ 5 ∨ n / c = 6) with q | q
    · omega
    · rw [q] at q1; omega
  · omega
theorem fromP_pos {n c i : Nat} (h : 1 ≤ c) (h1 : c ≤ n) (hi : 1 ≤ i) : 1 ≤ fromP n c i := by
  have q3 : 1 ≤ n / c := (Nat.one_le_div_iff (by omega)).2 h1
  have := Nat.mul_le_mul hi q3
  unfold fromP
  omega
abbrev IV := List Int × List Str × List Msg
def pieceT (k : List Int) (p : List Str) (m : List Msg) (f s : Nat) : IV := ((k.drop f).take s, (p.drop f).take (s - 1), takeM m (loP p f) (hiP p (f + s)) true)
def partT (k : List Int) (p : List Str) (m : List Msg) (i : Nat) : IV := pieceT k p m (fromP k.length (cntP k.length) i) (sizeP k.length (cntP k.length) i)
def partsT (k : List Int) (p : List Str) (m : List Msg) (n : Nat) : List IV := (List.range n).map (partT k p m)
def betT (k : List Int) (p : List Str) (n : Nat) : List Str := (List.range n).map fun i => p.getD (fromP k.length (cntP k.length) (i + 1) - 1) ⟨#[]⟩
theorem partsT_succ (k : List Int) (p : List Str) (m : List Msg) (n : Nat) : partsT k p m (n + 1) = partsT k p m n ++ [partT k p m n] := by unfold partsT; rw [List.range_succ, List.map_append]; rfl
theorem betT_succ (k : List Int) (p : List Str) (n : Nat) : betT k p (n + 1) = betT k p n ++ [p.getD (fromP k.length (cntP k.length) (n + 1) - 1) ⟨#[]⟩] := by unfold betT; rw [List.range_succ, List.map_append]; rfl
@[simp] theorem partsT_length (k : List Int) (p : List Str) (m : List Msg) (n : Nat) : (partsT k p m n).length = n := by simp [partsT]
@[simp] theorem betT_length (k : List Int) (p : List Str) (n : Nat) : (betT k p n).length = n := by simp [betT]
/-- The first kids, as many as told. -/
def firstT (k : List Int) (p : List Str) (m : List Msg) (f : Nat) : IV := (k.take f, p.take (f - 1), takeM m ⟨#[]⟩ (hiP p f) true)
theorem part_first (k : List Int) (p : List Str) (m : List Msg) : partT k p m 0 = firstT k p m (fromP k.length (cntP k.length) 1) := by
  unfold partT pieceT firstT
  rw [fromP_succ, fromP_zero, Nat.zero_add]
  simp [loP]
theorem first_all {k : List Int} {p : List Str} {m : List Msg} (hg : goodIn k p = true) (hm : ∀ x ∈ m, isMsg x = true) : firstT k p m k.length = (k, p, m) := by
  obtain ⟨g1, g2, g3, g4⟩ := goodIn_iff.1 hg
  unfold firstT
  rw [List.take_length, List.take_of_length_le (by omega)]
  have : hiP p k.length = ⟨#[]⟩ := by unfold hiP; rw [if_neg (by omega)]
  rw [this, takeM_all hm]
theorem parts_one {k : List Int} {p : List Str} {m : List Msg} (hg : goodIn k p = true) (hm : ∀ x ∈ m, isMsg x = true) (h : k.length ≤ 6) : cntP k.length = 1 ∧ partsT k p m 1 = [(k, p, m)] := by
  obtain ⟨g1, g2, g3, g4⟩ := goodIn_iff.1 hg
  have hc : cntP k.length = 1 := by unfold cntP; omega
  refine ⟨hc, ?_⟩
  have h1 : partT k p m 0 = (k, p, m) := by
    rw [part_first, hc, fromP_end (Nat.le_refl 1), first_all hg hm]
  show [partT k p m 0] = _
  rw [h1]
theorem pivot_at {k : List Int} {p : List Str} (hg : goodIn k p = true) {f : Nat} (h1 : 1 ≤ f) (h2 : f < k.length) : f - 1 < p.length ∧ hiP p f = p.getD (f - 1) ⟨#[]⟩ ∧ loP p f = p.getD (f - 1) ⟨#[]⟩ ∧ p.getD (f - 1) ⟨#[]⟩ ≠ ⟨#[]⟩ := by
  obtain ⟨g1, g2, g3, g4⟩ := goodIn_iff.1 hg
  have hl : f - 1 < p.length := by omega
  refine ⟨hl, by unfold hiP; rw [if_pos (by omega)], by unfold loP; rw [if_pos (by omega)], ?_⟩
  rw [List.getD_eq_getElem?_getD, List.getElem?_eq_getElem hl]
  exact key_pos ((riseB_iff.1 g4).1 _ (List.getElem_mem hl))
/-- The first parts with one more: one kid behind the other, messages too. -/
theorem first_join {k : List Int} {p : List Str} {m : List Msg} (hg : goodIn k p = true) (hr : Rise m) (hm : ∀ x ∈ m, isMsg x = true) {f s : Nat} (h1 : 1 ≤ f) (hs : 1 ≤ s) (h2 : f + s ≤ k.length) :
    (firstT k p m f).1 ++ (pieceT k p m f s).1 = (firstT k p m (f + s)).1 ∧ (firstT k p m f).2.1 ++ [p.getD (f - 1) ⟨#[]⟩] ++ (pieceT k p m f s).2.1 = (firstT k p m (f + s)).2.1 ∧ withM (firstT k p m f).2.2 (pieceT k p m f s).2.2 = (firstT k p m (f + s)).2.2 := by
  obtain ⟨g1, g2, g3, g4⟩ := goodIn_iff.1 hg
  obtain ⟨p1, p2, p3, p4⟩ := pivot_at hg h1 (by omega)
  refine ⟨?_, ?_, ?_⟩
  · show k.take f ++ (k.drop f).take s = k.take (f + s)
    rw [List.take_add]
  · show p.take (f - 1) ++ [p.getD (f - 1) ⟨#[]⟩] ++ (p.drop f).take (s - 1) = p.take (f + s - 1)
    have e1 : p.take (f - 1) ++ [p.getD (f - 1) ⟨#[]⟩] = p.take f := by
      rw [List.getD_eq_getElem?_getD, List.getElem?_eq_getElem p1, Option.getD_some, ← List.take_succ_eq_append_getElem p1]
      congr 1
      omega
    rw [e1, show f + s - 1 = f + (s - 1) by omega, List.take_add]
  · show withM (takeM m ⟨#[]⟩ (hiP p f) true) (takeM m (loP p f) (hiP p (f + s)) true) = takeM m ⟨#[]⟩ (hiP p (f + s)) true
    rw [p2, p3]
    refine take_join hr hm p4 ?_
    by_cases hq : f + s ≤ p.length
    · refine .inr ?_
      have hl : f + s - 1 < p.length := by omega
      unfold hiP
      rw [if_pos hq, List.getD_eq_getElem?_getD, List.getD_eq_getElem?_getD, List.getElem?_eq_getElem p1, List.getElem?_eq_getElem hl]
      exact List.pairwise_iff_getElem.1 (riseB_iff.1 g4).2 (f - 1) (f + s - 1) p1 hl (by omega)
    · refine .inl ?_
      unfold hiP
      rw [if_neg hq]
end Go.Proofs.YticpnfgiidljlaaGreat
namespace Go.Proofs.YticpnfgiidljlaaGreat
open Go.RowKit
set_option linter.unusedSimpArgs false
set_option linter.unusedVariables false
set_option maxRecDepth 10000
def cIV (x : IV) : List AV := [.fp (cIn x.1 x.2.1 x.2.2) 0]
def flatIV (l : List IV) : List AV := flatC cIV l
theorem cIV_length (x : IV) : (cIV x).length = 1 := rfl
@[simp] theorem flatIV_length (l : List IV) : (flatIV l).length = l.length := by have := flatC_length cIV_length l; rw [Nat.mul_one] at this; exact this
@[simp] theorem flatIV_flat (l : List IV) : flatL (flatIV l) = true := flatC_flat (fun x => by simp [cIV, flatL, AV.flat]) l
theorem flatIV_get (l : List IV) (k : Nat) (h : k < l.length) : (flatIV l)[k]? = some (.fp (cIn l[k].1 l[k].2.1 l[k].2.2) 0) := by have := flatC_get cIV_length l k 0 h (by omega); rw [Nat.mul_one] at this; exact this
theorem flatIV_append (l m : List IV) : flatIV (l ++ m) = flatIV l ++ flatIV m := flatC_append l m
set_option maxHeartbeats 4000000 in
theorem nParts_spec (k : List Int) (p : List Str) (m : List Msg) (hg : goodIn k p = true) (hr : Rise m) (hm : ∀ x ∈ m, isMsg x = true) (hk : k.length ≤ 9000) (hml : m.length ≤ 9000) :
    PSpec Tryz.prog 30 [.fp (cIn k p m) 0] (.tup [.fs (flatIV (partsT k p m (cntP k.length))) (cntP k.length), .fs (flatS (betT k p (cntP k.length - 1))) (cntP k.length - 1)]) := by
  obtain ⟨g1, g2, g3, g4⟩ := goodIn_iff.1 hg
  have e1 := nLen_spec k p m
  obtain ⟨c1, c2, c3⟩ := cntP_ok g1
  by_cases h6 : k.length ≤ 6
  · obtain ⟨q1, q2⟩ := parts_one hg hm h6
    rw [q1, q2]
    have : PSpec Tryz.prog 30 [.fp (cIn k p m) 0] (.tup [.fs [.fp (cIn k p m) 0] 1, .sc (.slice none 0 0)]) := by
      clear q1 q2 g3 g4 hg hr hm
      refine spec_pure (by simp) (by simp) ?_
      refine spec_intro Tryz.func30 good30 rfl (by simp [Tryz.ntmps30]) ?_
      exact go0 [] [] (cns e1 (cns Tryz.results30 trivial))
    exact pspec_wk this (.tupL (.cons (.refl _) (.cons .nil .nil)))
  · have hx : ∀ f s, 1 ≤ s → f + s ≤ k.length → PSpec Tryz.prog 77 [.fp (cIn k p m) 0, .sc (.int .i64 f), .sc (.int .i64 s)] (.fp (cIn (pieceT k p m f s).1 (pieceT k p m f s).2.1 (pieceT k p m f s).2.2) 0) := fun f s hs hf => nPiece_spec k p m hg hr hm hk hml f s hs hf
    have hpv : ∀ f, 1 ≤ f → f < k.length → (flatS p)[f - 1]? = some (.sc (.string (p.getD (f - 1) ⟨#[]⟩))) := fun f h1 h2 => by
      rw [flatS_get p (f - 1) (by omega), List.getD_eq_getElem?_getD, List.getElem?_eq_getElem (by omega)]
      rfl
    have hcn : cntP k.length = (k.length + 5) / 6 := rfl
    have hpl := flatS_length p
    have hPCf := flatS_flat p
    generalize hc : cntP k.length = c at *
    have hst := fun i => fromP_succ k.length c i
    have hfe := fun i => fromP_le (n := k.length) (i := i) c1
    have hsz := fun i => sizeP_ok (i := i) c1 c3 c2
    have hfp := fun i => fromP_pos (i := i) c1 c3
    have hf0 := fromP_zero k.length c
    have hps := fun n => partsT_succ k p m n
    have hbs := fun n => betT_succ k p n
    have hpt : ∀ n, partT k p m n = pieceT k p m (fromP k.length c n) (sizeP k.length c n) := fun n => by unfold partT; rw [hc]
    have hsd : ∀ i, sizeP k.length c i = if i < k.length % c then k.length / c + 1 else k.length / c := fun i => rfl
    rw [hc] at hbs
    replace hx := Lib.hid hx
    replace hpv := Lib.hid hpv
    replace hst := Lib.hid hst
    replace hfe := Lib.hid hfe
    replace hsz := Lib.hid hsz
    replace hfp := Lib.hid hfp
    replace hps := Lib.hid hps
    replace hbs := Lib.hid hbs
    replace hpt := Lib.hid hpt
    replace hsd := Lib.hid hsd
    replace hf0 := Lib.hid hf0
    clear hg hr hm g3 g4
    have w1 : ((k.length : Int) + 6 - 1) / 6 = (c : Int) := by omega
    clear hcn
    refine spec_pureFW (by simp) ?_
    refine spec_intro Tryz.func30 good30 rfl (by simp [Tryz.ntmps30]) ?_
    refine go1 [52,59] [] (cns e1 (cns Tryz.results30 trivial)) ?_
    refine tri_for [0, 2, 3, 4, 24] c (fun k_ e σ => e 25 = .sc (.int .i64 k_) ∧ e 7 = .sc (.int .i64 (fromP k.length c k_ : Nat)) ∧ ∃ v1 v2, e 5 = v1 ∧ e 6 = v2 ∧ Own 1 σ v1 k_ (flatIV (partsT k p m k_)) ∧ Own 1 σ v2 (k_ - 1) (flatS (betT k p (k_ - 1))) ∧ ∀ l, isH l v1 → ¬ isH l v2) ?_ (fun j env' σ' hlt hk hI => ?_) (fun env' σ' hk hI => ?_)
    · exact ⟨by simp, by rw [hf0.out]; simp, _, _, rfl, rfl, by simpa [partsT, flatIV, flatC] using Own.nil 1 _, by simpa [betT, flatS, flatC] using Own.nil 1 _, fun l h => by simp at h; exact absurd h (isH_nil l)⟩
    · skip
      (try simp at hk)
      obtain ⟨h25, h7, v1, v2, h5, h6, o1, o2, hd⟩ := hI
      have s1 := (hsz.out j).1
      have s2 := (hsz.out j).2
      have s3 := hst.out j
      have s4 := hfe.out (j + 1) (by omega)
      rw [s3] at s4 ⊢
      have s5 := hx.out _ _ s1 s4
      have s6 := hps.out j
      rw [hpt.out j] at s6
      rw [s6]
      have s7 := hsd.out j
      have s8 := hfp.out j
      have s9 : j = 0 → fromP k.length c j = 0 := fun h => by rw [h]; exact hf0.out
      have s10 := fun h h' => hpv.out (fromP k.length c j) h h'
      have s11 : 1 ≤ j → betT k p j = betT k p (j - 1) ++ [p.getD (fromP k.length c j - 1) ⟨#[]⟩] := fun h => by
        have := hbs.out (j - 1)
        rw [show j - 1 + 1 = j by omega] at this
        exact this
      clear s3 s6 hx hpv hst hfe hsz hfp hps hbs hpt hsd hf0 w1
      have w2 : (k.length : Int) / (c : Int) = ((k.length / c : Nat) : Int) := rfl
      have w3 : (k.length : Int) % (c : Int) = ((k.length % c : Nat) : Int) := rfl
      have w4 : k.length / c ≤ k.length := Nat.div_le_self _ _
      have hc0 : ¬ c = 0 := by omega
      generalize pieceT k p m (fromP k.length c j) (sizeP k.length c j) = X at *
      generalize fromP k.length c j = F at *
      generalize sizeP k.length c j = Z at *
      generalize k.length / c = D at *
      generalize k.length % c = Rm at *
      generalize partsT k p m j = PT at *
      have hz : (j < Rm ∧ Z = D + 1) ∨ (¬ j < Rm ∧ Z = D) := by
        by_cases h : j < Rm
        · exact .inl ⟨h, by rw [s7, if_pos h]⟩
        · exact .inr ⟨h, by rw [s7, if_neg h]⟩
      clear s7
      rcases Nat.eq_zero_or_pos j with hj | hj
      · have hF := s9 hj
        subst hj hF
        clear s8 s9 s10 s11
        rcases hz with ⟨hz1, rfl⟩ | ⟨hz1, rfl⟩
        · skip
          refine go1 [52,59] [] (cns e1 (cns s5 (cns Tryz.results30 trivial))) ?_
          refine rwf_app rfl rfl elem61 zero51 rfl bytes51 (by decide) slc61 fun G hG => ?_
          (try simp [*, -List.all_eq_true])
          refine hG.out _ _ _ _ _ (o1) (by simp) (by simp) (by omega) fun v1' S2 q3 q4 => ?_
          clear hG G
          obtain ⟨r1, r2⟩ := o2.frame (fun l h2 h1 => hd l h1 h2) q4
          have hdd := Lib.hid (fun l (h1 : isH l v1') (h2 : isH l v2) => r2 l h2 h1)
          clear q4 o1 o2 hd r2
          replace q3 := Lib.hid q3
          replace r1 := Lib.hid r1
          refine go1 [52,59] [] (cns Tryz.results30 trivial) ?_
          exact ⟨by simp [*], by simp [*], by simp [*], _, _, by simp, by simp [*], by simpa [flatIV_append, flatIV, flatC, cIV] using q3.out, r1.out, hdd.out⟩
        · skip
          refine go1 [52,59] [] (cns e1 (cns s5 (cns Tryz.results30 trivial))) ?_
          refine rwf_app rfl rfl elem61 zero51 rfl bytes51 (by decide) slc61 fun G hG => ?_
          (try simp [*, -List.all_eq_true])
          refine hG.out _ _ _ _ _ (o1) (by simp) (by simp) (by omega) fun v1' S2 q3 q4 => ?_
          clear hG G
          obtain ⟨r1, r2⟩ := o2.frame (fun l h2 h1 => hd l h1 h2) q4
          have hdd := Lib.hid (fun l (h1 : isH l v1') (h2 : isH l v2) => r2 l h2 h1)
          clear q4 o1 o2 hd r2
          replace q3 := Lib.hid q3
          replace r1 := Lib.hid r1
          refine go1 [52,59] [] (cns Tryz.results30 trivial) ?_
          exact ⟨by simp [*], by simp [*], by simp [*], _, _, by simp, by simp [*], by simpa [flatIV_append, flatIV, flatC, cIV] using q3.out, r1.out, hdd.out⟩
      · have hF := s8 hj
        have s12 := s10 hF (by omega)
        have s13 := s11 hj
        have hF0 : (0 : Int) < F := by omega
        have hF2 : IntKind.i64.wrap ((F : Int) - 1) = ((F - 1 : Nat) : Int) := by rw [IntKind.wrap_i64]; omega
        rw [Nat.add_sub_cancel, s13]
        clear s8 s9 s10 s11 s13
        have hj1 : (j - 1) + 1 = j := by omega
        generalize p.getD (F - 1) ⟨#[]⟩ = x at *
        generalize betT k p (j - 1) = BT at *
        rcases hz with ⟨hz1, rfl⟩ | ⟨hz1, rfl⟩
        · skip
          refine go1 [52,59] [] (cns e1 (cns Tryz.results30 (cns cIn.eq_1 trivial))) ?_
          refine rwf_app rfl rfl elem24 zero9 rfl bytes9 (by decide) slc24 fun G hG => ?_
          (try simp [*, -List.all_eq_true])
          refine hG.out _ _ _ _ _ (o2) (by simp) (by simp) (by omega) fun v2' S1 q1 q2 => ?_
          clear hG G
          obtain ⟨t1, t2⟩ := o1.frame hd q2
          clear q2 o1 o2 hd
          refine go1 [52,59] [] (cns s5 (cns Tryz.results30 trivial)) ?_
          refine rwf_app rfl rfl elem61 zero51 rfl bytes51 (by decide) slc61 fun G hG => ?_
          (try simp [*, -List.all_eq_true])
          refine hG.out _ _ _ _ _ (t1) (by simp) (by simp) (by omega) fun v1' S2 q3 q4 => ?_
          clear hG G
          obtain ⟨r1, r2⟩ := q1.frame (fun l h2 h1 => t2 l h1 h2) q4
          have hdd := Lib.hid (fun l (h1 : isH l v1') (h2 : isH l v2') => r2 l h2 h1)
          clear q4 t1 t2 q1 r2
          replace q3 := Lib.hid q3
          replace r1 := Lib.hid r1
          refine go1 [52,59] [] (cns Tryz.results30 trivial) ?_
          exact ⟨by simp [*], by simp [*], by simp [*], _, _, by simp, by simp [*], by simpa [flatIV_append, flatIV, flatC, cIV] using q3.out, by have := r1.out; rw [hj1] at this; simpa [flatS_app, flatS, flatC, cS] using this, hdd.out⟩
        · skip
          refine go1 [52,59] [] (cns e1 (cns Tryz.results30 (cns cIn.eq_1 trivial))) ?_
          refine rwf_app rfl rfl elem24 zero9 rfl bytes9 (by decide) slc24 fun G hG => ?_
          (try simp [*, -List.all_eq_true])
          refine hG.out _ _ _ _ _ (o2) (by simp) (by simp) (by omega) fun v2' S1 q1 q2 => ?_
          clear hG G
          obtain ⟨t1, t2⟩ := o1.frame hd q2
          clear q2 o1 o2 hd
          refine go1 [52,59] [] (cns s5 (cns Tryz.results30 trivial)) ?_
          refine rwf_app rfl rfl elem61 zero51 rfl bytes51 (by decide) slc61 fun G hG => ?_
          (try simp [*, -List.all_eq_true])
          refine hG.out _ _ _ _ _ (t1) (by simp) (by simp) (by omega) fun v1' S2 q3 q4 => ?_
          clear hG G
          obtain ⟨r1, r2⟩ := q1.frame (fun l h2 h1 => t2 l h1 h2) q4
          have hdd := Lib.hid (fun l (h1 : isH l v1') (h2 : isH l v2') => r2 l h2 h1)
          clear q4 t1 t2 q1 r2
          replace q3 := Lib.hid q3
          replace r1 := Lib.hid r1
          refine go1 [52,59] [] (cns Tryz.results30 trivial) ?_
          exact ⟨by simp [*], by simp [*], by simp [*], _, _, by simp, by simp [*], by simpa [flatIV_append, flatIV, flatC, cIV] using q3.out, by have := r1.out; rw [hj1] at this; simpa [flatS_app, flatS, flatC, cS] using this, hdd.out⟩
    · skip
      (try simp at hk)
      obtain ⟨h25, h7, v1, v2, h5, h6, o1, o2, hd⟩ := hI
      refine go1 [52,59] [] (cns Tryz.results30 trivial) ?_
      exact out_own2 o1 (by simp) o2 (by simp)
end Go.Proofs.YticpnfgiidljlaaGreat
