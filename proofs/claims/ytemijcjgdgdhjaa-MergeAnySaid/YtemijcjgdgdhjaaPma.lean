/- Merging some runs first, plainly. -/
import Derived.Test.YtemijcjgdgdhjaaWmi
namespace Go.Proofs.Ytemijcjgdgdhjaa
open Go.RowKit
set_option linter.unusedSimpArgs false

theorem ofBe_be (n : Nat) : ∀ w, ofBe (be n w) = n % 256 ^ w
  | 0 => by simp [be, ofBe, Nat.mod_one]
  | w + 1 => by
    have h1 : ofBe (be n (w + 1)) = (UInt8.ofNat (n / 2 ^ (8 * w))).toNat * 256 ^ (be n w).length + ofBe (be n w) := by
      have := ofBe_append [UInt8.ofNat (n / 2 ^ (8 * w))] (be n w)
      simpa [be, ofBe] using this
    have h2 : n % 256 ^ (w + 1) = n % 256 ^ w + 256 ^ w * (n / 256 ^ w % 256) := Nat.mod_pow_succ
    have h3 : (2 : Nat) ^ (8 * w) = 256 ^ w := by rw [show (256 : Nat) = 2 ^ 8 by rfl, ← Nat.pow_mul]
    rw [h1, be_length, ofBe_be n w, UInt8.toNat_ofNat', h2, h3, Nat.mul_comm, Nat.add_comm]
theorem num8_val8 (n : Nat) : num8 (val8 n) = n % 18446744073709551616 := ofBe_be n 8
theorem val8_size (n : Nat) : (val8 n).size = 8 := by simp [val8, be_length, ByteArray.size]
theorem sumS_assoc {a b c : Str} (hb : b.size = 8) (hc : c.size = 8) : sumS (sumS a b) c = sumS a (sumS b c) := by
  by_cases ha : a.size = 8
  · simp only [sumS, ha, hb, hc, val8_size, and_self, if_true, num8_val8]
    congr 1
    omega
  · simp [sumS, ha]
theorem isMsg_kind {m : Msg} (h : isMsg m = true) : m.kind = 1 ∨ m.kind = 2 ∨ m.kind = 3 ∧ m.val.size = 8 := by
  unfold isMsg at h
  simp only [Bool.and_eq_true, decide_eq_true_eq] at h
  have := h.2
  omega
theorem comb_is {a b : Msg} (ha : isMsg a = true) (hb : isMsg b = true) (h : a.key = b.key) : combM a b = if b.kind ≠ 3 then b else if a.kind = 2 then ⟨1, b.key, b.val⟩ else ⟨a.kind, a.key, sumS a.val b.val⟩ := by
  unfold combM thenM
  rw [if_pos ⟨ha, hb, h⟩]
  rfl
theorem comb_assoc {a b c : Msg} (ha : isMsg a = true) (hb : isMsg b = true) (hc : isMsg c = true) (h1 : a.key = b.key) (h2 : b.key = c.key) : combM (combM a b) c = combM a (combM b c) := by
  have v1 := comb_valid ha hb h1
  have v2 := comb_valid hb hc h2
  have k1 := comb_key ha hb h1
  have k2 := comb_key hb hc h2
  rw [comb_is v1 hc (k1.trans h2), comb_is ha v2 (h1.trans (h2.trans k2.symm))]
  clear v1 v2 k1 k2
  rw [comb_is ha hb h1, comb_is hb hc h2]
  have ka := isMsg_kind ha
  have kb := isMsg_kind hb
  have kc := isMsg_kind hc
  obtain ⟨qa, ya, va⟩ := a
  obtain ⟨qb, yb, vb⟩ := b
  obtain ⟨qc, yc, vc⟩ := c
  simp only at *
  subst h1 h2
  by_cases c3 : qc = 3
  · subst c3
    have hvc : vc.size = 8 := by omega
    by_cases b3 : qb = 3
    · subst b3
      have hvb : vb.size = 8 := by omega
      by_cases a2 : qa = 2
      · subst a2; simp
      · simp [a2, sumS_assoc hvb hvc]
    · by_cases b2 : qb = 2
      · subst b2; simp
      · have hb1 : qb = 1 := by omega
        subst hb1; simp
  · simp [c3]
def cmbR (a : Msg) (o : Option Msg) : Msg := match o with
  | some b => combM a b
  | none => a
theorem fold_assoc {k : Str} {a : Msg} (ha : isMsg a = true) (hk : a.key = k) : ∀ (l : List Msg) (o : Option Msg), (∀ b, o = some b → isMsg b = true ∧ b.key = k) → (∀ x ∈ l, isMsg x = true) →
    l.foldl (stepK k) (some (cmbR a o)) = some (cmbR a (l.foldl (stepK k) o))
  | [], o, _, _ => rfl
  | m :: l, o, ho, hl => by
    have hm := hl m (by simp)
    rw [List.foldl_cons, List.foldl_cons]
    by_cases hmk : m.key = k
    · have e1 : stepK k o m = some (cmbO o m) := by unfold stepK; rw [if_pos hmk]
      have e2 : stepK k (some (cmbR a o)) m = some (cmbR a (some (cmbO o m))) := by
        unfold stepK
        rw [if_pos hmk]
        cases o with
        | none => rfl
        | some b =>
          obtain ⟨q1, q2⟩ := ho b rfl
          show some (combM (combM a b) m) = some (combM a (combM b m))
          rw [comb_assoc ha q1 hm (hk.trans q2.symm) (q2.trans hmk.symm)]
      rw [e1, e2]
      refine fold_assoc ha hk l (some (cmbO o m)) (fun b e => ?_) fun x hx => hl x (by simp [hx])
      cases e
      cases o with
      | none => exact ⟨hm, hmk⟩
      | some b =>
        obtain ⟨q1, q2⟩ := ho b rfl
        exact ⟨comb_valid q1 hm (q2.trans hmk.symm), (comb_key q1 hm (q2.trans hmk.symm)).trans hmk⟩
    · have e1 : stepK k o m = o := by unfold stepK; rw [if_neg hmk]
      have e2 : ∀ z, stepK k z m = z := fun z => by unfold stepK; rw [if_neg hmk]
      rw [e1, e2]
      exact fold_assoc ha hk l o ho fun x hx => hl x (by simp [hx])
theorem fold_ok {k : Str} : ∀ (l : List Msg) (o : Option Msg), (∀ b, o = some b → isMsg b = true ∧ b.key = k) → (∀ x ∈ l, isMsg x = true) → ∀ b, l.foldl (stepK k) o = some b → isMsg b = true ∧ b.key = k
  | [], o, ho, _, b, h => ho b h
  | m :: l, o, ho, hl, b, h => by
    have hm := hl m (by simp)
    refine fold_ok l (stepK k o m) (fun c e => ?_) (fun x hx => hl x (by simp [hx])) b h
    unfold stepK at e
    split at e
    · rename_i hmk
      cases e
      cases o with
      | none => exact ⟨hm, hmk⟩
      | some b =>
        obtain ⟨q1, q2⟩ := ho b rfl
        exact ⟨comb_valid q1 hm (q2.trans hmk.symm), (comb_key q1 hm (q2.trans hmk.symm)).trans hmk⟩
    · exact ho c e
/-- A row that rises: its fold is what it has of the key. -/
theorem fold_row {k : Str} : ∀ (F : List Msg) (o : Option Msg), F.Pairwise (fun x y => slt x.key y.key = true) → F.foldl (stepK k) o = match lookM k F with
    | some m => some (cmbO o m)
    | none => o
  | [], o, _ => rfl
  | x :: F, o, h => by
    rw [List.pairwise_cons] at h
    rw [List.foldl_cons]
    by_cases hk : x.key = k
    · have e1 : stepK k o x = some (cmbO o x) := by unfold stepK; rw [if_pos hk]
      have e2 : lookM k (x :: F) = some x := by unfold lookM; simp [hk]
      rw [e1, e2, fold_skip F _ fun y hy e => slt_ne (h.1 y hy) (hk.trans e.symm)]
    · have e1 : stepK k o x = o := by unfold stepK; rw [if_neg hk]
      have e2 : lookM k (x :: F) = lookM k F := by unfold lookM; simp [hk]
      rw [e1, e2]
      exact fold_row F o h.2
theorem foldR_good {rs : List (List Msg)} (hg : GoodQ rs) : (foldR rs).Pairwise (fun x y => slt x.key y.key = true) ∧ (∀ x ∈ foldR rs, isMsg x = true) ∧ ∀ k, lookM k (foldR rs) = rs.flatten.foldl (stepK k) none := by
  obtain ⟨f1, f2, f3⟩ := foldR_ok rs [] rise_nil (by simp) fun q hq => (hg q hq).2
  exact ⟨rise_iff.1 f1, f2, f3⟩
theorem flat_ok {rs : List (List Msg)} (hg : GoodQ rs) : ∀ x ∈ rs.flatten, isMsg x = true := fun x hx => by
  obtain ⟨q, hq, hx⟩ := List.mem_flatten.1 hx
  exact (hg q hq).2 x hx
/-- Some of them first. -/
theorem foldR_step {A B : List (List Msg)} (hA : GoodQ A) (hB : GoodQ B) : foldR (foldR A :: B) = foldR (A ++ B) := by
  obtain ⟨a1, a2, a3⟩ := foldR_good hA
  have hAB : GoodQ (A ++ B) := fun q hq => (List.mem_append.1 hq).elim (hA q) (hB q)
  have hFB : GoodQ (foldR A :: B) := fun q hq => by
    rcases List.mem_cons.1 hq with rfl | hq
    · exact ⟨a1, a2⟩
    · exact hB q hq
  obtain ⟨c1, c2, c3⟩ := foldR_good hAB
  obtain ⟨d1, d2, d3⟩ := foldR_good hFB
  refine look_ext _ _ d1 c1 fun k => ?_
  rw [c3, d3, List.flatten_cons, List.flatten_append, List.foldl_append, List.foldl_append, fold_row _ _ a1, a3]
  cases A.flatten.foldl (stepK k) none <;> rfl
theorem foldR_both {A B : List (List Msg)} (hA : GoodQ A) (hB : GoodQ B) : foldR [foldR A, foldR B] = foldR (A ++ B) := by
  obtain ⟨a1, a2, a3⟩ := foldR_good hA
  obtain ⟨b1, b2, b3⟩ := foldR_good hB
  have hAB : GoodQ (A ++ B) := fun q hq => (List.mem_append.1 hq).elim (hA q) (hB q)
  have hFB : GoodQ [foldR A, foldR B] := fun q hq => by
    simp at hq
    rcases hq with rfl | rfl
    · exact ⟨a1, a2⟩
    · exact ⟨b1, b2⟩
  obtain ⟨c1, c2, c3⟩ := foldR_good hAB
  obtain ⟨d1, d2, d3⟩ := foldR_good hFB
  refine look_ext _ _ d1 c1 fun k => ?_
  rw [c3, d3]
  simp only [List.flatten_cons, List.flatten_nil, List.append_nil, List.flatten_append, List.foldl_append]
  rw [fold_row _ _ a1, a3, fold_row _ _ b1, b3]
  cases hA' : A.flatten.foldl (stepK k) none with
  | none => simp only; cases B.flatten.foldl (stepK k) none <;> rfl
  | some a =>
    obtain ⟨q1, q2⟩ := fold_ok A.flatten none (fun b e => by cases e) (flat_ok hA) a hA'
    have := fold_assoc q1 q2 B.flatten none (fun b e => by cases e) (flat_ok hB)
    rw [show cmbR a none = a from rfl] at this
    rw [this]
    cases B.flatten.foldl (stepK k) none <;> rfl
theorem good_err {rs : List (List Msg)} (hg : GoodQ rs) : errU rs = 0 := by
  have h1 : allIs rs = true := by
    unfold allIs
    exact List.all_eq_true.2 fun q hq => List.all_eq_true.2 (hg q hq).2
  have h2 : allRise rs = true := by
    unfold allRise
    exact List.all_eq_true.2 fun q hq => by unfold riseB; rw [decide_eq_true_eq]; exact (hg q hq).1
  rw [errU_is, if_neg (by rw [h1]; simp), if_neg (by rw [h2]; simp)]
theorem foldR_bd {rs : List (List Msg)} (hg : GoodQ rs) (hl : rs.length ≤ 10) (hn : ∀ l ∈ rs, l.length ≤ 30) : (foldR rs).length ≤ 300 := by
  have key : ∀ (rs : List (List Msg)) (l : List Msg), Rise l → (∀ x ∈ l, isMsg x = true) → (∀ q ∈ rs, ∀ x ∈ q, isMsg x = true) → (rs.foldl withM l).length ≤ l.length + lenU rs := by
    intro rs
    induction rs with
    | nil => intro l _ _ _; simp [lenU]
    | cons q rs ih =>
      intro l hr hl hq
      obtain ⟨w1, w2, w3⟩ := withM_ok q l hr hl (hq q (by simp))
      have := ih (withM l q) w1 w2 fun r hx => hq r (by simp [hx])
      have e : lenU (q :: rs) = q.length + lenU rs := by simp [lenU]
      rw [List.foldl_cons]
      omega
  have h1 := key rs [] rise_nil (by simp) fun q hq => (hg q hq).2
  have h2 := lenU_le rs hn rs.length
  rw [List.take_length] at h2
  unfold foldR
  simp at h1
  omega
end Go.Proofs.Ytemijcjgdgdhjaa
