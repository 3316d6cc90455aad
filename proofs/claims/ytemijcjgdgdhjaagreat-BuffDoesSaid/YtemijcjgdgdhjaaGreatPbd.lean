/- Messages put together do what all of them do, plainly. -/
import Derived.Test.YtemijcjgdgdhjaaGreatPlk
namespace Go.Proofs.YtemijcjgdgdhjaaGreat
open Go.RowKit
set_option linter.unusedSimpArgs false
/-- A key's message. -/
def lookM (k : Str) (l : List Msg) : Option Msg := l.find? fun m => decide (m.key = k)
def cmbO (o : Option Msg) (m : Msg) : Msg := match o with
  | some x => combM x m
  | none => m
def stepK (k : Str) (o : Option Msg) (m : Msg) : Option Msg := if m.key = k then some (cmbO o m) else o
theorem lookM_none {k : Str} {l : List Msg} (h : ∀ x ∈ l, x.key ≠ k) : lookM k l = none := by
  unfold lookM
  rw [List.find?_eq_none]
  intro x hx
  simpa using h x hx
theorem look_put {k : Str} {m : Msg} (hm : isMsg m = true) : ∀ (l : List Msg), l.Pairwise (fun x y => slt x.key y.key = true) → (∀ x ∈ l, isMsg x = true) → lookM k (putL l m) = stepK k (lookM k l) m
  | [], _, _ => by
    unfold putL lookM stepK
    by_cases h : m.key = k <;> simp [h, cmbO]
  | a :: l, h, hv => by
    rw [List.pairwise_cons] at h
    have ih := look_put (k := k) hm l h.2 fun x hx => hv x (by simp [hx])
    unfold putL
    split
    · rename_i h1
      unfold lookM at *
      by_cases ha : a.key = k
      · have hmk : ¬ m.key = k := fun e => slt_ne h1 (ha.trans e.symm)
        simp [stepK, ha, hmk]
      · simp [ha, ih]
    · rename_i h1
      split
      · rename_i h2
        have hk := comb_key (hv a (by simp)) hm h2
        unfold lookM stepK
        by_cases ha : a.key = k
        · have hmk : m.key = k := h2.symm.trans ha
          simp [ha, hk, hmk, cmbO]
        · have hmk : ¬ m.key = k := fun e => ha (h2.trans e)
          simp [ha, hk, hmk]
      · rename_i h2
        unfold stepK
        by_cases hmk : m.key = k
        · have hlt : slt m.key a.key = true := by
            cases e : slt m.key a.key with
            | true => rfl
            | false => exact absurd (slt_tri (by simpa using h1) e) h2
          have hn : lookM k (a :: l) = none := lookM_none fun x hx => by
            rw [← hmk]
            rcases List.mem_cons.1 hx with rfl | hx
            · exact fun e => slt_ne hlt e.symm
            · exact fun e => slt_ne (slt_trans hlt (h.1 x hx)) e.symm
          rw [hn]
          simp [lookM, hmk, cmbO]
        · simp [lookM, hmk]
theorem look_with {k : Str} : ∀ (ms l : List Msg), Rise l → (∀ x ∈ l, isMsg x = true) → (∀ x ∈ ms, isMsg x = true) → lookM k (withM l ms) = ms.foldl (stepK k) (lookM k l)
  | [], l, _, _, _ => rfl
  | m :: ms, l, hr, hv, hms => by
    have h1 := look_put (k := k) (hms m (by simp)) l (rise_iff.1 hr) hv
    rw [← putM_eq] at h1
    have ih := look_with (k := k) ms (putM l m) (putM_rise hr hv (hms m (by simp))) (putM_valid hv (hms m (by simp))) fun x hx => hms x (by simp [hx])
    rw [List.foldl_cons, ← h1]
    exact ih
theorem fold_skip {k : Str} : ∀ (l : List Msg) (o : Option Msg), (∀ x ∈ l, x.key ≠ k) → l.foldl (stepK k) o = o
  | [], o, _ => rfl
  | x :: l, o, h => by
    rw [List.foldl_cons]
    unfold stepK
    rw [if_neg (h x (by simp))]
    exact fold_skip l o fun y hy => h y (by simp [hy])
/-- A row that rises: its fold is what it has of the key. -/
theorem fold_row {k : Str} : ∀ (F : List Msg) (o : Option Msg), F.Pairwise (fun x y => slt x.key y.key = true) → F.foldl (stepK k) o = match lookM k F with
    | some m => some (cmbO o m)
    | none => o
  | [], o, _ => rfl
  | x :: F, o, h => by
    rw [List.pairwise_cons] at h
    rw [List.foldl_cons]
    by_cases hk : x.key = k
    · have e1 : stepK k o x = some (cmbO o x) := by unfold stepK; rw [if_pos hk]
      have e2 : lookM k (x :: F) = some x := by unfold lookM; simp [hk]
      rw [e1, e2, fold_skip F _ fun y hy e => slt_ne (h.1 y hy) (hk.trans e.symm)]
    · have e1 : stepK k o x = o := by unfold stepK; rw [if_neg hk]
      have e2 : lookM k (x :: F) = lookM k F := by unfold lookM; simp [hk]
      rw [e1, e2]
      exact fold_row F o h.2
theorem ofBe_be (n : Nat) : ∀ w, ofBe (be n w) = n % 256 ^ w
  | 0 => by simp [be, ofBe, Nat.mod_one]
  | w + 1 => by
    have h1 : ofBe (be n (w + 1)) = (UInt8.ofNat (n / 2 ^ (8 * w))).toNat * 256 ^ (be n w).length + ofBe (be n w) := by
      have := ofBe_append [UInt8.ofNat (n / 2 ^ (8 * w))] (be n w)
      simpa [be, ofBe] using this
    have h2 : n % 256 ^ (w + 1) = n % 256 ^ w + 256 ^ w * (n / 256 ^ w % 256) := Nat.mod_pow_succ
    have h3 : (2 : Nat) ^ (8 * w) = 256 ^ w := by rw [show (256 : Nat) = 2 ^ 8 by rfl, ← Nat.pow_mul]
    rw [h1, be_length, ofBe_be n w, UInt8.toNat_ofNat', h2, h3, Nat.mul_comm, Nat.add_comm]
theorem num8_val8 (n : Nat) : num8 (val8 n) = n % 18446744073709551616 := ofBe_be n 8
theorem val8_size (n : Nat) : (val8 n).size = 8 := by simp [val8, be_length, ByteArray.size]
theorem sumS_assoc {a b c : Str} (hb : b.size = 8) (hc : c.size = 8) : sumS (sumS a b) c = sumS a (sumS b c) := by
  by_cases ha : a.size = 8
  · simp only [sumS, ha, hb, hc, val8_size, and_self, if_true, num8_val8]
    congr 1
    omega
  · simp [sumS, ha]
theorem isMsg_kind {m : Msg} (h : isMsg m = true) : m.kind = 1 ∨ m.kind = 2 ∨ m.kind = 3 ∧ m.val.size = 8 := by
  unfold isMsg at h
  simp only [Bool.and_eq_true, decide_eq_true_eq] at h
  have := h.2
  omega
theorem act_comb {a m : Msg} (ha : isMsg a = true) (hm : isMsg m = true) (h : a.key = m.key) (s : Option Str) : actM s (combM a m) = actM (actM s a) m := by
  have hv := comb_valid ha hm h
  have hc : combM a m = if m.kind ≠ 3 then m else if a.kind = 2 then ⟨1, m.key, m.val⟩ else ⟨a.kind, a.key, sumS a.val m.val⟩ := by
    unfold combM thenM
    rw [if_pos ⟨ha, hm, h⟩]
    rfl
  have ka : a.kind = 1 ∨ a.kind = 2 ∨ a.kind = 3 := by unfold isMsg at ha; simp at ha; omega
  have km : m.kind = 1 ∨ m.kind = 2 ∨ m.kind = 3 := by unfold isMsg at hm; simp at hm; omega
  rw [hc] at hv ⊢
  unfold actM applyM
  cases s <;> rcases ka with ka | ka | ka <;> rcases km with km | km | km <;> simp_all
  exact (sumS_assoc ((isMsg_kind ha).elim (fun e => by omega) fun e => e.elim (fun e => by omega) fun e => e.2) ((isMsg_kind hm).elim (fun e => by omega) fun e => e.elim (fun e => by omega) fun e => e.2)).symm
def actO (s : Option Str) (o : Option Msg) : Option Str := match o with
  | some m => actM s m
  | none => s
theorem puts_any {k : Str} (s : Option Str) : ∀ (l : List Msg) (o : Option Msg), (∀ a, o = some a → isMsg a = true ∧ a.key = k) → (∀ x ∈ l, isMsg x = true) → putsK k l (actO s o) = actO s (l.foldl (stepK k) o)
  | [], _, _, _ => rfl
  | m :: l, o, ho, hl => by
    have hm := hl m (by simp)
    unfold putsK
    rw [List.foldl_cons, List.foldl_cons]
    by_cases hk : m.key = k
    · have hs : stepK k o m = some (cmbO o m) := by unfold stepK; rw [if_pos hk]
      have e : actM (actO s o) m = actO s (some (cmbO o m)) := by
        cases o with
        | none => rfl
        | some a => exact (act_comb (ho a rfl).1 hm ((ho a rfl).2.trans hk.symm) s).symm
      rw [hs, if_pos hk, e]
      refine puts_any s l _ ?_ fun x hx => hl x (by simp [hx])
      intro a e
      cases e
      cases o with
      | none => exact ⟨hm, hk⟩
      | some b =>
        obtain ⟨h1, h2⟩ := ho b rfl
        exact ⟨comb_valid h1 hm (h2.trans hk.symm), (comb_key h1 hm (h2.trans hk.symm)).trans hk⟩
    · have hs : stepK k o m = o := by unfold stepK; rw [if_neg hk]
      rw [hs, if_neg hk]
      exact puts_any s l o ho fun x hx => hl x (by simp [hx])
/-- What a buffer of messages has of a key does what all of them do. -/
theorem puts_found {k : Str} {ms : List Msg} (hv : ∀ x ∈ ms, isMsg x = true) (s : Option Str) : putsK k ms s = actO s (lookM k (withM [] ms)) := by
  have h := puts_any (k := k) s ms none (fun a e => by cases e) hv
  rw [look_with ms [] rise_nil (by simp) hv]
  exact h
theorem with_found {l : List Item} {ms : List Msg} (hr : RiseI l) (ho : ∀ x ∈ l, okI x = true) (hv : ∀ x ∈ ms, isMsg x = true) : withI l (withM [] ms) = withI l ms := by
  obtain ⟨f1, f2, -⟩ := withM_ok ms [] rise_nil (by simp) hv
  obtain ⟨a1, -, -, a4⟩ := withI_ok (withM [] ms) l hr ho f2
  obtain ⟨b1, -, -, b4⟩ := withI_ok ms l hr ho hv
  refine rise_ext a1 b1 fun k => ?_
  rw [a4 k, b4 k]
  show putsK k (withM [] ms) (lookI k l) = putsK k ms (lookI k l)
  rw [puts_found hv, puts_any (k := k) (lookI k l) (withM [] ms) none (fun a e => by cases e) f2 |> fun h => show putsK k (withM [] ms) (lookI k l) = _ from h]
  rw [fold_row _ none (rise_iff.1 f1)]
  cases lookM k (withM [] ms) <;> rfl
end Go.Proofs.YtemijcjgdgdhjaaGreat
