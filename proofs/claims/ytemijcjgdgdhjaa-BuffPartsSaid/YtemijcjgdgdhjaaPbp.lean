/- A buffer is its parts, plainly. -/
import Derived.Test.YtemijcjgdgdhjaaWv
namespace Go.Proofs.Ytemijcjgdgdhjaa
open Go.RowKit
set_option linter.unusedSimpArgs false

theorem lessP_ahead : Ahead lessP where
  asym := fun a b h => by simp [lessP] at *; omega
  trans := fun a b c h k => by simp [lessP] at *; omega
  neg := fun a b c h k => by simp [lessP] at *; omega
theorem topsG_inv (ns : List Int) : ∀ k, k ≤ ns.length → HeapOn lessP (topsG (ns.take k)) 0 (topsG (ns.take k)).length ∧ ∀ p, p ∈ topsG (ns.take k) ↔ ∃ i, i < k ∧ ∃ h : i < ns.length, p = ((i : Int), ns[i]) ∧ 0 < ns[i]
  | 0, _ => by
    refine ⟨fun k h1 h2 => by simp [topsG, enumL] at h2, fun p => by simp [topsG, enumL]⟩
  | k + 1, hk => by
    obtain ⟨h1, h2⟩ := topsG_inv ns k (by omega)
    rw [topsG_succ (show k < ns.length by omega)]
    split
    · rename_i hp
      obtain ⟨p1, p2⟩ := heapPush_spec lessP_ahead (topsG (ns.take k)) ((k : Int), ns[k])
      refine ⟨?_, fun p => ?_⟩
      · have := p2 h1
        rw [p1.length_eq]; simpa using this
      · rw [p1.mem_iff, List.mem_cons, h2 p]
        constructor
        · rintro (rfl | ⟨i, hi, h, e, q⟩)
          · exact ⟨k, by omega, by omega, rfl, hp⟩
          · exact ⟨i, by omega, h, e, q⟩
        · rintro ⟨i, hi, h, e, q⟩
          rcases Nat.lt_or_ge i k with h3 | h3
          · exact .inr ⟨i, h3, h, e, q⟩
          · obtain rfl : i = k := by omega
            exact .inl e
    · rename_i hp
      refine ⟨h1, fun p => ?_⟩
      rw [h2 p]
      constructor
      · rintro ⟨i, hi, h, e, q⟩; exact ⟨i, by omega, h, e, q⟩
      · rintro ⟨i, hi, h, e, q⟩
        rcases Nat.lt_or_ge i k with h3 | h3
        · exact ⟨i, h3, h, e, q⟩
        · obtain rfl : i = k := by omega
          exact absurd q hp
/-- The heaviest one is none, or one that is no lighter than any. -/
theorem heavG_is (ns : List Int) : ((∀ x ∈ ns, x ≤ 0) ∧ heavG ns = -1) ∨ ∃ b, ∃ h : b < ns.length, heavG ns = (b : Int) ∧ 0 < ns[b] ∧ ∀ x ∈ ns, x ≤ ns[b] := by
  obtain ⟨h1, h2⟩ := topsG_inv ns ns.length (Nat.le_refl _)
  rw [List.take_length] at h1 h2
  unfold heavG
  by_cases h0 : topsG ns = []
  · left
    rw [if_pos h0]
    refine ⟨fun x hx => ?_, rfl⟩
    obtain ⟨i, hi, rfl⟩ := List.mem_iff_getElem.1 hx
    rcases Int.lt_or_le 0 ns[i] with hp | hp
    · have := (h2 _).2 ⟨i, hi, hi, rfl, hp⟩
      rw [h0] at this; cases this
    · exact hp
  · right
    rw [if_neg h0]
    have hl : 0 < (topsG ns).length := List.length_pos_iff.2 h0
    obtain ⟨p1, p2, _⟩ := heapPop_spec lessP_ahead (topsG ns) hl
    have hm : at_ (topsG ns) 0 ∈ topsG ns := by rw [at_lt hl]; exact List.getElem_mem hl
    obtain ⟨b, _, hb, e, q⟩ := (h2 _).1 hm
    rw [p1, e]
    refine ⟨b, hb, rfl, q, fun x hx => ?_⟩
    obtain ⟨i, hi, rfl⟩ := List.mem_iff_getElem.1 hx
    rcases Int.lt_or_le 0 ns[i] with hp | hp
    · have h3 := (h2 _).2 ⟨i, hi, hi, rfl, hp⟩
      obtain ⟨j, hj, ej⟩ := List.mem_iff_getElem.1 h3
      have h4 := heap_top lessP_ahead h1 j hj
      rw [at_lt hj, ej, e] at h4
      simp [lessP] at h4
      omega
    · omega

theorem takeWhile_all {α : Type} {p : α → Bool} : ∀ {l : List α}, (∀ x ∈ l, p x = true) → l.takeWhile p = l
  | [], _ => rfl
  | a :: l, h => by rw [List.takeWhile_cons, if_pos (h a (by simp)), takeWhile_all fun x hx => h x (by simp [hx])]
/-- A row that rises, put behind one that rises below it. -/
theorem withM_onto : ∀ (t a : List Msg), Rise (a ++ t) → withM a t = a ++ t
  | [], a, _ => by simp [withM]
  | x :: t, a, h => by
    have h1 : ∀ y ∈ a, slt y.key x.key = true := fun y hy => by
      obtain ⟨i, hi, rfl⟩ := List.mem_iff_getElem.1 hy
      exact h i a.length _ _ hi (by rw [List.getElem?_append_left hi, List.getElem?_eq_getElem hi]) (by simp)
    have hlow : low a x.key = a.length := by
      unfold low
      rw [takeWhile_all (fun y hy => h1 y hy)]
    have hhit : hit a x.key = false := by unfold hit; rw [hlow, List.getElem?_eq_none (Nat.le_refl _)]
    have hput : putM a x = a ++ [x] := by rw [putM_no hhit, hlow]; simp
    unfold withM
    rw [List.foldl_cons, hput]
    have := withM_onto t (a ++ [x]) (by simpa using h)
    unfold withM at this
    rw [this]
    simp
def below (p : Str) (m : Msg) : Bool := slt m.key p
theorem mwts_append (a b : List Msg) : mwts (a ++ b) = mwts a + mwts b := by simp [mwts]
/-- A row that rises, cut at two keys. -/
theorem cut_two (lo hi : Str) (hlh : slt hi lo = false) : ∀ (u : List Msg), u.Pairwise (fun x y => slt x.key y.key = true) → u.filter (below lo) ++ u.filter (fun m => !below lo m && below hi m) = u.filter (below hi)
  | [], _ => rfl
  | x :: u, h => by
    rw [List.pairwise_cons] at h
    have ih := cut_two lo hi hlh u h.2
    rw [List.filter_cons, List.filter_cons, List.filter_cons]
    cases h1 : below lo x with
    | true =>
      have h2 : below hi x = true := by
        unfold below at *
        cases e : slt x.key hi with
        | true => rfl
        | false =>
          cases e2 : slt hi x.key with
          | true => rw [slt_trans e2 h1] at hlh; cases hlh
          | false => have := slt_tri e e2; rw [← this, h1] at hlh; cases hlh
      simp [h2, ih]
    | false =>
      have h3 : u.filter (below lo) = [] := by
        rw [List.filter_eq_nil_iff]
        intro y hy
        have := h.1 y hy
        unfold below at *
        cases e : slt y.key lo with
        | false => simp
        | true => rw [slt_trans this e] at h1; cases h1
      rw [h3] at ih ⊢
      cases h2 : below hi x with
      | true => simp [h2, ← ih]
      | false => simpa [h2] using ih
theorem cut_last (lo : Str) : ∀ (u : List Msg), u.Pairwise (fun x y => slt x.key y.key = true) → u.filter (below lo) ++ u.filter (fun m => !below lo m) = u
  | [], _ => rfl
  | x :: u, h => by
    rw [List.pairwise_cons] at h
    have ih := cut_last lo u h.2
    rw [List.filter_cons, List.filter_cons]
    cases h1 : below lo x with
    | true => simp [ih]
    | false =>
      have h3 : u.filter (below lo) = [] := by
        rw [List.filter_eq_nil_iff]
        intro y hy
        have := h.1 y hy
        unfold below at *
        cases e : slt y.key lo with
        | false => simp
        | true => rw [slt_trans this e] at h1; cases h1
      rw [h3] at ih ⊢
      simpa using ih
/-- Pivots that rise, all keys. -/
def RiseS (ps : List Str) : Prop := (∀ p ∈ ps, isKey p = true) ∧ ps.Pairwise (fun a b => slt a b = true)
def lows (ps : List Str) : List Str := (⟨#[]⟩ : Str) :: ps
def tops (ps : List Str) : List Str := ps ++ [⟨#[]⟩]
theorem slt_nil (s : Str) : slt s ⟨#[]⟩ = false := by simp [slt]
theorem meet_plain {lo hi : Str} (h : slt hi lo = false ∨ hi = ⟨#[]⟩) : meetM (⟨#[]⟩, ⟨#[]⟩) (lo, hi) = (lo, hi) := by
  have h1 : maxM ⟨#[]⟩ lo = lo := by
    rw [maxM_is]
    split
    · rfl
    · rename_i hn
      exact slt_tri (by simpa using hn) (slt_nil lo)
  have h2 : endM ⟨#[]⟩ hi = hi := by simp [endM]
  unfold meetM
  simp only
  rw [h1, h2, if_neg]
  intro ht
  simp [turnM] at ht
  rcases h with h | h
  · rw [h] at ht; exact absurd ht.2 (by simp)
  · exact ht.1 h
theorem cutL_plain : ∀ (ps : List Str) (lo : Str) (acc : List (Str × Str)), (∀ p ∈ ps, slt p lo = false) → ps.Pairwise (fun a b => slt a b = true) →
    ps.foldl (fun s p => (s.1 ++ [meetM (⟨#[]⟩, ⟨#[]⟩) (s.2, p)], p)) (acc, lo) = (acc ++ (lo :: ps).zip ps, ((lo :: ps).getLast?).getD lo)
  | [], lo, acc, _, _ => by simp
  | p :: ps, lo, acc, h1, h2 => by
    rw [List.pairwise_cons] at h2
    rw [List.foldl_cons, meet_plain (.inl (h1 p (by simp))), cutL_plain ps p _ (fun q hq => slt_asymm (h2.1 q hq)) h2.2]
    simp [List.getLast?_cons]
theorem zip_snoc {α β : Type} (x : β) : ∀ (l : List α) (m : List β) (d : α), l.length = m.length + 1 → l.zip (m ++ [x]) = l.zip m ++ [((l.getLast?).getD d, x)]
  | [], m, d, h => by simp at h
  | a :: l, [], d, h => by
    obtain rfl : l = [] := List.length_eq_zero_iff.1 (by simpa using h)
    simp
  | a :: l, b :: m, d, h => by
    have ih := zip_snoc x l m d (by simpa using h)
    have hl : l ≠ [] := fun e => by rw [e] at h; simp at h
    simp only [List.cons_append, List.zip_cons_cons, ih]
    rw [List.getLast?_cons]
    cases e : l.getLast? with
    | none => simp at e; exact absurd e hl
    | some z => simp
/-- The parts that pivots make, if they rise. -/
theorem parts_plain {ps : List Str} (h : RiseS ps) : partsM ps = (lows ps).zip (tops ps) := by
  unfold partsM cutM cutL lows tops
  by_cases h0 : ps = []
  · subst h0; rfl
  · rw [if_neg h0, cutL_plain ps _ _ (fun p _ => slt_nil p) h.2, meet_plain (.inr rfl), zip_snoc _ _ _ ⟨#[]⟩ (by simp)]
    simp
theorem isKey_ne {k : Str} (h : isKey k = true) : k ≠ ⟨#[]⟩ := by
  rintro rfl
  have h0 : (⟨#[]⟩ : ByteArray).size = 0 := rfl
  simp [isKey, h0] at h
theorem filter_both {u : List Msg} {p q r : Msg → Bool} (h : ∀ x ∈ u, (p x && q x) = r x) : (u.filter p).filter q = u.filter r := by
  rw [List.filter_filter]
  exact List.filter_congr fun x hx => by rw [Bool.and_comm]; exact h x hx
section
variable {u : List Msg} {lo hi : Str} (hk : ∀ x ∈ u, isKey x.key = true)
include hk
theorem take_mid (hh : hi ≠ ⟨#[]⟩) : takeM (u.filter fun m => !below lo m) lo hi true = u.filter (fun m => !below lo m && below hi m) ∧ takeM u lo hi true = u.filter (fun m => !below lo m && below hi m) := by
  unfold takeM
  refine ⟨filter_both fun x hx => ?_, List.filter_congr fun x hx => ?_⟩
  all_goals
    have := hk x hx
    simp [hasM, this, hh, below]
theorem rest_mid (hh : hi ≠ ⟨#[]⟩) (hlh : slt hi lo = false) : takeM (u.filter fun m => !below lo m) lo hi false = u.filter (fun m => !below hi m) := by
  unfold takeM
  refine filter_both fun x hx => ?_
  have h1 := hk x hx
  have h2 : slt x.key lo = true → slt x.key hi = true := fun e => by
    cases e2 : slt x.key hi with
    | true => rfl
    | false =>
      cases e3 : slt hi x.key with
      | true => rw [slt_trans e3 e] at hlh; cases hlh
      | false => have := slt_tri e2 e3; rw [← this, e] at hlh; cases hlh
  simp [hasM, h1, hh, below]
  cases e1 : slt x.key lo <;> cases e2 : slt x.key hi <;> simp_all
theorem take_end : takeM (u.filter fun m => !below lo m) lo ⟨#[]⟩ true = u.filter (fun m => !below lo m) ∧ takeM u lo ⟨#[]⟩ true = u.filter (fun m => !below lo m) ∧ takeM (u.filter fun m => !below lo m) lo ⟨#[]⟩ false = [] := by
  unfold takeM
  refine ⟨filter_both fun x hx => ?_, List.filter_congr fun x hx => ?_, ?_⟩
  · have := hk x hx; simp [hasM, this, below]
  · have := hk x hx; simp [hasM, this, below]
  · rw [List.filter_filter, List.filter_eq_nil_iff]
    intro x hx
    have := hk x hx
    simp [hasM, this, below]
end
end Go.Proofs.Ytemijcjgdgdhjaa
