/- Plain words of keys, messages, rows of them: what is found, put, taken. No program. (Out of session 1's texts.) -/
import Derived.Test.YtemijcjgdgdhjaaPlain
import Derived.Lib.MinMaxS
namespace Go.Proofs.Ytemijcjgdgdhjaa
open Go.RowKit
theorem isMsg_put {k v : Str} : isMsg ⟨1, k, v⟩ = (isKey k && isVal v) := by simp [isMsg, isVal]

theorem isMsg_del {k v : Str} : isMsg ⟨2, k, v⟩ = (isKey k && decide (v.size = 0)) := by simp [isMsg]

theorem isMsg_add {k v : Str} : isMsg ⟨3, k, v⟩ = (isKey k && decide (v.size = 8)) := by simp [isMsg]

theorem isMsg_other {q : Int} {k v : Str} (h1 : q ≠ 1) (h2 : q ≠ 2) (h3 : q ≠ 3) : isMsg ⟨q, k, v⟩ = false := by simp [isMsg, h1, h2, h3]

theorem empty_is (v : Str) : v.toList.isEmpty = decide (v.size = 0) := by
  rw [ByteArray.toList_eq, Bool.eq_iff_iff]
  simp only [List.isEmpty_iff, decide_eq_true_eq, List.length_eq_zero_iff.symm]
  rfl

/-- A number's bytes, the highest first. -/
def be (z : Nat) : Nat → List UInt8
  | 0 => []
  | w + 1 => UInt8.ofNat (z / 2 ^ (8 * w)) :: be z w

theorem be_length (z w : Nat) : (be z w).length = w := by induction w with | zero => rfl | succ w ih => simp [be, ih]

def bes (w : Nat) (zs : List Int) : List UInt8 := zs.flatMap fun z => be z.toNat w

def isWidth (w : Int) : Bool := decide (w = 1 ∨ w = 2 ∨ w = 4 ∨ w = 8)

def Fits (w : Nat) (z : Int) : Prop := 0 ≤ z ∧ z < 2 ^ (8 * w)

theorem be_take (z : Nat) : ∀ (w j : Nat), j < w → (be z w).take (j + 1) = (be z w).take j ++ [UInt8.ofNat (z / 2 ^ (8 * (w - 1 - j)))] := by
  intro w
  induction w with
  | zero => intro j h; omega
  | succ w ih =>
    intro j h
    cases j with
    | zero => simp [be]
    | succ j =>
      have := ih j (by omega)
      simp only [be, List.take_succ_cons, List.cons_append, this]
      rw [show w + 1 - 1 - (j + 1) = w - 1 - j from by omega]

theorem bes_take (wd : Nat) (zs : List Int) (k : Nat) (x : Int) (h : zs[k]? = some x) : bes wd (zs.take (k + 1)) = bes wd (zs.take k) ++ be x.toNat wd := by
  unfold bes
  rw [List.take_add_one, h]
  simp

theorem bes_length (wd : Nat) (zs : List Int) : (bes wd zs).length = wd * zs.length := by
  unfold bes
  induction zs with
  | nil => simp
  | cons a zs ih => simp [be_length, ih, Nat.mul_add]; omega

theorem byte_is (x : Int) (q : Nat) (h : 0 ≤ x) : x / 2 ^ (8 * q) % 256 = ((UInt8.ofNat (x.toNat / 2 ^ (8 * q))).toNat : Int) := by
  obtain ⟨n, rfl⟩ := Int.eq_ofNat_of_zero_le h
  rw [UInt8.toNat_ofNat']
  simp

/-- A number's eight bytes, as a text. -/
def val8 (n : Nat) : Str := ⟨(be n 8).toArray⟩

theorem be_split (n : Nat) (h : n < 2 ^ 64) : be (n / 2 ^ 32) 4 ++ be (n % 2 ^ 32) 4 = be n 8 := by
  have e : ∀ i, i < 4 → UInt8.ofNat (n / 2 ^ 32 / 2 ^ (8 * i)) = UInt8.ofNat (n / 2 ^ (8 * (i + 4))) := by
    intro i hi
    rw [Nat.div_div_eq_div_mul, ← Nat.pow_add, show 32 + 8 * i = 8 * (i + 4) from by omega]
  have f : ∀ i, i < 4 → UInt8.ofNat (n % 2 ^ 32 / 2 ^ (8 * i)) = UInt8.ofNat (n / 2 ^ (8 * i)) := by
    intro i hi
    apply UInt8.toNat_inj.1
    simp only [UInt8.toNat_ofNat']
    match i, hi with
    | 0, _ => simp
    | 1, _ => simp; omega
    | 2, _ => simp; omega
    | 3, _ => simp; omega
  simp only [be, List.cons_append, List.nil_append, e 3 (by omega), e 2 (by omega), e 1 (by omega), e 0 (by omega), f 3 (by omega), f 2 (by omega), f 1 (by omega), f 0 (by omega)]

theorem wraps_u64 (n : Int) (h₀ : 0 ≤ n) (h₁ : n < 2 ^ 64) : IntKind.u64.wrap n = n := by
  show (if (IntKind.u64.signed && decide (n % 2 ^ 64 ≥ 2 ^ 63)) = true then n % 2 ^ 64 - 2 ^ 64 else n % 2 ^ 64) = n
  simp [IntKind.signed]; omega

theorem u64_low {x : Int} (h0 : 0 ≤ x) (h1 : x < 18446744073709551616) : bits .and .u64 x 4294967295 = x % 4294967296 := bits_mask .u64 64 (by decide) wraps_u64 32 (by decide) x h0 h1

/-- What Raw hands back and leaves. -/
def rawOk (s : Str) (bad : Bool) (n : Int) : Bool := !bad && decide (0 ≤ n ∧ n ≤ s.size)

/-- The number that bytes tell, the highest first. -/
def ofBe (l : List UInt8) : Nat := l.foldl (fun a b => a * 256 + b.toNat) 0

theorem ofBe_snoc (l : List UInt8) (x : UInt8) : ofBe (l ++ [x]) = ofBe l * 256 + x.toNat := by unfold ofBe; rw [List.foldl_append]; rfl

theorem fold_lt : ∀ (l : List UInt8) (a : Nat), l.foldl (fun a b => a * 256 + b.toNat) a < (a + 1) * 256 ^ l.length
  | [], a => by simp
  | x :: l, a => by
    have := fold_lt l (a * 256 + x.toNat)
    have hx := x.toNat_lt
    simp only [List.foldl_cons, List.length_cons, Nat.pow_succ]
    calc _ < (a * 256 + x.toNat + 1) * 256 ^ l.length := this
      _ ≤ ((a + 1) * 256) * 256 ^ l.length := Nat.mul_le_mul_right _ (by omega)
      _ = _ := by rw [Nat.mul_assoc, Nat.mul_comm 256]

theorem ofBe_lt (l : List UInt8) : ofBe l < 256 ^ l.length := by unfold ofBe; have := fold_lt l 0; simpa using this

theorem wraps_i64 (n : Int) (h₀ : 0 ≤ n) (h₁ : n < 2 ^ 63) : IntKind.i64.wrap n = n := by rw [IntKind.wrap_i64]; omega

theorem i64_or8 {x y : Int} (hx0 : 0 ≤ x) (hx : x % 256 = 0) (hx1 : x < 9223372036854775808) (h0 : 0 ≤ y) (h1 : y < 256) : bits .or .i64 x y = x + y :=
  bits_join .i64 63 (by decide) wraps_i64 8 x y hx0 hx hx1 h0 h1 (by omega)

/-- The number of an eight-byte value. -/
def num8 (s : Str) : Nat := ofBe s.data.toList

theorem fold_shift : ∀ (l : List UInt8) (a : Nat), l.foldl (fun a b => a * 256 + b.toNat) a = a * 256 ^ l.length + ofBe l
  | [], a => by simp [ofBe]
  | x :: l, a => by
    have h1 := fold_shift l (a * 256 + x.toNat)
    have h2 := fold_shift l (0 * 256 + x.toNat)
    simp only [List.foldl_cons, List.length_cons, ofBe] at *
    rw [h1, h2, Nat.add_mul, Nat.pow_succ, Nat.mul_assoc, Nat.mul_comm 256]
    simp only [Nat.zero_mul, Nat.zero_add]
    omega

theorem ofBe_append (a b : List UInt8) : ofBe (a ++ b) = ofBe a * 256 ^ b.length + ofBe b := by
  unfold ofBe; rw [List.foldl_append]; exact fold_shift b _

theorem num8_split (s : Str) (h : s.size = 8) : num8 s = ofBe (s.data.toList.take 4) * 4294967296 + ofBe (s.data.toList.drop 4) := by
  have hl : s.data.toList.length = 8 := by simpa using h
  conv => lhs; unfold num8; rw [← List.take_append_drop 4 s.data.toList]
  rw [ofBe_append, List.length_drop, hl]

theorem u64_or32 {x y : Int} (hx0 : 0 ≤ x) (hx : x % 4294967296 = 0) (hx1 : x < 18446744073709551616) (h0 : 0 ≤ y) (h1 : y < 4294967296) : bits .or .u64 x y = x + y :=
  bits_join .u64 64 (by decide) wraps_u64 32 x y hx0 hx hx1 h0 h1 (by omega)

def sumS (a b : Str) : Str := if a.size = 8 ∧ b.size = 8 then val8 ((num8 a + num8 b) % 18446744073709551616) else a

theorem num8_lt {a : Str} (h : a.size = 8) : num8 a < 18446744073709551616 := by
  have := ofBe_lt a.data.toList
  have e : a.data.toList.length = 8 := by simpa using h
  rw [e] at this
  exact this

theorem u64_add (x y : Nat) : IntKind.u64.wrap ((x : Int) + (y : Int)) = (((x + y) % 18446744073709551616 : Nat) : Int) := by
  show (if (IntKind.u64.signed && decide (((x : Int) + y) % 2 ^ 64 ≥ 2 ^ 63)) = true then ((x : Int) + y) % 2 ^ 64 - 2 ^ 64 else ((x : Int) + y) % 2 ^ 64) = _
  simp [IntKind.signed]

/-- One message behind another: none where they can't be. -/
def thenM (a b : Msg) : Option Msg :=
  if isMsg a = true ∧ isMsg b = true ∧ a.key = b.key then some (if b.kind ≠ 3 then b else if a.kind = 2 then ⟨1, b.key, b.val⟩ else ⟨a.kind, a.key, sumS a.val b.val⟩) else none

/-- What a key has behind a message. -/
def applyM (m : Msg) (val : Str) (has : Bool) : Str × Bool :=
  if isMsg m = false then (if has then (val, true) else (⟨#[]⟩, false))
  else if m.kind = 2 then (⟨#[]⟩, false)
  else if m.kind = 1 ∨ has = false then (m.val, true)
  else (sumS val m.val, true)

/-- Keys rise. -/
def Rise (l : List Msg) : Prop := ∀ (i j : Nat) (x y : Msg), i < j → l[i]? = some x → l[j]? = some y → slt x.key y.key = true

/-- Where a key's message is, or would be. -/
def low (l : List Msg) (k : Str) : Nat := (l.takeWhile (fun m => slt m.key k)).length

def hit (l : List Msg) (k : Str) : Bool := match l[low l k]? with | some m => decide (m.key = k) | none => false

theorem low_le (l : List Msg) (k : Str) : low l k ≤ l.length := (List.takeWhile_sublist _).length_le

theorem low_is : ∀ (l : List Msg) (k : Str) (i : Nat), i ≤ l.length → (∀ j x, j < i → l[j]? = some x → slt x.key k = true) → (∀ x, l[i]? = some x → slt x.key k = false) → low l k = i
  | [], _, i, h, _, _ => by simp at h; subst h; rfl
  | a :: l, k, i, h, h1, h2 => by
    cases i with
    | zero => unfold low; rw [List.takeWhile_cons, h2 a rfl]; rfl
    | succ i =>
      have ha := h1 0 a (by omega) rfl
      unfold low
      rw [List.takeWhile_cons, ha]
      simp only [if_true, List.length_cons]
      rw [show (List.takeWhile (fun m => slt m.key k) l).length = low l k from rfl, low_is l k i (by simpa using h) (fun j x hj hx => h1 (j + 1) x (by omega) (by simpa using hx)) (fun x hx => h2 x (by simpa using hx))]

theorem scmp_neg {a b : Str} : decide (scmp a b < 0) = slt a b := by
  unfold scmp
  cases h : slt a b with
  | true => simp
  | false => cases h' : slt b a <;> simp

theorem scmp_zero {a b : Str} : (scmp a b == 0) = decide (a = b) := by
  unfold scmp
  cases h : slt a b with
  | true => have := slt_ne h; simp [this]
  | false =>
    cases h' : slt b a with
    | true => have := slt_ne h'; simp [Ne.symm this]
    | false => simp [slt_tri h h']

def combM (a b : Msg) : Msg := (thenM a b).getD ⟨0, ⟨#[]⟩, ⟨#[]⟩⟩

/-- A message put into rising messages. -/
def putM (l : List Msg) (m : Msg) : List Msg :=
  match l[low l m.key]? with
  | some x => if x.key = m.key then l.set (low l m.key) (combM x m) else l.take (low l m.key) ++ m :: l.drop (low l m.key)
  | none => l.take (low l m.key) ++ m :: l.drop (low l m.key)

theorem putM_no {l : List Msg} {m : Msg} (h : hit l m.key = false) : putM l m = l.take (low l m.key) ++ m :: l.drop (low l m.key) := by
  unfold hit at h
  unfold putM
  cases hx : l[low l m.key]? with
  | none => rfl
  | some x => rw [hx] at h; simp at h; simp [h]

theorem putM_yes {l : List Msg} {m : Msg} (h : hit l m.key = true) : ∃ x, l[low l m.key]? = some x ∧ x.key = m.key ∧ putM l m = l.set (low l m.key) (combM x m) := by
  unfold hit at h
  unfold putM
  cases hx : l[low l m.key]? with
  | none => rw [hx] at h; cases h
  | some x => rw [hx] at h; simp at h; exact ⟨x, rfl, h, by simp [h]⟩

def putL : List Msg → Msg → List Msg
  | [], m => [m]
  | a :: l, m => if slt a.key m.key = true then a :: putL l m else if a.key = m.key then combM a m :: l else m :: a :: l

theorem low_cons (a : Msg) (l : List Msg) (k : Str) : low (a :: l) k = if slt a.key k = true then low l k + 1 else 0 := by
  unfold low
  rw [List.takeWhile_cons]
  split <;> simp

theorem putM_eq : ∀ (l : List Msg) (m : Msg), putM l m = putL l m
  | [], m => by simp [putM, putL, low]
  | a :: l, m => by
    have ih := putM_eq l m
    unfold putM at ih ⊢
    unfold putL
    rw [low_cons]
    by_cases h : slt a.key m.key = true
    · rw [if_pos h, if_pos h]
      rw [← ih]
      simp only [List.getElem?_cons_succ]
      cases hx : l[low l m.key]? with
      | none => simp
      | some x =>
        dsimp only
        by_cases hk : x.key = m.key
        · rw [if_pos hk, if_pos hk]; simp
        · rw [if_neg hk, if_neg hk]; simp
    · rw [if_neg h, if_neg h]
      simp

theorem rise_iff {l : List Msg} : Rise l ↔ l.Pairwise (fun x y => slt x.key y.key = true) := by
  rw [List.pairwise_iff_getElem]
  constructor
  · intro h i j hi hj hij
    exact h i j _ _ hij (List.getElem?_eq_getElem hi) (List.getElem?_eq_getElem hj)
  · intro h i j x y hij hx hy
    obtain ⟨hi, rfl⟩ := List.getElem?_eq_some_iff.1 hx
    obtain ⟨hj, rfl⟩ := List.getElem?_eq_some_iff.1 hy
    exact h i j hi hj hij

theorem comb_key {a b : Msg} (ha : isMsg a = true) (hb : isMsg b = true) (h : a.key = b.key) : (combM a b).key = b.key := by
  unfold combM thenM
  rw [if_pos ⟨ha, hb, h⟩]
  dsimp only [Option.getD]
  split
  · rfl
  · split
    · rfl
    · exact h

theorem putL_mem {l : List Msg} {m x : Msg} (hx : x ∈ putL l m) : x ∈ l ∨ x = m ∨ ∃ a ∈ l, a.key = m.key ∧ x = combM a m := by
  induction l with
  | nil => simp [putL] at hx; exact .inr (.inl hx)
  | cons a l ih =>
    unfold putL at hx
    split at hx
    · rcases List.mem_cons.1 hx with rfl | hx
      · exact .inl (by simp)
      · rcases ih hx with h | h | ⟨b, hb, h1, h2⟩
        · exact .inl (by simp [h])
        · exact .inr (.inl h)
        · exact .inr (.inr ⟨b, by simp [hb], h1, h2⟩)
    · split at hx
      · rename_i hk
        rcases List.mem_cons.1 hx with rfl | hx
        · exact .inr (.inr ⟨a, by simp, hk, rfl⟩)
        · exact .inl (by simp [hx])
      · rcases List.mem_cons.1 hx with rfl | hx
        · exact .inr (.inl rfl)
        · exact .inl hx

theorem comb_valid {a b : Msg} (ha : isMsg a = true) (hb : isMsg b = true) (h : a.key = b.key) : isMsg (combM a b) = true := by
  have hsz : (sumS a.val b.val).size = if a.val.size = 8 ∧ b.val.size = 8 then 8 else a.val.size := by
    unfold sumS
    split
    · simp [val8, be_length, ByteArray.size]
    · rfl
  have hc : combM a b = if b.kind ≠ 3 then b else if a.kind = 2 then ⟨1, b.key, b.val⟩ else ⟨a.kind, a.key, sumS a.val b.val⟩ := by
    unfold combM thenM
    rw [if_pos ⟨ha, hb, h⟩]
    rfl
  rw [hc]
  unfold isMsg at ha hb ⊢
  simp only [Bool.and_eq_true, decide_eq_true_eq] at ha hb
  split
  · simp only [Bool.and_eq_true, decide_eq_true_eq]; exact hb
  · split
    · simp only [Bool.and_eq_true, decide_eq_true_eq]; refine ⟨hb.1, Or.inl ⟨trivial, ?_⟩⟩; have := hb.2; omega
    · simp only [Bool.and_eq_true, decide_eq_true_eq]
      refine ⟨ha.1, ?_⟩
      rw [hsz]
      have h1 := ha.2
      have h2 := hb.2
      split <;> omega

theorem putL_rise {l : List Msg} {m : Msg} (hr : l.Pairwise (fun x y => slt x.key y.key = true)) (hv : ∀ x ∈ l, isMsg x = true) (hm : isMsg m = true) : (putL l m).Pairwise (fun x y => slt x.key y.key = true) := by
  induction l with
  | nil => simp [putL]
  | cons a l ih =>
    rw [List.pairwise_cons] at hr
    have hva := hv a (by simp)
    have hvl : ∀ x ∈ l, isMsg x = true := fun x hx => hv x (by simp [hx])
    unfold putL
    split
    · rename_i h
      rw [List.pairwise_cons]
      refine ⟨fun x hx => ?_, ih hr.2 hvl⟩
      rcases putL_mem hx with hx | rfl | ⟨b, hb, hk, rfl⟩
      · exact hr.1 x hx
      · exact h
      · rw [comb_key (hvl b hb) hm hk]; exact h
    · split
      · rename_i hk
        rw [List.pairwise_cons]
        refine ⟨fun x hx => ?_, hr.2⟩
        rw [comb_key hva hm hk, ← hk]
        exact hr.1 x hx
      · rename_i h hk
        have hlt : slt m.key a.key = true := by
          cases hq : slt m.key a.key with
          | true => rfl
          | false => exact absurd (slt_tri (by simpa using h) hq) hk
        rw [List.pairwise_cons, List.pairwise_cons]
        refine ⟨fun x hx => ?_, hr⟩
        rcases List.mem_cons.1 hx with rfl | hx
        · exact hlt
        · exact slt_trans hlt (hr.1 x hx)

theorem putL_valid {l : List Msg} {m : Msg} (hv : ∀ x ∈ l, isMsg x = true) (hm : isMsg m = true) : ∀ x ∈ putL l m, isMsg x = true := by
  intro x hx
  rcases putL_mem hx with hx | rfl | ⟨b, hb, hk, rfl⟩
  · exact hv x hx
  · exact hm
  · exact comb_valid (hv b hb) hm hk

theorem putL_len (l : List Msg) (m : Msg) : (putL l m).length ≤ l.length + 1 := by
  induction l with
  | nil => simp [putL]
  | cons a l ih =>
    unfold putL
    split
    · simp; exact ih
    · split <;> simp

theorem putM_rise {l : List Msg} {m : Msg} (hr : Rise l) (hv : ∀ x ∈ l, isMsg x = true) (hm : isMsg m = true) : Rise (putM l m) := by rw [putM_eq, rise_iff]; exact putL_rise (rise_iff.1 hr) hv hm

theorem putM_valid {l : List Msg} {m : Msg} (hv : ∀ x ∈ l, isMsg x = true) (hm : isMsg m = true) : ∀ x ∈ putM l m, isMsg x = true := by rw [putM_eq]; exact putL_valid hv hm

theorem putM_len (l : List Msg) (m : Msg) : (putM l m).length ≤ l.length + 1 := by rw [putM_eq]; exact putL_len l m

theorem putM_length_no {l : List Msg} {m : Msg} (h : hit l m.key = false) : (putM l m).length = l.length + 1 := by
  rw [putM_no h]
  have := low_le l m.key
  simp only [List.length_append, List.length_take, List.length_cons, List.length_drop]
  omega

theorem putM_length_yes {l : List Msg} {m : Msg} (h : hit l m.key = true) : (putM l m).length = l.length := by
  obtain ⟨x, _, _, h⟩ := putM_yes h
  rw [h, List.length_set]

/-- Messages put one behind the other. -/
def withM (l ms : List Msg) : List Msg := ms.foldl putM l

theorem withM_succ (l ms : List Msg) (k : Nat) (x : Msg) (h : ms[k]? = some x) : withM l (ms.take (k + 1)) = putM (withM l (ms.take k)) x := by
  unfold withM; rw [List.take_add_one, h]; simp

theorem withM_ok (ms : List Msg) : ∀ (l : List Msg), Rise l → (∀ x ∈ l, isMsg x = true) → (∀ x ∈ ms, isMsg x = true) → Rise (withM l ms) ∧ (∀ x ∈ withM l ms, isMsg x = true) ∧ (withM l ms).length ≤ l.length + ms.length := by
  induction ms with
  | nil => intro l hr hv _; exact ⟨hr, hv, by simp [withM]⟩
  | cons m ms ih =>
    intro l hr hv hm
    have h1 := hm m (by simp)
    obtain ⟨a, b, c⟩ := ih (putM l m) (putM_rise hr hv h1) (putM_valid hv h1) (fun x hx => hm x (by simp [hx]))
    refine ⟨a, b, ?_⟩
    have := putM_len l m
    simp only [withM, List.foldl_cons, List.length_cons] at *
    omega

theorem rise_nil : Rise [] := fun i j x y _ h => by simp at h

def zeroM : Msg := ⟨0, ⟨#[]⟩, ⟨#[]⟩⟩

def foundM (l : List Msg) (k : Str) : Msg := if hit l k = true then (l[low l k]?).getD zeroM else zeroM

def hasM (lo hi k : Str) : Bool := isKey k && !(slt k lo) && (decide (hi = ⟨#[]⟩) || slt k hi)

theorem nil_list {s : Str} (h : s ≠ ⟨#[]⟩) : ¬ (ByteArray.toList s = []) := by
  rw [ByteArray.toList_eq]
  intro e
  exact h (str_ext (by rw [e]))

theorem size_pos {s : Str} (h : s ≠ ⟨#[]⟩) : 0 < s.size := by
  rcases Nat.eq_zero_or_pos s.size with e | e
  · exfalso; apply h; apply str_ext; have : s.data.toList.length = 0 := by simpa using e
    simpa using List.length_eq_zero_iff.1 this
  · exact e

def takeM (l : List Msg) (lo hi : Str) (h : Bool) : List Msg := l.filter (fun m => hasM lo hi m.key == h)

theorem takeM_succ {l : List Msg} {lo hi : Str} {h : Bool} {k : Nat} {x : Msg} (hx : l[k]? = some x) : takeM (l.take (k + 1)) lo hi h = if (hasM lo hi x.key == h) = true then takeM (l.take k) lo hi h ++ [x] else takeM (l.take k) lo hi h := by
  unfold takeM
  rw [List.take_add_one, hx]
  simp only [Option.toList, List.filter_append, List.filter_cons, List.filter_nil]
  split <;> simp

theorem takeM_len (l : List Msg) (lo hi : Str) (h : Bool) : (takeM l lo hi h).length ≤ l.length := List.length_filter_le _ _

deriving instance DecidableEq for Msg
theorem agree_end {l m : List Msg} (hl : l.length = m.length) (k : Nat) (hk : l.length ≤ k) (h : ∀ (t : Nat) (x y : Msg), t < k → l[t]? = some x → m[t]? = some y → x = y) : l = m := by
  apply List.ext_getElem hl
  intro i h1 h2
  exact h i _ _ (by omega) (List.getElem?_eq_getElem h1) (List.getElem?_eq_getElem h2)

def MLight (l : List Msg) : Prop := ∀ m ∈ l, m.key.size ≤ 512 ∧ m.val.size ≤ 512

def refStep (m : Msg) (s : List Msg × Bool) (x : Msg) : List Msg × Bool :=
  if x.key = m.key then (s.1 ++ [combM x m], true) else if s.2 = false ∧ slt m.key x.key = true then (s.1 ++ [m, x], true) else (s.1 ++ [x], s.2)

def refEnd (m : Msg) (s : List Msg × Bool) : List Msg := if s.2 = true then s.1 else s.1 ++ [m]

theorem ref_done (m : Msg) : ∀ (l o : List Msg), (∀ x ∈ l, slt m.key x.key = true) → l.foldl (refStep m) (o, true) = (o ++ l, true)
  | [], o, _ => by simp
  | x :: l, o, h => by
    have h1 : x.key ≠ m.key := fun e => slt_ne (h x (by simp)) e.symm
    rw [List.foldl_cons, show refStep m (o, true) x = (o ++ [x], true) from by unfold refStep; rw [if_neg h1, if_neg (by simp)], ref_done m l _ (fun y hy => h y (by simp [hy]))]
    simp

theorem ref_go (m : Msg) : ∀ (l o : List Msg), l.Pairwise (fun x y => slt x.key y.key = true) → refEnd m (l.foldl (refStep m) (o, false)) = o ++ putL l m
  | [], o, _ => by simp [refEnd, putL]
  | x :: l, o, h => by
    rw [List.pairwise_cons] at h
    rw [List.foldl_cons]
    unfold putL
    by_cases hk : x.key = m.key
    · rw [show refStep m (o, false) x = (o ++ [combM x m], true) from by unfold refStep; rw [if_pos hk], ref_done m l _ (fun y hy => hk ▸ h.1 y hy)]
      rw [if_neg (by rw [hk, slt_irrefl]; simp), if_pos hk]
      simp [refEnd]
    · by_cases hl : slt m.key x.key = true
      · rw [show refStep m (o, false) x = (o ++ [m, x], true) from by unfold refStep; rw [if_neg hk, if_pos ⟨rfl, hl⟩], ref_done m l _ (fun y hy => slt_trans hl (h.1 y hy))]
        rw [if_neg (by intro h'; have := slt_asymm hl; rw [this] at h'; cases h'), if_neg hk]
        simp [refEnd]
      · rw [show refStep m (o, false) x = (o ++ [x], false) from by unfold refStep; rw [if_neg hk, if_neg (by simp [hl])], ref_go m l _ h.2]
        have hx : slt x.key m.key = true := by
          cases hq : slt x.key m.key with
          | true => rfl
          | false => exact absurd (slt_tri hq (by simpa using hl)) hk
        rw [if_pos hx]
        simp

theorem ref_put {l : List Msg} (m : Msg) (h : Rise l) : refEnd m (l.foldl (refStep m) ([], false)) = putL l m := by
  rw [ref_go m l [] (rise_iff.1 h)]; simp

theorem fold_succ {l : List Msg} {m x : Msg} {j : Nat} {p : List Msg × Bool} (hx : l[j]? = some x) (h : (l.take j).foldl (refStep m) ([], false) = p) : (l.take (j + 1)).foldl (refStep m) ([], false) = refStep m p x := by
  rw [List.take_add_one, hx, List.foldl_append, h]; rfl

def turnM (lo hi : Str) : Bool := !decide (hi = ⟨#[]⟩) && slt hi lo

def endM (a b : Str) : Str := if a = ⟨#[]⟩ ∨ (b ≠ ⟨#[]⟩ ∧ slt b a = true) then b else a

def maxM (a b : Str) : Str := Lib.maxS a b

def meetM (r o : Str × Str) : Str × Str := (maxM r.1 o.1, if turnM (maxM r.1 o.1) (endM r.2 o.2) = true then maxM r.1 o.1 else endM r.2 o.2)

/-- The ranges in front of the last, and the last one's low end. -/
def cutL (r : Str × Str) (ps : List Str) : List (Str × Str) × Str := ps.foldl (fun s p => (s.1 ++ [meetM r (s.2, p)], p)) ([], ⟨#[]⟩)

def cutM (r : Str × Str) (ps : List Str) : List (Str × Str) := if ps = [] then [r] else (cutL r ps).1 ++ [meetM r ((cutL r ps).2, ⟨#[]⟩)]

theorem cutL_succ (r : Str × Str) {ps : List Str} {k : Nat} {p : Str} (h : ps[k]? = some p) : cutL r (ps.take (k + 1)) = ((cutL r (ps.take k)).1 ++ [meetM r ((cutL r (ps.take k)).2, p)], p) := by
  unfold cutL; rw [List.take_add_one, h]; simp

theorem cutL_len (r : Str × Str) (ps : List Str) : (cutL r ps).1.length = ps.length := by
  have h : ∀ (ps : List Str) (s : List (Str × Str) × Str), (ps.foldl (fun s p => (s.1 ++ [meetM r (s.2, p)], p)) s).1.length = s.1.length + ps.length := by
    intro ps
    induction ps with
    | nil => intro s; simp
    | cons p ps ih => intro s; rw [List.foldl_cons, ih]; simp; omega
  have := h ps ([], ⟨#[]⟩)
  simpa [cutL] using this

def partsM (ps : List Str) : List (Str × Str) := cutM (⟨#[]⟩, ⟨#[]⟩) ps

def lessP (x y : Int × Int) : Bool := decide (y.2 < x.2) || (decide (x.2 = y.2) && decide (x.1 < y.1))

/-- Two places of a list swapped. -/
def swapL (l : List (Int × Int)) (i j : Nat) : List (Int × Int) := match l[i]?, l[j]? with
  | some x, some y => (l.set i y).set j x
  | _, _ => l

/-- What 'up' does, in plain lists. -/
def upL (l : List (Int × Int)) (j : Nat) : List (Int × Int) :=
  if j = 0 then l else
  match l[j]?, l[(j - 1) / 2]? with
  | some x, some y => if lessP x y = true then upL ((l.set ((j - 1) / 2) x).set j y) ((j - 1) / 2) else l
  | _, _ => l
termination_by j
decreasing_by omega

theorem upL_length : ∀ (j : Nat) (l : List (Int × Int)), (upL l j).length = l.length := by
  intro j
  induction j using Nat.strongRecOn with
  | _ j ih =>
    intro l
    unfold upL
    split
    · rfl
    · split
      · split
        · rw [ih _ (by omega)]; simp
        · rfl
      · rfl

def pushH (h : List (Int × Int)) (p : Int × Int) : List (Int × Int) := if 0 < p.2 then upL (h ++ [p]) h.length else h

def enumL (l : List Int) : List (Int × Int) := l.zipIdx.map (fun p => ((p.2 : Int), p.1))

def topsL (l : List Int) (k : Nat) : List (Int × Int) := ((enumL l).take k).foldl pushH []

def heavL (l : List Int) : Int := match topsL l l.length with | [] => -1 | x :: _ => x.1

theorem topsL_succ {l : List Int} {k : Nat} {x : Int} (h : l[k]? = some x) : topsL l (k + 1) = pushH (topsL l k) ((k : Int), x) := by
  unfold topsL
  rw [List.take_add_one, List.foldl_append]
  have : (enumL l)[k]? = some ((k : Int), x) := by
    unfold enumL
    rw [List.getElem?_map, List.getElem?_zipIdx, h]
    simp
  rw [this]
  rfl

theorem pushH_length (h : List (Int × Int)) (p : Int × Int) : (pushH h p).length ≤ h.length + 1 := by
  unfold pushH
  split
  · rw [upL_length]; simp
  · omega

def mwts (l : List Msg) : Int := (l.map mwt).sum

def MSmall (l : List Msg) : Prop := ∀ m ∈ l, m.key.size ≤ 1000000 ∧ m.val.size ≤ 1000000

theorem mwts_take (l : List Msg) (k : Nat) (x : Msg) (h : l[k]? = some x) : mwts (l.take (k + 1)) = mwts (l.take k) + mwt x := by
  unfold mwts; rw [List.take_add_one, h]; simp

theorem mwt_bd {x : Msg} (h : x.key.size ≤ 1000000 ∧ x.val.size ≤ 1000000) : 3 ≤ mwt x ∧ mwt x ≤ 2000003 := by unfold mwt; omega

theorem mwts_bd (l : List Msg) (h : MSmall l) (k : Nat) : 0 ≤ mwts (l.take k) ∧ mwts (l.take k) ≤ 2000003 * k := by
  induction k with
  | zero => simp [mwts]
  | succ k ih =>
    cases hx : l[k]? with
    | none =>
      have : l.length ≤ k := by simpa using hx
      rw [List.take_of_length_le (by omega)] at *
      omega
    | some x =>
      rw [mwts_take l k x hx]
      have := mwt_bd (h x (List.mem_of_getElem? hx))
      omega

theorem msmall {l : List Msg} (h : ∀ x ∈ l, isMsg x = true) : MSmall l := by
  intro m hm
  have := h m hm
  unfold isMsg isKey at this
  simp only [Bool.and_eq_true, decide_eq_true_eq] at this
  omega
end Go.Proofs.Ytemijcjgdgdhjaa
