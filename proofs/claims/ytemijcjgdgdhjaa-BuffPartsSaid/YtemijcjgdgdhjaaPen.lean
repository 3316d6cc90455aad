/- Contracts of pen: numbers as bytes, written. -/
import Derived.Test.YtemijcjgdgdhjaaBuilder
import Derived.WalkLawsBesides
import Derived.StillTailTactics
import Derived.Outline
namespace Go.Proofs.Ytemijcjgdgdhjaa.Old
open Go.RowKit

/-- A number's bytes, the highest first. -/
def be (z : Nat) : Nat → List UInt8
  | 0 => []
  | w + 1 => UInt8.ofNat (z / 2 ^ (8 * w)) :: be z w
theorem be_length (z w : Nat) : (be z w).length = w := by induction w with | zero => rfl | succ w ih => simp [be, ih]
def bes (w : Nat) (zs : List Int) : List UInt8 := zs.flatMap fun z => be z.toNat w
def isWidth (w : Int) : Bool := decide (w = 1 ∨ w = 2 ∨ w = 4 ∨ w = 8)
def Fits (w : Nat) (z : Int) : Prop := 0 ≤ z ∧ z < 2 ^ (8 * w)

theorem isWidth_calls (x : Int) (w : World) : Calls Try.prog 148 #[.int .i64 x] w (Tells (.bool (isWidth x)) w) := by
  by_cases h1 : x = 1
  · subst h1
    go_enter Try.func148, Try.ntmps148
    go_wp2
    go_ret
    exact ⟨rfl, rfl⟩
  by_cases h2 : x = 2
  · subst h2
    go_enter Try.func148, Try.ntmps148
    go_wp2
    go_ret
    exact ⟨rfl, rfl⟩
  by_cases h3 : x = 4
  · subst h3
    go_enter Try.func148, Try.ntmps148
    go_wp2
    go_ret
    exact ⟨rfl, rfl⟩
  by_cases h4 : x = 8
  · subst h4
    go_enter Try.func148, Try.ntmps148
    go_wp2
    go_ret
    exact ⟨rfl, rfl⟩
  have e : isWidth x = false := by simp [isWidth, h1, h2, h3, h4]
  have t1 : (x == 1) = false := beq_eq_false_iff_ne.2 h1
  have t2 : (x == 2) = false := beq_eq_false_iff_ne.2 h2
  have t3 : (x == 4) = false := beq_eq_false_iff_ne.2 h3
  have t4 : (x == 8) = false := beq_eq_false_iff_ne.2 h4
  rw [e]
  clear e h1 h2 h3 h4
  go_enter Try.func148, Try.ntmps148
  go_wp2
  go_ret
  exact ⟨rfl, rfl⟩

/-- .. of a number that fits. -/
theorem fits_yes (wd : Nat) (z : Int) (w : World) (hw : wd = 1 ∨ wd = 2 ∨ wd = 4 ∨ wd = 8) (h : Fits wd z) (h2 : z ≤ 9223372036854775807) : Calls Try.prog 151 #[.int .i64 wd, .int .i64 z] w (Tells (.bool true) w) := by
  obtain ⟨h0, h1⟩ := h
  have t0 : decide (0 ≤ z) = true := by simp; omega
  rcases hw with rfl | rfl | rfl | rfl
  · have t1 : decide (z < 256) = true := by simp; omega
    clear h1
    go_enter Try.func151, Try.ntmps151
    go_wp2
    go_ret
    exact ⟨rfl, rfl⟩
  · have t1 : decide (z < 65536) = true := by simp; omega
    clear h1
    go_enter Try.func151, Try.ntmps151
    go_wp2
    go_ret
    exact ⟨rfl, rfl⟩
  · have t1 : decide (z < 4294967296) = true := by simp; omega
    clear h1
    go_enter Try.func151, Try.ntmps151
    go_wp2
    go_ret
    exact ⟨rfl, rfl⟩
  · clear h1
    go_enter Try.func151, Try.ntmps151
    go_wp2
    go_ret
    exact ⟨rfl, rfl⟩

/-- The closure of Num: it has captured the width. -/
theorem numF_yes (wd : Nat) (z : Int) (g : Nat) (w : World) (hw : wd = 1 ∨ wd = 2 ∨ wd = 4 ∨ wd = 8) (h : Fits wd z) (h2 : z ≤ 9223372036854775807) (hg : w.cell? ⟨g, 0, none⟩ = some (.int .i64 wd)) :
    Calls Try.prog 150 #[.int .i64 z, .pointer (some ⟨g, 0, none⟩)] w (Tells (.bool false) w) := by
  go_enter Try.func150, Try.ntmps150
  go_wp2_with fail
  refine (fits_yes wd z w hw h h2).mono ?_
  rintro e w' ⟨rfl, rfl⟩
  go_wp2_with fail
  go_ret
  exact ⟨rfl, rfl⟩

/-- A row of whole numbers in memory. -/
def Ints (w : World) (A : Option Addr) (l : List Int) : Prop :=
  ∀ (i : Nat) (x : Int), l[i]? = some x → ∃ b o, A = some ⟨b, o, none⟩ ∧ b < w.heap.size ∧ w.cell? ⟨b, o + i, none⟩ = some (.int .i64 x)

set_option maxRecDepth 100000 in
theorem indexInt_none (wd : Nat) (g : Nat) (A : Option Addr) (n c : Nat) (l : List Int) (w : World) (hn : l.length = n) (hm : n ≤ 9223372036854775807) (hI : Ints w A l) (hw : wd = 1 ∨ wd = 2 ∨ wd = 4 ∨ wd = 8)
    (h : ∀ z ∈ l, Fits wd z ∧ z ≤ 9223372036854775807) (hg : w.cell? ⟨g, 0, none⟩ = some (.int .i64 wd)) :
    Calls Try.prog 168 #[.slice A n c, .func (.func 150) #[] #[.pointer (some ⟨g, 0, none⟩)]] w (Tells (.int .i64 (-1)) w) := by
  have HN := Lib.hid hn
  have HW := Lib.hid hw
  have HA := Lib.hid h
  have HI := Lib.hid hI
  have HG := Lib.hid hg
  clear hn hw h hI hg
  go_enter Try.func168, Try.ntmps168
  go_wp2
  go_loop [5, 8] (fun _ i => ∃ k : Nat, k ≤ n ∧ i = .int .i64 k) (fun _ i => n - (intOf i).toNat)
  case atStart => exact ⟨0, by omega, rfl⟩
  case round =>
    obtain ⟨k, hk, rfl⟩ := hrel
    by_cases hlt : k < n
    · obtain ⟨x, hx⟩ : ∃ x, l[k]? = some x := ⟨l[k]'(by have := HN.out; omega), List.getElem?_eq_getElem _⟩
      obtain ⟨b, o, rfl, hbl, c1⟩ := HI.out k x hx
      have hh := HA.out x (List.mem_of_getElem? hx)
      have HH := Lib.hid hh
      clear hx hh
      go_wp2_with fail
      refine (numF_yes wd x g w HW.out HH.out.1 HH.out.2 HG.out).mono ?_
      rintro e w' ⟨rfl, rfl⟩
      go_wp2_with fail
      go_round
      case rel => exact ⟨k + 1, by omega, by go_num⟩
      case measure => simp [intOf]; omega
    · have t1 : decide (k < n) = false := by simp; omega
      go_wp2_with fail
      go_ret
      exact ⟨rfl, rfl⟩

theorem contInt_none (wd : Nat) (g : Nat) (A : Option Addr) (n c : Nat) (l : List Int) (w : World) (hn : l.length = n) (hm : n ≤ 9223372036854775807) (hI : Ints w A l) (hw : wd = 1 ∨ wd = 2 ∨ wd = 4 ∨ wd = 8)
    (h : ∀ z ∈ l, Fits wd z ∧ z ≤ 9223372036854775807) (hg : w.cell? ⟨g, 0, none⟩ = some (.int .i64 wd)) :
    Calls Try.prog 149 #[.slice A n c, .func (.func 150) #[] #[.pointer (some ⟨g, 0, none⟩)]] w (Tells (.bool false) w) := by
  have H := Lib.hid (indexInt_none wd g A n c l w hn hm hI hw h hg)
  clear hn hm hI hw h hg
  go_enter Try.func149, Try.ntmps149
  go_wp2_with fail
  refine H.out.mono ?_
  rintro e w' ⟨rfl, rfl⟩
  go_wp2_with fail
  go_ret
  exact ⟨rfl, rfl⟩

theorem Ints.keep {w w' : World} {A : Option Addr} {l : List Int} (h : Ints w A l) (hb : ∀ b o, A = some ⟨b, o, none⟩ → b < w.heap.size → l ≠ [] → w'.heap[b]? = w.heap[b]?) (hs : w.heap.size ≤ w'.heap.size) : Ints w' A l := by
  intro i x hx
  obtain ⟨b, o, hA, hlt, h1⟩ := h i x hx
  exact ⟨b, o, hA, by omega, (World.cell?_of_block (w := w) (hb b o hA hlt (by rintro rfl; simp at hx))).trans h1⟩

theorem be_take (z : Nat) : ∀ (w j : Nat), j < w → (be z w).take (j + 1) = (be z w).take j ++ [UInt8.ofNat (z / 2 ^ (8 * (w - 1 - j)))] := by
  intro w
  induction w with
  | zero => intro j h; omega
  | succ w ih =>
    intro j h
    cases j with
    | zero => simp [be]
    | succ j =>
      have := ih j (by omega)
      simp only [be, List.take_succ_cons, List.cons_append, this]
      rw [show w + 1 - 1 - (j + 1) = w - 1 - j from by omega]

theorem byteCells_append (a b : List UInt8) : Lib.byteCells (a ++ b) = Lib.byteCells a ++ Lib.byteCells b := by simp [Lib.byteCells]
theorem byte_val (x : Int) (h : 0 ≤ x) : Value.int .u8 (IntKind.u8.wrap x) = Value.int .u8 ((UInt8.ofNat x.toNat).toNat : Int) := by
  congr 1
  show (if (IntKind.u8.signed && decide (x % 2 ^ 8 ≥ 2 ^ 7)) = true then x % 2 ^ 8 - 2 ^ 8 else x % 2 ^ 8) = _
  simp [IntKind.signed]
  omega

theorem bes_take (wd : Nat) (zs : List Int) (k : Nat) (x : Int) (h : zs[k]? = some x) : bes wd (zs.take (k + 1)) = bes wd (zs.take k) ++ be x.toNat wd := by
  unfold bes
  rw [List.take_add_one, h]
  simp
theorem bes_length (wd : Nat) (zs : List Int) : (bes wd zs).length = wd * zs.length := by
  unfold bes
  induction zs with
  | nil => simp
  | cons a zs ih => simp [be_length, ih, Nat.mul_add]; omega

/-- What Num's loops carry: the builder, its bytes so far, what has turned, the captured width, the list. -/
def NumAt (wd : Nat) (T : TypeId) (B b g : Nat) (A : Option Addr) (zs : List Int) (bs : List UInt8) (w0 w : World) : Prop :=
  BAt T B b (Lib.byteCells bs) w ∧ FrT 5 B b w0 w ∧ w.heap[g]? = some (.cells #[.int .i64 wd] 3 (0, 0)) ∧ Ints w A zs ∧ B ≤ w.heap.size

theorem NumAt.drew {wd : Nat} {T : TypeId} {B b g : Nat} {A : Option Addr} {zs : List Int} {bs : List UInt8} {w0 w : World} (h : NumAt wd T B b g A zs bs w0 w) : NumAt wd T B b g A zs bs w0 w.drew := ⟨h.1, h.2.1.drew, h.2.2.1, h.2.2.2.1, h.2.2.2.2⟩
theorem NumAt.write {wd : Nat} {T : TypeId} {B b g : Nat} {A : Option Addr} {zs : List Int} {bs : List UInt8} {c : UInt8} {w0 w w' : World} (h : NumAt wd T B b g A zs bs w0 w) (hg : g ≠ b)
    (hA : ∀ a o, A = some ⟨a, o, none⟩ → zs ≠ [] → a ≠ b ∧ ¬ IsElem w0 5 a ∧ a < w0.heap.size) (h1 : BAt T B b (Lib.byteCells bs ++ [.int .u8 c.toNat]) w') (h2 : FrT 5 B b w w') : NumAt wd T B b g A zs (bs ++ [c]) w0 w' := by
  obtain ⟨_, hf, hgg, hI, hs⟩ := h
  refine ⟨by rw [byteCells_append]; exact h1, hf.trans h2, h2.other hgg hg (.inr (elem_of hgg (by decide))), ?_, Nat.le_trans hs h2.size⟩
  refine hI.keep (fun a o ha hlt hne => ?_) h2.size
  obtain ⟨q1, q2, q3⟩ := hA a o ha hne
  refine h2.block a hlt q1 (.inr (fun ⟨cs, fz, hc⟩ => q2 ⟨cs, fz, ?_⟩))
  rw [← hf.block a q3 q1 (.inr q2)]; exact hc
end Go.Proofs.Ytemijcjgdgdhjaa.Old
