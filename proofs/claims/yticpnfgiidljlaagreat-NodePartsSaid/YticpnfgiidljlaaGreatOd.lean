/- Contracts: strings compared, keys, values, messages. (joined) -/
import Derived.Test.YticpnfgiidljlaaGreatProg
import Derived.Test.YticpnfgiidljlaaGreatLa
import Derived.WalkLawsBesides
import Derived.Outline
import Derived.Lib.Builder
import Derived.Shelf.Strings.Builder1
import Derived.OwnWalk
import Derived.RowKit3
import Derived.StillTailTactics
import Derived.Laws.BitsLemmas
import Derived.Lib.ConvBytes
import Derived.Deep.RegionHeld3
namespace Go.Proofs.YticpnfgiidljlaaGreat.Old
open Go.RowKit
end Go.Proofs.YticpnfgiidljlaaGreat.Old
/- Contracts: which messages can be, what they weigh. -/
namespace Go.Proofs.YticpnfgiidljlaaGreat.Old
open Go.RowKit
theorem isMsg_put {k v : Str} : isMsg ⟨1, k, v⟩ = (isKey k && isVal v) := by simp [isMsg, isVal]
end Go.Proofs.YticpnfgiidljlaaGreat.Old
/- msg.Then where it refuses, or the second message is all. -/
namespace Go.Proofs.YticpnfgiidljlaaGreat.Old
open Go.RowKit
end Go.Proofs.YticpnfgiidljlaaGreat.Old
/- Contracts of strings.Builder, wherever it lies at the head of a block of its own. -/
namespace Go.Proofs.YticpnfgiidljlaaGreat.Old
open Go.RowKit
theorem bInfo : (Tryz.prog.info? 82).map (·.size) = some 2 := by kernel_rfl
theorem byteInfo : (Tryz.prog.info? 5).map (fun i => (i.zero, i.size, i.bytes)) = some (some (.int .u8 0), 1, 1) := by kernel_rfl
/-- A type at whose head a Builder lies, and nothing else. -/
def Holds2 (T : TypeId) : Prop := liesAt Tryz.prog Tryz.prog.depth T (2 / Tryz.prog.cellsOf T) 0 82 1 = true ∧ T ≠ 5
/-- The builder in block b, its buffer's row in blocks from B on. -/
def BAt (T : TypeId) (B b : Nat) (bs : List Value) (w : World) : Prop :=
  ∃ p v, (p = .pointer none ∨ p = .pointer (some ⟨b, 0, none⟩)) ∧ w.heap[b]? = some (.cells #[p, v] T (0, 0)) ∧ w.ownsRow B 5 1 v bs.length bs ∧ v.ownBlock ≠ some b
theorem BAt.fresh {T : TypeId} {B b : Nat} {w : World} (h : w.heap[b]? = some (.cells #[.pointer none, .slice none 0 0] T (0, 0))) : BAt T B b [] w :=
  ⟨_, _, .inl rfl, h, ⟨rfl, .inl ⟨rfl, rfl⟩⟩, by simp [Value.ownBlock]⟩
theorem BAt.kept {T : TypeId} {B b : Nat} {bs : List Value} {w w' : World} (h : BAt T B b bs w) (hb : ∀ k, k = b ∨ B ≤ k → k < w.heap.size → w'.heap[k]? = w.heap[k]?) : BAt T B b bs w' := by
  obtain ⟨p, v, hp, hh, ⟨h1, h2⟩, hn⟩ := h
  refine ⟨p, v, hp, (hb b (.inl rfl) (blk_lt hh)).trans hh, ⟨h1, ?_⟩, hn⟩
  rcases h2 with h2 | ⟨g, cap, cur, hv, hg, hgg, r⟩
  · exact .inl h2
  · exact .inr ⟨g, cap, cur, hv, hg, (hb g (.inr hg) (blk_lt hgg)).trans hgg, r⟩
set_option maxRecDepth 100000 in
set_option maxHeartbeats 1000000 in
theorem copyCheck_calls {T : TypeId} (hT : Holds2 T) (b : Nat) (p v : Value) (w : World) (hp : p = .pointer none ∨ p = .pointer (some ⟨b, 0, none⟩)) (h : w.heap[b]? = some (.cells #[p, v] T (0, 0))) :
    Calls Tryz.prog 143 #[.pointer (some ⟨b, 0, none⟩)] w fun e w' => e = .returned (.tuple #[]) ∧ w'.heap[b]? = some (.cells #[.pointer (some ⟨b, 0, none⟩), v] T (0, 0)) ∧ FrT 5 w.heap.size b w w' := by
  rcases hp with rfl | rfl
  · have h0 : w.cell? ⟨b, 0, none⟩ = some (.pointer none) := by simp [World.cell?, h]
    have hsh : w.shape? b = some (T, 2) := by simp [World.shape?, h]
    have hfz := blk_free h 0
    have H := Lib.hid h
    clear h
    obtain ⟨j, hj, hjs⟩ := Option.map_eq_some_iff.1 bInfo
    have ht : Tryz.prog.underlying 79 = some (.pointer 82) := Tryz.underlying79
    have hu : Tryz.prog.underlying 214 = some .unsafePointer := Tryz.underlying214
    have HJ := Lib.hid hj
    have HJS := Lib.hid hjs
    have HSH := Lib.hid hsh
    clear hj hjs hsh
    go_enter Tryz.func143, Tryz.ntmps143
    go_wp2
    rw [Lib.run_to_unsafe w ⟨b, 0, none⟩ ht hu HJ.out (by rw [HJS.out]; decide) HSH.out (Nat.zero_lt_succ 1)]
    simp only [Result.andThen]
    rw [Oper.upon_value]
    go_wp2
    rw [run_callFunc_extern Tryz.func164 (by kernel_rfl) (by kernel_rfl) (by kernel_rfl) (e := Extern.AbiNoEscape.same) (by kernel_rfl)]
    rw [Lib.run_noEscape]
    simp only [Result.andThen]
    rw [Oper.upon_value]
    go_wp2
    rw [Lib.run_from_unsafe w ⟨b, 0, none⟩ hu ht HJ.out HSH.out hT.1]
    simp only [Result.andThen]
    rw [Oper.upon_value]
    go_wp2
    go_end0
    exact ⟨rfl, by rw [blk_set H.out]; rfl, (FrT.refl _ _ _ _).setCell _ _⟩
  · have h0 : w.cell? ⟨b, 0, none⟩ = some (.pointer (some ⟨b, 0, none⟩)) := by simp [World.cell?, h]
    have H := Lib.hid h
    clear h
    obtain ⟨j, hj, hjs⟩ := Option.map_eq_some_iff.1 bInfo
    have ht : Tryz.prog.underlying 79 = some (.pointer 82) := Tryz.underlying79
    have HJ := Lib.hid hj
    clear hj hjs
    go_enter Tryz.func143, Tryz.ntmps143
    go_wp2
    rw [Lib.run_neq_ptr_same w _ ht HJ.out]
    go_wp2
    go_end0
    exact ⟨rfl, H.out, FrT.refl _ _ _ _⟩
set_option maxHeartbeats 1000000 in
theorem writeByte_calls {T : TypeId} (hT : Holds2 T) (B b : Nat) (bs : List Value) (c : Int) (w : World) (h : BAt T B b bs w) (hlen : bs.length + 1 ≤ 140737488355328) (hBw : B ≤ w.heap.size) :
    Calls Tryz.prog 127 #[.pointer (some ⟨b, 0, none⟩), .int .u8 c] w fun e w' => e = .returned .nilIface ∧ BAt T B b (bs ++ [.int .u8 c]) w' ∧ FrT 5 B b w w' := by
  obtain ⟨i0, hi, hz0, hz1, hz2⟩ := info_parts byteInfo
  have HI := Lib.hid hi
  have HZ0 := Lib.hid hz0
  have HZ1 := Lib.hid hz1
  have HZ2 := Lib.hid hz2
  clear hi hz0 hz1 hz2
  obtain ⟨p, v, hp, hh, hown0, hne⟩ := h
  have HH := Lib.hid hh
  clear hh
  go_enter Tryz.func127, Tryz.ntmps127
  go_wp2_with fail
  refine (copyCheck_calls hT b p v _ hp HH.out).mono ?_
  rintro e w1 ⟨rfl, hbk, hf1⟩
  have hown : w1.ownsRow B 5 1 v bs.length bs := ownsRow_move hown0 fun g hg => hf1.block g (hown0.lt g hg).2 (by rintro rfl; exact hne hg) (.inl (hown0.lt g hg).2)
  have hsz1 := hf1.size
  have c0 : w1.cell? ⟨b, 0, none⟩ = some (.pointer (some ⟨b, 0, none⟩)) := by rw [Lib.cell_of_heap hbk]; rfl
  have c1 : w1.cell? ⟨b, 1, none⟩ = some v := by rw [Lib.cell_of_heap hbk]; rfl
  have HBK := Lib.hid hbk
  clear hbk hp
  go_wp2_with (at_builtin; refine wpList_append_own _ rfl _ _ 80 rfl B 5 i0 (.int .u8 0) 1 1 Tryz.underlying80 HI.out HZ0.out HZ1.out HZ2.out rfl (by decide) _ _ _ rfl (hown.alloc _) ⟨w1.heap.size, 0, none⟩ 1 1 [.int .u8 c] rfl rfl ?c1 ?c2 ?c3 ?c4 ?c5 ?_)
  case c1 =>
    intro j u hj
    match j, hj with
    | 0, hj => simp at hj; subst hj; simp [Addr.add]
  case c2 => intro u hu; simp at hu; subst hu; rfl
  case c3 => unfold maxLen; omega
  case c4 => omega
  case c5 => simp; omega
  intro v' w2 hown' hgrow _
  have hbk := HBK.out
  have hlt : b < w1.heap.size := blk_lt hbk
  have hb2 : w2.heap[b]? = some (.cells #[.pointer (some ⟨b, 0, none⟩), v] T (0, 0)) := by
    rw [hgrow.block b (by simp; omega) (fun e => hne e.symm), Lib.alloc_old w1 _ b hlt]
    exact hbk
  have d0 : w2.cell? ⟨b, 0, none⟩ = some (.pointer (some ⟨b, 0, none⟩)) := by rw [Lib.cell_of_heap hb2]; rfl
  have d1 : w2.cell? ⟨b, 1, none⟩ = some v := by rw [Lib.cell_of_heap hb2]; rfl
  have f1 : w2.frozen? ⟨b, 1, none⟩ = false := Lib.frozen_of_heap hb2 1
  obtain ⟨g, cap, rfl⟩ : ∃ g cap, v' = .slice (some ⟨g, 0, none⟩) (bs.length + 1) cap := by
    rcases hown'.2 with ⟨_, h0⟩ | ⟨g, cap, cur, hv, _⟩
    · omega
    · exact ⟨g, cap, hv⟩
  have HB2 := Lib.hid hb2
  clear hbk hb2 c0 c1
  go_wp2
  go_ret
  have hgb : g ≠ b := by
    rintro rfl
    rcases hown'.2 with ⟨_, h0⟩ | ⟨g, cap, cur, hv, _, hgg, _⟩
    · omega
    · simp only [Value.slice.injEq, Option.some.injEq, Addr.mk.injEq] at hv
      obtain ⟨⟨rfl, _⟩, _⟩ := hv
      rw [HB2.out] at hgg
      simp only [Option.some.injEq, Obj.cells.injEq] at hgg
      exact hT.2 hgg.2.1
  refine ⟨rfl, ⟨_, _, .inr rfl, by rw [blk_set HB2.out]; rfl, ?_, by simp [Value.ownBlock]; exact hgb⟩, ?_⟩
  · refine ownsRow_move (by simpa using hown') fun g' hg' => ?_
    simp [Value.ownBlock] at hg'
    subst hg'
    exact Below.heap_setCell _ _ _ _ hgb
  · exact ((((FrT.mono hf1 hBw).alloc _).grown hgrow (fun k hk => owns_elem (hown.alloc _) hk)).setCell _ _)
set_option maxHeartbeats 1000000 in
theorem bString_some {T : TypeId} (B b : Nat) (l : List UInt8) (w : World) (h : BAt T B b (Lib.byteCells l) w) (h0 : l ≠ []) :
    Calls Tryz.prog 94 #[.pointer (some ⟨b, 0, none⟩)] w fun e w' => e = .returned (.string ⟨l.toArray⟩) ∧ Below B w w' := by
  obtain ⟨p, v, _, hbk, hown, hne⟩ := h
  have hl0 : l.length ≠ 0 := by simpa using h0
  rw [Lib.byteCells_length] at hown
  obtain ⟨g, cap, cur, rfl, hbg, hg, hnc, hcm, hcs, htake⟩ : ∃ g cap cur, v = .slice (some ⟨g, 0, none⟩) l.length cap ∧ B ≤ g ∧ w.heap[g]? = some (.cells cur 5 (0, 0)) ∧ l.length ≤ cap ∧ cap ≤ maxLen ∧ cur.size = cap * 1 ∧ cur.toList.take (l.length * 1) = Lib.byteCells l := by
    rcases hown.2 with ⟨_, hz⟩ | ⟨g, cap, cur, hv, r⟩
    · exact absurd hz hl0
    · exact ⟨g, cap, cur, hv, r⟩
  have c1 : w.drew.cell? ⟨b, 1, none⟩ = some (.slice (some ⟨g, 0, none⟩) l.length cap) := by
    have : w.drew.heap[b]? = some (.cells #[p, .slice (some ⟨g, 0, none⟩) l.length cap] T (0, 0)) := hbk
    rw [Lib.cell_of_heap this]; rfl
  have hSD : (Builtin.unsafeSliceData_ #[80] 181 #[.slice (some ⟨g, 0, none⟩) l.length cap]).run Tryz.prog w.drew = .ok (.pointer (some ⟨g, 0, none⟩)) w.drew :=
    Lib.run_unsafeSliceData_row _ _ _ _ _ _ (by omega)
  have hUS : (Builtin.unsafeString_ #[181, 3] 9 #[.pointer (some ⟨g, 0, none⟩), .int .i64 l.length]).run Tryz.prog w.drew = .ok (.string ⟨l.toArray⟩) (w.drew.freeze ⟨g, 0, none⟩ l.length) := by
    refine Lib.run_unsafeString_row w.drew 181 3 9 5 Tryz.underlying181 (by kernel_rfl) g cur.size (by have hg' : w.drew.heap[g]? = some (.cells cur 5 (0, 0)) := hg; simp [World.shape?, hg']) l h0 (by omega) (by unfold maxLen at hcm; omega) ?_
    intro j x hx
    have := hown.cells (g := g) rfl j (.int .u8 x.toNat) (by simp [Lib.byteCells, hx])
    exact this
  clear hown hbk hg htake hcs
  go_enter Tryz.func94, Tryz.ntmps94
  go_wp2
  go_region
  all_goals (go_wp2; go_ret; exact ⟨rfl, Lib.below_freeze (Below.drew (Below.refl B w)) (p := ⟨g, 0, none⟩) hbg _⟩)
end Go.Proofs.YticpnfgiidljlaaGreat.Old
/- Contracts of pen: numbers as bytes, written. -/
namespace Go.Proofs.YticpnfgiidljlaaGreat.Old
open Go.RowKit
/-- A number's bytes, the highest first. -/
def be (z : Nat) : Nat → List UInt8
  | 0 => []
  | w + 1 => UInt8.ofNat (z / 2 ^ (8 * w)) :: be z w
theorem be_length (z w : Nat) : (be z w).length = w := by induction w with | zero => rfl | succ w ih => simp [be, ih]
def bes (w : Nat) (zs : List Int) : List UInt8 := zs.flatMap fun z => be z.toNat w
def isWidth (w : Int) : Bool := decide (w = 1 ∨ w = 2 ∨ w = 4 ∨ w = 8)
def Fits (w : Nat) (z : Int) : Prop := 0 ≤ z ∧ z < 2 ^ (8 * w)
theorem isWidth_calls (x : Int) (w : World) : Calls Tryz.prog 87 #[.int .i64 x] w (Tells (.bool (isWidth x)) w) := by
  by_cases h1 : x = 1
  · subst h1
    go_enter Tryz.func87, Tryz.ntmps87
    go_wp2
    go_ret
    exact ⟨rfl, rfl⟩
  by_cases h2 : x = 2
  · subst h2
    go_enter Tryz.func87, Tryz.ntmps87
    go_wp2
    go_ret
    exact ⟨rfl, rfl⟩
  by_cases h3 : x = 4
  · subst h3
    go_enter Tryz.func87, Tryz.ntmps87
    go_wp2
    go_ret
    exact ⟨rfl, rfl⟩
  by_cases h4 : x = 8
  · subst h4
    go_enter Tryz.func87, Tryz.ntmps87
    go_wp2
    go_ret
    exact ⟨rfl, rfl⟩
  have e : isWidth x = false := by simp [isWidth, h1, h2, h3, h4]
  have t1 : (x == 1) = false := beq_eq_false_iff_ne.2 h1
  have t2 : (x == 2) = false := beq_eq_false_iff_ne.2 h2
  have t3 : (x == 4) = false := beq_eq_false_iff_ne.2 h3
  have t4 : (x == 8) = false := beq_eq_false_iff_ne.2 h4
  rw [e]
  clear e h1 h2 h3 h4
  go_enter Tryz.func87, Tryz.ntmps87
  go_wp2
  go_ret
  exact ⟨rfl, rfl⟩
/-- .. of a number that fits. -/
theorem fits_yes (wd : Nat) (z : Int) (w : World) (hw : wd = 1 ∨ wd = 2 ∨ wd = 4 ∨ wd = 8) (h : Fits wd z) (h2 : z ≤ 9223372036854775807) : Calls Tryz.prog 126 #[.int .i64 wd, .int .i64 z] w (Tells (.bool true) w) := by
  obtain ⟨h0, h1⟩ := h
  have t0 : decide (0 ≤ z) = true := by simp; omega
  rcases hw with rfl | rfl | rfl | rfl
  · have t1 : decide (z < 256) = true := by simp; omega
    clear h1
    go_enter Tryz.func126, Tryz.ntmps126
    go_wp2
    go_ret
    exact ⟨rfl, rfl⟩
  · have t1 : decide (z < 65536) = true := by simp; omega
    clear h1
    go_enter Tryz.func126, Tryz.ntmps126
    go_wp2
    go_ret
    exact ⟨rfl, rfl⟩
  · have t1 : decide (z < 4294967296) = true := by simp; omega
    clear h1
    go_enter Tryz.func126, Tryz.ntmps126
    go_wp2
    go_ret
    exact ⟨rfl, rfl⟩
  · clear h1
    go_enter Tryz.func126, Tryz.ntmps126
    go_wp2
    go_ret
    exact ⟨rfl, rfl⟩
/-- The closure of Num: it has captured the width. -/
theorem numF_yes (wd : Nat) (z : Int) (g : Nat) (w : World) (hw : wd = 1 ∨ wd = 2 ∨ wd = 4 ∨ wd = 8) (h : Fits wd z) (h2 : z ≤ 9223372036854775807) (hg : w.cell? ⟨g, 0, none⟩ = some (.int .i64 wd)) :
    Calls Tryz.prog 125 #[.int .i64 z, .pointer (some ⟨g, 0, none⟩)] w (Tells (.bool false) w) := by
  go_enter Tryz.func125, Tryz.ntmps125
  go_wp2_with fail
  refine (fits_yes wd z w hw h h2).mono ?_
  rintro e w' ⟨rfl, rfl⟩
  go_wp2_with fail
  go_ret
  exact ⟨rfl, rfl⟩
/-- A row of whole numbers in memory. -/
def Ints (w : World) (A : Option Addr) (l : List Int) : Prop :=
  ∀ (i : Nat) (x : Int), l[i]? = some x → ∃ b o, A = some ⟨b, o, none⟩ ∧ b < w.heap.size ∧ w.cell? ⟨b, o + i, none⟩ = some (.int .i64 x)
set_option maxRecDepth 100000 in
theorem indexInt_none (wd : Nat) (g : Nat) (A : Option Addr) (n c : Nat) (l : List Int) (w : World) (hn : l.length = n) (hm : n ≤ 9223372036854775807) (hI : Ints w A l) (hw : wd = 1 ∨ wd = 2 ∨ wd = 4 ∨ wd = 8)
    (h : ∀ z ∈ l, Fits wd z ∧ z ≤ 9223372036854775807) (hg : w.cell? ⟨g, 0, none⟩ = some (.int .i64 wd)) :
    Calls Tryz.prog 95 #[.slice A n c, .func (.func 125) #[] #[.pointer (some ⟨g, 0, none⟩)]] w (Tells (.int .i64 (-1)) w) := by
  have HN := Lib.hid hn
  have HW := Lib.hid hw
  have HA := Lib.hid h
  have HI := Lib.hid hI
  have HG := Lib.hid hg
  clear hn hw h hI hg
  go_enter Tryz.func95, Tryz.ntmps95
  go_wp2
  go_loop [5, 8] (fun _ i => ∃ k : Nat, k ≤ n ∧ i = .int .i64 k) (fun _ i => n - (intOf i).toNat)
  case atStart => exact ⟨0, by omega, rfl⟩
  case round =>
    obtain ⟨k, hk, rfl⟩ := hrel
    by_cases hlt : k < n
    · obtain ⟨x, hx⟩ : ∃ x, l[k]? = some x := ⟨l[k]'(by have := HN.out; omega), List.getElem?_eq_getElem _⟩
      obtain ⟨b, o, rfl, hbl, c1⟩ := HI.out k x hx
      have hh := HA.out x (List.mem_of_getElem? hx)
      have HH := Lib.hid hh
      clear hx hh
      go_wp2_with fail
      refine (numF_yes wd x g w HW.out HH.out.1 HH.out.2 HG.out).mono ?_
      rintro e w' ⟨rfl, rfl⟩
      go_wp2_with fail
      go_round
      case rel => exact ⟨k + 1, by omega, by go_num⟩
      case measure => simp [intOf]; omega
    · have t1 : decide (k < n) = false := by simp; omega
      go_wp2_with fail
      go_ret
      exact ⟨rfl, rfl⟩
theorem contInt_none (wd : Nat) (g : Nat) (A : Option Addr) (n c : Nat) (l : List Int) (w : World) (hn : l.length = n) (hm : n ≤ 9223372036854775807) (hI : Ints w A l) (hw : wd = 1 ∨ wd = 2 ∨ wd = 4 ∨ wd = 8)
    (h : ∀ z ∈ l, Fits wd z ∧ z ≤ 9223372036854775807) (hg : w.cell? ⟨g, 0, none⟩ = some (.int .i64 wd)) :
    Calls Tryz.prog 43 #[.slice A n c, .func (.func 125) #[] #[.pointer (some ⟨g, 0, none⟩)]] w (Tells (.bool false) w) := by
  have H := Lib.hid (indexInt_none wd g A n c l w hn hm hI hw h hg)
  clear hn hm hI hw h hg
  go_enter Tryz.func43, Tryz.ntmps43
  go_wp2_with fail
  refine H.out.mono ?_
  rintro e w' ⟨rfl, rfl⟩
  go_wp2_with fail
  go_ret
  exact ⟨rfl, rfl⟩
theorem Ints.keep {w w' : World} {A : Option Addr} {l : List Int} (h : Ints w A l) (hb : ∀ b o, A = some ⟨b, o, none⟩ → b < w.heap.size → l ≠ [] → w'.heap[b]? = w.heap[b]?) (hs : w.heap.size ≤ w'.heap.size) : Ints w' A l := by
  intro i x hx
  obtain ⟨b, o, hA, hlt, h1⟩ := h i x hx
  exact ⟨b, o, hA, by omega, (World.cell?_of_block (w := w) (hb b o hA hlt (by rintro rfl; simp at hx))).trans h1⟩
theorem be_take (z : Nat) : ∀ (w j : Nat), j < w → (be z w).take (j + 1) = (be z w).take j ++ [UInt8.ofNat (z / 2 ^ (8 * (w - 1 - j)))] := by
  intro w
  induction w with
  | zero => intro j h; omega
  | succ w ih =>
    intro j h
    cases j with
    | zero => simp [be]
    | succ j =>
      have := ih j (by omega)
      simp only [be, List.take_succ_cons, List.cons_append, this]
      rw [show w + 1 - 1 - (j + 1) = w - 1 - j from by omega]
theorem byteCells_append (a b : List UInt8) : Lib.byteCells (a ++ b) = Lib.byteCells a ++ Lib.byteCells b := by simp [Lib.byteCells]
theorem bes_take (wd : Nat) (zs : List Int) (k : Nat) (x : Int) (h : zs[k]? = some x) : bes wd (zs.take (k + 1)) = bes wd (zs.take k) ++ be x.toNat wd := by
  unfold bes
  rw [List.take_add_one, h]
  simp
theorem bes_length (wd : Nat) (zs : List Int) : (bes wd zs).length = wd * zs.length := by
  unfold bes
  induction zs with
  | nil => simp
  | cons a zs ih => simp [be_length, ih, Nat.mul_add]; omega
/-- What Num's loops carry: the builder, its bytes so far, what has turned, the captured width, the list. -/
def NumAt (wd : Nat) (T : TypeId) (B b g : Nat) (A : Option Addr) (zs : List Int) (bs : List UInt8) (w0 w : World) : Prop :=
  BAt T B b (Lib.byteCells bs) w ∧ FrT 5 B b w0 w ∧ w.heap[g]? = some (.cells #[.int .i64 wd] 3 (0, 0)) ∧ Ints w A zs ∧ B ≤ w.heap.size
theorem NumAt.drew {wd : Nat} {T : TypeId} {B b g : Nat} {A : Option Addr} {zs : List Int} {bs : List UInt8} {w0 w : World} (h : NumAt wd T B b g A zs bs w0 w) : NumAt wd T B b g A zs bs w0 w.drew := ⟨h.1, h.2.1.drew, h.2.2.1, h.2.2.2.1, h.2.2.2.2⟩
theorem NumAt.write {wd : Nat} {T : TypeId} {B b g : Nat} {A : Option Addr} {zs : List Int} {bs : List UInt8} {c : UInt8} {w0 w w' : World} (h : NumAt wd T B b g A zs bs w0 w) (hg : g ≠ b)
    (hA : ∀ a o, A = some ⟨a, o, none⟩ → zs ≠ [] → a ≠ b ∧ ¬ IsElem w0 5 a ∧ a < w0.heap.size) (h1 : BAt T B b (Lib.byteCells bs ++ [.int .u8 c.toNat]) w') (h2 : FrT 5 B b w w') : NumAt wd T B b g A zs (bs ++ [c]) w0 w' := by
  obtain ⟨_, hf, hgg, hI, hs⟩ := h
  refine ⟨by rw [byteCells_append]; exact h1, hf.trans h2, h2.other hgg hg (.inr (elem_of hgg (by decide))), ?_, Nat.le_trans hs h2.size⟩
  refine hI.keep (fun a o ha hlt hne => ?_) h2.size
  obtain ⟨q1, q2, q3⟩ := hA a o ha hne
  refine h2.block a hlt q1 (.inr (fun ⟨cs, fz, hc⟩ => q2 ⟨cs, fz, ?_⟩))
  rw [← hf.block a q3 q1 (.inr q2)]; exact hc
end Go.Proofs.YticpnfgiidljlaaGreat.Old
/- (*pen.Out).Num of numbers that fit: their bytes are written, the highest first. -/
namespace Go.Proofs.YticpnfgiidljlaaGreat.Old
open Go.RowKit
theorem byte_is (x : Int) (q : Nat) (h : 0 ≤ x) : x / 2 ^ (8 * q) % 256 = ((UInt8.ofNat (x.toNat / 2 ^ (8 * q))).toNat : Int) := by
  obtain ⟨n, rfl⟩ := Int.eq_ofNat_of_zero_le h
  rw [UInt8.toNat_ofNat']
  simp
set_option maxRecDepth 100000 in
set_option maxHeartbeats 1000000 in
theorem outNum_ok (wd : Nat) (T : TypeId) (hT : Holds2 T) (B b : Nat) (A : Option Addr) (n c : Nat) (zs : List Int) (bs : List UInt8) (w : World) (hw : wd = 1 ∨ wd = 2 ∨ wd = 4 ∨ wd = 8) (h : BAt T B b (Lib.byteCells bs) w)
    (hn : zs.length = n) (hm : n ≤ 1000) (hI : Ints w A zs) (hA : ∀ a o, A = some ⟨a, o, none⟩ → zs ≠ [] → a ≠ b ∧ ¬ IsElem w 5 a ∧ a < w.heap.size) (hB : B ≤ w.heap.size) (hz : ∀ z ∈ zs, Fits wd z ∧ z ≤ 9223372036854775807)
    (hlen : bs.length + wd * n ≤ 140737488355328) :
    Calls Tryz.prog 90 #[.pointer (some ⟨b, 0, none⟩), .int .i64 wd, .slice A n c] w fun e w' => e = .returned (.int .i64 0) ∧ BAt T B b (Lib.byteCells (bs ++ bes wd zs)) w' ∧ FrT 5 B b w w' := by
  have hiw : isWidth wd = true := by rcases hw with rfl | rfl | rfl | rfl <;> decide
  have hb : b < w.heap.size := by obtain ⟨p, v, _, hh, _⟩ := h; exact blk_lt hh
  have hw8 : 1 ≤ wd ∧ wd ≤ 8 := by omega
  obtain ⟨w1', w8⟩ := hw8
  have HN := Lib.hid hn
  have HW := Lib.hid hw
  have HA := Lib.hid hA
  have HZ := Lib.hid hz
  have HIW := Lib.hid hiw
  have h0 : NumAt wd T B b w.heap.size A zs bs w (w.alloc (.cells #[.int .i64 wd] 3)) :=
    ⟨h.kept fun k hk hlt => Below.heap_alloc _ _ _ hlt, (FrT.refl _ _ _ _).alloc _, blk_self _ _, hI.keep (fun a o _ hlt _ => Below.heap_alloc _ _ _ hlt) (by simp), by simp; omega⟩
  have H0 := Lib.hid h0
  clear hn hw hA hz hiw h hI h0
  go_enter Tryz.func90, Tryz.ntmps90
  go_wp2_with fail
  refine (isWidth_calls _ _).mono ?_
  rintro e w' ⟨rfl, rfl⟩
  rw [HIW.out]
  go_wp2_with fail
  refine (contInt_none wd w.heap.size A n c zs _ HN.out (by omega) H0.out.2.2.2.1 HW.out HZ.out (by rw [blk_cell H0.out.2.2.1]; rfl)).mono ?_
  rintro e w' ⟨rfl, rfl⟩
  go_wp2_with fail
  go_loopw [8, 9, 24] (fun _ _ i wr => ∃ k : Nat, k ≤ n ∧ i = .int .i64 k ∧ Hid (NumAt wd T B b w.heap.size A zs (bs ++ bes wd (zs.take k)) w wr)) (fun _ _ i _ => n - (intOf i).toNat)
  case atStart => exact ⟨0, by omega, rfl, by simpa [bes, Hid] using H0.out⟩
  case round =>
    obtain ⟨k, hk, rfl, HR⟩ := hrel
    by_cases hlt : k < n
    · obtain ⟨x, hx⟩ : ∃ x, zs[k]? = some x := ⟨zs[k]'(by have := HN.out; omega), List.getElem?_eq_getElem _⟩
      obtain ⟨a, o, hAe, hbl, c1⟩ := HR.out.2.2.2.1 k x hx
      have hcw : wr.cell? ⟨w.heap.size, 0, none⟩ = some (.int .i64 wd) := by rw [blk_cell HR.out.2.2.1]; rfl
      obtain ⟨⟨x0, x1⟩, x2⟩ := HZ.out x (List.mem_of_getElem? hx)
      have HX1 := Lib.hid x1
      have HX := Lib.hid (bes_take wd zs k x hx)
      have hAA := HA.out a o hAe (by rintro rfl; simp at hx)
      have HAA := Lib.hid hAA
      subst hAe
      clear hx hAA x1
      go_wp2_with fail
      go_loopw [9] (fun i wi => ∃ j : Nat, j ≤ wd ∧ i = .int .i64 ((wd : Int) - 1 - j) ∧ Hid (NumAt wd T B b w.heap.size (some ⟨a, o, none⟩) zs (bs ++ bes wd (zs.take k) ++ (be x.toNat wd).take j) w wi)) (fun i _ => ((intOf i) + 1).toNat)
      case atStart => exact ⟨0, by omega, by simp, by simpa [Hid] using HR.out⟩
      case round =>
        obtain ⟨j, hj, rfl, HJ⟩ := hrel
        by_cases hjl : j < wd
        · obtain ⟨q, hq⟩ : ∃ q : Nat, q = wd - 1 - j := ⟨_, rfl⟩
          have hqi : (wd : Int) - 1 - (j : Int) = (q : Int) := by omega
          have hq7 : q ≤ 7 := by omega
          rw [hqi]
          have HQ := Lib.hid hq
          have HQI := Lib.hid hqi
          clear hq hqi
          have s1 : IntKind.i64.wrap (8 * (q : Int)) = 8 * (q : Int) := by rw [IntKind.wrap_i64]; omega
          have s2 : (0 : Int) ≤ 8 * (q : Int) := by omega
          have s3 : 8 * (q : Int) ≤ 64 := by omega
          have t1 : decide ((0 : Int) ≤ (q : Int)) = true := by simp
          go_wp2_with fail
          go_still_tail 8, (by kernel_rfl)
          go_wp2_with fail
          have hJ := HJ.out.drew
          rw [byte_is x q x0]
          have hl : (bs ++ bes wd (zs.take k) ++ (be x.toNat wd).take j).length + 1 ≤ 140737488355328 := by
            have := HN.out
            simp only [List.length_append, List.length_take, be_length, bes_length]
            have : wd * min k zs.length ≤ wd * n := Nat.mul_le_mul_left _ (by omega)
            have : wd * min k zs.length + wd ≤ wd * n := by
              have : min k zs.length + 1 ≤ n := by omega
              have := Nat.mul_le_mul_left wd this
              rw [Nat.mul_add] at this; omega
            omega
          refine (writeByte_calls hT B b (Lib.byteCells (bs ++ bes wd (zs.take k) ++ (be x.toNat wd).take j)) _ _ hJ.1 (by rw [Lib.byteCells_length]; exact hl) hJ.2.2.2.2).mono ?_
          rintro e w2 ⟨rfl, hb2, hf2⟩
          have hN2 := NumAt.write hJ (by omega) (fun a' o' h' hne => by cases h'; exact HAA.out) hb2 ⟨hf2.os, hf2.tape, hf2.output, hf2.size, hf2.block⟩
          have H2 := Lib.hid hN2
          clear hJ hb2 hf2 hN2 hl
          go_wp2_with fail
          go_roundw
          case rel =>
            refine ⟨j + 1, by omega, by have := HQI.out; congr 1; omega, ?_⟩
            have e := be_take x.toNat wd j hjl
            rw [← HQ.out] at e
            rw [e, ← List.append_assoc]
            exact H2
          case measure => simp [intOf]
        · have hjw : j = wd := by omega
          subst hjw
          have t1 : decide ((0 : Int) ≤ (j : Int) - 1 - j) = false := by simp; omega
          go_wp2_with fail
          go_roundw
          case rel =>
            refine ⟨k + 1, by omega, by go_num, ?_⟩
            rw [HX.out, ← List.append_assoc]
            have hJ := HJ.out
            rw [show (be x.toNat j).take j = be x.toNat j from List.take_of_length_le (by rw [be_length]; exact Nat.le_refl _)] at hJ
            exact hJ
          case measure => simp [intOf]; omega
    · have t1 : decide (k < n) = false := by simp; omega
      have hk : zs.take k = zs := List.take_of_length_le (by have := HN.out; omega)
      have hR := HR.out
      rw [hk] at hR
      have HR2 := Lib.hid hR
      clear hR
      go_wp2_with fail
      go_ret
      exact ⟨rfl, HR2.out.1, HR2.out.2.1⟩
end Go.Proofs.YticpnfgiidljlaaGreat.Old
/- key.Value: a number's eight bytes. -/
namespace Go.Proofs.YticpnfgiidljlaaGreat.Old
open Go.RowKit
theorem holdsOut : Holds2 84 := ⟨by kernel_rfl, by decide⟩
theorem outBytes_some (B b : Nat) (l : List UInt8) (w : World) (h : BAt 84 B b (Lib.byteCells l) w) (h0 : l ≠ []) :
    Calls Tryz.prog 40 #[.pointer (some ⟨b, 0, none⟩)] w fun e w' => e = .returned (.string ⟨l.toArray⟩) ∧ Below B w w' := by
  have H := Lib.hid (bString_some B b l w h h0)
  clear h h0
  go_enter Tryz.func40, Tryz.ntmps40
  go_wp2_with fail
  refine H.out.mono ?_
  rintro e w' ⟨rfl, hb⟩
  go_wp2_with fail
  go_ret
  exact ⟨rfl, hb⟩
/-- A number's eight bytes, as a text. -/
def val8 (n : Nat) : Str := ⟨(be n 8).toArray⟩
theorem be_split (n : Nat) (_ : n < 2 ^ 64) : be (n / 2 ^ 32) 4 ++ be (n % 2 ^ 32) 4 = be n 8 := by
  have e : ∀ i, i < 4 → UInt8.ofNat (n / 2 ^ 32 / 2 ^ (8 * i)) = UInt8.ofNat (n / 2 ^ (8 * (i + 4))) := by
    intro i hi
    rw [Nat.div_div_eq_div_mul, ← Nat.pow_add, show 32 + 8 * i = 8 * (i + 4) from by omega]
  have f : ∀ i, i < 4 → UInt8.ofNat (n % 2 ^ 32 / 2 ^ (8 * i)) = UInt8.ofNat (n / 2 ^ (8 * i)) := by
    intro i hi
    apply UInt8.toNat_inj.1
    simp only [UInt8.toNat_ofNat']
    match i, hi with
    | 0, _ => simp
    | 1, _ => simp; omega
    | 2, _ => simp; omega
    | 3, _ => simp; omega
  simp only [be, List.cons_append, List.nil_append, e 3 (by omega), e 2 (by omega), e 1 (by omega), e 0 (by omega), f 3 (by omega), f 2 (by omega), f 1 (by omega), f 0 (by omega)]
theorem wraps_u64 (n : Int) (h₀ : 0 ≤ n) (h₁ : n < 2 ^ 64) : IntKind.u64.wrap n = n := by
  show (if (IntKind.u64.signed && decide (n % 2 ^ 64 ≥ 2 ^ 63)) = true then n % 2 ^ 64 - 2 ^ 64 else n % 2 ^ 64) = n
  simp [IntKind.signed]; omega
theorem u64_low {x : Int} (h0 : 0 ≤ x) (h1 : x < 18446744073709551616) : bits .and .u64 x 4294967295 = x % 4294967296 := bits_mask .u64 64 (by decide) wraps_u64 32 (by decide) x h0 h1
set_option maxRecDepth 100000 in
set_option maxHeartbeats 1000000 in
theorem keyValue_calls (n : Nat) (w : World) (hn : n < 2 ^ 64) : Calls Tryz.prog 174 #[.int .u64 n] w (Gives (.string (val8 n)) w) := by
  have hn' : (n : Int) < 18446744073709551616 := by omega
  have hlo := u64_low (x := (n : Int)) (by omega) hn'
  have hwr : wrap64 ((n : Int) % 4294967296) = (n : Int) % 4294967296 := by unfold wrap64; omega
  have hz : ∀ z ∈ [(n : Int) / 4294967296, (n : Int) % 4294967296], Fits 4 z ∧ z ≤ 9223372036854775807 := by
    intro z hz
    simp at hz
    unfold Fits
    rcases hz with rfl | rfl <;> omega
  have hbe : bes 4 [(n : Int) / 4294967296, (n : Int) % 4294967296] = be n 8 := by
    rw [← be_split n hn]
    simp only [bes, List.flatMap_cons, List.flatMap_nil, List.append_nil]
    rw [show ((n : Int) / 4294967296).toNat = n / 2 ^ 32 from by omega, show ((n : Int) % 4294967296).toNat = n % 2 ^ 32 from by omega]
  have HN := Lib.hid hn
  have HLO := Lib.hid hlo
  have HWR := Lib.hid hwr
  have HZ := Lib.hid hz
  have HBE := Lib.hid hbe
  clear hn hlo hwr hz hbe
  go_enter Tryz.func174, Tryz.ntmps174
  go_wp2_with fail
  rw [HLO.out, HWR.out]
  refine (outNum_ok 4 84 holdsOut w.heap.size w.heap.size (some ⟨w.heap.size + 1, 0, none⟩) 2 2 [(n : Int) / 4294967296, (n : Int) % 4294967296] [] _ (by omega) ?c1 rfl (by omega) ?c2 ?c3 (by simp; omega) HZ.out (by simp)).mono ?_
  case c1 => exact BAt.fresh (blk_alloc (blk_self _ _))
  case c2 =>
    have := blk_self (w.alloc (.cells #[.pointer none, .slice none 0 0] 84)) (.cells #[.int .i64 ((n : Int) / 4294967296), .int .i64 ((n : Int) % 4294967296)] 3)
    simp only [World.size_alloc] at this
    intro i x hx
    refine ⟨w.heap.size + 1, 0, rfl, by simp, ?_⟩
    rw [blk_cell this]
    match i, hx with
    | 0, hx => simp at hx; simp [hx]
    | 1, hx => simp at hx; simp [hx]
  case c3 =>
    have := blk_self (w.alloc (.cells #[.pointer none, .slice none 0 0] 84)) (.cells #[.int .i64 ((n : Int) / 4294967296), .int .i64 ((n : Int) % 4294967296)] 3)
    simp only [World.size_alloc] at this
    intro a o ha _
    simp at ha
    obtain ⟨rfl, rfl⟩ := ha
    exact ⟨by omega, elem_of this (by decide), by simp⟩
  rintro e w1 ⟨rfl, hb1, hf1⟩
  rw [List.nil_append, HBE.out] at hb1
  have hB : Below w.heap.size w w1 := (((Below.refl _ w).alloc (Nat.le_refl _) _).alloc (by simp) _).trans (hf1.below (Nat.le_refl _) (Nat.le_refl _) (by simp; omega))
  have H1 := Lib.hid hb1
  clear hb1 hf1
  go_wp2_with fail
  refine (outBytes_some w.heap.size w.heap.size (be n 8) w1 H1.out (by simp [be])).mono ?_
  rintro e w2 ⟨rfl, hb2⟩
  have hB2 := hB.trans hb2
  clear hb2 hB
  go_wp2_with fail
  go_ret
  exact ⟨rfl, hB2⟩
end Go.Proofs.YticpnfgiidljlaaGreat.Old
/- Contracts of pen.In: a text that is read. -/
namespace Go.Proofs.YticpnfgiidljlaaGreat.Old
open Go.RowKit
/-- The reader in block b. -/
def InAt (b : Nat) (s : Str) (bad : Bool) (w : World) : Prop := w.heap[b]? = some (.cells #[.string s, .bool bad] 142 (0, 0))
theorem InAt.lt {b : Nat} {s : Str} {bad : Bool} {w : World} (h : InAt b s bad w) : b < w.heap.size := blk_lt h
theorem inOf_calls (s : Str) (w : World) : Calls Tryz.prog 35 #[.string s] w fun e w' => e = .returned (.pointer (some ⟨w.heap.size, 0, none⟩)) ∧ w' = w.alloc (.cells #[.string s, .bool false] 142) := by
  go_enter Tryz.func35, Tryz.ntmps35
  go_wp2
  go_ret
  exact ⟨rfl, rfl⟩
set_option maxHeartbeats 1000000 in
theorem inRaw_ok (b : Nat) (s : Str) (n : Nat) (w : World) (h : InAt b s false w) (hr : n ≤ s.size) :
    Calls Tryz.prog 88 #[.pointer (some ⟨b, 0, none⟩), .int .i64 n] w fun e w' => e = .returned (.string (s.extract 0 n)) ∧ InAt b (s.extract n s.size) false w' ∧ FrT 5 w.heap.size b w w' := by
  have h' : w.heap[b]? = some (.cells #[.string s, .bool false] 142 (0, 0)) := h
  have c0 : w.cell? ⟨b, 0, none⟩ = some (.string s) := by rw [blk_cell h']; rfl
  have c1 : w.cell? ⟨b, 1, none⟩ = some (.bool false) := by rw [blk_cell h']; rfl
  have f := blk_free h'
  have t1 : decide ((n : Int) < 0) = false := by simp
  have t2 : decide (s.size < n) = false := by simp; omega
  have H := Lib.hid h'
  clear h h'
  go_enter Tryz.func88, Tryz.ntmps88
  go_wp2_with fail
  go_ret
  exact ⟨rfl, by unfold InAt; rw [blk_set H.out]; rfl, (FrT.refl _ _ _ _).setCell _ _⟩
/-- The number that bytes tell, the highest first. -/
def ofBe (l : List UInt8) : Nat := l.foldl (fun a b => a * 256 + b.toNat) 0
theorem ofBe_snoc (l : List UInt8) (x : UInt8) : ofBe (l ++ [x]) = ofBe l * 256 + x.toNat := by unfold ofBe; rw [List.foldl_append]; rfl
theorem fold_lt : ∀ (l : List UInt8) (a : Nat), l.foldl (fun a b => a * 256 + b.toNat) a < (a + 1) * 256 ^ l.length
  | [], a => by simp
  | x :: l, a => by
    have := fold_lt l (a * 256 + x.toNat)
    have hx := x.toNat_lt
    simp only [List.foldl_cons, List.length_cons, Nat.pow_succ]
    calc _ < (a * 256 + x.toNat + 1) * 256 ^ l.length := this
      _ ≤ ((a + 1) * 256) * 256 ^ l.length := Nat.mul_le_mul_right _ (by omega)
      _ = _ := by rw [Nat.mul_assoc, Nat.mul_comm 256]
theorem ofBe_lt (l : List UInt8) : ofBe l < 256 ^ l.length := by unfold ofBe; have := fold_lt l 0; simpa using this
theorem wraps_i64 (n : Int) (h₀ : 0 ≤ n) (h₁ : n < 2 ^ 63) : IntKind.i64.wrap n = n := by rw [IntKind.wrap_i64]; omega
theorem i64_or8 {x y : Int} (hx0 : 0 ≤ x) (hx : x % 256 = 0) (hx1 : x < 9223372036854775808) (h0 : 0 ≤ y) (h1 : y < 256) : bits .or .i64 x y = x + y :=
  bits_join .i64 63 (by decide) wraps_i64 8 x y hx0 hx hx1 h0 h1 (by omega)
set_option maxRecDepth 100000 in
set_option maxHeartbeats 1000000 in
theorem inNum_ok (b : Nat) (s : Str) (wd : Nat) (w : World) (h : InAt b s false w) (hw : wd = 1 ∨ wd = 2 ∨ wd = 4) (hr : wd ≤ s.size) :
    Calls Tryz.prog 37 #[.pointer (some ⟨b, 0, none⟩), .int .i64 wd] w fun e w' => e = .returned (.int .i64 (ofBe (s.data.toList.take wd))) ∧ InAt b (s.extract wd s.size) false w' ∧ FrT 5 w.heap.size b w w' := by
  have hiw : isWidth wd = true := by rcases hw with rfl | rfl | rfl <;> decide
  have hw4 : wd ≤ 4 := by omega
  have HIW := Lib.hid hiw
  have HH := Lib.hid h
  have HW := Lib.hid hw
  clear hiw h hw
  go_enter Tryz.func37, Tryz.ntmps37
  go_wp2_with fail
  refine (isWidth_calls _ _).mono ?_
  rintro e w' ⟨rfl, rfl⟩
  rw [HIW.out]
  go_wp2_with fail
  refine (inRaw_ok b s wd w HH.out hr).mono ?_
  rintro e w1 ⟨rfl, h1, h2⟩
  obtain ⟨t, ht⟩ : ∃ t : Str, s.extract 0 wd = t := ⟨_, rfl⟩
  have htl : t.data.toList = s.data.toList.take wd := by rw [← ht, ← ByteArray.toList_eq, Lib.extract_toList]; simp
  have hts : t.size = wd := by rw [← ht]; simp; omega
  rw [ht]
  have HTL := Lib.hid htl
  have HTS := Lib.hid hts
  have H1 := Lib.hid h1
  have hb1 := h1.lt
  clear ht htl h1 hts HH
  have hconv := Lib.run_convert_string_bytes (P := Tryz.prog) w1 9 80 5 t Tryz.underlying9 Tryz.underlying80 Tryz.underlying5
  have hnew := Lib.bytesWorld_at_new w1 5 t
  have hcell := fun j (hj : j < t.size) => Lib.bytesWorld_cell w1 5 t j hj
  have hold : InAt b (s.extract wd s.size) false (Lib.bytesWorld w1 5 t) := by
    unfold InAt
    rw [Lib.bytesWorld_at_old w1 5 t b hb1]
    exact H1.out
  have hfr : FrT 5 w.heap.size b w (Lib.bytesWorld w1 5 t) := h2.trans ⟨rfl, rfl, rfl, by rw [Lib.bytesWorld_size]; omega, fun k hk _ _ => Lib.bytesWorld_at_old w1 5 t k hk⟩
  have HC := Lib.hid hcell
  have HF := Lib.hid hfr
  have HO := Lib.hid hold
  clear hnew hcell hfr hold h2
  rw [HTS.out] at hconv
  go_wp2_with fail
  generalize Lib.bytesWorld w1 5 t = w2 at HC HF HO ⊢
  clear hconv
  generalize w1.heap.size = g at HC ⊢
  go_loop [5, 7, 16] (fun v _ i => ∃ k : Nat, k ≤ wd ∧ i = .int .i64 k ∧ v = .int .i64 (ofBe (t.data.toList.take k))) (fun _ _ i => wd - (intOf i).toNat)
  case atStart => exact ⟨0, by omega, rfl, rfl⟩
  case round =>
    obtain ⟨k, hk, rfl, rfl⟩ := hrel
    have hlt := ofBe_lt (t.data.toList.take k)
    have hlen : (t.data.toList.take k).length ≤ k := List.length_take_le _ _
    have hN : ofBe (t.data.toList.take k) < 256 ^ k := Nat.lt_of_lt_of_le hlt (Nat.pow_le_pow_right (by omega) hlen)
    generalize hv : ofBe (t.data.toList.take k) = v at hN ⊢
    have HV := Lib.hid hv
    clear hv hlt hlen
    by_cases hkw : k < wd
    · have hv3 : v < 16777216 := Nat.lt_of_lt_of_le hN (by
        have : k ≤ 3 := by omega
        calc 256 ^ k ≤ 256 ^ 3 := Nat.pow_le_pow_right (by omega) this
          _ = 16777216 := rfl)
      obtain ⟨c, hc⟩ : ∃ c : UInt8, t.data.toList[k]? = some c := ⟨t.data.toList[k]'(by have := HTS.out; simpa using (by omega : k < t.size)), List.getElem?_eq_getElem _⟩
      have c1 := HC.out k (by have := HTS.out; omega)
      rw [List.getD_eq_getElem?_getD, hc] at c1
      have hc256 : (c.toNat : Int) < 256 := by have := c.toNat_lt; omega
      have hs : ofBe (t.data.toList.take (k + 1)) = v * 256 + c.toNat := by
        rw [List.take_add_one, hc]; simp only [Option.toList_some]; rw [ofBe_snoc, HV.out]
      have hor := i64_or8 (x := (v : Int) * 256) (y := c.toNat) (by omega) (by omega) (by omega) (by omega) hc256
      have HS := Lib.hid hs
      have HOR := Lib.hid hor
      clear hs hor hc hN
      go_wp2_with fail
      go_round
      case rel => exact ⟨k + 1, by omega, by go_num, by rw [HOR.out, HS.out]; congr 1⟩
      case measure => simp [intOf]; omega
    · have hkw2 : k = wd := by omega
      have hv4 : v < 4294967296 := Nat.lt_of_lt_of_le hN (by
        calc 256 ^ k ≤ 256 ^ 4 := Nat.pow_le_pow_right (by omega) (by omega)
          _ = 4294967296 := rfl)
      have hfin : ofBe (s.data.toList.take wd) = v := by
        rw [← HTL.out, ← HV.out, List.take_of_length_le]
        have := HTS.out
        show t.data.toList.length ≤ k
        simp only [Array.length_toList]
        have : t.data.size = wd := this
        omega
      have HFIN := Lib.hid hfin
      have t1 : decide (k < wd) = false := by simp; omega
      have t2 : decide ((v : Int) < 0) = false := by simp
      clear hfin hkw2 hN
      go_wp2_with fail
      go_ret
      exact ⟨ret_int (by rw [HFIN.out]), HO.out, HF.out⟩
/-- The number of an eight-byte value. -/
def num8 (s : Str) : Nat := ofBe s.data.toList
end Go.Proofs.YticpnfgiidljlaaGreat.Old
/- key.Number: the number of an eight-byte value. -/
namespace Go.Proofs.YticpnfgiidljlaaGreat.Old
open Go.RowKit
theorem fold_shift : ∀ (l : List UInt8) (a : Nat), l.foldl (fun a b => a * 256 + b.toNat) a = a * 256 ^ l.length + ofBe l
  | [], a => by simp [ofBe]
  | x :: l, a => by
    have h1 := fold_shift l (a * 256 + x.toNat)
    have h2 := fold_shift l (0 * 256 + x.toNat)
    simp only [List.foldl_cons, List.length_cons, ofBe] at *
    rw [h1, h2, Nat.add_mul, Nat.pow_succ, Nat.mul_assoc, Nat.mul_comm 256]
    simp only [Nat.zero_mul, Nat.zero_add]
    omega
theorem ofBe_append (a b : List UInt8) : ofBe (a ++ b) = ofBe a * 256 ^ b.length + ofBe b := by
  unfold ofBe; rw [List.foldl_append]; exact fold_shift b _
theorem num8_split (s : Str) (h : s.size = 8) : num8 s = ofBe (s.data.toList.take 4) * 4294967296 + ofBe (s.data.toList.drop 4) := by
  have hl : s.data.toList.length = 8 := by simpa using h
  conv => lhs; unfold num8; rw [← List.take_append_drop 4 s.data.toList]
  rw [ofBe_append, List.length_drop, hl]
theorem u64_or32 {x y : Int} (hx0 : 0 ≤ x) (hx : x % 4294967296 = 0) (hx1 : x < 18446744073709551616) (h0 : 0 ≤ y) (h1 : y < 4294967296) : bits .or .u64 x y = x + y :=
  bits_join .u64 64 (by decide) wraps_u64 32 x y hx0 hx hx1 h0 h1 (by omega)
theorem ret_pair {k : IntKind} {a b : Int} {v : Value} (h : a = b) : Ending.returned (.tuple #[.int k a, v]) = .returned (.tuple #[.int k b, v]) := by rw [h]
theorem keyNumber_no (s : Str) (w : World) (h : s.size ≠ 8) : Calls Tryz.prog 173 #[.string s] w (Tells (.tuple #[.int .u64 0, .bool false]) w) := by
  have t1 : ((s.size : Int) == 8) = false := beq_eq_false_iff_ne.2 (by omega)
  have t2 : ((s.size : Int) != 8) = true := by simp [bne, t1]
  clear h
  go_enter Tryz.func173, Tryz.ntmps173
  go_wp2
  go_ret2
  exact ⟨rfl, rfl⟩
set_option maxRecDepth 100000 in
set_option maxHeartbeats 400000 in
theorem keyNumber_yes (s : Str) (w : World) (h : s.size = 8) : Calls Tryz.prog 173 #[.string s] w (Gives (.tuple #[.int .u64 (num8 s), .bool true]) w) := by
  have t1 : ((s.size : Int) == 8) = true := beq_iff_eq.2 (by omega)
  have t2 : ((s.size : Int) != 8) = false := by simp [bne, t1]
  have g1 : (4 : Int) ≤ s.size := by omega
  have hn := num8_split s h
  have hh := ofBe_lt (s.data.toList.take 4)
  have hlo := ofBe_lt (s.data.toList.drop 4)
  have e1 : (s.data.toList.take 4).length = 4 := by simp; exact (by have : s.data.size = 8 := h; omega)
  have e2 : (s.data.toList.drop 4).length = 4 := by simp; exact (by have : s.data.size = 8 := h; omega)
  rw [e1] at hh
  rw [e2] at hlo
  have l1 : (s.data.toList.take 4).take 4 = s.data.toList.take 4 := by rw [List.take_take]; rfl
  have l2 : ((s.data.toList.drop 4).take (s.size - 4)).take 4 = s.data.toList.drop 4 := by
    rw [List.take_take, List.take_of_length_le (by rw [e2, h]; decide)]
  have L1 := Lib.hid l1
  have L2 := Lib.hid l2
  have HN := Lib.hid hn
  have HS := Lib.hid h
  clear l1 l2
  clear hn h e1 e2
  go_enter Tryz.func173, Tryz.ntmps173
  go_wp2_with fail
  go_region_held3 (fun _ => True) (trivial)
    ((first
      | (go_at_call 35; refine (inOf_calls _ _).mono ?_; rintro e w' ⟨rfl, rfl⟩)
      | (go_at_call 37; refine (inNum_ok _ (s.extract 0 4) 4 _ (by exact blk_self _ _) (Or.inr (Or.inr rfl)) (by simp; omega)).mono ?_; rintro e w1 ⟨rfl, h1, h2⟩)
      | (go_at_call 37; refine (inNum_ok _ (s.extract 4 s.size) 4 _ (by exact blk_self _ _) (Or.inr (Or.inr rfl)) (by have := HS.out; simp; omega)).mono ?_; rintro e w2 ⟨rfl, h3, h4⟩)))
  rw [L1.out, L2.out]
  have hB1 : Below w.heap.size w w1 := ((Below.refl _ w).alloc (Nat.le_refl _) _).drew.trans (h2.below (by simp) (Nat.le_refl _) (by simp))
  have hB2 : Below w.heap.size w w2 := (hB1.alloc hB1.size _).trans (h4.below (by have := hB1.size; simp; omega) hB1.size (by have := hB1.size; simp; omega))
  generalize ofBe (s.data.toList.take 4) = a at hh HN ⊢
  generalize ofBe (s.data.toList.drop 4) = b at hlo HN ⊢
  have hor := u64_or32 (x := (a : Int) * 4294967296) (y := b) (by omega) (by omega) (by omega) (by omega) (by omega)
  have HOR := Lib.hid hor
  have ha : (a : Int) < 4294967296 := by omega
  have hb : (b : Int) < 4294967296 := by omega
  clear hor h1 h2 h3 h4 hh hlo hB1
  go_wp2_with fail
  go_ret2
  exact ⟨ret_pair (by rw [HOR.out, HN.out]; simp), hB2⟩
end Go.Proofs.YticpnfgiidljlaaGreat.Old
/- msg.sum: a number's value, and so much more. -/
namespace Go.Proofs.YticpnfgiidljlaaGreat.Old
open Go.RowKit
def sumS (a b : Str) : Str := if a.size = 8 ∧ b.size = 8 then val8 ((num8 a + num8 b) % 18446744073709551616) else a
theorem u64_add (x y : Nat) : IntKind.u64.wrap ((x : Int) + (y : Int)) = (((x + y) % 18446744073709551616 : Nat) : Int) := by
  show (if (IntKind.u64.signed && decide (((x : Int) + y) % 2 ^ 64 ≥ 2 ^ 63)) = true then ((x : Int) + y) % 2 ^ 64 - 2 ^ 64 else ((x : Int) + y) % 2 ^ 64) = _
  simp [IntKind.signed]
set_option maxHeartbeats 1000000 in
theorem sum_first (a b : Str) (w : World) (h : ¬ (a.size = 8 ∧ b.size = 8)) : Calls Tryz.prog 163 #[.string a, .string b] w (Gives (.string a) w) := by
  by_cases ha : a.size = 8
  · have hb : b.size ≠ 8 := fun e => h ⟨ha, e⟩
    clear h
    go_enter Tryz.func163, Tryz.ntmps163
    go_wp2_with fail
    refine (keyNumber_yes a w ha).mono ?_
    rintro e w1 ⟨rfl, hb1⟩
    clear ha
    go_wp2_with fail
    refine (keyNumber_no b w1 hb).mono ?_
    rintro e w2 ⟨rfl, rfl⟩
    clear hb
    go_wp2_with fail
    go_ret
    exact ⟨rfl, hb1⟩
  · clear h
    by_cases hb : b.size = 8
    · go_enter Tryz.func163, Tryz.ntmps163
      go_wp2_with fail
      refine (keyNumber_no a w ha).mono ?_
      rintro e w1 ⟨rfl, rfl⟩
      clear ha
      go_wp2_with fail
      refine (keyNumber_yes b w hb).mono ?_
      rintro e w1 ⟨rfl, hb1⟩
      clear hb
      go_wp2_with fail
      go_ret
      exact ⟨rfl, hb1⟩
    · go_enter Tryz.func163, Tryz.ntmps163
      go_wp2_with fail
      refine (keyNumber_no a w ha).mono ?_
      rintro e w1 ⟨rfl, rfl⟩
      clear ha
      go_wp2_with fail
      refine (keyNumber_no b w hb).mono ?_
      rintro e w1 ⟨rfl, rfl⟩
      clear hb
      go_wp2_with fail
      go_ret
      exact ⟨rfl, Below.refl _ _⟩
set_option maxHeartbeats 1000000 in
theorem sum_both (a b : Str) (w : World) (ha : a.size = 8) (hb : b.size = 8) : Calls Tryz.prog 163 #[.string a, .string b] w (Gives (.string (val8 ((num8 a + num8 b) % 18446744073709551616))) w) := by
  have hw := u64_add (num8 a) (num8 b)
  have HW := Lib.hid hw
  have HA := Lib.hid ha
  have HB := Lib.hid hb
  clear ha hb hw
  go_enter Tryz.func163, Tryz.ntmps163
  go_wp2_with fail
  refine (keyNumber_yes a w HA.out).mono ?_
  rintro e w1 ⟨rfl, hb1⟩
  go_wp2_with fail
  refine (keyNumber_yes b w1 HB.out).mono ?_
  rintro e w2 ⟨rfl, hb2⟩
  have hB := hb1.trans (hb2.mono hb1.size)
  clear hb1 hb2
  go_wp2_with fail
  rw [HW.out]
  refine (keyValue_calls _ w2 (Nat.mod_lt _ (by decide))).mono ?_
  rintro e w3 ⟨rfl, hb3⟩
  have hB3 := hB.trans (hb3.mono hB.size)
  clear hb3 hB
  go_wp2_with fail
  go_ret
  exact ⟨rfl, hB3⟩
theorem sum_calls (a b : Str) (w : World) : Calls Tryz.prog 163 #[.string a, .string b] w (Gives (.string (sumS a b)) w) := by
  unfold sumS
  by_cases h : a.size = 8 ∧ b.size = 8
  · rw [if_pos h]; exact sum_both a b w h.1 h.2
  · rw [if_neg h]; exact sum_first a b w h
end Go.Proofs.YticpnfgiidljlaaGreat.Old
