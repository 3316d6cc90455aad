/- Contracts of strings.Builder, wherever it lies at the head of a block of its own. -/
import Derived.Test.YtemijcjgdgdhjaaPlain
import Derived.Test.YtemijcjgdgdhjaaProg
import Derived.Lib.Builder
import Derived.Shelf.Strings.Builder1
import Derived.OwnWalk
import Derived.RowKit3
namespace Go.Proofs.Ytemijcjgdgdhjaa.Old
open Go.RowKit

theorem bInfo : (Try.prog.info? 183).map (·.size) = some 2 := by kernel_rfl
theorem byteInfo : (Try.prog.info? 5).map (fun i => (i.zero, i.size, i.bytes)) = some (some (.int .u8 0), 1, 1) := by kernel_rfl

/-- A type at whose head a Builder lies, and nothing else. -/
def Holds2 (T : TypeId) : Prop := liesAt Try.prog Try.prog.depth T (2 / Try.prog.cellsOf T) 0 183 1 = true ∧ T ≠ 5

/-- The builder in block b, its buffer's row in blocks from B on. -/
def BAt (T : TypeId) (B b : Nat) (bs : List Value) (w : World) : Prop :=
  ∃ p v, (p = .pointer none ∨ p = .pointer (some ⟨b, 0, none⟩)) ∧ w.heap[b]? = some (.cells #[p, v] T (0, 0)) ∧ w.ownsRow B 5 1 v bs.length bs ∧ v.ownBlock ≠ some b
theorem BAt.fresh {T : TypeId} {B b : Nat} {w : World} (h : w.heap[b]? = some (.cells #[.pointer none, .slice none 0 0] T (0, 0))) : BAt T B b [] w :=
  ⟨_, _, .inl rfl, h, ⟨rfl, .inl ⟨rfl, rfl⟩⟩, by simp [Value.ownBlock]⟩
theorem BAt.kept {T : TypeId} {B b : Nat} {bs : List Value} {w w' : World} (h : BAt T B b bs w) (hb : ∀ k, k = b ∨ B ≤ k → k < w.heap.size → w'.heap[k]? = w.heap[k]?) : BAt T B b bs w' := by
  obtain ⟨p, v, hp, hh, ⟨h1, h2⟩, hn⟩ := h
  refine ⟨p, v, hp, (hb b (.inl rfl) (blk_lt hh)).trans hh, ⟨h1, ?_⟩, hn⟩
  rcases h2 with h2 | ⟨g, cap, cur, hv, hg, hgg, r⟩
  · exact .inl h2
  · exact .inr ⟨g, cap, cur, hv, hg, (hb g (.inr hg) (blk_lt hgg)).trans hgg, r⟩

set_option maxRecDepth 100000 in
set_option maxHeartbeats 1000000 in
theorem copyCheck_calls {T : TypeId} (hT : Holds2 T) (b : Nat) (p v : Value) (w : World) (hp : p = .pointer none ∨ p = .pointer (some ⟨b, 0, none⟩)) (h : w.heap[b]? = some (.cells #[p, v] T (0, 0))) :
    Calls Try.prog 169 #[.pointer (some ⟨b, 0, none⟩)] w fun e w' => e = .returned (.tuple #[]) ∧ w'.heap[b]? = some (.cells #[.pointer (some ⟨b, 0, none⟩), v] T (0, 0)) ∧ FrT 5 w.heap.size b w w' := by
  rcases hp with rfl | rfl
  · have h0 : w.cell? ⟨b, 0, none⟩ = some (.pointer none) := by simp [World.cell?, h]
    have hsh : w.shape? b = some (T, 2) := by simp [World.shape?, h]
    have hfz := blk_free h 0
    have H := Lib.hid h
    clear h
    obtain ⟨j, hj, hjs⟩ := Option.map_eq_some_iff.1 bInfo
    have ht : Try.prog.underlying 180 = some (.pointer 183) := Try.underlying180
    have hu : Try.prog.underlying 223 = some .unsafePointer := Try.underlying223
    have HJ := Lib.hid hj
    have HJS := Lib.hid hjs
    have HSH := Lib.hid hsh
    clear hj hjs hsh
    go_enter Try.func169, Try.ntmps169
    go_wp2
    rw [Lib.run_to_unsafe w ⟨b, 0, none⟩ ht hu HJ.out (by rw [HJS.out]; decide) HSH.out (Nat.zero_lt_succ 1)]
    simp only [Result.andThen]
    rw [Oper.upon_value]
    go_wp2
    rw [run_callFunc_extern Try.func176 (by kernel_rfl) (by kernel_rfl) (by kernel_rfl) (e := Extern.AbiNoEscape.same) (by kernel_rfl)]
    rw [Lib.run_noEscape]
    simp only [Result.andThen]
    rw [Oper.upon_value]
    go_wp2
    rw [Lib.run_from_unsafe w ⟨b, 0, none⟩ hu ht HJ.out HSH.out hT.1]
    simp only [Result.andThen]
    rw [Oper.upon_value]
    go_wp2
    go_end0
    exact ⟨rfl, by rw [blk_set H.out]; rfl, (FrT.refl _ _ _ _).setCell _ _⟩
  · have h0 : w.cell? ⟨b, 0, none⟩ = some (.pointer (some ⟨b, 0, none⟩)) := by simp [World.cell?, h]
    have H := Lib.hid h
    clear h
    obtain ⟨j, hj, hjs⟩ := Option.map_eq_some_iff.1 bInfo
    have ht : Try.prog.underlying 180 = some (.pointer 183) := Try.underlying180
    have HJ := Lib.hid hj
    clear hj hjs
    go_enter Try.func169, Try.ntmps169
    go_wp2
    rw [Lib.run_neq_ptr_same w _ ht HJ.out]
    go_wp2
    go_end0
    exact ⟨rfl, H.out, FrT.refl _ _ _ _⟩

set_option maxHeartbeats 1000000 in
theorem writeByte_calls {T : TypeId} (hT : Holds2 T) (B b : Nat) (bs : List Value) (c : Int) (w : World) (h : BAt T B b bs w) (hlen : bs.length + 1 ≤ 140737488355328) (hBw : B ≤ w.heap.size) :
    Calls Try.prog 152 #[.pointer (some ⟨b, 0, none⟩), .int .u8 c] w fun e w' => e = .returned .nilIface ∧ BAt T B b (bs ++ [.int .u8 c]) w' ∧ FrT 5 B b w w' := by
  obtain ⟨i0, hi, hz0, hz1, hz2⟩ := info_parts byteInfo
  have HI := Lib.hid hi
  have HZ0 := Lib.hid hz0
  have HZ1 := Lib.hid hz1
  have HZ2 := Lib.hid hz2
  clear hi hz0 hz1 hz2
  obtain ⟨p, v, hp, hh, hown0, hne⟩ := h
  have HH := Lib.hid hh
  clear hh
  go_enter Try.func152, Try.ntmps152
  go_wp2_with fail
  refine (copyCheck_calls hT b p v _ hp HH.out).mono ?_
  rintro e w1 ⟨rfl, hbk, hf1⟩
  have hown : w1.ownsRow B 5 1 v bs.length bs := ownsRow_move hown0 fun g hg => hf1.block g (hown0.lt g hg).2 (by rintro rfl; exact hne hg) (.inl (hown0.lt g hg).2)
  have hsz1 := hf1.size
  have c0 : w1.cell? ⟨b, 0, none⟩ = some (.pointer (some ⟨b, 0, none⟩)) := by rw [Lib.cell_of_heap hbk]; rfl
  have c1 : w1.cell? ⟨b, 1, none⟩ = some v := by rw [Lib.cell_of_heap hbk]; rfl
  have HBK := Lib.hid hbk
  clear hbk hp
  go_wp2_with (at_builtin; refine wpList_append_own _ rfl _ _ 181 rfl B 5 i0 (.int .u8 0) 1 1 Try.underlying181 HI.out HZ0.out HZ1.out HZ2.out rfl (by decide) _ _ _ rfl (hown.alloc _) ⟨w1.heap.size, 0, none⟩ 1 1 [.int .u8 c] rfl rfl ?c1 ?c2 ?c3 ?c4 ?c5 ?_)
  case c1 =>
    intro j u hj
    match j, hj with
    | 0, hj => simp at hj; subst hj; simp [Addr.add]
  case c2 => intro u hu; simp at hu; subst hu; rfl
  case c3 => unfold maxLen; omega
  case c4 => omega
  case c5 => simp; omega
  intro v' w2 hown' hgrow _
  have hbk := HBK.out
  have hlt : b < w1.heap.size := blk_lt hbk
  have hb2 : w2.heap[b]? = some (.cells #[.pointer (some ⟨b, 0, none⟩), v] T (0, 0)) := by
    rw [hgrow.block b (by simp; omega) (fun e => hne e.symm), Lib.alloc_old w1 _ b hlt]
    exact hbk
  have d0 : w2.cell? ⟨b, 0, none⟩ = some (.pointer (some ⟨b, 0, none⟩)) := by rw [Lib.cell_of_heap hb2]; rfl
  have d1 : w2.cell? ⟨b, 1, none⟩ = some v := by rw [Lib.cell_of_heap hb2]; rfl
  have f1 : w2.frozen? ⟨b, 1, none⟩ = false := Lib.frozen_of_heap hb2 1
  obtain ⟨g, cap, rfl⟩ : ∃ g cap, v' = .slice (some ⟨g, 0, none⟩) (bs.length + 1) cap := by
    rcases hown'.2 with ⟨_, h0⟩ | ⟨g, cap, cur, hv, _⟩
    · omega
    · exact ⟨g, cap, hv⟩
  have HB2 := Lib.hid hb2
  clear hbk hb2 c0 c1
  go_wp2
  go_ret
  have hgb : g ≠ b := by
    rintro rfl
    rcases hown'.2 with ⟨_, h0⟩ | ⟨g, cap, cur, hv, _, hgg, _⟩
    · omega
    · simp only [Value.slice.injEq, Option.some.injEq, Addr.mk.injEq] at hv
      obtain ⟨⟨rfl, _⟩, _⟩ := hv
      rw [HB2.out] at hgg
      simp only [Option.some.injEq, Obj.cells.injEq] at hgg
      exact hT.2 hgg.2.1
  refine ⟨rfl, ⟨_, _, .inr rfl, by rw [blk_set HB2.out]; rfl, ?_, by simp [Value.ownBlock]; exact hgb⟩, ?_⟩
  · refine ownsRow_move (by simpa using hown') fun g' hg' => ?_
    simp [Value.ownBlock] at hg'
    subst hg'
    exact Below.heap_setCell _ _ _ _ hgb
  · exact ((((FrT.mono hf1 hBw).alloc _).grown hgrow (fun k hk => owns_elem (hown.alloc _) hk)).setCell _ _)

set_option maxHeartbeats 1000000 in
theorem bString_some {T : TypeId} (B b : Nat) (l : List UInt8) (w : World) (h : BAt T B b (Lib.byteCells l) w) (h0 : l ≠ []) :
    Calls Try.prog 153 #[.pointer (some ⟨b, 0, none⟩)] w fun e w' => e = .returned (.string ⟨l.toArray⟩) ∧ Below B w w' := by
  obtain ⟨p, v, _, hbk, hown, hne⟩ := h
  have hl0 : l.length ≠ 0 := by simpa using h0
  rw [Lib.byteCells_length] at hown
  obtain ⟨g, cap, cur, rfl, hbg, hg, hnc, hcm, hcs, htake⟩ : ∃ g cap cur, v = .slice (some ⟨g, 0, none⟩) l.length cap ∧ B ≤ g ∧ w.heap[g]? = some (.cells cur 5 (0, 0)) ∧ l.length ≤ cap ∧ cap ≤ maxLen ∧ cur.size = cap * 1 ∧ cur.toList.take (l.length * 1) = Lib.byteCells l := by
    rcases hown.2 with ⟨_, hz⟩ | ⟨g, cap, cur, hv, r⟩
    · exact absurd hz hl0
    · exact ⟨g, cap, cur, hv, r⟩
  have c1 : w.drew.cell? ⟨b, 1, none⟩ = some (.slice (some ⟨g, 0, none⟩) l.length cap) := by
    have : w.drew.heap[b]? = some (.cells #[p, .slice (some ⟨g, 0, none⟩) l.length cap] T (0, 0)) := hbk
    rw [Lib.cell_of_heap this]; rfl
  have hSD : (Builtin.unsafeSliceData_ #[181] 215 #[.slice (some ⟨g, 0, none⟩) l.length cap]).run Try.prog w.drew = .ok (.pointer (some ⟨g, 0, none⟩)) w.drew :=
    Lib.run_unsafeSliceData_row _ _ _ _ _ _ (by omega)
  have hUS : (Builtin.unsafeString_ #[215, 3] 9 #[.pointer (some ⟨g, 0, none⟩), .int .i64 l.length]).run Try.prog w.drew = .ok (.string ⟨l.toArray⟩) (w.drew.freeze ⟨g, 0, none⟩ l.length) := by
    refine Lib.run_unsafeString_row w.drew 215 3 9 5 Try.underlying215 (by kernel_rfl) g cur.size (by have hg' : w.drew.heap[g]? = some (.cells cur 5 (0, 0)) := hg; simp [World.shape?, hg']) l h0 (by omega) (by unfold maxLen at hcm; omega) ?_
    intro j x hx
    have := hown.cells (g := g) rfl j (.int .u8 x.toNat) (by simp [Lib.byteCells, hx])
    exact this
  clear hown hbk hg htake hcs
  go_enter Try.func153, Try.ntmps153
  go_wp2
  go_region
  all_goals (go_wp2; go_ret; exact ⟨rfl, Lib.below_freeze (Below.drew (Below.refl B w)) (p := ⟨g, 0, none⟩) hbg _⟩)
end Go.Proofs.Ytemijcjgdgdhjaa.Old
