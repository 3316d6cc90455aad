/- A range over slices.Values of items: the iterator's contract, over worlds. -/
import Derived.Test.YtejgopcicenbeaaGreatFacts
import Derived.Test.YtejgopcicenbeaaGreatLc
import Derived.RangeFuncNested
import Derived.RangeFuncBound
import Derived.RangeFuncCalls
import Derived.RangeFuncLeaves
import Derived.Shelf.Abstract
import Derived.Shelf.RegionOpen
import Derived.WalkKit
import Derived.OwnWalkIn
import Derived.TacticsInMore
import Derived.LoopNIn
import Derived.LoopIn
namespace Go.Proofs.YtejgopcicenbeaaGreat
open Go.RowKit Go.Shelf
attribute [local go_sem] Oper.semAt_some
def vI (x : Item) : Value := .agg #[.string x.key, .string x.val]
/-- The slice sv holds the items l, in a block below n₀. -/
def ItemsAt (n₀ : Nat) (W : World) (b off : Nat) (l : List Item) : Prop := b < n₀ ∧ ∀ j (h : j < l.length), W.cell? ⟨b, off + j * 2, none⟩ = some (.string l[j].key) ∧ W.cell? ⟨b, off + j * 2 + 1, none⟩ = some (.string l[j].val)
set_option maxRecDepth 100000 in
set_option maxHeartbeats 4000000 in
theorem vals1_in (F : Fence) (n : Nat) (hf : F.fn 82) (hro : F.round = none) (hn : 1 ≤ n) (q Bs Bo n₀ b off cap : Nat) (l : List Item) (hl : l.length * 16 ≤ 140737488351232) (_ : Bs < n₀) (J Jx : List Item → World → Prop)
    (hY : ∀ pre x W, J pre W → pre.length < l.length → YieldAt F (n - 1) Tryz.prog q #[vI x] W fun e W' =>
      (e = .returned (.bool true) ∧ J (pre ++ [x]) W' ∧ Below n₀ W W') ∨ (e = .returned (.bool false) ∧ Jx (pre ++ [x]) W'))
    (hJA : ∀ pre W o, J pre W → n₀ ≤ W.heap.size → J pre (W.alloc o)) (W : World) (hn₀ : n₀ ≤ W.heap.size) (hBs : W.cell? ⟨Bs, Bo, none⟩ = some (.slice (some ⟨b, off, none⟩) l.length cap)) (hc : ItemsAt n₀ W b off l) (h0 : J [] W) :
    CallsIn F n Tryz.prog 82 #[.func (.yield q) #[] #[], .pointer (some ⟨Bs, Bo, none⟩)] W fun e W' => (∃ v, e = .returned v) ∧ (J l W' ∨ (∃ pre, pre <+: l ∧ Jx pre W')) := by
  refine callsIn_of_wp Tryz.func82 rfl hf ?_ hro
  simp only [Tryz.ntmps82, List.size_toArray, List.length_cons, List.length_nil, Nat.reduceAdd, Nat.reduceSub, Array.replicate_succ, Array.replicate_zero, List.push_toArray, List.append_toArray, List.nil_append, List.cons_append]
  gi_wp2
  gi_loopw [7] (fun i wr => ∃ k : Nat, k ≤ l.length ∧ i = .int .i64 k ∧ J (l.take k) wr ∧ Below n₀ W wr)
    (fun i _ => l.length - (intOf i).toNat)
  case atStart => exact ⟨0, Nat.zero_le _, rfl, h0, Below.refl _ _⟩
  case round =>
    obtain ⟨k, hk, rfl, hJs, hnx⟩ := hrel
    by_cases hlt : k < l.length
    · obtain ⟨c0, c1⟩ := hc.2 k hlt
      have g0 := (hnx.cell (p := ⟨b, off + k * 2, none⟩) hc.1).trans c0
      have g1 := (hnx.cell (p := ⟨b, off + k * 2 + 1, none⟩) hc.1).trans c1
      have hsz : n₀ ≤ wr.heap.size := Nat.le_trans hn₀ hnx.size
      obtain ⟨fn, tmps, assign, body, hy, hR⟩ := hY _ l[k] (wr.alloc (.cells #[.string l[k].key, .string l[k].val] 52)) (hJA _ _ _ hJs hsz) (by simp; omega)
      unfold vI at hy
      gi_wp2
      refine hR.mono ?_
      rintro e W3 (⟨rfl, hJ3, hk3⟩ | ⟨rfl, hJx3⟩)
      · gi_wp2
        go_roundw
        case rel => exact ⟨k + 1, by omega, by simp, by rw [List.take_add_one, List.getElem?_eq_getElem hlt]; exact hJ3, hnx.trans (((Below.refl _ wr).alloc hsz _).trans hk3)⟩
        case measure => simp [intOf]; omega
      · gi_wp2
        refine bodyPost_ret (results_none rfl _ _ _) rfl ?_
        exact ⟨⟨_, rfl⟩, .inr ⟨_, (by
          have : l.take k ++ [l[k]] = l.take (k + 1) := by rw [List.take_add_one, List.getElem?_eq_getElem hlt]; rfl
          rw [this]; exact List.take_prefix _ _), hJx3⟩⟩
    · obtain rfl : k = l.length := by omega
      rw [List.take_length] at hJs
      gi_wp2
      go_end0
      exact ⟨⟨_, rfl⟩, .inl hJs⟩
end Go.Proofs.YtejgopcicenbeaaGreat
