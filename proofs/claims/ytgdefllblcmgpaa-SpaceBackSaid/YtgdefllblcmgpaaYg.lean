/- Spaces: Row, Free, Largest, Text, Same. -/
import Derived.Test.YtgdefllblcmgpaaYf
import Derived.Test.YtgdefllblcmgpaaPst
namespace Go.Proofs.Ytgdefllblcmgpaa
open Go.RowKit
set_option linter.unusedSimpArgs false
set_option maxRecDepth 10000
theorem sRow_spec (n : Int) (e : List Ext) (hl : e.length ≤ 1000000) : PSpec Try.prog 15 [.fp (cSp n e) 0] (.fs (flatE e) e.length) := by
  have h := cloneI_spec e hl
  refine spec_pure (by simp) (by simp) ?_
  refine spec_intro Try.func15 good15 rfl (by simp [Try.ntmps15]) ?_
  exact go0 [] [] (cns h (cns Try.results15 (cns cSp.eq_1 trivial)))
def freeX (e : List Ext) : Int := e.foldl (fun a x => a + x.sz) 0
def largeX (e : List Ext) : Int := e.foldl (fun a x => max a x.sz) 0
theorem freeX_succ {e : List Ext} {k : Nat} (h : k < e.length) : freeX (e.take (k + 1)) = freeX (e.take k) + e[k].sz := by
  unfold freeX
  rw [List.take_add_one, List.getElem?_eq_getElem h, List.foldl_append]
  rfl
theorem largeX_succ {e : List Ext} {k : Nat} (h : k < e.length) : largeX (e.take (k + 1)) = max (largeX (e.take k)) e[k].sz := by
  unfold largeX
  rw [List.take_add_one, List.getElem?_eq_getElem h, List.foldl_append]
  rfl
theorem freeX_room {e : List Ext} (h : ∀ x ∈ e, Room x) : ∀ k, k ≤ e.length → 0 ≤ freeX (e.take k) ∧ freeX (e.take k) ≤ 512 * k
  | 0, _ => by simp [freeX]
  | k + 1, hk => by
    have h1 := freeX_room h k (by omega)
    have h2 := h _ (List.getElem_mem (show k < e.length by omega))
    rw [freeX_succ (by omega)]
    unfold Room xe at h2
    omega
theorem sFree_spec (n : Int) (es : List Ext) (hl : es.length ≤ 1000000) (hr : ∀ x ∈ es, Room x) : PSpec Try.prog 14 [.fp (cSp n es) 0] (.sc (.int .i64 (freeX es))) := by
  have h := sRow_spec n es hl
  have hb := freeX_room hr
  replace hb := Lib.hid hb
  replace hr := Lib.hid hr
  refine spec_pure (by simp) (by simp) ?_
  refine spec_intro Try.func14 good14 rfl (by simp [Try.ntmps14]) ?_
  refine go1 [] [] (cns h (cns Try.results14 trivial)) ?_
  refine tri_for [2, 7, 8] es.length (fun k_ e σ => σ = [] ∧ e 9 = .sc (.int .i64 k_) ∧ e 3 = .sc (.int .i64 (freeX (es.take k_)))) ?_ (fun j env' σ' hlt hk hI => ?_) (fun env' σ' hk hI => ?_)
  · exact ⟨rfl, by simp, by simp [freeX]⟩
  · skip
    (try simp at hk)
    obtain ⟨rfl, h9, h3⟩ := hI
    have a1 := flatE_1 es j hlt
    have sg := flatE_seg es j hlt
    have b1 := hb.out j (by omega)
    have b2 := hr.out _ (List.getElem_mem hlt)
    unfold Room xe at b2
    rw [freeX_succ hlt]
    generalize es[j] = y at *
    refine go1 [] [] (cns Try.results14 (cns cE.eq_1 trivial)) ?_
    exact ⟨by simp [*], rfl, by simp, by simp⟩
  · skip
    (try simp at hk)
    obtain ⟨rfl, h9, h3⟩ := hI
    rw [List.take_length] at h3
    exact go0 [] [] (cns Try.results14 trivial)
theorem sLargest_spec (n : Int) (es : List Ext) (hl : es.length ≤ 1000000) : PSpec Try.prog 11 [.fp (cSp n es) 0] (.sc (.int .i64 (largeX es))) := by
  have h := sRow_spec n es hl
  refine spec_pure (by simp) (by simp) ?_
  refine spec_intro Try.func11 good11 rfl (by simp [Try.ntmps11]) ?_
  refine go1 [] [] (cns h (cns Try.results11 trivial)) ?_
  refine tri_for [2, 7, 8] es.length (fun k_ e σ => σ = [] ∧ e 9 = .sc (.int .i64 k_) ∧ e 3 = .sc (.int .i64 (largeX (es.take k_)))) ?_ (fun j env' σ' hlt hk hI => ?_) (fun env' σ' hk hI => ?_)
  · exact ⟨rfl, by simp, by simp [largeX]⟩
  · skip
    (try simp at hk)
    obtain ⟨rfl, h9, h3⟩ := hI
    have a1 := flatE_1 es j hlt
    have sg := flatE_seg es j hlt
    rw [largeX_succ hlt]
    generalize es[j] = y at *
    refine go1 [] [] (cns Try.results11 (cns cE.eq_1 trivial)) ?_
    exact ⟨by simp [*], rfl, by simp, by simp; split <;> omega⟩
  · skip
    (try simp at hk)
    obtain ⟨rfl, h9, h3⟩ := hI
    rw [List.take_length] at h3
    exact go0 [] [] (cns Try.results11 trivial)
theorem sSame_spec (n m : Int) (e u : List Ext) (hl : e.length ≤ 900000) (hu : u.length ≤ 900000) : PSpec Try.prog 25 [.fp (cSp n e) 0, .fp (cSp m u) 0] (.sc (.bool (decide (n = m) && decide (e = u)))) := by
  have h := equalI_spec e u hl hu
  generalize decide (e = u) = b at *
  by_cases hn : n = m
  · subst hn
    refine spec_pure (by simp) (by simp) ?_
    refine spec_intro Try.func25 good25 rfl (by simp [Try.ntmps25]) ?_
    refine go1 [] [] (cns h (cns Try.results25 (cns cSp.eq_1 trivial))) ?_
    simp
  · skip
    refine spec_pure (by simp) (by simp) ?_
    refine spec_intro Try.func25 good25 rfl (by simp [Try.ntmps25]) ?_
    refine go1 [] [] (cns h (cns Try.results25 (cns cSp.eq_1 trivial))) ?_
    simp [*]
theorem sSame_nil0 : PSpec Try.prog 25 [.sc (.pointer none), .sc (.pointer none)] (.sc (.bool true)) := by
  refine spec_pure (by simp) (by simp) ?_
  refine spec_intro Try.func25 good25 rfl (by simp [Try.ntmps25]) ?_
  exact go0 [] [] (cns Try.results25 trivial)
theorem sSame_nil1 (n : Int) (e : List Ext) : PSpec Try.prog 25 [.fp (cSp n e) 0, .sc (.pointer none)] (.sc (.bool false)) := by
  refine spec_pure (by simp) (by simp) ?_
  refine spec_intro Try.func25 good25 rfl (by simp [Try.ntmps25]) ?_
  exact go0 [] [] (cns Try.results25 trivial)
end Go.Proofs.Ytgdefllblcmgpaa
