/- slices.SortedFunc over slices.Values of items: the items, sorted, in a row of its own. -/
import Derived.Test.YtejgopcicenbeaaGreatRb
import Derived.Test.YtejgopcicenbeaaGreatSi
import Derived.Test.YtejgopcicenbeaaGreatLw
namespace Go.Proofs.YtejgopcicenbeaaGreat
open Go.RowKit Go.Sort
set_option linter.unusedSimpArgs false
set_option maxRecDepth 10000
theorem flatI_cells (l : List Item) : flatI l = (cellsV l).map AV.sc := by
  unfold flatI flatC cellsV
  rw [List.map_flatMap]
  rfl
theorem cellsV_len (l : List Item) : (cellsV l).length = l.length * 2 := by
  have := congrArg List.length (flatI_cells l)
  simpa using this.symm
/-- What slices.Values hands back. -/
def seqI (l : List Item) : AV := .fn (.func 82) [] [.fp [.fs (flatI l) l.length] 0]
theorem appSeq_spec (l : List Item) (hl : l.length ≤ 100000000) (σ : Sto) : Spec Tryz.prog 98 [.sc (.slice none 0 0), seqI l] σ
    (fun r s => (l = [] ∧ r = .fs [] 0 ∧ s = σ) ∨ (0 < l.length ∧ r = .ms σ.length 0 0 l.length 2 ∧ s = σ ++ [⟨flatI l, 0, false, false⟩])) := by
  refine ⟨good98, fun w Im T vs hW hR => ?_⟩
  obtain ⟨v0, g0, r0⟩ := hR.get (i := 0) (x := .sc (.slice none 0 0)) rfl
  obtain ⟨v1, g1, r1⟩ := hR.get (i := 1) (x := seqI l) rfl
  have hsz : vs.toList.length = 2 := hR.1
  obtain rfl : vs = #[v0, v1] := by
    apply Array.ext'
    match hvs : vs.toList, hsz with
    | [x, y], _ => rw [hvs] at g0 g1; simp at g0 g1; rw [g0, g1]
  cases r0
  unfold seqI at r1
  cases r1 with
  | fn f A B xs ys hA hB h1 h2 =>
  obtain rfl : A = #[] := by simpa using hA
  obtain ⟨p, rfl⟩ : ∃ p, B = #[p] := by
    match B, hB with
    | ⟨[p]⟩, _ => exact ⟨p, rfl⟩
  have r2 := h2 0 _ p rfl rfl
  cases r2 with
  | fp b o _ cs vs2 k1 k2 =>
  obtain ⟨hIm, hcell⟩ := k1 0 _ rfl
  have r3 := k2 0 _ rfl
  have hblt := hW.im _ hIm
  generalize vs2 0 = sv at *
  have key : Calls Tryz.prog 98 #[.slice none 0 0, .func (.func 82) #[] #[.pointer (some ⟨b, o + 0, none⟩)]] w fun e W' => ∃ v, e = .returned v ∧ W'.ownsRow w.heap.size 52 2 v l.length (cellsV l) ∧ Below w.heap.size w W' := by
    obtain ⟨x, hx⟩ : ∃ x, x = AV.fs (flatI l) l.length := ⟨_, rfl⟩
    rw [← hx] at r3
    have hnil : l.length = 0 → l = [] := List.length_eq_zero_iff.1
    cases r3 with
    | fs b' o' len cap cs' vs' hlc m1 m2 =>
      cases hx
      rcases Nat.eq_zero_or_pos l.length with h0 | hpos
      · rw [hnil h0] at hcell ⊢
        exact appSeq_calls0 b (o + 0) cap _ w hblt hcell
      · refine appSeq_calls b (o + 0) b' o' cap l hl w hblt hcell ?_
        have hi0 := hW.im _ (m1 0 _ (flatI_0 l 0 hpos)).1
        refine ⟨hi0, fun j hj => ?_⟩
        have a0 := flatI_0 l j hj
        have a1 := flatI_1 l j hj
        have c0 := (m1 _ _ a0).2
        have c1 := (m1 _ _ a1).2
        have d0 := m2 _ _ a0
        have d1 := m2 _ _ a1
        generalize vs' (j * 2) = e0 at *
        generalize vs' (j * 2 + 1) = e1 at *
        cases d0
        cases d1
        exact ⟨c0, by rw [Nat.add_assoc]; exact c1⟩
    | fn0 =>
      simp at hx
      rw [hnil hx.2.symm]
      exact appSeq_calls0 b (o + 0) 0 _ w hblt hcell
    | fs0 a cap =>
      simp at hx
      rw [hnil hx.2.symm]
      exact appSeq_calls0 b (o + 0) cap _ w hblt hcell
    | _ => cases hx
  refine key.mono ?_
  rintro e w' ⟨v, rfl, hown, hBel⟩
  obtain ⟨hlen, hown⟩ := hown
  rcases Nat.eq_zero_or_pos l.length with h0 | hpos
  · have hn : l = [] := List.length_eq_zero_iff.1 h0
    have hrel : Rel w' Im T v (.fs [] 0) := by
      rcases hown with ⟨rfl, _⟩ | ⟨g, cap, cur, rfl, _⟩
      · exact .fn0
      · rw [h0]; exact .fs0 _ _
    have hk : ∀ b, b < w.heap.size → w'.heap[b]? = w.heap[b]? := hBel.block
    exact ⟨v, .fs [] 0, σ, Im, T, rfl, hrel, hW.world hBel.size hk (fun _ h => h) (fun _ h => .inl h), .world hBel.os hBel.tape hBel.output hBel.size hk (fun _ h => h) (fun _ h => .inl h), .inl ⟨hn, rfl, rfl⟩⟩
  · rcases hown with ⟨_, h0⟩ | ⟨g, cap, cur, rfl, hg, hgb, hcap, _, hcsz, htake⟩
    · omega
    · obtain ⟨n1, n2⟩ := obj_new hW hBel (room := cap * 2) hg hgb (by omega) (flatI l) (by simp; omega) (fun i x v hx hv => by
        rw [flatI_cells, List.getElem?_map] at hx
        obtain ⟨u, hu, rfl⟩ := Option.map_eq_some_iff.1 hx
        have hi := lt_of_get hu
        rw [cellsV_len] at hi
        rw [← htake, List.getElem?_take, if_pos hi, Array.getElem?_toList, hv] at hu
        cases hu
        exact .sc _)
      refine ⟨_, .ms σ.length 0 0 l.length 2, _, Im, _, rfl, ?_, n1, n2, .inr ⟨hpos, rfl, rfl⟩⟩
      refine .ms _ _ _ _ _ _ _ ⟨0, g, 0, cap * 2⟩ ?_ (Nat.le_refl _) hcap rfl (fun _ => ⟨rfl, by simp⟩)
      rw [← hW.len]
      simp
theorem collect_spec (l : List Item) (hl : l.length ≤ 100000000) (σ : Sto) : Spec Tryz.prog 80 [seqI l] σ
    (fun r s => (l = [] ∧ r = .fs [] 0 ∧ s = σ) ∨ (0 < l.length ∧ r = .ms σ.length 0 0 l.length 2 ∧ s = σ ++ [⟨flatI l, 0, false, false⟩])) := by
  have h := appSeq_spec l hl σ
  refine spec_intro Tryz.func80 good80 rfl (by simp [Tryz.ntmps80]) ?_
  refine go1 [] [] (cns Tryz.results80 trivial) ?_
  refine rwf_ca rfl fun C' hC hP => ?_
  clear hP
  (try simp [*, -List.all_eq_true]); (try (simp (disch := first | assumption | omega) only [wrap_id, wrapu_id, wrapb_id, tmod_nn, tdiv_nn, ite_yes, flatM_seg, flatM_0, flatM_1, flatM_2, flatI_seg, flatI_0, flatI_1, flatS_get]; (try simp [*, -List.all_eq_true])))
  refine hC.out _ _ _ (h) fun r s hq => ?_
  clear hC C'
  refine go1 [] [] (cns Tryz.results80 trivial) ?_
  exact hq
end Go.Proofs.YtejgopcicenbeaaGreat
