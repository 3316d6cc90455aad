/- slices.AppendSeq over slices.Values of items: what comes is the items, in a row of its own; over worlds. -/
import Derived.Test.YtejgopcicenbeaaGreatRa
import Derived.Maps.AppendAt
namespace Go.Proofs.YtejgopcicenbeaaGreat
open Go.RowKit Go.Shelf
attribute [local go_sem] Oper.semAt_some
/-- The item in a variable of its own. -/
def BoxI (W : World) (B : Nat) (x : Item) : Prop := W.heap[B]? = some (.cells #[.string x.key, .string x.val] 52 (0, 0))
theorem boxI_own {β : Type} (B : Nat) (f : β → Item) : Go.Own (fun s W => BoxI W B (f s)) := fun s X Y row hs hg hrow => by
  have hlt : B < X.heap.size := (Array.getElem?_eq_some_iff.1 hs).1
  exact (hg.block B hlt (fun e' => by obtain ⟨o, ho, hc⟩ := hrow B e'.symm; rw [show X.heap[B]? = _ from hs] at ho; cases ho; cases hc)).trans hs
theorem vals_stops (F : Fence) (n : Nat) (hf : F.fn 82) (hro : F.round = none) (hn : 1 ≤ n) (Bs Bo b off cap : Nat) (l : List Item) (hl : l.length * 16 ≤ 140737488351232) (w : World) (n₀ : Nat) (hn₀ : n₀ ≤ w.heap.size) (hB : Bs < n₀) (hBs : w.cell? ⟨Bs, Bo, none⟩ = some (.slice (some ⟨b, off, none⟩) l.length cap)) (hc : ItemsAt n₀ w b off l) :
    SeqStopsK F n Tryz.prog 82 #[.pointer (some ⟨Bs, Bo, none⟩)] (fun x => #[vI x]) (Below n₀) (fun ys => ys = l) (fun pre => pre <+: l) l.length w := fun q J Jx W hW hJ _ hY h0 => by
  refine (vals1_in F n hf hro hn q Bs Bo n₀ b off cap l hl hB J Jx hY (fun pre W2 o hj _ => hJ pre W2 _ none hj (World.grownBy_alloc W2 o none) (fun r e => by cases e)) W (Nat.le_trans hn₀ hW.size) ((hW.cell (p := ⟨Bs, Bo, none⟩) (by show Bs < _; omega)).trans hBs)
    ⟨hc.1, fun j h => ?_⟩ h0).mono ?_
  · have hb := hc.1
    obtain ⟨c0, c1⟩ := hc.2 j h
    exact ⟨(hW.cell (p := ⟨b, off + j * 2, none⟩) (by show b < _; omega)).trans c0, (hW.cell (p := ⟨b, off + j * 2 + 1, none⟩) (by show b < _; omega)).trans c1⟩
  · rintro e W' ⟨he, hj | ⟨pre, hp, hj⟩⟩
    · exact ⟨he, .inl ⟨l, rfl, hj⟩⟩
    · exact ⟨he, .inr ⟨pre, hp, hj⟩⟩
theorem cells_new (w : World) (a c : Value) (t : TypeId) : ∀ (j : Nat) (u : Value), [a, c][j]? = some u → (w.alloc (.cells #[a, c] t)).cell? ((⟨w.heap.size, 0, none⟩ : Addr).add j) = some u := by
  intro j u hj
  have hb : (w.alloc (.cells #[a, c] t)).heap[w.heap.size]? = some (.cells #[a, c] t (0, 0)) := World.alloc_heap_new w _
  match j, hj with
  | 0, hj =>
    simp at hj; subst hj
    rw [show ((⟨w.heap.size, 0, none⟩ : Addr).add 0) = ⟨w.heap.size, 0, none⟩ from rfl]
    unfold World.cell?
    rw [hb]; rfl
  | 1, hj =>
    simp at hj; subst hj
    rw [show ((⟨w.heap.size, 0, none⟩ : Addr).add 1) = ⟨w.heap.size, 1, none⟩ from rfl]
    unfold World.cell?
    rw [hb]; rfl
theorem infoItem : (Tryz.prog.info? 52).map (fun i => (i.zero, i.size, i.bytes)) = some (some (.agg #[.string ⟨#[]⟩, .string ⟨#[]⟩]), 2, 32) := by kernel_rfl
def cellsV (l : List Item) : List Value := l.flatMap fun x => [.string x.key, .string x.val]
set_option maxRecDepth 100000 in
set_option maxHeartbeats 4000000 in
theorem appSeq_of (F : Fence) (n : Nat) (h1f : F.fn 98) (hf : F.fn 82) (hro : F.round = none) (hn : 4 ≤ n) (Bs Bo : Nat) (l : List Item) (hl : l.length ≤ 100000000) (w : World)
    (hseq : ∀ W0, Below w.heap.size w W0 → SeqStopsK F (n - 1) Tryz.prog 82 #[.pointer (some ⟨Bs, Bo, none⟩)] (fun x => #[vI x]) (Below w.heap.size) (fun ys => ys = l) (fun pre => pre <+: l) l.length W0) :
    CallsIn F n Tryz.prog 98 #[.slice none 0 0, .func (.func 82) #[] #[.pointer (some ⟨Bs, Bo, none⟩)]] w fun e W' => ∃ v, e = .returned v ∧ W'.ownsRow w.heap.size 52 2 v l.length (cellsV l) ∧ Below w.heap.size w W' := by
  have h1 : 1 ≤ n := by omega
  refine callsIn_of_wp_marks Tryz.func98 rfl h1f ?_ hro
  simp only [Tryz.ntmps98, List.size_toArray, List.length_cons, List.length_nil, Nat.reduceAdd, Nat.reduceSub, Array.replicate_succ, Array.replicate_zero, List.push_toArray, List.append_toArray, List.nil_append, List.cons_append]
  gi_wp2
  have bO := Boxed.new w 25 (.slice none 0 0)
  have hB0 : Below w.heap.size w (w.alloc (.cells #[.slice none 0 0] 25)) := (Below.refl _ w).alloc (Nat.le_refl _) _
  have hsz : (w.alloc (.cells #[.slice none 0 0] 25)).heap.size = w.heap.size + 1 := by simp
  obtain ⟨W0, hW0⟩ : ∃ W0, w.alloc (.cells #[.slice none 0 0] 25) = W0 := ⟨_, rfl⟩
  rw [hW0] at bO hB0 hsz ⊢
  clear hW0
  obtain ⟨i0, hi, hz0, hz1, hz2⟩ := info_parts infoItem
  refine wpIn_rangeFunc_ownH hro h1 (gf := 82) (lb := #[.pointer (some ⟨Bs, Bo, none⟩)]) rfl hf (enters_of Tryz.func82 (by kernel_rfl) rfl)
    (hseq W0 hB0) belowK_t (belowK_b (by omega)) (Below.refl _ _) (fun _ => rfl)
    (fun pre W => (∃ v, Boxed W w.heap.size 25 v ∧ W.ownsRow w.heap.size 52 2 v pre.length (cellsV pre) ∧ True) ∧ Below w.heap.size w W)
    (fun _ _ _ => False)
    (OwnFrom.and (Go.Own.from (holdsRow_own w.heap.size w.heap.size 25 52 2 (fun pre : List Item => pre.length) (fun pre => cellsV pre) (fun _ _ => True)) _) (ownFrom_below (Nat.le_refl _) (by omega)))
    (fun _ _ _ _ _ hs _ _ => hs)
    ⟨⟨_, bO, World.ownsRow_nil _ _ _ _, trivial⟩, hB0⟩
    (fun x a' W => ∃ Bx, w.heap.size < Bx ∧ BoxI W Bx x ∧ a' = { tmps := #[.slice none 0 0, .func (.func 82) #[] #[.pointer (some ⟨Bs, Bo, none⟩)], .pointer (some ⟨w.heap.size, 0, none⟩), undef, .slice none 0 0, .pointer (some ⟨Bx, 0, none⟩), .func (.func 82) #[] #[.pointer (some ⟨Bs, Bo, none⟩)], vI x, undef, undef, undef, undef, undef], defers := [] })
    (fun x a' _ X Y row hs hg hr => by obtain ⟨Bx, h1, h2, h3⟩ := hs; exact ⟨Bx, h1, boxI_own Bx (fun (_ : Unit) => x) () X Y row h2 hg (fun r e => (hr r e).2), h3⟩)
    ?assign ?body ?done ?stop
  case assign =>
    rintro q pre x W K ⟨⟨v, hv, hrow, -⟩, hB1⟩ hK
    unfold vI at *
    gi_wp2
    exact hK _ _ ((KeepsOthers.alloc _ _).from _) ((Below.refl _ W).alloc hB1.size _) ⟨⟨v, hv.alloc _, hrow.alloc _, trivial⟩, hB1.alloc hB1.size _⟩ ⟨W.heap.size, hv.lt, World.alloc_heap_new W _, rfl⟩
  case body =>
    rintro q pre x a' W hlq ⟨r, hr⟩ ⟨⟨v, hv, hrow, -⟩, hB1⟩ ⟨Bx, hBx, bX, rfl⟩ hlt
    have cB := hv.cell
    have cX0 : W.cell? ⟨Bx, 0, none⟩ = some (.string x.key) := by simp [World.cell?, show W.heap[Bx]? = _ from bX]
    have cX1 : W.cell? ⟨Bx, 1, none⟩ = some (.string x.val) := by simp [World.cell?, show W.heap[Bx]? = _ from bX]
    gi_wp2_with (gi_at_builtin; refine wpListIn_append_own _ rfl _ _ 25 rfl w.heap.size 52 i0 (.agg #[.string ⟨#[]⟩, .string ⟨#[]⟩]) 2 32 Tryz.underlying25 hi hz0 hz1 hz2 rfl (by decide) _ _ _ rfl (hrow.alloc _) ⟨W.heap.size, 0, none⟩ 1 1 [.string x.key, .string x.val] rfl rfl (cells_new _ _ _ _) (by simp [Value.oneCell']) (by unfold maxLen; omega) (by omega) (by have := hB1.size; simp; omega) ?_; intro v' w1 hown' hgrow _; obtain ⟨g', cap', rfl⟩ := ownsRow_succ hown'; obtain ⟨hv1, hv2, hr2, hk2, hb2⟩ := hv.appended (by decide) hrow hB1.size (Nat.le_refl _) hown' hgrow; have hc1 := hv1.cell; have hf1 := hv1.frozen)
    exact ⟨hk2.from _, hb2, ⟨_, hv2, by simpa [cellsV] using hr2, trivial⟩, hB1.trans hb2⟩
  case done =>
    rintro D ys W hD rfl ⟨⟨v, hv, hrow, -⟩, hB1⟩ hK
    have hc := hv.cell
    gi_wp2
    refine ⟨by simp, .inl ⟨_, _, rfl, run_takeDeferred hK, ?_⟩⟩
    exact ⟨_, results_tmp rfl _ _ _, v, rfl, ownsRow_putObj hrow _ hK rfl, hB1.trans (belowK_b (w := w) (Nat.le_refl _) W D _ _ (by omega) hK rfl rfl)⟩
  case stop =>
    rintro D c pre W _ _ h _
    exact h.elim
set_option maxHeartbeats 1000000 in
theorem vals1_nil (F : Fence) (n : Nat) (hf : F.fn 82) (hro : F.round = none) (q Bs Bo cap : Nat) (a : Option Addr) (J : List Item → World → Prop) (W : World) (hBs : W.cell? ⟨Bs, Bo, none⟩ = some (.slice a 0 cap)) (h0 : J [] W) :
    CallsIn F n Tryz.prog 82 #[.func (.yield q) #[] #[], .pointer (some ⟨Bs, Bo, none⟩)] W fun e W' => (∃ v, e = .returned v) ∧ J [] W' := by
  refine callsIn_of_wp Tryz.func82 rfl hf ?_ hro
  simp only [Tryz.ntmps82, List.size_toArray, List.length_cons, List.length_nil, Nat.reduceAdd, Nat.reduceSub, Array.replicate_succ, Array.replicate_zero, List.push_toArray, List.append_toArray, List.nil_append, List.cons_append]
  gi_wp2
  gi_loopw [7] (fun i wr => i = .int .i64 0 ∧ J [] wr) (fun _ _ => 0)
  case atStart => exact ⟨rfl, h0⟩
  case round =>
    obtain ⟨rfl, hJs⟩ := hrel
    gi_wp2
    go_end0
    exact ⟨⟨_, rfl⟩, hJs⟩
/-- Called in whatever world: at items that are there. -/
theorem appSeq_calls (Bs Bo b off cap : Nat) (l : List Item) (hl : l.length ≤ 100000000) (w : World) (hB : Bs < w.heap.size)
    (hBs : w.cell? ⟨Bs, Bo, none⟩ = some (.slice (some ⟨b, off, none⟩) l.length cap)) (hc : ItemsAt w.heap.size w b off l) :
    Calls Tryz.prog 98 #[.slice none 0 0, .func (.func 82) #[] #[.pointer (some ⟨Bs, Bo, none⟩)]] w fun e W' => ∃ v, e = .returned v ∧ W'.ownsRow w.heap.size 52 2 v l.length (cellsV l) ∧ Below w.heap.size w W' := by
  refine callsIn_wide.1 (appSeq_of Fence.wide 8 trivial trivial rfl (by omega) Bs Bo l hl w fun W0 h0 => ?_)
  have hb := hc.1
  exact vals_stops Fence.wide 7 trivial rfl (by omega) Bs Bo b off cap l (by omega) W0 w.heap.size h0.size hB ((h0.cell (p := ⟨Bs, Bo, none⟩) hB).trans hBs) ⟨hb, fun j h => by
    obtain ⟨c0, c1⟩ := hc.2 j h
    exact ⟨(h0.cell (p := ⟨b, off + j * 2, none⟩) hb).trans c0, (h0.cell (p := ⟨b, off + j * 2 + 1, none⟩) hb).trans c1⟩⟩
theorem appSeq_calls0 (Bs Bo cap : Nat) (a : Option Addr) (w : World) (hB : Bs < w.heap.size) (hBs : w.cell? ⟨Bs, Bo, none⟩ = some (.slice a 0 cap)) :
    Calls Tryz.prog 98 #[.slice none 0 0, .func (.func 82) #[] #[.pointer (some ⟨Bs, Bo, none⟩)]] w fun e W' => ∃ v, e = .returned v ∧ W'.ownsRow w.heap.size 52 2 v 0 (cellsV []) ∧ Below w.heap.size w W' := by
  refine callsIn_wide.1 (appSeq_of Fence.wide 8 trivial trivial rfl (by omega) Bs Bo [] (by simp) w fun W0 h0 => ?_)
  intro q J Jx W hW hJ _ hY h0'
  exact (vals1_nil Fence.wide 7 trivial rfl q Bs Bo cap a J W ((hW.cell (p := ⟨Bs, Bo, none⟩) (Nat.lt_of_lt_of_le hB h0.size)).trans ((h0.cell (p := ⟨Bs, Bo, none⟩) hB).trans hBs)) h0').mono fun e W' ⟨he, hj⟩ => ⟨he, .inl ⟨_, rfl, hj⟩⟩
/-- A new object of the store, in a block that a call has laid. -/
theorem obj_new {w w' : World} {Im : Nat → Prop} {σ : Sto} {T : Tab} (h : WRel w Im σ T) (hB : Below w.heap.size w w') {g room : Nat} {c : Array Value} {t : TypeId} (hg : w.heap.size ≤ g) (hc : w'.heap[g]? = some (.cells c t (0, 0))) (hr0 : room ≤ c.size) (xs : List AV) (hl : xs.length ≤ room)
    (hr : ∀ (i : Nat) (x : AV) (v : Value), xs[i]? = some x → c[i]? = some v → Rel w' Im T v x) :
    WRel w' Im (σ ++ [⟨xs, 0, false, false⟩]) (T ++ [⟨0, g, 0, room⟩]) ∧ Fut w Im σ T w' Im (σ ++ [⟨xs, 0, false, false⟩]) (T ++ [⟨0, g, 0, room⟩]) := by
  have hs := hB.size
  have hk : ∀ b, b < w.heap.size → w'.heap[b]? = w.heap[b]? := hB.block
  have h0 : WRel w' Im σ T := h.world hs hk (fun _ h => h) (fun _ h => .inl h)
  have hle : Tab.le T (T ++ [⟨0, g, 0, room⟩]) := Tab.le_append _ _
  have old : ∀ (l : Nat) (o : MO) (p : Plc), (σ ++ [⟨xs, 0, false, false⟩])[l]? = some o → (T ++ [⟨0, g, 0, room⟩])[l]? = some p → (σ[l]? = some o ∧ T[l]? = some p) ∨ (l = σ.length ∧ o = ⟨xs, 0, false, false⟩ ∧ p = ⟨0, g, 0, room⟩) := by
    intro l o p ho hp
    rcases Nat.lt_or_ge l σ.length with h1 | h1
    · rw [List.getElem?_append_left h1] at ho
      rw [List.getElem?_append_left (by rw [h.len]; exact h1)] at hp
      exact .inl ⟨ho, hp⟩
    · rw [List.getElem?_append_right h1] at ho
      rw [List.getElem?_append_right (by rw [h.len]; exact h1)] at hp
      have e : l = σ.length := by
        have := lt_of_get ho; simp at this; omega
      subst e
      simp [h.len] at ho hp
      exact .inr ⟨rfl, ho.symm, hp.symm⟩
  refine ⟨⟨by simp [h.len], ?_, h0.im, ?_, ?_, ?_, ?_, ?_, ?_⟩, ⟨hB.os, hB.tape, hB.output, hs, fun b hb _ => hk b hb, ?_, fun _ h => h, fun _ h => .inl h, hle⟩⟩
  · intro l o p ho hp
    rcases old l o p ho hp with ⟨h1, h2⟩ | ⟨_, rfl, rfl⟩
    · exact h.gen l o p h1 h2
    · rfl
  · intro l o p ho hp
    rcases old l o p ho hp with ⟨h1, h2⟩ | ⟨_, rfl, rfl⟩
    · exact h.room l o p h1 h2
    · exact hl
  · intro l o p ho hp
    rcases old l o p ho hp with ⟨h1, h2⟩ | ⟨_, rfl, rfl⟩
    · exact (h0.obj l o p h1 h2).mono rfl (fun _ _ => rfl) (fun _ h => h) hle
    · refine ⟨fun _ => ⟨c, t, (0, 0), hc, fun _ => rfl, by simpa using hr0, fun i x v hx hv => ?_⟩, fun s hs => by cases hs⟩
      exact (hr i x v hx (by simpa using hv)).mono (fun _ _ => rfl) (fun _ h => h) hle
  · intro l o p ho hp hf
    rcases old l o p ho hp with ⟨h1, h2⟩ | ⟨_, rfl, rfl⟩
    · exact h.sep l o p h1 h2 hf
    · exact fun hb => by have := h.im _ hb; simp at this; omega
  · intro l o p ho hp hf
    rcases old l o p ho hp with ⟨h1, h2⟩ | ⟨_, rfl, rfl⟩
    · exact h.fix l o p h1 h2 hf
    · cases hf
  · intro l l' o o' p p' ho hp ho' hp' hne hf hf'
    rcases old l o p ho hp with ⟨h1, h2⟩ | ⟨e, rfl, rfl⟩
    · rcases old l' o' p' ho' hp' with ⟨h3, h4⟩ | ⟨e', rfl, rfl⟩
      · exact h.inj l l' o o' p p' h1 h2 h3 h4 hne hf hf'
      · have := h.blk_lt h2; simp; omega
    · rcases old l' o' p' ho' hp' with ⟨h3, h4⟩ | ⟨e', rfl, rfl⟩
      · have := h.blk_lt h4; simp; omega
      · omega
  · intro l o p ho hp
    rcases old l o p ho hp with ⟨h1, h2⟩ | ⟨_, rfl, rfl⟩
    · exact h0.full l o p h1 h2
    · exact .no _ _ _ _ _
  · rintro b ⟨l, o, p, ho, hp, hf, rfl⟩
    rcases old l o p ho hp with ⟨h1, h2⟩ | ⟨_, rfl, rfl⟩
    · exact .inl ⟨l, o, p, h1, h2, hf, rfl⟩
    · exact .inr hg
end Go.Proofs.YtejgopcicenbeaaGreat
