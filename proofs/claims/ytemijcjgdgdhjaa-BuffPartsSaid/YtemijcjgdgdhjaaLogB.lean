/- The world behind a new block, a store, a grown row: how what was told of it stands. No program. -/
import Derived.Test.YtemijcjgdgdhjaaLogA
namespace Go.Proofs.Ytemijcjgdgdhjaa
open Go.RowKit

theorem blkLt {w : World} {b : Nat} {o : Obj} (h : w.heap[b]? = some o) : b < w.heap.size := by
  rcases Nat.lt_or_ge b w.heap.size with h1 | h1
  · exact h1
  · rw [Array.getElem?_eq_none h1] at h; cases h
theorem WRel.blk_lt {w : World} {Im : Nat → Prop} {σ : Sto} {T : Tab} (h : WRel w Im σ T) {l : Nat} {p : Plc} (hp : T[l]? = some p) : p.blk < w.heap.size := by
  have hl : l < σ.length := by rw [← h.len]; exact lt_of_get hp
  obtain ⟨c, t, fz, hb, _⟩ := h.obj l _ p (List.getElem?_eq_getElem hl) hp
  exact blkLt hb
theorem WRel.obj_of {w : World} {Im : Nat → Prop} {σ : Sto} {T : Tab} (h : WRel w Im σ T) {l : Nat} {p : Plc} (hp : T[l]? = some p) : ∃ o, σ[l]? = some o :=
  ⟨_, List.getElem?_eq_getElem (by rw [← h.len]; exact lt_of_get hp)⟩
theorem WRel.plc_of {w : World} {Im : Nat → Prop} {σ : Sto} {T : Tab} (h : WRel w Im σ T) {l : Nat} {o : MO} (ho : σ[l]? = some o) : ∃ p, T[l]? = some p :=
  ⟨_, List.getElem?_eq_getElem (by rw [h.len]; exact lt_of_get ho)⟩

/-- The world has new blocks; some of them stay. -/
theorem WRel.world {w w' : World} {Im Im' : Nat → Prop} {σ : Sto} {T : Tab} (h : WRel w Im σ T) (hs : w.heap.size ≤ w'.heap.size) (hk : ∀ b, b < w.heap.size → w'.heap[b]? = w.heap[b]?)
    (hi : ∀ b, Im b → Im' b) (hi' : ∀ b, Im' b → Im b ∨ (w.heap.size ≤ b ∧ b < w'.heap.size)) : WRel w' Im' σ T where
  len := h.len
  gen := h.gen
  im := fun b hb => by
    rcases hi' b hb with h1 | h1
    · exact Nat.lt_of_lt_of_le (h.im b h1) hs
    · exact h1.2
  room := h.room
  obj := fun l o p ho hp => by
    obtain ⟨c, t, fz, h1, h2, h3, h4⟩ := h.obj l o p ho hp
    exact ⟨c, t, fz, by rw [hk _ (blkLt h1)]; exact h1, h2, h3, fun i x v hx hv => (h4 i x v hx hv).mono (fun b hb => hk b (h.im b hb)) hi (Tab.le_refl _)⟩
  sep := fun l o p ho hp hf hb => by
    rcases hi' _ hb with h1 | h1
    · exact h.sep l o p ho hp hf h1
    · have := h.blk_lt hp; omega
  fix := fun l o p ho hp hf => hi _ (h.fix l o p ho hp hf)
  inj := h.inj
  full := h.full
theorem Fut.world {w w' : World} {Im Im' : Nat → Prop} {σ : Sto} {T : Tab} (ho : w'.os = w.os) (ht : w'.tape = w.tape) (hu : w'.output = w.output) (hs : w.heap.size ≤ w'.heap.size) (hk : ∀ b, b < w.heap.size → w'.heap[b]? = w.heap[b]?)
    (hi : ∀ b, Im b → Im' b) (hi' : ∀ b, Im' b → Im b ∨ (w.heap.size ≤ b ∧ b < w'.heap.size)) : Fut w Im σ T w' Im' σ T where
  os := ho
  tape := ht
  output := hu
  size := hs
  keep := fun b hb _ => hk b hb
  muts := fun _ hb => .inl hb
  im1 := hi
  im2 := fun b hb => by
    rcases hi' b hb with h1 | h1
    · exact .inl h1
    · exact .inr (.inr h1.1)
  tab := Tab.le_refl _

/-- A draw. -/
theorem WRel.drew {w : World} {Im : Nat → Prop} {σ : Sto} {T : Tab} (h : WRel w Im σ T) : WRel w.drew Im σ T := h.world (Nat.le_refl _) (fun _ _ => rfl) (fun _ h => h) (fun _ h => .inl h)
theorem Fut.drew (w : World) (Im : Nat → Prop) (σ : Sto) (T : Tab) : Fut w Im σ T w.drew Im σ T := .world rfl rfl rfl (Nat.le_refl _) (fun _ _ => rfl) (fun _ h => h) (fun _ h => .inl h)
theorem Rel.drew {w : World} {Im : Nat → Prop} {T : Tab} {v : Value} {x : AV} (h : Rel w Im T v x) : Rel w.drew Im T v x := h.mono (fun _ _ => rfl) (fun _ h => h) (Tab.le_refl _)

theorem alloc_heap_size (w : World) (o : Obj) : (w.alloc o).heap.size = w.heap.size + 1 := by show (w.heap.push o).size = _; simp
theorem alloc_new (w : World) (o : Obj) : (w.alloc o).heap[w.heap.size]? = some o := by show (w.heap.push o)[w.heap.size]? = _; simp
theorem alloc_old (w : World) (o : Obj) (b : Nat) (h : b < w.heap.size) : (w.alloc o).heap[b]? = w.heap[b]? := Below.heap_alloc w o b h

/-- A pointer into cells that stay. -/
theorem Rel.fp_of {w : World} {Im : Nat → Prop} {T : Tab} {b o : Nat} {c : Array Value} {t : TypeId} {fz : Nat × Nat} {xs : List AV} (hb : w.heap[b]? = some (.cells c t fz)) (hi : Im b) (hl : o + xs.length ≤ c.size)
    (hr : ∀ (i : Nat) (x : AV) (v : Value), xs[i]? = some x → c[o + i]? = some v → Rel w Im T v x) (off : Nat) : Rel w Im T (.pointer (some ⟨b, o + off, none⟩)) (.fp xs off) := by
  have hg : ∀ (i : Nat) (x : AV), xs[i]? = some x → c[o + i]? = some (c[o + i]?.getD undef) := fun i x hx => by
    have : o + i < c.size := by have := lt_of_get hx; omega
    simp [this]
  refine .fp b o off xs (fun i => c[o + i]?.getD undef) (fun i x hx => ⟨hi, ?_⟩) (fun i x hx => hr i x _ hx (hg i x hx))
  rw [cell_of_row w b (o + i) c t fz hb]; exact hg i x hx
theorem Rel.fs_of {w : World} {Im : Nat → Prop} {T : Tab} {b o len cap : Nat} {c : Array Value} {t : TypeId} {fz : Nat × Nat} {xs : List AV} (hb : w.heap[b]? = some (.cells c t fz)) (hi : Im b) (hl : o + xs.length ≤ c.size) (hc : len ≤ cap)
    (hr : ∀ (i : Nat) (x : AV) (v : Value), xs[i]? = some x → c[o + i]? = some v → Rel w Im T v x) : Rel w Im T (.slice (some ⟨b, o, none⟩) len cap) (.fs xs len) := by
  have hg : ∀ (i : Nat) (x : AV), xs[i]? = some x → c[o + i]? = some (c[o + i]?.getD undef) := fun i x hx => by
    have : o + i < c.size := by have := lt_of_get hx; omega
    simp [this]
  refine .fs b o len cap xs (fun i => c[o + i]?.getD undef) hc (fun i x hx => ⟨hi, ?_⟩) (fun i x hx => hr i x _ hx (hg i x hx))
  rw [cell_of_row w b (o + i) c t fz hb]; exact hg i x hx

/-- A new block that stays. -/
theorem alloc_fix {w : World} {Im : Nat → Prop} {σ : Sto} {T : Tab} (h : WRel w Im σ T) (ob : Obj) :
    WRel (w.alloc ob) (fun b => Im b ∨ b = w.heap.size) σ T ∧ Fut w Im σ T (w.alloc ob) (fun b => Im b ∨ b = w.heap.size) σ T := by
  have hs : w.heap.size ≤ (w.alloc ob).heap.size := by rw [alloc_heap_size]; omega
  have hi' : ∀ b, (Im b ∨ b = w.heap.size) → Im b ∨ (w.heap.size ≤ b ∧ b < (w.alloc ob).heap.size) := fun b hb => by
    rcases hb with h1 | h1
    · exact .inl h1
    · exact .inr (by rw [alloc_heap_size]; omega)
  exact ⟨h.world hs (alloc_old w ob) (fun _ h => .inl h) hi', .world rfl rfl rfl hs (alloc_old w ob) (fun _ h => .inl h) hi'⟩

theorem RelL.get {w : World} {Im : Nat → Prop} {T : Tab} {A : List Value} {xs : List AV} (h : RelL w Im T A xs) {i : Nat} {x : AV} (hx : xs[i]? = some x) : ∃ v, A[i]? = some v ∧ Rel w Im T v x := by
  have : i < A.length := by rw [h.1]; exact lt_of_get hx
  exact ⟨_, List.getElem?_eq_getElem this, h.2 i x _ hx (List.getElem?_eq_getElem this)⟩

/-- A new object of the store. -/
theorem alloc_obj {w : World} {Im : Nat → Prop} {σ : Sto} {T : Tab} (h : WRel w Im σ T) (c : Array Value) (t : TypeId) (xs : List AV) (hl : xs.length ≤ c.size) (hr : ∀ (i : Nat) (x : AV) (v : Value), xs[i]? = some x → c[i]? = some v → Rel w Im T v x) :
    WRel (w.alloc (.cells c t)) Im (σ ++ [⟨xs, 0, false, false⟩]) (T ++ [⟨0, w.heap.size, 0, c.size⟩]) ∧ Fut w Im σ T (w.alloc (.cells c t)) Im (σ ++ [⟨xs, 0, false, false⟩]) (T ++ [⟨0, w.heap.size, 0, c.size⟩]) := by
  have hs : w.heap.size ≤ (w.alloc (.cells c t)).heap.size := by rw [alloc_heap_size]; omega
  have h0 : WRel (w.alloc (.cells c t)) Im σ T := h.world hs (alloc_old w _) (fun _ h => h) (fun _ h => .inl h)
  have hle : Tab.le T (T ++ [⟨0, w.heap.size, 0, c.size⟩]) := Tab.le_append _ _
  have old : ∀ (l : Nat) (o : MO) (p : Plc), (σ ++ [⟨xs, 0, false, false⟩])[l]? = some o → (T ++ [⟨0, w.heap.size, 0, c.size⟩])[l]? = some p → (σ[l]? = some o ∧ T[l]? = some p) ∨ (l = σ.length ∧ o = ⟨xs, 0, false, false⟩ ∧ p = ⟨0, w.heap.size, 0, c.size⟩) := by
    intro l o p ho hp
    rcases Nat.lt_or_ge l σ.length with h1 | h1
    · rw [List.getElem?_append_left h1] at ho
      rw [List.getElem?_append_left (by rw [h.len]; exact h1)] at hp
      exact .inl ⟨ho, hp⟩
    · rw [List.getElem?_append_right h1] at ho
      rw [List.getElem?_append_right (by rw [h.len]; exact h1)] at hp
      have e : l = σ.length := by
        have := lt_of_get ho; simp at this; omega
      subst e
      simp [h.len] at ho hp
      exact .inr ⟨rfl, ho.symm, hp.symm⟩
  refine ⟨⟨by simp [h.len], ?_, h0.im, ?_, ?_, ?_, ?_, ?_, ?_⟩, ⟨rfl, rfl, rfl, hs, fun b hb _ => alloc_old w _ b hb, ?_, fun _ h => h, fun _ h => .inl h, hle⟩⟩
  · intro l o p ho hp
    rcases old l o p ho hp with ⟨h1, h2⟩ | ⟨_, rfl, rfl⟩
    · exact h.gen l o p h1 h2
    · rfl
  · intro l o p ho hp
    rcases old l o p ho hp with ⟨h1, h2⟩ | ⟨_, rfl, rfl⟩
    · exact h.room l o p h1 h2
    · exact hl
  · intro l o p ho hp
    rcases old l o p ho hp with ⟨h1, h2⟩ | ⟨_, rfl, rfl⟩
    · obtain ⟨c', t', fz, q1, q2, q3, q4⟩ := h0.obj l o p h1 h2
      exact ⟨c', t', fz, q1, q2, q3, fun i x v hx hv => (q4 i x v hx hv).mono (fun _ _ => rfl) (fun _ h => h) hle⟩
    · refine ⟨c, t, (0, 0), alloc_new w _, fun _ => rfl, by simp, fun i x v hx hv => ?_⟩
      exact (hr i x v hx (by simpa using hv)).mono (fun b hb => alloc_old w _ b (h.im b hb)) (fun _ h => h) hle
  · intro l o p ho hp hf
    rcases old l o p ho hp with ⟨h1, h2⟩ | ⟨_, rfl, rfl⟩
    · exact h.sep l o p h1 h2 hf
    · exact fun hb => by have := h.im _ hb; simp at this
  · intro l o p ho hp hf
    rcases old l o p ho hp with ⟨h1, h2⟩ | ⟨_, rfl, rfl⟩
    · exact h.fix l o p h1 h2 hf
    · cases hf
  · intro l l' o o' p p' ho hp ho' hp' hne hf hf'
    rcases old l o p ho hp with ⟨h1, h2⟩ | ⟨e, rfl, rfl⟩
    · rcases old l' o' p' ho' hp' with ⟨h3, h4⟩ | ⟨e', rfl, rfl⟩
      · exact h.inj l l' o o' p p' h1 h2 h3 h4 hne hf hf'
      · have := h.blk_lt h2; simp; omega
    · rcases old l' o' p' ho' hp' with ⟨h3, h4⟩ | ⟨e', rfl, rfl⟩
      · have := h.blk_lt h4; simp; omega
      · omega
  · intro l o p ho hp hf
    rcases old l o p ho hp with ⟨h1, h2⟩ | ⟨_, rfl, rfl⟩
    · exact h.full l o p h1 h2 hf
    · cases hf
  · rintro b ⟨l, o, p, ho, hp, hf, rfl⟩
    rcases old l o p ho hp with ⟨h1, h2⟩ | ⟨_, rfl, rfl⟩
    · exact .inl ⟨l, o, p, h1, h2, hf, rfl⟩
    · exact .inr (Nat.le_refl _)

/-- Object l has turned (in its block, or into a new one). -/
theorem WRel.change {w w' : World} {Im : Nat → Prop} {σ : Sto} {T : Tab} (h : WRel w Im σ T) {l : Nat} {o o' : MO} {p p' : Plc} (ho : σ[l]? = some o) (hp : T[l]? = some p) (hf : o.frz = false)
    (wo : w'.os = w.os) (wt : w'.tape = w.tape) (wu : w'.output = w.output) (hs : w.heap.size ≤ w'.heap.size) (hk : ∀ b, b < w.heap.size → b ≠ p.blk → w'.heap[b]? = w.heap[b]?)
    (hb : p'.blk = p.blk ∨ w.heap.size ≤ p'.blk) (hg : p.gen ≤ p'.gen) (he : p'.gen = p.gen → p' = p) (ho' : o'.gen = p'.gen) (hf' : o'.frz = false) (hrm : o'.cells.length ≤ p'.room) (hfu : o'.full = true → p'.room ≤ o'.cells.length)
    {c : Array Value} {t : TypeId} (hc : w'.heap[p'.blk]? = some (.cells c t (0, 0))) (hsz : p'.base + p'.room ≤ c.size)
    (hr : ∀ (i : Nat) (x : AV) (v : Value), o'.cells[i]? = some x → c[p'.base + i]? = some v → Rel w Im T v x) :
    WRel w' Im (σ.set l o') (T.set l p') ∧ Fut w Im σ T w' Im (σ.set l o') (T.set l p') := by
  have hle : Tab.le T (T.set l p') := by
    intro k q hq
    by_cases e : l = k
    · subst e
      rw [hp] at hq; cases hq
      exact ⟨p', by rw [List.getElem?_set_self (lt_of_get hp)], hg, he⟩
    · exact ⟨q, by rw [List.getElem?_set_ne e]; exact hq, Nat.le_refl _, fun _ => rfl⟩
  have old : ∀ (k : Nat) (q : MO) (r : Plc), (σ.set l o')[k]? = some q → (T.set l p')[k]? = some r → (k ≠ l ∧ σ[k]? = some q ∧ T[k]? = some r) ∨ (k = l ∧ q = o' ∧ r = p') := by
    intro k q r hq hr
    by_cases e : l = k
    · subst e
      rw [List.getElem?_set_self (lt_of_get ho)] at hq
      rw [List.getElem?_set_self (lt_of_get hp)] at hr
      cases hq; cases hr
      exact .inr ⟨rfl, rfl, rfl⟩
    · rw [List.getElem?_set_ne e] at hq hr
      exact .inl ⟨fun h => e h.symm, hq, hr⟩
  have imk : ∀ b, Im b → w'.heap[b]? = w.heap[b]? := fun b hb => hk b (h.im b hb) (fun e => h.sep l o p ho hp hf (e ▸ hb))
  have notIm : ¬ Im p'.blk := fun hi => by
    rcases hb with h1 | h1
    · exact h.sep l o p ho hp hf (h1 ▸ hi)
    · have := h.im _ hi; omega
  refine ⟨⟨by simp [h.len], ?_, fun b hb => Nat.lt_of_lt_of_le (h.im b hb) hs, ?_, ?_, ?_, ?_, ?_, ?_⟩, ⟨wo, wt, wu, hs, ?_, ?_, fun _ h => h, fun _ h => .inl h, hle⟩⟩
  · intro k q r hq hr
    rcases old k q r hq hr with ⟨_, h1, h2⟩ | ⟨_, rfl, rfl⟩
    · exact h.gen k q r h1 h2
    · exact ho'.symm
  · intro k q r hq hr
    rcases old k q r hq hr with ⟨_, h1, h2⟩ | ⟨_, rfl, rfl⟩
    · exact h.room k q r h1 h2
    · exact hrm
  · intro k q r hq hrr
    rcases old k q r hq hrr with ⟨hne, h1, h2⟩ | ⟨_, rfl, rfl⟩
    · obtain ⟨c', t', fz, q1, q2, q3, q4⟩ := h.obj k q r h1 h2
      have hne' : r.blk ≠ p.blk := by
        intro e
        cases hq' : q.frz with
        | false => exact h.inj k l q o r p h1 h2 ho hp hne hq' hf e
        | true => exact h.sep l o p ho hp hf (e ▸ h.fix k q r h1 h2 hq')
      exact ⟨c', t', fz, by rw [hk _ (blkLt q1) hne']; exact q1, q2, q3, fun i x v hx hv => (q4 i x v hx hv).mono imk (fun _ h => h) hle⟩
    · exact ⟨c, t, (0, 0), hc, fun _ => rfl, hsz, fun i x v hx hv => (hr i x v hx hv).mono imk (fun _ h => h) hle⟩
  · intro k q r hq hr hfq
    rcases old k q r hq hr with ⟨_, h1, h2⟩ | ⟨_, rfl, rfl⟩
    · exact h.sep k q r h1 h2 hfq
    · exact notIm
  · intro k q r hq hr hfq
    rcases old k q r hq hr with ⟨_, h1, h2⟩ | ⟨_, rfl, rfl⟩
    · exact h.fix k q r h1 h2 hfq
    · rw [hf'] at hfq; cases hfq
  · intro k k' q q' r r' hq hr hq' hr' hne hfq hfq'
    rcases old k q r hq hr with ⟨n1, h1, h2⟩ | ⟨e1, rfl, rfl⟩
    · rcases old k' q' r' hq' hr' with ⟨n2, h3, h4⟩ | ⟨e2, rfl, rfl⟩
      · exact h.inj k k' q q' r r' h1 h2 h3 h4 hne hfq hfq'
      · rcases hb with hb | hb
        · rw [hb]; exact h.inj k l q o r p h1 h2 ho hp n1 hfq hf
        · have := h.blk_lt h2; omega
    · rcases old k' q' r' hq' hr' with ⟨n2, h3, h4⟩ | ⟨e2, rfl, rfl⟩
      · rcases hb with hb | hb
        · rw [hb]; exact fun e => h.inj k' l q' o r' p h3 h4 ho hp n2 hfq' hf e.symm
        · have := h.blk_lt h4; omega
      · omega
  · intro k q r hq hr hfq
    rcases old k q r hq hr with ⟨_, h1, h2⟩ | ⟨_, rfl, rfl⟩
    · exact h.full k q r h1 h2 hfq
    · exact hfu hfq
  · exact fun b hb hm => hk b hb (fun e => hm ⟨l, o, p, ho, hp, hf, e.symm⟩)
  · rintro b ⟨k, q, r, hq, hr, hfq, rfl⟩
    rcases old k q r hq hr with ⟨_, h1, h2⟩ | ⟨_, rfl, rfl⟩
    · exact .inl ⟨k, q, r, h1, h2, hfq, rfl⟩
    · rcases hb with hb | hb
      · exact .inl ⟨l, o, p, ho, hp, hf, hb.symm⟩
      · exact .inr hb

/-- Objects are laid to rest: nothing turns them any more. -/
def Sto.freeze (σ : Sto) (l : Nat) : Sto := σ.modify l fun o => { o with frz := true }
theorem freeze_get (σ : Sto) (l k : Nat) : (σ.freeze l)[k]? = (σ[k]?).map fun o => if l = k then { o with frz := true } else o := by
  unfold Sto.freeze
  rw [List.getElem?_modify]
  split <;> cases σ[k]? <;> simp
theorem WRel.freeze {w : World} {Im : Nat → Prop} {σ : Sto} {T : Tab} (h : WRel w Im σ T) (l : Nat) :
    ∃ Im', WRel w Im' (σ.freeze l) T ∧ Fut w Im σ T w Im' (σ.freeze l) T ∧ (∀ p, T[l]? = some p → Im' p.blk) := by
  have back : ∀ (k : Nat) (q : MO), (σ.freeze l)[k]? = some q → ∃ o, σ[k]? = some o ∧ q.cells = o.cells ∧ q.gen = o.gen ∧ (l ≠ k → q = o) ∧ (l = k → q.frz = true) ∧ (q.frz = false → o.frz = false) := by
    intro k q hq
    rw [freeze_get] at hq
    obtain ⟨o, ho, e⟩ := Option.map_eq_some_iff.1 hq
    subst e
    refine ⟨o, ho, ?_⟩
    split <;> simp_all
  refine ⟨fun b => Im b ∨ ∃ p, T[l]? = some p ∧ p.blk = b, ⟨by simp [h.len, Sto.freeze], ?_, ?_, ?_, ?_, ?_, ?_, ?_, ?_⟩, ⟨rfl, rfl, rfl, Nat.le_refl _, fun _ _ _ => rfl, ?_, fun _ h => .inl h, ?_, Tab.le_refl _⟩, fun p hp => .inr ⟨p, hp, rfl⟩⟩
  · intro k q p hq hp
    obtain ⟨o, ho, e1, e2, _⟩ := back k q hq
    rw [e2]; exact h.gen k o p ho hp
  · rintro b (hb | ⟨p, hp, rfl⟩)
    · exact h.im b hb
    · exact h.blk_lt hp
  · intro k q p hq hp
    obtain ⟨o, ho, e1, e2, _⟩ := back k q hq
    rw [e1]; exact h.room k o p ho hp
  · intro k q p hq hp
    obtain ⟨o, ho, e1, e2, e3, e4, e5⟩ := back k q hq
    obtain ⟨c, t, fz, q1, q2, q3, q4⟩ := h.obj k o p ho hp
    exact ⟨c, t, fz, q1, fun hf => q2 (e5 hf), q3, fun i x v hx hv => (q4 i x v (e1 ▸ hx) hv).mono (fun _ _ => rfl) (fun _ h => .inl h) (Tab.le_refl _)⟩
  · rintro k q p hq hp hf (hb | ⟨p', hp', e⟩)
    · obtain ⟨o, ho, e1, e2, e3, e4, e5⟩ := back k q hq
      exact h.sep k o p ho hp (e5 hf) hb
    · obtain ⟨o, ho, e1, e2, e3, e4, e5⟩ := back k q hq
      by_cases hlk : l = k
      · rw [e4 hlk] at hf; cases hf
      · obtain ⟨o', ho'⟩ := h.obj_of hp'
        cases hf' : o'.frz with
        | false => exact h.inj l k o' o p' p ho' hp' ho hp hlk hf' (e5 hf) e
        | true => exact h.sep k o p ho hp (e5 hf) (e ▸ h.fix l o' p' ho' hp' hf')
  · intro k q p hq hp hf
    obtain ⟨o, ho, e1, e2, e3, e4, e5⟩ := back k q hq
    by_cases hlk : l = k
    · exact .inr ⟨p, hlk ▸ hp, rfl⟩
    · rw [e3 hlk] at hf; exact .inl (h.fix k o p ho hp hf)
  · intro k k' q q' p p' hq hp hq' hp' hne hf hf'
    obtain ⟨o, ho, e1, e2, e3, e4, e5⟩ := back k q hq
    obtain ⟨o', ho', d1, d2, d3, d4, d5⟩ := back k' q' hq'
    exact h.inj k k' o o' p p' ho hp ho' hp' hne (e5 hf) (d5 hf')
  · intro k q p hq hp hf
    rw [freeze_get] at hq
    obtain ⟨o, ho, e⟩ := Option.map_eq_some_iff.1 hq
    have h1 := h.full k o p ho hp
    subst e
    split at hf
    · rename_i e; simp only [e, if_true]; subst e; exact h1 hf
    · rename_i e; simp only [e, if_false]; exact h1 hf
  · rintro b ⟨k, q, p, hq, hp, hf, rfl⟩
    obtain ⟨o, ho, e1, e2, e3, e4, e5⟩ := back k q hq
    exact .inl ⟨k, o, p, ho, hp, e5 hf, rfl⟩
  · rintro b (hb | ⟨p, hp, rfl⟩)
    · exact .inl hb
    · obtain ⟨o, ho⟩ := h.obj_of hp
      cases hf : o.frz with
      | false => exact .inr (.inl ⟨l, o, p, ho, hp, hf, rfl⟩)
      | true => exact .inl (h.fix l o p ho hp hf)

/-- The last objects of the store fall away: nothing that is kept tells of them. -/
theorem WRel.drop {w : World} {Im : Nat → Prop} {σ δ : Sto} {T : Tab} (h : WRel w Im (σ ++ δ) T)
    (hs : ∀ (l : Nat) (o : MO) (v : Value) (i : Nat) (x : AV), σ[l]? = some o → o.cells[i]? = some x → Rel w Im T v x → Rel w Im (T.take σ.length) v x) : WRel w Im σ (T.take σ.length) := by
  have sub : ∀ (l : Nat) (o : MO) (p : Plc), σ[l]? = some o → (T.take σ.length)[l]? = some p → (σ ++ δ)[l]? = some o ∧ T[l]? = some p := by
    intro l o p ho hp
    have hl := lt_of_get ho
    rw [List.getElem?_take_of_lt hl] at hp
    exact ⟨by rw [List.getElem?_append_left hl]; exact ho, hp⟩
  refine ⟨by simp [h.len], fun l o p ho hp => h.gen l o p (sub l o p ho hp).1 (sub l o p ho hp).2, h.im, fun l o p ho hp => h.room l o p (sub l o p ho hp).1 (sub l o p ho hp).2, ?_, fun l o p ho hp => h.sep l o p (sub l o p ho hp).1 (sub l o p ho hp).2,
    fun l o p ho hp => h.fix l o p (sub l o p ho hp).1 (sub l o p ho hp).2, fun l l' o o' p p' ho hp ho' hp' => h.inj l l' o o' p p' (sub l o p ho hp).1 (sub l o p ho hp).2 (sub l' o' p' ho' hp').1 (sub l' o' p' ho' hp').2, fun l o p ho hp => h.full l o p (sub l o p ho hp).1 (sub l o p ho hp).2⟩
  intro l o p ho hp
  obtain ⟨h1, h2⟩ := sub l o p ho hp
  obtain ⟨c, t, fz, q1, q2, q3, q4⟩ := h.obj l o p h1 h2
  exact ⟨c, t, fz, q1, q2, q3, fun i x v hx hv => hs l o v i x ho hx (q4 i x v hx hv)⟩
end Go.Proofs.Ytemijcjgdgdhjaa
