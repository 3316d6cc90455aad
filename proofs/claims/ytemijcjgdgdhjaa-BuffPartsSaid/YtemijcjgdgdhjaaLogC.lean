/- One operation, on values without memory (evalOp), and that the machine does the same. No program. -/
import Derived.Test.YtemijcjgdgdhjaaLogB
namespace Go.Proofs.Ytemijcjgdgdhjaa
open Go.RowKit

/-- The computation s, from world w: it leaves what x and σ' tell. -/
def SndV (P : Program) (s : Sem Value) (w : World) (Im : Nat → Prop) (σ : Sto) (T : Tab) (x : AV) (σ' : Sto) : Prop :=
  ∃ vc w' Im' T', s.run P w = .ok vc w' ∧ Rel w' Im' T' vc x ∧ WRel w' Im' σ' T' ∧ Fut w Im σ T w' Im' σ' T'
def Snd (P : Program) (s : Sem Next) (w : World) (Im : Nat → Prop) (σ : Sto) (T : Tab) (x : AV) (σ' : Sto) : Prop :=
  ∃ nx vc w' Im' T', s.run P w = .ok nx w' ∧ (nx = .value vc ∨ (nx = .skip ∧ vc = undef)) ∧ Rel w' Im' T' vc x ∧ WRel w' Im' σ' T' ∧ Fut w Im σ T w' Im' σ' T'
theorem SndV.snd {P : Program} {s : Sem Value} {w : World} {Im : Nat → Prop} {σ : Sto} {T : Tab} {x : AV} {σ' : Sto} (h : SndV P s w Im σ T x σ') : Snd P (do pure (.value (← s))) w Im σ T x σ' := by
  obtain ⟨vc, w', Im', T', hr, h1, h2, h3⟩ := h
  exact ⟨.value vc, vc, w', Im', T', by simp [hr], .inl rfl, h1, h2, h3⟩
theorem SndV.same {P : Program} {s : Sem Value} {w : World} {Im : Nat → Prop} {σ : Sto} {T : Tab} {x : AV} {v : Value} (hW : WRel w Im σ T) (hr : s.run P w = .ok v w) (h : Rel w Im T v x) : SndV P s w Im σ T x σ :=
  ⟨v, w, Im, T, hr, h, hW, Fut.refl _ _ _ _⟩

/-- The value of a computation that touches no world. -/
def pureOf {α : Type} (P : Program) : Sem α → Option α
  | .pure a => some a
  | .program k => pureOf P (k P)
  | .mark _ k => pureOf P k
  | _ => none
theorem pureOf_run {α : Type} {P : Program} {s : Sem α} {a : α} (h : pureOf P s = some a) (w : World) : s.run P w = .ok a w := by
  induction s with
  | pure b => simp only [pureOf, Option.some.injEq] at h; subst h; rfl
  | program k ih => exact ih P h
  | mark m k ih => exact ih h
  | _ => simp [pureOf] at h

def isAggT (P : Program) (t : TypeId) : Option Bool :=
  match P.underlying t with
  | some (.struct _) => some true
  | some (.array _ _) => some true
  | some _ => some false
  | none => none
def sizeT (P : Program) (t : TypeId) : Option Nat := (P.info? t).map (·.size)
theorem run_isAgg {P : Program} {t : TypeId} {b : Bool} (h : isAggT P t = some b) (w : World) : (isAgg t).run P w = .ok b w := by
  unfold isAggT at h
  unfold isAgg
  cases hu : P.underlying t with
  | none => simp [hu] at h
  | some d => rw [hu] at h; cases d <;> simp at h <;> subst h <;> simp [run_underlying hu]
theorem run_sizeOf {P : Program} {t : TypeId} {n : Nat} (h : sizeT P t = some n) (w : World) : (sizeOf t).run P w = .ok n w := by
  unfold sizeT at h
  obtain ⟨i, hi, rfl⟩ := Option.map_eq_some_iff.1 h
  simp [sizeOf, typeInfo, hi]

/-- The cell that a pointer tells. -/
def rdCell (σ : Sto) : AV → Option AV
  | .fp cs off => cs[off]?
  | .mp l g off => match σ[l]? with
    | some o => if o.gen = g then o.cells[off]? else none
    | none => none
  | _ => none
def rdCells (σ : Sto) : AV → Nat → Option (List AV)
  | .fp cs off, n => if off + n ≤ cs.length then some ((cs.drop off).take n) else none
  | .mp l g off, n => match σ[l]? with
    | some o => if o.gen = g ∧ off + n ≤ o.cells.length then some ((o.cells.drop off).take n) else none
    | none => none
  | _, _ => none

theorem mp_cell {w : World} {Im : Nat → Prop} {σ : Sto} {T : Tab} (hW : WRel w Im σ T) {l g off : Nat} {o : MO} {a : Addr} (hr : Rel w Im T (.pointer (some a)) (.mp l g off)) (ho : σ[l]? = some o) (hg : o.gen = g) :
    ∃ p c t fz, T[l]? = some p ∧ a = ⟨p.blk, p.base + off, none⟩ ∧ w.heap[p.blk]? = some (.cells c t fz) ∧ (o.frz = false → fz = (0, 0)) ∧ p.base + p.room ≤ c.size ∧ o.cells.length ≤ p.room ∧
      (∀ (i : Nat) (x : AV) (v : Value), o.cells[i]? = some x → c[p.base + i]? = some v → Rel w Im T v x) := by
  cases hr with
  | mp _ _ _ _ p hp hge h =>
    obtain ⟨c, t, fz, h1, h2, h3, h4⟩ := hW.obj l o p ho hp
    have := hW.gen l o p ho hp
    exact ⟨p, c, t, fz, hp, h (by omega), h1, h2, h3, hW.room l o p ho hp, h4⟩

theorem rdCell_rel {w : World} {Im : Nat → Prop} {σ : Sto} {T : Tab} (hW : WRel w Im σ T) {v : Value} {x y : AV} (hr : Rel w Im T v x) (h : rdCell σ x = some y) : ∃ a u, v = .pointer (some a) ∧ w.cell? a = some u ∧ Rel w Im T u y := by
  cases x with
  | fp cs off =>
    simp only [rdCell] at h
    cases hr with
    | fp b o _ _ vs h1 h2 => exact ⟨_, _, rfl, (h1 off y h).2, h2 off y h⟩
  | mp l g off =>
    simp only [rdCell] at h
    split at h
    · rename_i o ho
      split at h
      · rename_i hg
        obtain ⟨a, rfl⟩ : ∃ a, v = .pointer (some a) := by cases hr; exact ⟨_, rfl⟩
        obtain ⟨p, c, t, fz, hp, rfl, hc, _, hs, hrm, hrel⟩ := mp_cell hW hr ho hg
        have hlt : p.base + off < c.size := by have := lt_of_get h; omega
        refine ⟨_, c[p.base + off], rfl, ?_, hrel off y _ h (by simp [hlt])⟩
        rw [cell_of_row w p.blk (p.base + off) c t fz hc]; simp [hlt]
      · cases h
    · cases h
  | _ => simp [rdCell] at h

theorem rdCells_rel {w : World} {Im : Nat → Prop} {σ : Sto} {T : Tab} (hW : WRel w Im σ T) {v : Value} {x : AV} {n : Nat} {ys : List AV} (hr : Rel w Im T v x) (h : rdCells σ x n = some ys) :
    ys.length = n ∧ ∃ b o us, v = .pointer (some ⟨b, o, none⟩) ∧ RelL w Im T us ys ∧ ∀ (j : Nat) (u : Value), us[j]? = some u → w.cell? ⟨b, o + j, none⟩ = some u := by
  cases x with
  | fp cs off =>
    simp only [rdCells] at h
    split at h
    · rename_i hle
      cases h
      refine ⟨by simp; omega, ?_⟩
      cases hr with
      | fp b o _ _ vs h1 h2 =>
        refine ⟨b, o + off, (List.range n).map (fun j => vs (off + j)), rfl, ⟨by simp; omega, fun i x v hx hv => ?_⟩, fun j u hu => ?_⟩
        · have hi : i < n := by have := lt_of_get hx; simp at this; omega
          simp only [List.getElem?_map, List.getElem?_range hi, Option.map_some, Option.some.injEq] at hv
          subst hv
          rw [List.getElem?_take_of_lt hi, List.getElem?_drop] at hx
          exact h2 (off + i) x hx
        · have hi : j < n := by have := lt_of_get hu; simpa using this
          simp only [List.getElem?_map, List.getElem?_range hi, Option.map_some, Option.some.injEq] at hu
          subst hu
          have hlt : off + j < cs.length := by omega
          have := (h1 (off + j) cs[off + j] (List.getElem?_eq_getElem hlt)).2
          rw [Nat.add_assoc]; exact this
    · cases h
  | mp l g off =>
    simp only [rdCells] at h
    split at h
    · rename_i ob ho
      split at h
      · rename_i hg
        cases h
        refine ⟨by simp; omega, ?_⟩
        obtain ⟨a, rfl⟩ : ∃ a, v = .pointer (some a) := by cases hr; exact ⟨_, rfl⟩
        obtain ⟨p, c, t, fz, hp, rfl, hc, _, hs, hrm, hrel⟩ := mp_cell hW hr ho hg.1
        refine ⟨p.blk, p.base + off, (c.toList.drop (p.base + off)).take n, rfl, ⟨by simp; omega, fun i x v hx hv => ?_⟩, fun j u hu => ?_⟩
        · have hi : i < n := by have := lt_of_get hx; simp at this; omega
          rw [List.getElem?_take_of_lt hi, List.getElem?_drop] at hx hv
          exact hrel (off + i) x v hx (by rw [← Nat.add_assoc]; simpa using hv)
        · have hi : j < n := by have := lt_of_get hu; simp at this; omega
          rw [List.getElem?_take_of_lt hi, List.getElem?_drop] at hu
          rw [cell_of_row w p.blk _ c t fz hc]; simpa using hu
      · cases h
    · cases h
  | _ => simp [rdCells] at h

def loadA (P : Program) (σ : Sto) (t : TypeId) (x : AV) : Option AV :=
  match isAggT P t with
  | some true => match sizeT P t with
    | some n => (rdCells σ x n).map .agg
    | none => none
  | some false => rdCell σ x
  | none => none
theorem loadVar_rel {P : Program} {w : World} {Im : Nat → Prop} {σ : Sto} {T : Tab} (hW : WRel w Im σ T) {t : TypeId} {v : Value} {x y : AV} (hr : Rel w Im T v x) (h : loadA P σ t x = some y) :
    ∃ a u, v = .pointer (some a) ∧ (loadVar t a).run P w = .ok u w ∧ Rel w Im T u y := by
  unfold loadA at h
  split at h
  · rename_i hag
    split at h
    · rename_i n hn
      obtain ⟨ys, hys, rfl⟩ := Option.map_eq_some_iff.1 h
      obtain ⟨hl, b, o, us, rfl, hR, hc⟩ := rdCells_rel hW hr hys
      refine ⟨_, .agg us.toArray, rfl, ?_, .agg _ _ (by simpa using hR.1) (fun i x v hx hv => hR.2 i x v hx (by simpa using hv))⟩
      have hl' : us.length = n := by rw [hR.1, hl]
      have := run_loadCells_list (P := P) w ⟨b, o, none⟩ us (fun j u hu => by rw [Addr.add_lit]; exact hc j u hu)
      rw [hl'] at this
      simp [loadVar, run_isAgg hag, run_sizeOf hn, this]
    · cases h
  · rename_i hag
    obtain ⟨a, u, rfl, hc, hR⟩ := rdCell_rel hW hr h
    exact ⟨a, u, rfl, by simp [loadVar, run_isAgg hag, hc], hR⟩
  · cases h
theorem loadA_snd {P : Program} {w : World} {Im : Nat → Prop} {σ : Sto} {T : Tab} (hW : WRel w Im σ T) {t : TypeId} {v : Value} {x y : AV} (hr : Rel w Im T v x) (h : loadA P σ t x = some y) : SndV P (Instr.loadAt t v) w Im σ T y σ := by
  obtain ⟨a, u, rfl, hc, hR⟩ := loadVar_rel hW hr h
  exact .same hW (by simp [Instr.loadAt, Instr.sureAddr, hc]) hR

/-- Cells from off on are written anew. -/
def wr (cells : List AV) (off : Nat) : List AV → List AV
  | [v] => cells.set off v
  | new => cells.take off ++ new ++ cells.drop (off + new.length)
theorem wr_eq (cells : List AV) (off : Nat) (new : List AV) (h : off + new.length ≤ cells.length) : wr cells off new = cells.take off ++ new ++ cells.drop (off + new.length) := by
  unfold wr
  split
  · rename_i v
    simp at h
    rw [List.set_eq_take_append_cons_drop, if_pos (by omega)]
    simp
  · rfl
theorem wr_length (cells : List AV) (off : Nat) (new : List AV) (h : off + new.length ≤ cells.length) : (wr cells off new).length = cells.length := by
  rw [wr_eq _ _ _ h]; simp; omega
theorem wr_get (cells : List AV) (off : Nat) (new : List AV) (h : off + new.length ≤ cells.length) (i : Nat) : (wr cells off new)[i]? = if off ≤ i ∧ i < off + new.length then new[i - off]? else cells[i]? := by
  rw [wr_eq _ _ _ h]
  split
  · rename_i hi
    rw [List.append_assoc, List.getElem?_append_right (by simp; omega), List.getElem?_append_left (by simp; omega)]
    congr 1; simp; omega
  · rename_i hi
    rcases Nat.lt_or_ge i off with h1 | h1
    · rw [List.append_assoc, List.getElem?_append_left (by simp; omega), List.getElem?_take_of_lt h1]
    · rw [List.getElem?_append_right (by simp; omega), List.getElem?_drop]
      congr 1; simp; omega
def wrCells (σ : Sto) (x : AV) (new : List AV) : Option Sto :=
  match x with
  | .mp l g off => match σ[l]? with
    | some o => if o.gen = g ∧ o.frz = false ∧ off + new.length ≤ o.cells.length then some (σ.set l ⟨wr o.cells off new, o.gen, false, false⟩) else none
    | none => none
  | _ => none
def storeA (P : Program) (σ : Sto) (t : TypeId) (x v : AV) : Option Sto :=
  if v.celled = true ∧ v.cellsOf.all AV.one = true ∧ sizeT P t = some v.cellsOf.length then wrCells σ x v.cellsOf else none

theorem setRow_size (w : World) (g : Nat) (cs : Array Value) : (w.setRow g cs).heap.size = w.heap.size := by simp [World.setRow]
theorem setRow_other (w : World) (g b : Nat) (cs : Array Value) (h : b ≠ g) : (w.setRow g cs).heap[b]? = w.heap[b]? := by
  simp only [World.setRow, Array.getElem?_modify]
  rw [if_neg (fun e => h e.symm)]
theorem all_one {w : World} {Im : Nat → Prop} {T : Tab} {us : List Value} {ys : List AV} (h : RelL w Im T us ys) (h1 : ys.all AV.one = true) : ∀ u ∈ us, u.oneCell' = true := by
  intro u hu
  obtain ⟨i, hi, rfl⟩ := List.getElem_of_mem hu
  have hy : i < ys.length := by rw [← h.1]; exact hi
  exact (h.2 i _ _ (List.getElem?_eq_getElem hy) (List.getElem?_eq_getElem hi)).oneCell (List.all_eq_true.1 h1 _ (List.getElem_mem hy))

theorem storeCells_rel {P : Program} {w : World} {Im : Nat → Prop} {σ σ' : Sto} {T : Tab} (hW : WRel w Im σ T) {v : Value} {x : AV} {us : List Value} {ys : List AV} (hr : Rel w Im T v x) (hu : RelL w Im T us ys) (h1 : ys.all AV.one = true) (h : wrCells σ x ys = some σ') :
    ∃ a w' T', v = .pointer (some a) ∧ (storeCells a us).run P w = .ok () w' ∧ WRel w' Im σ' T' ∧ Fut w Im σ T w' Im σ' T' := by
  unfold wrCells at h
  split at h
  · rename_i l g off
    split at h
    · rename_i ob ho
      split at h
      · rename_i hg
        obtain ⟨hg, hf, hl⟩ := hg
        cases h
        obtain ⟨a, rfl⟩ : ∃ a, v = .pointer (some a) := by cases hr; exact ⟨_, rfl⟩
        obtain ⟨p, c, t, fz, hp, rfl, hc, hfz, hs, hrm, hrel⟩ := mp_cell hW hr ho hg
        obtain rfl := hfz hf
        have hlen := hu.1
        have hst := run_storeCells_at P p.blk (p.base + off) t us 0 c w hc (by omega) (all_one hu h1)
        simp only [Nat.add_zero] at hst
        have hgen := hW.gen l ob p ho hp
        have key := hW.change (w' := w.setRow p.blk (c.toList.take (p.base + off) ++ us ++ c.toList.drop (p.base + off + us.length)).toArray) (o' := ⟨wr ob.cells off ys, ob.gen, false, false⟩) (p' := p) ho hp hf rfl rfl rfl (by rw [setRow_size]; exact Nat.le_refl _)
          (fun b _ hne => setRow_other _ _ _ _ hne) (.inl rfl) (Nat.le_refl _) (fun _ => rfl) hgen.symm rfl (by rw [wr_length _ _ _ hl]; exact hrm) (fun e => by cases e) (setRow_heap w p.blk c _ t (0, 0) hc)
          (by simp; omega) (by
            intro i x v hx hv
            simp only [wr_get _ _ _ hl] at hx
            split at hx
            · rename_i hi
              refine hu.2 (i - off) x v hx ?_
              simp only [List.getElem?_toArray] at hv
              rw [List.append_assoc, List.getElem?_append_right (by simp; omega), List.getElem?_append_left (by simp; omega)] at hv
              rw [← hv]; congr 1; simp; omega
            · rename_i hi
              refine hrel i x v hx ?_
              simp only [List.getElem?_toArray] at hv
              rcases Nat.lt_or_ge i off with h2 | h2
              · rw [List.append_assoc, List.getElem?_append_left (by simp; omega), List.getElem?_take_of_lt (by omega)] at hv
                simpa using hv
              · rw [List.getElem?_append_right (by simp; omega), List.getElem?_drop] at hv
                rw [← Array.getElem?_toList, ← hv]; congr 1; simp; omega)
        exact ⟨_, _, _, rfl, hst, key.1, key.2⟩
      · cases h
    · cases h
  · cases h

theorem storeA_snd {P : Program} {w : World} {Im : Nat → Prop} {σ σ' : Sto} {T : Tab} (hW : WRel w Im σ T) {t : TypeId} {v u : Value} {x y : AV} (hr : Rel w Im T v x) (hu : Rel w Im T u y) (h : storeA P σ t x y = some σ') :
    ∃ w' T', (Instr.storeAt t v u).run P w = .ok () w' ∧ WRel w' Im σ' T' ∧ Fut w Im σ T w' Im σ' T' := by
  unfold storeA at h
  split at h
  · rename_i hc
    obtain ⟨h1, h2, h3⟩ := hc
    have hL := hu.cells h1
    obtain ⟨a, w', T', rfl, hrun, hW', hF⟩ := storeCells_rel (P := P) hW hr hL h2 h
    refine ⟨w', T', ?_, hW', hF⟩
    have hsz : u.cells.size = y.cellsOf.length := by have := hL.1; simpa using this
    simp [Instr.storeAt, Instr.sureAddr, storeVar, run_sizeOf h3, hsz, hrun]
  · cases h

/-- A new block: an object of the store (mu), or cells that stay. -/
def bornP (mu : Bool) (σ : Sto) (cells : List AV) : AV × Sto := if mu then (.mp σ.length 0 0, σ ++ [⟨cells, 0, false, false⟩]) else (.fp cells 0, σ)
def bornS (mu : Bool) (σ : Sto) (cells : List AV) (len k : Nat) : AV × Sto := if mu then (.ms σ.length 0 0 len k, σ ++ [⟨cells, 0, false, false⟩]) else (.fs cells len, σ)
theorem newTab_get {w : World} {Im : Nat → Prop} {σ : Sto} {T : Tab} (hW : WRel w Im σ T) (p : Plc) : (T ++ [p])[σ.length]? = some p := by
  rw [← hW.len]; simp

theorem bornP_rel {w : World} {Im : Nat → Prop} {σ : Sto} {T : Tab} (hW : WRel w Im σ T) (mu : Bool) (c : Array Value) (t : TypeId) (xs : List AV) (hl : xs.length ≤ c.size) (hr : ∀ (i : Nat) (x : AV) (v : Value), xs[i]? = some x → c[i]? = some v → Rel w Im T v x) :
    ∃ Im' T', Rel (w.alloc (.cells c t)) Im' T' (.pointer (some ⟨w.heap.size, 0, none⟩)) (bornP mu σ xs).1 ∧ WRel (w.alloc (.cells c t)) Im' (bornP mu σ xs).2 T' ∧ Fut w Im σ T (w.alloc (.cells c t)) Im' (bornP mu σ xs).2 T' := by
  cases mu with
  | true =>
    obtain ⟨h1, h2⟩ := alloc_obj hW c t xs hl hr
    exact ⟨Im, _, .mp _ _ _ _ _ (newTab_get hW _) (Nat.le_refl _) (fun _ => rfl), h1, h2⟩
  | false =>
    obtain ⟨h1, h2⟩ := alloc_fix hW (.cells c t)
    refine ⟨_, T, ?_, h1, h2⟩
    exact Rel.fp_of (o := 0) (off := 0) (alloc_new w _) (.inr rfl) (by omega) (fun i x v hx hv => h2.rel hW (hr i x v hx (by simpa using hv)))
theorem bornS_rel {w : World} {Im : Nat → Prop} {σ : Sto} {T : Tab} (hW : WRel w Im σ T) (mu : Bool) (c : Array Value) (t : TypeId) (xs : List AV) (len k cap : Nat) (hl : xs.length ≤ c.size) (hc : len ≤ cap) (hk : cap * k = c.size) (hr : ∀ (i : Nat) (x : AV) (v : Value), xs[i]? = some x → c[i]? = some v → Rel w Im T v x) :
    ∃ Im' T', Rel (w.alloc (.cells c t)) Im' T' (.slice (some ⟨w.heap.size, 0, none⟩) len cap) (bornS mu σ xs len k).1 ∧ WRel (w.alloc (.cells c t)) Im' (bornS mu σ xs len k).2 T' ∧ Fut w Im σ T (w.alloc (.cells c t)) Im' (bornS mu σ xs len k).2 T' := by
  cases mu with
  | true =>
    obtain ⟨h1, h2⟩ := alloc_obj hW c t xs hl hr
    exact ⟨Im, _, .ms _ _ _ _ _ _ _ _ (newTab_get hW _) (Nat.le_refl _) hc rfl (fun _ => ⟨rfl, by simpa using hk⟩), h1, h2⟩
  | false =>
    obtain ⟨h1, h2⟩ := alloc_fix hW (.cells c t)
    refine ⟨_, T, ?_, h1, h2⟩
    exact Rel.fs_of (o := 0) (alloc_new w _) (.inr rfl) (by omega) hc (fun i x v hx hv => h2.rel hW (hr i x v hx (by simpa using hv)))

def boxA (mu : Bool) (σ : Sto) (x : AV) : Option (AV × Sto) := if x.celled = true then some (bornP mu σ x.cellsOf) else none
theorem boxA_snd {P : Program} {w : World} {Im : Nat → Prop} {σ σ' : Sto} {T : Tab} (hW : WRel w Im σ T) {t : TypeId} {mu : Bool} {v : Value} {x y : AV} (hr : Rel w Im T v x) (h : boxA mu σ x = some (y, σ')) : SndV P (Instr.box t v) w Im σ T y σ' := by
  unfold boxA at h
  split at h
  · rename_i hc
    simp only [Option.some.injEq] at h
    have hL := hr.cells hc
    obtain ⟨Im', T', h1, h2, h3⟩ := bornP_rel hW mu v.cells t x.cellsOf (by have := hL.1; simp at this; omega) (fun i x v hx hv => hL.2 i x v hx (by simpa using hv))
    rw [h] at h1 h2 h3
    exact ⟨_, _, Im', T', by simp [Instr.box, newVar, newRow], h1, h2, h3⟩
  · cases h
/-- A type's zero, as cells. -/
def zeroA (P : Program) (t : TypeId) : Option (List AV) := match P.info? t with
  | some i => match i.zero with
    | some z => some (z.cells.toList.map .sc)
    | none => none
  | none => none
theorem zeroA_run {P : Program} {t : TypeId} {xs : List AV} (h : zeroA P t = some xs) : ∃ z, (∀ w : World, (zeroValue t).run P w = .ok z w) ∧ xs = z.cells.toList.map .sc ∧ (P.info? t).bind (·.zero) = some z := by
  unfold zeroA at h
  split at h
  · rename_i i hi
    split at h
    · rename_i z hz
      simp only [Option.some.injEq] at h
      exact ⟨z, fun w => by simp [zeroValue, typeInfo, hi, hz], h.symm, by simp [hi, hz]⟩
    · cases h
  · cases h
theorem relL_sc (w : World) (Im : Nat → Prop) (T : Tab) (A : List Value) : RelL w Im T A (A.map .sc) :=
  ⟨by simp, fun i x v hx hv => by simp [hv] at hx; subst hx; exact .sc _⟩
theorem allocA_snd {P : Program} {w : World} {Im : Nat → Prop} {σ : Sto} {T : Tab} (hW : WRel w Im σ T) {t : TypeId} {mu : Bool} {xs : List AV} (h : zeroA P t = some xs) : SndV P (Instr.alloc t true (.tuple #[])) w Im σ T (bornP mu σ xs).1 (bornP mu σ xs).2 := by
  obtain ⟨z, hz, rfl, _⟩ := zeroA_run h
  obtain ⟨Im', T', h1, h2, h3⟩ := bornP_rel hW mu z.cells t (z.cells.toList.map .sc) (by simp) (fun i x v hx hv => (relL_sc w Im T z.cells.toList).2 i x v hx (by simpa using hv))
  exact ⟨_, _, Im', T', by simp [Instr.alloc, newVar, newRow, hz], h1, h2, h3⟩
end Go.Proofs.Ytemijcjgdgdhjaa
