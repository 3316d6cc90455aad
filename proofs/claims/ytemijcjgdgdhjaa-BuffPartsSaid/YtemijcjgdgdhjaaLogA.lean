/- Values without memory, and how they stand in a world. No program. -/
import Derived.WalkKit
namespace Go.Proofs.Ytemijcjgdgdhjaa
open Go.RowKit

/-- What a slot holds, told without memory: a plain value; a pointer into cells that stay (fp), a slice of such (fs: the cells of its elements); a handle on an object of the store (mp: which, its round, the cell; ms: a slice of it, elements of k cells). -/
inductive AV where
  | top
  | sc (v : Value)
  | fp (cs : List AV) (off : Nat)
  | fs (cs : List AV) (len : Nat)
  | mp (l g off : Nat)
  | ms (l g off len k : Nat)
  | iface (t : TypeId) (x : AV)
  | fn (f : Fn) (first cap : List AV)
  | agg (xs : List AV)
  | tup (xs : List AV)
  deriving Inhabited

/-- Where an object of the store lies. -/
structure Plc where
  gen : Nat
  blk : Nat
  base : Nat
  room : Nat
/-- An object of the store. -/
structure MO where
  cells : List AV
  gen : Nat
  frz : Bool
  full : Bool
  deriving Inhabited
abbrev Sto := List MO
abbrev Tab := List Plc
abbrev Env := Nat → AV

def Tab.le (T T' : Tab) : Prop := ∀ (l : Nat) (p : Plc), T[l]? = some p → ∃ p' : Plc, T'[l]? = some p' ∧ p.gen ≤ p'.gen ∧ (p'.gen = p.gen → p' = p)
theorem Tab.le_refl (T : Tab) : Tab.le T T := fun _ p h => ⟨p, h, Nat.le_refl _, fun _ => rfl⟩
theorem Tab.le_trans {A B C : Tab} (h : Tab.le A B) (k : Tab.le B C) : Tab.le A C := by
  intro l p hp
  obtain ⟨p1, h1, g1, e1⟩ := h l p hp
  obtain ⟨p2, h2, g2, e2⟩ := k l p1 h1
  refine ⟨p2, h2, Nat.le_trans g1 g2, fun e => ?_⟩
  have : p1.gen = p.gen := by omega
  rw [e2 (by omega), e1 this]
theorem Tab.le_append (T X : Tab) : Tab.le T (T ++ X) := fun l p h => ⟨p, by
  have : l < T.length := by
    rcases Nat.lt_or_ge l T.length with h1 | h1
    · exact h1
    · rw [List.getElem?_eq_none h1] at h; cases h
  rw [List.getElem?_append_left this]; exact h, Nat.le_refl _, fun _ => rfl⟩

/-- The value v of world w is told by x. Im: the blocks that stay. -/
inductive Rel (w : World) (Im : Nat → Prop) (T : Tab) : Value → AV → Prop where
  | top (v : Value) : Rel w Im T v .top
  | sc (v : Value) : Rel w Im T v (.sc v)
  | fp (b o off : Nat) (cs : List AV) (vs : Nat → Value) (h1 : ∀ (i : Nat) (c : AV), cs[i]? = some c → Im b ∧ w.cell? ⟨b, o + i, none⟩ = some (vs i)) (h2 : ∀ (i : Nat) (c : AV), cs[i]? = some c → Rel w Im T (vs i) c) :
      Rel w Im T (.pointer (some ⟨b, o + off, none⟩)) (.fp cs off)
  | fs (b o len cap : Nat) (cs : List AV) (vs : Nat → Value) (hl : len ≤ cap) (h1 : ∀ (i : Nat) (c : AV), cs[i]? = some c → Im b ∧ w.cell? ⟨b, o + i, none⟩ = some (vs i)) (h2 : ∀ (i : Nat) (c : AV), cs[i]? = some c → Rel w Im T (vs i) c) :
      Rel w Im T (.slice (some ⟨b, o, none⟩) len cap) (.fs cs len)
  | fn0 : Rel w Im T (.slice none 0 0) (.fs [] 0)
  | fs0 (a : Addr) (cap : Nat) : Rel w Im T (.slice (some a) 0 cap) (.fs [] 0)
  | mp (a : Addr) (l g off : Nat) (p : Plc) (hp : T[l]? = some p) (hg : g ≤ p.gen) (h : g = p.gen → a = ⟨p.blk, p.base + off, none⟩) :
      Rel w Im T (.pointer (some a)) (.mp l g off)
  | ms (a : Addr) (l g off len k cap : Nat) (p : Plc) (hp : T[l]? = some p) (hg : g ≤ p.gen) (hl : len ≤ cap) (hs : a.spot = none) (h : g = p.gen → a = ⟨p.blk, p.base + off, none⟩ ∧ off + cap * k = p.room) :
      Rel w Im T (.slice (some a) len cap) (.ms l g off len k)
  | iface (t : TypeId) (v : Value) (x : AV) (h : Rel w Im T v x) : Rel w Im T (.iface t v) (.iface t x)
  | fn (f : Fn) (A B : Array Value) (xs ys : List AV) (hA : A.size = xs.length) (hB : B.size = ys.length) (h1 : ∀ (i : Nat) (x : AV) (v : Value), xs[i]? = some x → A[i]? = some v → Rel w Im T v x) (h2 : ∀ (i : Nat) (x : AV) (v : Value), ys[i]? = some x → B[i]? = some v → Rel w Im T v x) :
      Rel w Im T (.func f A B) (.fn f xs ys)
  | agg (A : Array Value) (xs : List AV) (hA : A.size = xs.length) (h1 : ∀ (i : Nat) (x : AV) (v : Value), xs[i]? = some x → A[i]? = some v → Rel w Im T v x) : Rel w Im T (.agg A) (.agg xs)
  | tup (A : Array Value) (xs : List AV) (hA : A.size = xs.length) (h1 : ∀ (i : Nat) (x : AV) (v : Value), xs[i]? = some x → A[i]? = some v → Rel w Im T v x) : Rel w Im T (.tuple A) (.tup xs)

/-- Values in a row. -/
def RelL (w : World) (Im : Nat → Prop) (T : Tab) (A : List Value) (xs : List AV) : Prop := A.length = xs.length ∧ ∀ (i : Nat) (x : AV) (v : Value), xs[i]? = some x → A[i]? = some v → Rel w Im T v x

theorem cell_of_block {w w' : World} {b o : Nat} (h : w'.heap[b]? = w.heap[b]?) : w'.cell? ⟨b, o, none⟩ = w.cell? ⟨b, o, none⟩ := World.cell?_of_block (w := w) (a := ⟨b, o, none⟩) h

theorem Rel.mono {w w' : World} {Im Im' : Nat → Prop} {T T' : Tab} {v : Value} {x : AV} (h : Rel w Im T v x) (hw : ∀ b, Im b → w'.heap[b]? = w.heap[b]?) (hi : ∀ b, Im b → Im' b) (ht : Tab.le T T') : Rel w' Im' T' v x := by
  induction h with
  | top v => exact .top v
  | sc v => exact .sc v
  | fp b o off cs vs h1 h2 ih => exact .fp b o off cs vs (fun i c hc => ⟨hi _ (h1 i c hc).1, by rw [cell_of_block (hw _ (h1 i c hc).1)]; exact (h1 i c hc).2⟩) ih
  | fs b o len cap cs vs hl h1 h2 ih => exact .fs b o len cap cs vs hl (fun i c hc => ⟨hi _ (h1 i c hc).1, by rw [cell_of_block (hw _ (h1 i c hc).1)]; exact (h1 i c hc).2⟩) ih
  | fn0 => exact .fn0
  | fs0 a cap => exact .fs0 a cap
  | mp a l g off p hp hg h =>
    obtain ⟨p', hp', g', e'⟩ := ht l p hp
    refine .mp a l g off p' hp' (Nat.le_trans hg g') (fun e => ?_)
    have := e' (by omega)
    subst this
    exact h e
  | ms a l g off len k cap p hp hg hl hs h =>
    obtain ⟨p', hp', g', e'⟩ := ht l p hp
    refine .ms a l g off len k cap p' hp' (Nat.le_trans hg g') hl hs (fun e => ?_)
    have := e' (by omega)
    subst this
    exact h e
  | iface t v x h ih => exact .iface t v x ih
  | fn f A B xs ys hA hB h1 h2 ih1 ih2 => exact .fn f A B xs ys hA hB ih1 ih2
  | agg A xs hA h1 ih => exact .agg A xs hA ih
  | tup A xs hA h1 ih => exact .tup A xs hA ih

mutual
/-- No handle in it. -/
def AV.flat : AV → Bool
  | .top => true
  | .sc _ => true
  | .fp cs _ => flatL cs
  | .fs cs _ => flatL cs
  | .mp _ _ _ => false
  | .ms _ _ _ _ _ => false
  | .iface _ x => x.flat
  | .fn _ xs ys => flatL xs && flatL ys
  | .agg xs => flatL xs
  | .tup xs => flatL xs
def flatL : List AV → Bool
  | [] => true
  | x :: xs => x.flat && flatL xs
end
theorem flatL_iff (xs : List AV) : flatL xs = true ↔ ∀ x ∈ xs, x.flat = true := by
  induction xs with
  | nil => simp [flatL]
  | cons x xs ih => simp [flatL, ih]
theorem flat_at {xs : List AV} (h : flatL xs = true) {i : Nat} {x : AV} (hx : xs[i]? = some x) : x.flat = true := (flatL_iff xs).1 h x (List.mem_of_getElem? hx)

theorem Rel.flat {w : World} {Im : Nat → Prop} {T : Tab} {v : Value} {x : AV} (h : Rel w Im T v x) (hf : x.flat = true) (T' : Tab) : Rel w Im T' v x := by
  induction h with
  | top v => exact .top v
  | sc v => exact .sc v
  | fp b o off cs vs h1 h2 ih => simp only [AV.flat] at hf; exact .fp b o off cs vs h1 (fun i c hc => ih i c hc (flat_at hf hc))
  | fs b o len cap cs vs hl h1 h2 ih => simp only [AV.flat] at hf; exact .fs b o len cap cs vs hl h1 (fun i c hc => ih i c hc (flat_at hf hc))
  | fn0 => exact .fn0
  | fs0 a cap => exact .fs0 a cap
  | mp => simp [AV.flat] at hf
  | ms => simp [AV.flat] at hf
  | iface t v x h ih => simp only [AV.flat] at hf; exact .iface t v x (ih hf)
  | fn f A B xs ys hA hB h1 h2 ih1 ih2 =>
    simp only [AV.flat, Bool.and_eq_true] at hf
    exact .fn f A B xs ys hA hB (fun i x v hx hv => ih1 i x v hx hv (flat_at hf.1 hx)) (fun i x v hx hv => ih2 i x v hx hv (flat_at hf.2 hx))
  | agg A xs hA h1 ih => simp only [AV.flat] at hf; exact .agg A xs hA (fun i x v hx hv => ih i x v hx hv (flat_at hf hx))
  | tup A xs hA h1 ih => simp only [AV.flat] at hf; exact .tup A xs hA (fun i x v hx hv => ih i x v hx hv (flat_at hf hx))

theorem RelL.mono {w w' : World} {Im Im' : Nat → Prop} {T T' : Tab} {A : List Value} {xs : List AV} (h : RelL w Im T A xs) (hw : ∀ b, Im b → w'.heap[b]? = w.heap[b]?) (hi : ∀ b, Im b → Im' b) (ht : Tab.le T T') : RelL w' Im' T' A xs :=
  ⟨h.1, fun i x v hx hv => (h.2 i x v hx hv).mono hw hi ht⟩
theorem RelL.flat {w : World} {Im : Nat → Prop} {T : Tab} {A : List Value} {xs : List AV} (h : RelL w Im T A xs) (hf : flatL xs = true) (T' : Tab) : RelL w Im T' A xs :=
  ⟨h.1, fun i x v hx hv => (h.2 i x v hx hv).flat (flat_at hf hx) T'⟩

/-- Block b is an object's that may be written. -/
def Mut (σ : Sto) (T : Tab) (b : Nat) : Prop := ∃ (l : Nat) (o : MO) (p : Plc), σ[l]? = some o ∧ T[l]? = some p ∧ o.frz = false ∧ p.blk = b

/-- The store σ stands in world w, by the table T. -/
structure WRel (w : World) (Im : Nat → Prop) (σ : Sto) (T : Tab) : Prop where
  len : T.length = σ.length
  gen : ∀ (l : Nat) (o : MO) (p : Plc), σ[l]? = some o → T[l]? = some p → p.gen = o.gen
  im : ∀ b, Im b → b < w.heap.size
  room : ∀ (l : Nat) (o : MO) (p : Plc), σ[l]? = some o → T[l]? = some p → o.cells.length ≤ p.room
  obj : ∀ (l : Nat) (o : MO) (p : Plc), σ[l]? = some o → T[l]? = some p → ∃ c t fz, w.heap[p.blk]? = some (.cells c t fz) ∧ (o.frz = false → fz = (0, 0)) ∧ p.base + p.room ≤ c.size ∧ (∀ (i : Nat) (x : AV) (v : Value), o.cells[i]? = some x → c[p.base + i]? = some v → Rel w Im T v x)
  sep : ∀ (l : Nat) (o : MO) (p : Plc), σ[l]? = some o → T[l]? = some p → o.frz = false → ¬ Im p.blk
  fix : ∀ (l : Nat) (o : MO) (p : Plc), σ[l]? = some o → T[l]? = some p → o.frz = true → Im p.blk
  inj : ∀ (l l' : Nat) (o o' : MO) (p p' : Plc), σ[l]? = some o → T[l]? = some p → σ[l']? = some o' → T[l']? = some p' → l ≠ l' → o.frz = false → o'.frz = false → p.blk ≠ p'.blk
  full : ∀ (l : Nat) (o : MO) (p : Plc), σ[l]? = some o → T[l]? = some p → o.full = true → p.room ≤ o.cells.length

theorem lt_of_get {α : Type} {l : List α} {i : Nat} {x : α} (h : l[i]? = some x) : i < l.length := by
  rcases Nat.lt_or_ge i l.length with h1 | h1
  · exact h1
  · rw [List.getElem?_eq_none h1] at h; cases h

theorem WRel.mut_not {w : World} {Im : Nat → Prop} {σ : Sto} {T : Tab} (h : WRel w Im σ T) {b : Nat} (hb : Im b) : ¬ Mut σ T b := by
  rintro ⟨l, o, p, h1, h2, h3, rfl⟩
  exact h.sep l o p h1 h2 h3 hb

/-- What became of a world, told from where the store σ stood by T. -/
structure Fut (w : World) (Im : Nat → Prop) (σ : Sto) (T : Tab) (w' : World) (Im' : Nat → Prop) (σ' : Sto) (T' : Tab) : Prop where
  os : w'.os = w.os
  tape : w'.tape = w.tape
  output : w'.output = w.output
  size : w.heap.size ≤ w'.heap.size
  keep : ∀ b, b < w.heap.size → ¬ Mut σ T b → w'.heap[b]? = w.heap[b]?
  muts : ∀ b, Mut σ' T' b → Mut σ T b ∨ w.heap.size ≤ b
  im1 : ∀ b, Im b → Im' b
  im2 : ∀ b, Im' b → Im b ∨ Mut σ T b ∨ w.heap.size ≤ b
  tab : Tab.le T T'

theorem Fut.refl (w : World) (Im : Nat → Prop) (σ : Sto) (T : Tab) : Fut w Im σ T w Im σ T :=
  ⟨rfl, rfl, rfl, Nat.le_refl _, fun _ _ _ => rfl, fun _ h => .inl h, fun _ h => h, fun _ h => .inl h, Tab.le_refl _⟩
theorem Fut.trans {w1 w2 w3 : World} {I1 I2 I3 : Nat → Prop} {σ1 σ2 σ3 : Sto} {T1 T2 T3 : Tab} (h : Fut w1 I1 σ1 T1 w2 I2 σ2 T2) (k : Fut w2 I2 σ2 T2 w3 I3 σ3 T3) : Fut w1 I1 σ1 T1 w3 I3 σ3 T3 where
  os := k.os.trans h.os
  tape := k.tape.trans h.tape
  output := k.output.trans h.output
  size := Nat.le_trans h.size k.size
  keep := fun b hb hm => by
    have h1 := h.keep b hb hm
    have h2 : ¬ Mut σ2 T2 b := fun hm2 => by
      rcases h.muts b hm2 with h3 | h3
      · exact hm h3
      · omega
    exact (k.keep b (Nat.lt_of_lt_of_le hb h.size) h2).trans h1
  muts := fun b hb => by
    rcases k.muts b hb with h1 | h1
    · exact h.muts b h1
    · exact .inr (Nat.le_trans h.size h1)
  im1 := fun b hb => k.im1 b (h.im1 b hb)
  im2 := fun b hb => by
    rcases k.im2 b hb with h1 | h1 | h1
    · exact h.im2 b h1
    · rcases h.muts b h1 with h2 | h2
      · exact .inr (.inl h2)
      · exact .inr (.inr h2)
    · exact .inr (.inr (Nat.le_trans h.size h1))
  tab := Tab.le_trans h.tab k.tab

/-- What was told stays told. -/
theorem Fut.rel {w w' : World} {Im Im' : Nat → Prop} {σ σ' : Sto} {T T' : Tab} (h : Fut w Im σ T w' Im' σ' T') (hw : WRel w Im σ T) {v : Value} {x : AV} (hr : Rel w Im T v x) : Rel w' Im' T' v x :=
  hr.mono (fun b hb => h.keep b (hw.im b hb) (hw.mut_not hb)) h.im1 h.tab
theorem Fut.relL {w w' : World} {Im Im' : Nat → Prop} {σ σ' : Sto} {T T' : Tab} (h : Fut w Im σ T w' Im' σ' T') (hw : WRel w Im σ T) {A : List Value} {xs : List AV} (hr : RelL w Im T A xs) : RelL w' Im' T' A xs :=
  ⟨hr.1, fun i x v hx hv => h.rel hw (hr.2 i x v hx hv)⟩

/-- The cells that a value has. -/
def AV.cellsOf : AV → List AV
  | .agg xs => xs
  | x => [x]
/-- It is one cell's. -/
def AV.one : AV → Bool
  | .agg _ => false
  | .tup _ => false
  | .top => false
  | .sc v => v.oneCell'
  | _ => true
/-- It is known of how many cells it is. -/
def AV.celled : AV → Bool
  | .agg _ => true
  | x => x.one
theorem Rel.oneCell {w : World} {Im : Nat → Prop} {T : Tab} {v : Value} {x : AV} (h : Rel w Im T v x) (hx : x.one = true) : v.oneCell' = true := by
  cases h <;> simp_all [AV.one, Value.oneCell']
theorem Rel.cells {w : World} {Im : Nat → Prop} {T : Tab} {v : Value} {x : AV} (h : Rel w Im T v x) (hx : x.celled = true) : RelL w Im T v.cells.toList x.cellsOf := by
  cases h with
  | agg A xs hA h1 => exact ⟨by simpa [Value.cells, AV.cellsOf] using hA, fun i x v hx hv => h1 i x v hx (by simpa [Value.cells] using hv)⟩
  | top | tup => simp [AV.celled, AV.one] at hx
  | sc v =>
    have : v.cells = #[v] := by cases v <;> simp_all [AV.celled, AV.one, Value.cells, Value.oneCell']
    rw [this]
    refine ⟨rfl, fun i x u hx hu => ?_⟩
    match i with
    | 0 => simp [AV.cellsOf] at hx hu; subst hx hu; exact .sc _
    | i + 1 => simp [AV.cellsOf] at hx
  | fp b o off cs vs h1 h2 =>
    refine ⟨rfl, fun i x u hx hu => ?_⟩
    match i with
    | 0 => simp [AV.cellsOf, Value.cells] at hx hu; subst hx hu; exact .fp b o off cs vs h1 h2
    | i + 1 => simp [AV.cellsOf] at hx
  | fs b o len cap cs vs hl h1 h2 =>
    refine ⟨rfl, fun i x u hx hu => ?_⟩
    match i with
    | 0 => simp [AV.cellsOf, Value.cells] at hx hu; subst hx hu; exact .fs b o len cap cs vs hl h1 h2
    | i + 1 => simp [AV.cellsOf] at hx
  | fn0 =>
    refine ⟨rfl, fun i x u hx hu => ?_⟩
    match i with
    | 0 => simp [AV.cellsOf, Value.cells] at hx hu; subst hx hu; exact .fn0
    | i + 1 => simp [AV.cellsOf] at hx
  | fs0 a cap =>
    refine ⟨rfl, fun i x u hx hu => ?_⟩
    match i with
    | 0 => simp [AV.cellsOf, Value.cells] at hx hu; subst hx hu; exact .fs0 a cap
    | i + 1 => simp [AV.cellsOf] at hx
  | mp a l g off p hp hg h =>
    refine ⟨rfl, fun i x u hx hu => ?_⟩
    match i with
    | 0 => simp [AV.cellsOf, Value.cells] at hx hu; subst hx hu; exact .mp a l g off p hp hg h
    | i + 1 => simp [AV.cellsOf] at hx
  | ms a l g off len k cap p hp hg hl hs h =>
    refine ⟨rfl, fun i x u hx hu => ?_⟩
    match i with
    | 0 => simp [AV.cellsOf, Value.cells] at hx hu; subst hx hu; exact .ms a l g off len k cap p hp hg hl hs h
    | i + 1 => simp [AV.cellsOf] at hx
  | iface t v y h =>
    refine ⟨rfl, fun i x u hx hu => ?_⟩
    match i with
    | 0 => simp [AV.cellsOf, Value.cells] at hx hu; subst hx hu; exact .iface t v y h
    | i + 1 => simp [AV.cellsOf] at hx
  | fn f A B xs ys hA hB h1 h2 =>
    refine ⟨rfl, fun i x u hx hu => ?_⟩
    match i with
    | 0 => simp [AV.cellsOf, Value.cells] at hx hu; subst hx hu; exact .fn f A B xs ys hA hB h1 h2
    | i + 1 => simp [AV.cellsOf] at hx

/-- A constant. -/
def ofV : Value → AV
  | .agg A => .agg (A.toList.map .sc)
  | .tuple A => .tup (A.toList.map .sc)
  | v => .sc v
theorem rel_ofV (w : World) (Im : Nat → Prop) (T : Tab) (v : Value) : Rel w Im T v (ofV v) := by
  cases v <;> simp only [ofV] <;> first | exact .sc _ | skip
  · rename_i A
    refine .agg A _ (by simp) (fun i x v hx hv => ?_)
    simp only [List.getElem?_map, Array.getElem?_toList, hv, Option.map_some, Option.some.injEq] at hx
    subst hx
    exact .sc _
  · rename_i A
    refine .tup A _ (by simp) (fun i x v hx hv => ?_)
    simp only [List.getElem?_map, Array.getElem?_toList, hv, Option.map_some, Option.some.injEq] at hx
    subst hx
    exact .sc _

def scOf : AV → Option Value
  | .sc v => some v
  | _ => none
def scsOf : List AV → Option (List Value)
  | [] => some []
  | x :: xs => match scOf x, scsOf xs with
    | some v, some vs => some (v :: vs)
    | _, _ => none
/-- The value, if it is told whole. -/
def toV : AV → Option Value
  | .sc v => some v
  | .agg xs => (scsOf xs).map fun vs => .agg vs.toArray
  | .tup xs => (scsOf xs).map fun vs => .tuple vs.toArray
  | _ => none
theorem scsOf_rel {w : World} {Im : Nat → Prop} {T : Tab} : ∀ (xs : List AV) (vs : List Value) (A : List Value), scsOf xs = some vs → A.length = xs.length → (∀ (i : Nat) (x : AV) (v : Value), xs[i]? = some x → A[i]? = some v → Rel w Im T v x) → A = vs
  | [], vs, A, h, hl, _ => by
    simp only [scsOf, Option.some.injEq] at h
    subst h
    exact List.length_eq_zero_iff.1 hl
  | x :: xs, vs, [], h, hl, _ => by simp at hl
  | x :: xs, vs, a :: A, h, hl, hr => by
    simp only [scsOf] at h
    split at h
    · rename_i v us h1 h2
      simp only [Option.some.injEq] at h
      subst h
      have h0 := hr 0 x a rfl rfl
      have e1 : a = v := by
        cases x <;> simp [scOf] at h1
        subst h1
        cases h0
        rfl
      have e2 := scsOf_rel xs us A h2 (by simpa using hl) (fun i y u hy hu => hr (i + 1) y u hy hu)
      rw [e1, e2]
    · cases h
theorem toV_rel {w : World} {Im : Nat → Prop} {T : Tab} {v u : Value} {x : AV} (h : Rel w Im T v x) (hx : toV x = some u) : v = u := by
  cases h <;> simp only [toV, Option.map_eq_some_iff, Option.some.injEq, reduceCtorEq] at hx
  · exact hx
  · rename_i A xs hA h1
    obtain ⟨vs, hv, rfl⟩ := hx
    have := scsOf_rel xs vs A.toList hv (by simpa using hA) (fun i x v hx hv => h1 i x v hx (by simpa using hv))
    rw [← this]
  · rename_i A xs hA h1
    obtain ⟨vs, hv, rfl⟩ := hx
    have := scsOf_rel xs vs A.toList hv (by simpa using hA) (fun i x v hx hv => h1 i x v hx (by simpa using hv))
    rw [← this]
end Go.Proofs.Ytemijcjgdgdhjaa
