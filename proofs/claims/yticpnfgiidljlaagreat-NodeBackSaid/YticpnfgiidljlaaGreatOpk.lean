/- A node's form, as an argument. -/
import Derived.Test.YticpnfgiidljlaaGreatOpn
import Derived.Test.YticpnfgiidljlaaGreatWap
import Derived.Test.YticpnfgiidljlaaGreatNp
namespace Go.Proofs.YticpnfgiidljlaaGreat
open Go.ChangeShapes Go.WideShapes Go.Deep Go.RowKit
section
variable {H : Type} {enc : TypeId × Value → H} {P : Program} {w : World} {spare : Nat → Bool} {held : Bool}
theorem wrel_none (w : World) : WRel w (ImAll w) [] [] where
  len := rfl
  gen := fun l o p h _ => by simp at h
  im := fun _ h => h
  room := fun l o p h _ => by simp at h
  obj := fun l o p h _ => by simp at h
  sep := fun l o p h _ => by simp at h
  fix := fun l o p h _ => by simp at h
  inj := fun l l' o o' p p' h _ _ _ _ _ _ => by simp at h
  full := fun l o p h _ => by simp at h
/-- A law's call. -/
theorem law_calls {f : FuncId} {xs : List AV} {u : Value} (h : PSpec P f xs (.sc u)) {args : Array Value} (hr : RelL w (ImAll w) [] args.toList xs) : Calls P f args w fun e w' => e = .returned u ∧ Below w.heap.size w w' := by
  refine ((h []).2 w (ImAll w) [] args (wrel_none w) hr).mono fun e w' ⟨v, r, σ', Im', T', h1, h2, h3, h4, h5, h6⟩ => ?_
  subst h5
  cases h2
  refine ⟨h1, ⟨h4.os, h4.tape, h4.output, h4.size, fun b hb => h4.keep b hb ?_⟩⟩
  rintro ⟨l, o, p, q, _⟩
  simp at q
theorem relL_nil : RelL w (ImAll w) [] [] [] := ⟨rfl, fun i x v hx _ => by simp at hx⟩
theorem relL_cons {v : Value} {x : AV} {vs : List Value} {xs : List AV} (h : Rel w (ImAll w) [] v x) (k : RelL w (ImAll w) [] vs xs) : RelL w (ImAll w) [] (v :: vs) (x :: xs) := by
  have := (relL_one h).append k
  simpa using this
theorem open_agg (hl : laidOutB P = true) {t : TypeId} {fs : Array Field} (ht : t < P.types.size) (hu : P.underlying t = some (.struct fs)) {r : Reach} {b0 : Nat} {v : Value} {d : DataW H} {ps : List MemPlace} (hv : Value.okWide P w r b0 t v) (h : DataW.Trod enc P w 0 spare held t v d ps) : ∃ xs n, Rel w (ImAll w) [] v (.agg xs) ∧ TypA P n t xs := by
  simp only [Value.okWide, hu] at hv
  obtain ⟨cs, rfl, _⟩ := hv
  obtain ⟨fuel, hf⟩ := h
  obtain ⟨xs, h1, h2⟩ := opn hl fuel t _ _ ht hf
  exact ⟨xs, fuel, .agg cs xs (by have := h1.1; simpa [Value.cells] using this) (fun i x v hx hv => h1.2 i x v hx (by simpa [Value.cells] using hv)), h2⟩
theorem segs_flat {α : Type} {c : α → List AV} {k : Nat} : ∀ (len : Nat) (cells : List AV), cells.length = len * k → (∀ i, i < len → ∃ a, (cells.drop (i * k)).take k = c a) → ∃ l : List α, l.length = len ∧ cells = flatC c l
  | 0, cells, h, _ => ⟨[], rfl, by simpa [flatC] using h⟩
  | len + 1, cells, h, hs => by
    obtain ⟨a, ha⟩ := hs 0 (by omega)
    rw [Nat.zero_mul, List.drop_zero] at ha
    obtain ⟨l, h1, h2⟩ := segs_flat (c := c) (k := k) len (cells.drop k) (by rw [List.length_drop, h, Nat.add_mul, Nat.one_mul]; omega) fun i hi => by
      obtain ⟨a, h⟩ := hs (i + 1) (by omega)
      rw [Nat.add_mul, Nat.one_mul, Nat.add_comm, ← List.drop_drop] at h
      exact ⟨a, h⟩
    refine ⟨a :: l, by simp [h1], ?_⟩
    rw [← List.take_append_drop k cells, ha, h2]
    simp [flatC]
theorem typ_rows {α : Type} {c : α → List AV} {n : Nat} {t e : TypeId} {x : AV} (hu : P.underlying t = some (.slice e)) (hk : 0 < P.cellsOf e) (h : TypA P n t [x]) (hd : ∀ m ys, TypA P m e ys → ∃ a, ys = c a) : ∃ l : List α, x = .fs (flatC c l) l.length ∧ l.length ≤ 9223372036854775807 := by
  cases n with
  | zero => exact h.elim
  | succ n =>
    unfold TypA at h
    rw [hu] at h
    obtain ⟨cells, len, hx, hm, hc, hs⟩ := h hk
    obtain ⟨l, h1, h2⟩ := segs_flat len cells hc fun i hi => by
      obtain ⟨a, ha⟩ := hd n _ (hs i hi)
      exact ⟨a, ha⟩
    cases hx
    exact ⟨l, by rw [h1, h2], by rw [h1]; exact hm⟩
theorem cells_pos {e : TypeId} {k : Nat} (h : P.cellsOf e = k + 1) : 0 < P.cellsOf e := by omega
theorem typ_str {n : Nat} {t : TypeId} {ys : List AV} (hu : P.underlying t = some .string) (h : TypA P n t ys) : ∃ s : Str, ys = cS s := by
  cases n with
  | zero => exact h.elim
  | succ n => unfold TypA at h; rw [hu] at h; obtain ⟨s, h, _⟩ := h; exact ⟨s, h⟩
theorem typ_int {n : Nat} {t : TypeId} {k : IntKind} {ys : List AV} (hu : P.underlying t = some (.int k)) (h : TypA P n t ys) : ∃ z : Int, ys = [.sc (.int k z)] ∧ (Lit.int k z).wf = true := by
  cases n with
  | zero => exact h.elim
  | succ n => unfold TypA at h; rw [hu] at h; exact h
theorem typ_bool {n : Nat} {t : TypeId} {ys : List AV} (hu : P.underlying t = some .bool) (h : TypA P n t ys) : ∃ b : Bool, ys = [.sc (.bool b)] := by
  cases n with
  | zero => exact h.elim
  | succ n => unfold TypA at h; rw [hu] at h; exact h
theorem typ_struct {n : Nat} {t : TypeId} {fs : Array Field} {ys : List AV} (hu : P.underlying t = some (.struct fs)) (h : TypA P n t ys) : ∃ (m : Nat) (L : List (List AV)), ys = L.flatten ∧ L.length = fs.toList.length ∧ ∀ (j : Nat) (f : Field) (zs : List AV), fs.toList[j]? = some f → L[j]? = some zs → TypA P m f.type zs := by
  cases n with
  | zero => exact h.elim
  | succ n => unfold TypA at h; rw [hu] at h; exact ⟨n, h⟩
end
theorem typ_slc {P : Program} {n : Nat} {t e : TypeId} {ys : List AV} (hu : P.underlying t = some (.slice e)) (hk : 0 < P.cellsOf e) (h : TypA P n t ys) : ∃ cells len, ys = [.fs cells len] := by
  cases n with
  | zero => exact h.elim
  | succ n => unfold TypA at h; rw [hu] at h; obtain ⟨cells, len, rfl, _⟩ := h hk; exact ⟨_, _, rfl⟩
end Go.Proofs.YticpnfgiidljlaaGreat
namespace Go.Proofs.YticpnfgiidljlaaGreat
open Go.ChangeShapes Go.WideShapes Go.Deep Go.RowKit
theorem typ_msg {n : Nat} {ys : List AV} (h : TypA Tryz.prog n 73 ys) : ∃ m : Msg, ys = cM m := by
  obtain ⟨m, L, rfl, hL, hf⟩ := typ_struct Tryz.underlying73 h
  match L, hL with
  | [y0, y1, y2], _ =>
    obtain ⟨z, rfl, _⟩ := typ_int (k := .i64) Tryz.underlying3 (hf 0 _ y0 rfl rfl)
    obtain ⟨s1, rfl⟩ := typ_str Tryz.underlying9 (hf 1 _ y1 rfl rfl)
    obtain ⟨s2, rfl⟩ := typ_str Tryz.underlying9 (hf 2 _ y2 rfl rfl)
    exact ⟨⟨z, s1, s2⟩, rfl⟩
theorem typ_msgs {n : Nat} {x : AV} (h : TypA Tryz.prog n 25 [x]) : ∃ l : List Msg, x = .fs (flatM l) l.length ∧ l.length ≤ 9223372036854775807 := typ_rows Tryz.underlying25 (cells_pos (k := 2) (by kernel_rfl)) h fun _ _ => typ_msg
theorem typ_strs {n : Nat} {x : AV} (h : TypA Tryz.prog n 24 [x]) : ∃ l : List Str, x = .fs (flatS l) l.length ∧ l.length ≤ 9223372036854775807 := typ_rows Tryz.underlying24 (cells_pos (k := 0) (by kernel_rfl)) h fun _ _ => typ_str Tryz.underlying9
end Go.Proofs.YticpnfgiidljlaaGreat
namespace Go.Proofs.YticpnfgiidljlaaGreat
open Go.ChangeShapes Go.WideShapes Go.Deep Go.RowKit
theorem typ_item {n : Nat} {ys : List AV} (h : TypA Tryz.prog n 71 ys) : ∃ m : Item, ys = cI m := by
  obtain ⟨m, L, rfl, hL, hf⟩ := typ_struct Tryz.underlying71 h
  match L, hL with
  | [y1, y2], _ =>
    obtain ⟨s1, rfl⟩ := typ_str Tryz.underlying9 (hf 0 _ y1 rfl rfl)
    obtain ⟨s2, rfl⟩ := typ_str Tryz.underlying9 (hf 1 _ y2 rfl rfl)
    exact ⟨⟨s1, s2⟩, rfl⟩
theorem typ_items {n : Nat} {x : AV} (h : TypA Tryz.prog n 22 [x]) : ∃ l : List Item, x = .fs (flatI l) l.length ∧ l.length ≤ 9223372036854775807 := typ_rows Tryz.underlying22 (cells_pos (k := 1) (by kernel_rfl)) h fun _ _ => typ_item
end Go.Proofs.YticpnfgiidljlaaGreat
namespace Go.Proofs.YticpnfgiidljlaaGreat
open Go.ChangeShapes Go.WideShapes Go.Deep Go.RowKit
theorem typ_intsN {n : Nat} {x : AV} (h : TypA Tryz.prog n 23 [x]) : ∃ l : List Int, x = .fs (flatN l) l.length ∧ l.length ≤ 9223372036854775807 := typ_rows Tryz.underlying23 (cells_pos (k := 0) (by kernel_rfl)) h fun _ _ h => by
  obtain ⟨z, h, _⟩ := typ_int (k := .i64) Tryz.underlying3 h
  exact ⟨z, h⟩
/-- A node's form. -/
structure Nod5 where
  b : Bool
  o : List Item
  k : List Int
  p : List Str
  m : List Msg
  h0 : o.length ≤ 9223372036854775807
  h1 : k.length ≤ 9223372036854775807
  h2 : p.length ≤ 9223372036854775807
  h3 : m.length ≤ 9223372036854775807
def Nod5.c (x : Nod5) : List AV := cN5 x.b x.o x.k x.p x.m
theorem typ_node {n : Nat} {ys : List AV} (h : TypA Tryz.prog n 29 ys) : ∃ x : Nod5, ys = x.c := by
  obtain ⟨m, L, rfl, hL, hf⟩ := typ_struct Tryz.underlying29 h
  match L, hL with
  | [y1, y2, y3], _ =>
    obtain ⟨b, rfl⟩ := typ_bool Tryz.underlying4 (hf 0 _ y1 rfl rfl)
    have h2 := hf 1 _ y2 rfl rfl
    obtain ⟨cells, len, rfl⟩ := typ_slc Tryz.underlying22 (cells_pos (k := 1) (by kernel_rfl)) h2
    obtain ⟨o, h0, k0⟩ := typ_items h2
    have h3 := hf 2 _ y3 rfl rfl
    obtain ⟨m', L', rfl, hL', hf'⟩ := typ_struct Tryz.underlying27 h3
    match L', hL' with
    | [z1, z2, z3], _ =>
      have i1 := hf' 0 _ z1 rfl rfl
      have i2 := hf' 1 _ z2 rfl rfl
      have i3 := hf' 2 _ z3 rfl rfl
      obtain ⟨c1, l1, rfl⟩ := typ_slc Tryz.underlying23 (cells_pos (k := 0) (by kernel_rfl)) i1
      obtain ⟨c2, l2, rfl⟩ := typ_slc Tryz.underlying24 (cells_pos (k := 0) (by kernel_rfl)) i2
      obtain ⟨c3, l3, rfl⟩ := typ_slc Tryz.underlying25 (cells_pos (k := 2) (by kernel_rfl)) i3
      obtain ⟨k, e1, k1⟩ := typ_intsN i1
      obtain ⟨p, e2, k2⟩ := typ_strs i2
      obtain ⟨q, e3, k3⟩ := typ_msgs i3
      exact ⟨⟨b, o, k, p, q, k0, k1, k2, k3⟩, by rw [h0, e1, e2, e3]; rfl⟩
end Go.Proofs.YticpnfgiidljlaaGreat
