/- A node's form, as an argument. -/
import Derived.Test.YticpnfgiidljlaaGreatLc
import Derived.Deep.Slices
import Derived.Deep.Fields
import Derived.ChangeSame
import Derived.ChangeArms
import Derived.ChangeBears
import Derived.Carry
import Derived.Test.YticpnfgiidljlaaGreatWap
import Derived.Test.YticpnfgiidljlaaGreatNp
namespace Go.Proofs.YticpnfgiidljlaaGreat
open Go.ChangeShapes Go.WideShapes Go.Deep Go.RowKit
def ImAll (w : World) (b : Nat) : Prop := b < w.heap.size
/-- The cells xs are of type t (n: how deep it is looked). -/
def TypA (P : Program) : Nat → TypeId → List AV → Prop
  | 0, _, _ => False
  | n + 1, t, xs => match P.underlying t with
    | some .bool => ∃ b, xs = [.sc (.bool b)]
    | some (.int k) => ∃ z, xs = [.sc (.int k z)] ∧ (Lit.int k z).wf = true
    | some .string => ∃ s : ByteArray, xs = [.sc (.string s)] ∧ s.size ≤ maxLen
    | some (.slice e) => 0 < P.cellsOf e → ∃ cells len, xs = [.fs cells len] ∧ len ≤ maxLen ∧ cells.length = len * P.cellsOf e ∧ ∀ i, i < len → TypA P n e ((cells.drop (i * P.cellsOf e)).take (P.cellsOf e))
    | some (.struct fs) => ∃ L : List (List AV), xs = L.flatten ∧ L.length = fs.toList.length ∧ ∀ (j : Nat) (f : Field) (ys : List AV), fs.toList[j]? = some f → L[j]? = some ys → TypA P n f.type ys
    | _ => True
section
variable {H : Type} {enc : TypeId × Value → H} {P : Program} {w : World} {spare : Nat → Bool} {held : Bool}
theorem relL_top (cs : List Value) : RelL w (ImAll w) [] cs (cs.map fun _ => .top) := by
  refine ⟨by simp, fun i x v hx _ => ?_⟩
  rw [List.getElem?_map] at hx
  cases h : cs[i]? with
  | none => rw [h] at hx; cases hx
  | some u => rw [h] at hx; cases hx; exact .top v
theorem relL_one {v : Value} {x : AV} (h : Rel w (ImAll w) [] v x) : RelL w (ImAll w) [] [v] [x] := by
  refine ⟨rfl, fun i y u hy hu => ?_⟩
  match i with
  | 0 => simp at hy hu; subst hy hu; exact h
  | i + 1 => simp at hy
theorem assemble {size : Field → Nat} {Tp : Field → List AV → Prop} : ∀ (fl : List Field) (cs : List Value), cs.length = (fl.map size).sum →
    (∀ (j : Nat) (f : Field), fl[j]? = some f → ∃ ys, RelL w (ImAll w) [] ((cs.drop ((fl.take j).map size).sum).take (size f)) ys ∧ Tp f ys) →
    ∃ L : List (List AV), RelL w (ImAll w) [] cs L.flatten ∧ L.length = fl.length ∧ ∀ (j : Nat) (f : Field) (ys : List AV), fl[j]? = some f → L[j]? = some ys → Tp f ys
  | [], cs, hl, _ => by
    obtain rfl : cs = [] := List.length_eq_zero_iff.1 (by simpa using hl)
    exact ⟨[], ⟨rfl, fun i x v hx _ => by simp at hx⟩, rfl, fun j f ys hf => by simp at hf⟩
  | f :: fl, cs, hl, h => by
    obtain ⟨y0, r0, t0⟩ := h 0 f rfl
    simp only [List.take_zero, List.map_nil, List.sum_nil, List.drop_zero] at r0
    obtain ⟨L, r1, r2, r3⟩ := assemble (size := size) fl (cs.drop (size f)) (by simp at hl ⊢; omega) fun j g hj => by
      obtain ⟨ys, q1, q2⟩ := h (j + 1) g hj
      rw [List.take_succ_cons, List.map_cons, List.sum_cons, ← List.drop_drop] at q1
      exact ⟨ys, q1, q2⟩
    refine ⟨y0 :: L, ?_, by simp [r2], fun j g ys hg hy => ?_⟩
    · have := r0.append r1
      rw [List.take_append_drop] at this
      simpa using this
    · match j with
      | 0 => simp at hg hy; subst hg hy; exact t0
      | j + 1 => exact r3 j g ys hg hy
theorem spot_of_cell {a : Addr} {v : Value} (h : w.cell? a = some v) : a.spot = none ∧ a.block < w.heap.size := by
  unfold World.cell? at h
  cases hb : w.heap[a.block]? with
  | none => simp [hb] at h
  | some o =>
    rw [hb] at h
    refine ⟨?_, blk_lt hb⟩
    cases o <;> simp at h
    cases hs : a.spot <;> simp_all
theorem addr_at (b o n : Nat) : (Addr.mk b o none).add n = ⟨b, o + n, none⟩ := by
  unfold Addr.add; split
  · subst n; rfl
  · rfl
theorem opn (hl : laidOutB P = true) : ∀ (fuel : Nat) (t : TypeId) (cs : List Value) (x : DataW H × List MemPlace), t < P.types.size → DataW.trod enc P w 0 spare held fuel t cs = some x → ∃ xs, RelL w (ImAll w) [] cs xs ∧ TypA P fuel t xs
  | 0, t, cs, x, _, h => by simp [DataW.trod] at h
  | n + 1, t, cs, x, ht, h => by
    unfold TypA
    cases hu : P.underlying t with
    | none => exact ⟨_, relL_top cs, trivial⟩
    | some d =>
      cases d with
      | bool =>
        obtain ⟨b, rfl, _⟩ := DataW.trod_bool hu h
        exact ⟨_, relL_one (.sc _), b, rfl⟩
      | int k =>
        obtain ⟨z, rfl, _, hw⟩ := DataW.trod_int hu h
        exact ⟨_, relL_one (.sc _), z, rfl, hw⟩
      | string =>
        obtain ⟨s, rfl, _, hs⟩ := DataW.trod_string hu h
        exact ⟨_, relL_one (.sc _), s, rfl, hs⟩
      | struct fs =>
        obtain ⟨ys, m, hm, _, hlen, hyl, hf⟩ := DataW.trod_struct hu h
        obtain rfl : m = n := by omega
        obtain ⟨k1, k2, k3⟩ := kid_struct hl ht hu
        obtain ⟨L, r1, r2, r3⟩ := assemble (w := w) (size := fun f => P.cellsOf f.type) (Tp := fun f ys => TypA P m f.type ys) fs.toList cs (by rw [hlen, k2]) fun j f hj => by
          have hj' : fs[j]? = some f := by simpa using hj
          have h1 := hf j f hj'
          have hlt : j < ys.length := by rw [hyl]; exact (Array.getElem?_eq_some_iff.1 hj').1
          rw [List.getElem?_eq_getElem hlt, k3 j f hj] at h1
          exact opn hl m f.type _ _ (k1 f (List.mem_of_getElem? hj)) h1
        exact ⟨_, r1, L, rfl, r2, r3⟩
      | slice e =>
        have he := kid_slice hl ht hu
        rcases DataW.trod_slice hu h with ⟨rfl, _⟩ | ⟨a, len, cap, elems, rest, n', hn', rfl, _, _, hlc, hcm, hlen, hel, _, _⟩
        · exact ⟨_, relL_one .fn0, fun _ => ⟨[], 0, rfl, Nat.zero_le _, by simp, fun i hi => by omega⟩⟩
        · by_cases hk : 0 < P.cellsOf e
          · rcases Nat.eq_zero_or_pos len with rfl | hpos
            · exact ⟨_, relL_one (.fs0 a cap), fun _ => ⟨[], 0, rfl, Nat.zero_le _, by simp, fun i hi => by omega⟩⟩
            · obtain rfl : n' = n := by omega
              have hch : ∀ i, ∃ ys : List AV, ys.length = P.cellsOf e ∧ (i < len → ∃ cs', w.cells? 0 (a.add (i * P.cellsOf e)) (P.cellsOf e) = some cs' ∧ RelL w (ImAll w) [] cs' ys ∧ TypA P n' e ys) := fun i => by
                by_cases hi : i < len
                · have h1 := hel i hi
                  rw [List.getElem?_eq_getElem (by omega)] at h1
                  obtain ⟨cs', c1, c2⟩ := Option.bind_eq_some_iff.1 h1
                  obtain ⟨ys, y1, y2⟩ := opn hl n' e cs' _ he c2
                  exact ⟨ys, by rw [← y1.1, (World.cells?_some c1).2.1], fun _ => ⟨cs', c1, y1, y2⟩⟩
                · exact ⟨List.replicate (P.cellsOf e) .top, by simp, fun h => absurd h hi⟩
              obtain ⟨F, hF⟩ := Classical.axiomOfChoice hch
              have hF1 : ∀ i, (F i).length = P.cellsOf e := fun i => (hF i).1
              obtain ⟨cs0, c0, _, _⟩ := (hF 0).2 hpos
              obtain ⟨_, c01, c02⟩ := World.cells?_some c0
              have c03 := c02 0 hk
              rw [List.getElem?_eq_getElem (by omega)] at c03
              have hsp := (spot_of_cell c03).1
              obtain ⟨b, o, s⟩ := a
              simp [Addr.add] at hsp
              subst hsp
              have hget : ∀ (i : Nat) (c : AV), (flatC F (List.range len))[i]? = some c → ImAll w b ∧ ∃ v, w.cell? ⟨b, o + i, none⟩ = some v ∧ Rel w (ImAll w) [] v c := fun i c hc => by
                have hi := lt_of_get hc
                rw [flatC_length hF1, List.length_range] at hi
                have hq : i / P.cellsOf e < len := Nat.div_lt_of_lt_mul (by rw [Nat.mul_comm]; exact hi)
                have hr : i % P.cellsOf e < P.cellsOf e := Nat.mod_lt _ hk
                have hii : i / P.cellsOf e * P.cellsOf e + i % P.cellsOf e = i := Nat.div_add_mod' i _
                have h1 := flatC_get hF1 (List.range len) (i / P.cellsOf e) (i % P.cellsOf e) (by simpa using hq) hr
                rw [hii, hc] at h1
                simp only [List.getElem_range] at h1
                obtain ⟨cs', c1, c2, _⟩ := (hF (i / P.cellsOf e)).2 hq
                obtain ⟨_, c3, c4⟩ := World.cells?_some c1
                have c5 := c4 (i % P.cellsOf e) hr
                rw [addr_at, addr_at, Nat.add_assoc, hii, List.getElem?_eq_getElem (by omega)] at c5
                exact ⟨(spot_of_cell c5).2, _, c5, c2.2 _ c _ h1.symm (List.getElem?_eq_getElem (by omega))⟩
              refine ⟨[.fs (flatC F (List.range len)) len], relL_one (.fs b o len cap _ (fun i => (w.cell? ⟨b, o + i, none⟩).getD undef) hlc (fun i c hc => ?_) (fun i c hc => ?_)), fun _ => ⟨_, len, rfl, by omega, by rw [flatC_length hF1, List.length_range], fun i hi => ?_⟩⟩
              · obtain ⟨h1, v, h2, h3⟩ := hget i c hc
                exact ⟨h1, by rw [h2]; rfl⟩
              · obtain ⟨h1, v, h2, h3⟩ := hget i c hc
                rw [h2]; exact h3
              · rw [flatC_seg hF1 _ i (by simpa using hi)]
                simp only [List.getElem_range]
                obtain ⟨_, _, _, h⟩ := (hF i).2 hi
                exact h
          · exact ⟨_, relL_top _, fun h => absurd h hk⟩
      | _ => exact ⟨_, relL_top cs, trivial⟩
end
end Go.Proofs.YticpnfgiidljlaaGreat
namespace Go.Proofs.YticpnfgiidljlaaGreat
open Go.ChangeShapes Go.WideShapes Go.Deep Go.RowKit
section
variable {H : Type} {enc : TypeId × Value → H} {P : Program} {w : World} {spare : Nat → Bool} {held : Bool}
theorem wrel_none (w : World) : WRel w (ImAll w) [] [] where
  len := rfl
  gen := fun l o p h _ => by simp at h
  im := fun _ h => h
  room := fun l o p h _ => by simp at h
  obj := fun l o p h _ => by simp at h
  sep := fun l o p h _ => by simp at h
  fix := fun l o p h _ => by simp at h
  inj := fun l l' o o' p p' h _ _ _ _ _ _ => by simp at h
  full := fun l o p h _ => by simp at h
/-- A law's call. -/
theorem law_calls {f : FuncId} {xs : List AV} {u : Value} (h : PSpec P f xs (.sc u)) {args : Array Value} (hr : RelL w (ImAll w) [] args.toList xs) : Calls P f args w fun e w' => e = .returned u ∧ Below w.heap.size w w' := by
  refine ((h []).2 w (ImAll w) [] args (wrel_none w) hr).mono fun e w' ⟨v, r, σ', Im', T', h1, h2, h3, h4, h5, h6⟩ => ?_
  subst h5
  cases h2
  refine ⟨h1, ⟨h4.os, h4.tape, h4.output, h4.size, fun b hb => h4.keep b hb ?_⟩⟩
  rintro ⟨l, o, p, q, _⟩
  simp at q
theorem relL_nil : RelL w (ImAll w) [] [] [] := ⟨rfl, fun i x v hx _ => by simp at hx⟩
theorem relL_cons {v : Value} {x : AV} {vs : List Value} {xs : List AV} (h : Rel w (ImAll w) [] v x) (k : RelL w (ImAll w) [] vs xs) : RelL w (ImAll w) [] (v :: vs) (x :: xs) := by
  have := (relL_one h).append k
  simpa using this
theorem open_agg (hl : laidOutB P = true) {t : TypeId} {fs : Array Field} (ht : t < P.types.size) (hu : P.underlying t = some (.struct fs)) {r : Reach} {b0 : Nat} {v : Value} {d : DataW H} {ps : List MemPlace} (hv : Value.okWide P w r b0 t v) (h : DataW.Trod enc P w 0 spare held t v d ps) : ∃ xs n, Rel w (ImAll w) [] v (.agg xs) ∧ TypA P n t xs := by
  simp only [Value.okWide, hu] at hv
  obtain ⟨cs, rfl, _⟩ := hv
  obtain ⟨fuel, hf⟩ := h
  obtain ⟨xs, h1, h2⟩ := opn hl fuel t _ _ ht hf
  exact ⟨xs, fuel, .agg cs xs (by have := h1.1; simpa [Value.cells] using this) (fun i x v hx hv => h1.2 i x v hx (by simpa [Value.cells] using hv)), h2⟩
theorem segs_flat {α : Type} {c : α → List AV} {k : Nat} : ∀ (len : Nat) (cells : List AV), cells.length = len * k → (∀ i, i < len → ∃ a, (cells.drop (i * k)).take k = c a) → ∃ l : List α, l.length = len ∧ cells = flatC c l
  | 0, cells, h, _ => ⟨[], rfl, by simpa [flatC] using h⟩
  | len + 1, cells, h, hs => by
    obtain ⟨a, ha⟩ := hs 0 (by omega)
    rw [Nat.zero_mul, List.drop_zero] at ha
    obtain ⟨l, h1, h2⟩ := segs_flat (c := c) (k := k) len (cells.drop k) (by rw [List.length_drop, h, Nat.add_mul, Nat.one_mul]; omega) fun i hi => by
      obtain ⟨a, h⟩ := hs (i + 1) (by omega)
      rw [Nat.add_mul, Nat.one_mul, Nat.add_comm, ← List.drop_drop] at h
      exact ⟨a, h⟩
    refine ⟨a :: l, by simp [h1], ?_⟩
    rw [← List.take_append_drop k cells, ha, h2]
    simp [flatC]
theorem typ_rows {α : Type} {c : α → List AV} {n : Nat} {t e : TypeId} {x : AV} (hu : P.underlying t = some (.slice e)) (hk : 0 < P.cellsOf e) (h : TypA P n t [x]) (hd : ∀ m ys, TypA P m e ys → ∃ a, ys = c a) : ∃ l : List α, x = .fs (flatC c l) l.length ∧ l.length ≤ 9223372036854775807 := by
  cases n with
  | zero => exact h.elim
  | succ n =>
    unfold TypA at h
    rw [hu] at h
    obtain ⟨cells, len, hx, hm, hc, hs⟩ := h hk
    obtain ⟨l, h1, h2⟩ := segs_flat len cells hc fun i hi => by
      obtain ⟨a, ha⟩ := hd n _ (hs i hi)
      exact ⟨a, ha⟩
    cases hx
    exact ⟨l, by rw [h1, h2], by rw [h1]; exact hm⟩
theorem cells_pos {e : TypeId} {k : Nat} (h : P.cellsOf e = k + 1) : 0 < P.cellsOf e := by omega
theorem typ_str {n : Nat} {t : TypeId} {ys : List AV} (hu : P.underlying t = some .string) (h : TypA P n t ys) : ∃ s : Str, ys = cS s := by
  cases n with
  | zero => exact h.elim
  | succ n => unfold TypA at h; rw [hu] at h; obtain ⟨s, h, _⟩ := h; exact ⟨s, h⟩
theorem typ_int {n : Nat} {t : TypeId} {k : IntKind} {ys : List AV} (hu : P.underlying t = some (.int k)) (h : TypA P n t ys) : ∃ z : Int, ys = [.sc (.int k z)] ∧ (Lit.int k z).wf = true := by
  cases n with
  | zero => exact h.elim
  | succ n => unfold TypA at h; rw [hu] at h; exact h
theorem typ_bool {n : Nat} {t : TypeId} {ys : List AV} (hu : P.underlying t = some .bool) (h : TypA P n t ys) : ∃ b : Bool, ys = [.sc (.bool b)] := by
  cases n with
  | zero => exact h.elim
  | succ n => unfold TypA at h; rw [hu] at h; exact h
theorem typ_struct {n : Nat} {t : TypeId} {fs : Array Field} {ys : List AV} (hu : P.underlying t = some (.struct fs)) (h : TypA P n t ys) : ∃ (m : Nat) (L : List (List AV)), ys = L.flatten ∧ L.length = fs.toList.length ∧ ∀ (j : Nat) (f : Field) (zs : List AV), fs.toList[j]? = some f → L[j]? = some zs → TypA P m f.type zs := by
  cases n with
  | zero => exact h.elim
  | succ n => unfold TypA at h; rw [hu] at h; exact ⟨n, h⟩
end
theorem typ_slc {P : Program} {n : Nat} {t e : TypeId} {ys : List AV} (hu : P.underlying t = some (.slice e)) (hk : 0 < P.cellsOf e) (h : TypA P n t ys) : ∃ cells len, ys = [.fs cells len] := by
  cases n with
  | zero => exact h.elim
  | succ n => unfold TypA at h; rw [hu] at h; obtain ⟨cells, len, rfl, _⟩ := h hk; exact ⟨_, _, rfl⟩
end Go.Proofs.YticpnfgiidljlaaGreat
namespace Go.Proofs.YticpnfgiidljlaaGreat
open Go.ChangeShapes Go.WideShapes Go.Deep Go.RowKit
theorem typ_msg {n : Nat} {ys : List AV} (h : TypA Tryz.prog n 73 ys) : ∃ m : Msg, ys = cM m := by
  obtain ⟨m, L, rfl, hL, hf⟩ := typ_struct Tryz.underlying73 h
  match L, hL with
  | [y0, y1, y2], _ =>
    obtain ⟨z, rfl, _⟩ := typ_int (k := .i64) Tryz.underlying3 (hf 0 _ y0 rfl rfl)
    obtain ⟨s1, rfl⟩ := typ_str Tryz.underlying9 (hf 1 _ y1 rfl rfl)
    obtain ⟨s2, rfl⟩ := typ_str Tryz.underlying9 (hf 2 _ y2 rfl rfl)
    exact ⟨⟨z, s1, s2⟩, rfl⟩
theorem typ_msgs {n : Nat} {x : AV} (h : TypA Tryz.prog n 25 [x]) : ∃ l : List Msg, x = .fs (flatM l) l.length ∧ l.length ≤ 9223372036854775807 := typ_rows Tryz.underlying25 (cells_pos (k := 2) (by kernel_rfl)) h fun _ _ => typ_msg
theorem typ_strs {n : Nat} {x : AV} (h : TypA Tryz.prog n 24 [x]) : ∃ l : List Str, x = .fs (flatS l) l.length ∧ l.length ≤ 9223372036854775807 := typ_rows Tryz.underlying24 (cells_pos (k := 0) (by kernel_rfl)) h fun _ _ => typ_str Tryz.underlying9
end Go.Proofs.YticpnfgiidljlaaGreat
namespace Go.Proofs.YticpnfgiidljlaaGreat
open Go.ChangeShapes Go.WideShapes Go.Deep Go.RowKit
theorem typ_item {n : Nat} {ys : List AV} (h : TypA Tryz.prog n 71 ys) : ∃ m : Item, ys = cI m := by
  obtain ⟨m, L, rfl, hL, hf⟩ := typ_struct Tryz.underlying71 h
  match L, hL with
  | [y1, y2], _ =>
    obtain ⟨s1, rfl⟩ := typ_str Tryz.underlying9 (hf 0 _ y1 rfl rfl)
    obtain ⟨s2, rfl⟩ := typ_str Tryz.underlying9 (hf 1 _ y2 rfl rfl)
    exact ⟨⟨s1, s2⟩, rfl⟩
theorem typ_items {n : Nat} {x : AV} (h : TypA Tryz.prog n 22 [x]) : ∃ l : List Item, x = .fs (flatI l) l.length ∧ l.length ≤ 9223372036854775807 := typ_rows Tryz.underlying22 (cells_pos (k := 1) (by kernel_rfl)) h fun _ _ => typ_item
end Go.Proofs.YticpnfgiidljlaaGreat
namespace Go.Proofs.YticpnfgiidljlaaGreat
open Go.ChangeShapes Go.WideShapes Go.Deep Go.RowKit
theorem typ_intsN {n : Nat} {x : AV} (h : TypA Tryz.prog n 23 [x]) : ∃ l : List Int, x = .fs (flatN l) l.length ∧ l.length ≤ 9223372036854775807 := typ_rows Tryz.underlying23 (cells_pos (k := 0) (by kernel_rfl)) h fun _ _ h => by
  obtain ⟨z, h, _⟩ := typ_int (k := .i64) Tryz.underlying3 h
  exact ⟨z, h⟩
/-- A node's form. -/
structure Nod5 where
  b : Bool
  o : List Item
  k : List Int
  p : List Str
  m : List Msg
  h0 : o.length ≤ 9223372036854775807
  h1 : k.length ≤ 9223372036854775807
  h2 : p.length ≤ 9223372036854775807
  h3 : m.length ≤ 9223372036854775807
def Nod5.c (x : Nod5) : List AV := cN5 x.b x.o x.k x.p x.m
theorem typ_node {n : Nat} {ys : List AV} (h : TypA Tryz.prog n 29 ys) : ∃ x : Nod5, ys = x.c := by
  obtain ⟨m, L, rfl, hL, hf⟩ := typ_struct Tryz.underlying29 h
  match L, hL with
  | [y1, y2, y3], _ =>
    obtain ⟨b, rfl⟩ := typ_bool Tryz.underlying4 (hf 0 _ y1 rfl rfl)
    have h2 := hf 1 _ y2 rfl rfl
    obtain ⟨cells, len, rfl⟩ := typ_slc Tryz.underlying22 (cells_pos (k := 1) (by kernel_rfl)) h2
    obtain ⟨o, h0, k0⟩ := typ_items h2
    have h3 := hf 2 _ y3 rfl rfl
    obtain ⟨m', L', rfl, hL', hf'⟩ := typ_struct Tryz.underlying27 h3
    match L', hL' with
    | [z1, z2, z3], _ =>
      have i1 := hf' 0 _ z1 rfl rfl
      have i2 := hf' 1 _ z2 rfl rfl
      have i3 := hf' 2 _ z3 rfl rfl
      obtain ⟨c1, l1, rfl⟩ := typ_slc Tryz.underlying23 (cells_pos (k := 0) (by kernel_rfl)) i1
      obtain ⟨c2, l2, rfl⟩ := typ_slc Tryz.underlying24 (cells_pos (k := 0) (by kernel_rfl)) i2
      obtain ⟨c3, l3, rfl⟩ := typ_slc Tryz.underlying25 (cells_pos (k := 2) (by kernel_rfl)) i3
      obtain ⟨k, e1, k1⟩ := typ_intsN i1
      obtain ⟨p, e2, k2⟩ := typ_strs i2
      obtain ⟨q, e3, k3⟩ := typ_msgs i3
      exact ⟨⟨b, o, k, p, q, k0, k1, k2, k3⟩, by rw [h0, e1, e2, e3]; rfl⟩
end Go.Proofs.YticpnfgiidljlaaGreat
