/- More operations on values without memory: fields, elements, slices, rows that grow. No program. -/
import Derived.Test.YtemijcjgdgdhjaaLogC
namespace Go.Proofs.Ytemijcjgdgdhjaa
open Go.RowKit

section
variable {P : Program} {w : World} {Im : Nat → Prop} {σ σ' : Sto} {T : Tab}

def fieldOf (P : Program) (s : TypeId) (f : Nat) : Option Field := match P.underlying s with
  | some (.struct fields) => fields[f]?
  | _ => none
def fieldAddrA (P : Program) (s : TypeId) (x : AV) (f : Nat) : Option AV :=
  match fieldOf P s f with
  | some fd => match sizeT P fd.type with
    | some (_ + 1) => match x with
      | .fp cs off => some (.fp cs (off + fd.offset))
      | .mp l g off => some (.mp l g (off + fd.offset))
      | _ => none
    | _ => none
  | none => none
theorem Rel.addr {v : Value} {x : AV} {n : Nat} (h : Rel w Im T v x) :
    (∀ cs off, x = .fp cs off → ∃ b o, v = .pointer (some ⟨b, o + off, none⟩) ∧ Rel w Im T (.pointer (some ⟨b, o + off + n, none⟩)) (.fp cs (off + n))) ∧
    (∀ l g off, x = .mp l g off → ∃ a : Addr, v = .pointer (some a) ∧ Rel w Im T (.pointer (some (a.add n))) (.mp l g (off + n))) := by
  constructor
  · rintro cs off rfl
    cases h with
    | fp b o _ _ vs h1 h2 =>
      refine ⟨b, o, rfl, ?_⟩
      rw [Nat.add_assoc]
      exact .fp b o (off + n) cs vs h1 h2
  · rintro l g off rfl
    cases h with
    | mp a _ _ _ p hp hg h =>
      refine ⟨a, rfl, .mp _ _ _ _ p hp hg (fun e => ?_)⟩
      rw [h e, Addr.add_lit, Nat.add_assoc]
theorem fieldAddrA_snd (hW : WRel w Im σ T) {s : TypeId} {f : Nat} {v : Value} {x y : AV} (hr : Rel w Im T v x) (h : fieldAddrA P s x f = some y) : SndV P (Instr.fieldAt s v f) w Im σ T y σ := by
  unfold fieldAddrA at h
  split at h
  · rename_i fd hfd
    unfold fieldOf at hfd
    split at hfd
    · rename_i fields hu
      split at h
      · rename_i k hk
        have hk0 : ∀ w : World, (sizeOf fd.type).run P w = .ok (k + 1) w := run_sizeOf hk
        split at h
        · rename_i cs off
          cases h
          obtain ⟨b, o, rfl, h2⟩ := (hr.addr (n := fd.offset)).1 cs off rfl
          refine .same hW ?_ h2
          simp [Instr.fieldAt, run_underlying hu, hfd, Instr.sureAddr, fieldPlace, hk0, Addr.add_lit]
        · rename_i l g off
          cases h
          obtain ⟨a, rfl, h2⟩ := (hr.addr (n := fd.offset)).2 l g off rfl
          refine .same hW ?_ h2
          simp [Instr.fieldAt, run_underlying hu, hfd, Instr.sureAddr, fieldPlace, hk0]
        · cases h
      · cases h
    · cases hfd
  · cases h

/-- A part of a struct's cells. -/
def partA (P : Program) (t : TypeId) (xs : List AV) (off : Nat) : Option AV :=
  match isAggT P t with
  | some true => match sizeT P t with
    | some n => some (.agg ((xs.drop off).take n))
    | none => none
  | some false => xs[off]?
  | none => none
def fieldA (P : Program) (s : TypeId) (x : AV) (f : Nat) : Option AV :=
  match fieldOf P s f with
  | some fd => match x with
    | .agg xs => partA P fd.type xs fd.offset
    | _ => none
  | none => none
theorem partA_run {t : TypeId} {A : Array Value} {xs : List AV} {off : Nat} {y : AV} (hA : A.size = xs.length) (h1 : ∀ (i : Nat) (x : AV) (v : Value), xs[i]? = some x → A[i]? = some v → Rel w Im T v x) (h : partA P t xs off = some y) :
    ∃ u, (part t A off).run P w = .ok u w ∧ Rel w Im T u y := by
  unfold partA at h
  split at h
  · rename_i hag
    split at h
    · rename_i n hn
      cases h
      refine ⟨.agg (A.extract off (off + n)), by simp [part, run_isAgg hag, run_sizeOf hn], .agg _ _ (by simp; omega) (fun i x v hx hv => ?_)⟩
      have hi : i < n := by have := lt_of_get hx; simp at this; omega
      rw [List.getElem?_take_of_lt hi, List.getElem?_drop] at hx
      refine h1 (off + i) x v hx ?_
      rw [Array.getElem?_extract] at hv
      split at hv
      · exact hv
      · cases hv
    · cases h
  · rename_i hag
    have hlt := lt_of_get h
    obtain ⟨u, hu⟩ : ∃ u, A[off]? = some u := ⟨A[off]'(by omega), Array.getElem?_eq_getElem _⟩
    exact ⟨u, by simp [part, run_isAgg hag, hu], h1 off y u h hu⟩
  · cases h
theorem fieldA_snd (hW : WRel w Im σ T) {s : TypeId} {f : Nat} {v : Value} {x y : AV} (hr : Rel w Im T v x) (h : fieldA P s x f = some y) : SndV P (Instr.field s v f) w Im σ T y σ := by
  unfold fieldA at h
  split at h
  · rename_i fd hfd
    unfold fieldOf at hfd
    split at hfd
    · rename_i fields hu
      split at h
      · rename_i xs
        cases hr with
        | agg A _ hA h1 =>
          obtain ⟨u, hrun, hR⟩ := partA_run (P := P) hA h1 h
          exact .same hW (by simp [Instr.field, run_underlying hu, hfd, asAgg, hrun]) hR
      · cases h
    · cases hfd
  · cases h

def elemOfT (P : Program) (t : TypeId) : Option (TypeId × Nat) := match P.underlying t with
  | some (.slice e) => match sizeT P e with
    | some k => some (e, k)
    | none => none
  | _ => none
theorem elemOfT_spec {t e : TypeId} {k : Nat} (h : elemOfT P t = some (e, k)) : P.underlying t = some (.slice e) ∧ sizeT P e = some k := by
  unfold elemOfT at h
  split at h
  · rename_i e' hu
    split at h
    · rename_i k' hk
      simp only [Option.some.injEq, Prod.mk.injEq] at h
      obtain ⟨rfl, rfl⟩ := h
      exact ⟨hu, hk⟩
    · cases h
  · cases h
def indexAddrA (P : Program) (t : TypeId) (x i : AV) : Option AV :=
  match elemOfT P t, i with
  | some (_, k), .sc (.int _ n) => match x with
    | .fs cs len => if 0 ≤ n ∧ n < (len : Int) then some (.fp cs (n.toNat * k)) else none
    | .ms l g off len _ => if 0 ≤ n ∧ n < (len : Int) then some (.mp l g (off + n.toNat * k)) else none
    | _ => none
  | _, _ => none
theorem indexAddrA_snd (hW : WRel w Im σ T) {t : TypeId} {v u : Value} {x i y : AV} (hr : Rel w Im T v x) (hi : Rel w Im T u i) (h : indexAddrA P t x i = some y) : SndV P (Instr.indexAt t v u) w Im σ T y σ := by
  unfold indexAddrA at h
  split at h
  · rename_i e k ik n he
    obtain ⟨hu, hk⟩ := elemOfT_spec he
    cases hi
    split at h
    · rename_i cs len
      split at h
      · rename_i hb
        cases h
        cases hr with
        | fs b o _ cap _ vs hl h1 h2 =>
          refine .same hW (v := .pointer (some ⟨b, o + n.toNat * k, none⟩)) ?_ (.fp b o _ cs vs h1 h2)
          simp [Instr.indexAt, asIntOf, run_underlying hu, run_sizeOf hk, hb, Addr.add_lit]
        | fn0 => simp at hb; omega
        | fs0 => simp at hb; omega
      · cases h
    · rename_i l g off len k'
      split at h
      · rename_i hb
        cases h
        cases hr with
        | ms a _ _ _ _ _ cap p hp hg hl hs h =>
          refine .same hW (v := .pointer (some (a.add (n.toNat * k)))) ?_ (.mp _ _ _ _ p hp hg (fun e => ?_))
          · simp [Instr.indexAt, asIntOf, run_underlying hu, run_sizeOf hk, hb]
          · rw [(h e).1, Addr.add_lit, Nat.add_assoc]
      · cases h
    · cases h
  · cases h

def indexA (P : Program) (t : TypeId) (x i : AV) : Option AV :=
  match P.underlying t, x, i with
  | some .string, .sc (.string s), .sc (.int _ n) => if 0 ≤ n then match s[n.toNat]? with
    | some b => some (.sc (.int .u8 b.toNat))
    | none => none else none
  | _, _, _ => none
theorem indexA_snd (hW : WRel w Im σ T) {t : TypeId} {v u : Value} {x i y : AV} (hr : Rel w Im T v x) (hi : Rel w Im T u i) (h : indexA P t x i = some y) : SndV P (Instr.index t v u) w Im σ T y σ := by
  unfold indexA at h
  split at h
  · rename_i s ik n hu
    cases hr; cases hi
    split at h
    · rename_i hn
      split at h
      · rename_i b hb
        cases h
        exact .same hW (by simp [Instr.index, asIntOf, run_underlying hu, hn, hb]) (.sc _)
      · cases h
    · cases h
  · cases h

/-- A bound of a slice expression. -/
def bdA : Option AV → Nat → Option Nat
  | none, d => some d
  | some (.sc (.int _ n)), _ => if 0 ≤ n then some n.toNat else none
  | _, _ => none
def inRow (σ : Sto) (o g n : Nat) : Bool := match σ[o]? with
  | some b => decide (b.gen = g ∧ n ≤ b.cells.length)
  | none => false
def sliceA (P : Program) (σ : Sto) (t : TypeId) (x : AV) (lo hi mx : Option AV) : Option AV :=
  match mx, P.underlying t with
  | none, some .string => match x with
    | .sc (.string s) => match bdA lo 0, bdA hi s.size with
      | some l, some h => if l ≤ h ∧ h ≤ s.size then some (.sc (.string (s.extract l h))) else none
      | _, _ => none
    | _ => none
  | none, some (.slice e) => match sizeT P e with
    | some k => match x with
      | .fs cs len => match bdA lo 0, bdA hi len with
        | some l, some h => if l ≤ h ∧ h ≤ len then some (.fs ((cs.drop (l * k)).take ((h - l) * k)) (h - l)) else none
        | _, _ => none
      | .ms o g off len k' => match bdA lo 0, bdA hi len with
        | some l, some h => if l ≤ h ∧ (h ≤ len ∨ (0 < k ∧ inRow σ o g (off + h * k) = true)) ∧ k' = k then (if l = h ∧ 0 < l then some (.fs [] 0) else some (.ms o g (off + l * k) (h - l) k)) else none
        | _, _ => none
      | .sc (.slice none 0 0) => match bdA lo 0, bdA hi 0 with
        | some 0, some 0 => some (.sc (.slice none 0 0))
        | _, _ => none
      | _ => none
    | none => none
  | _, _ => none
def bdV : Option Value → Nat → Prop := fun o n => ∀ v, o = some v → ∃ k, v = .int k (n : Int)
theorem bdA_spec {o : Option AV} {ov : Option Value} {d l : Nat} (h : bdA o d = some l) (hr : (o = none ∧ ov = none) ∨ ∃ x v, o = some x ∧ ov = some v ∧ Rel w Im T v x) :
    (ov = none ∧ l = d) ∨ ∃ k, ov = some (.int k (l : Int)) := by
  rcases hr with ⟨rfl, rfl⟩ | ⟨x, v, rfl, rfl, hr⟩
  · simp only [bdA, Option.some.injEq] at h
    exact .inl ⟨rfl, h.symm⟩
  · cases x with
    | sc u =>
      cases hr
      cases v with
      | int k n =>
        simp only [bdA] at h
        split at h
        · simp only [Option.some.injEq] at h
          exact .inr ⟨k, by rw [← h]; congr 2; omega⟩
        · cases h
      | _ => simp [bdA] at h
    | _ => simp [bdA] at h
theorem run_sliceBounds {isS : Bool} {len cap l h : Nat} {lo hi : Option Value} (h1 : (lo = none ∧ l = 0) ∨ ∃ k, lo = some (.int k (l : Int))) (h2 : (hi = none ∧ h = len) ∨ ∃ k, hi = some (.int k (h : Int))) (hl : l ≤ h) (hh : h ≤ cap) (w : World) :
    (Instr.sliceBounds isS len cap lo hi none).run P w = .ok (l, h, cap) w := by
  rcases h1 with ⟨rfl, rfl⟩ | ⟨k1, rfl⟩ <;> rcases h2 with ⟨rfl, rfl⟩ | ⟨k2, rfl⟩ <;> simp [Instr.sliceBounds, Instr.sliceBound, asIntOf, hl, hh]
theorem sliceA_snd (hW : WRel w Im σ T) {t : TypeId} {v : Value} {x y : AV} {lo hi mx : Option AV} {vlo vhi vmx : Option Value} (hr : Rel w Im T v x)
    (hlo : (lo = none ∧ vlo = none) ∨ ∃ x v, lo = some x ∧ vlo = some v ∧ Rel w Im T v x) (hhi : (hi = none ∧ vhi = none) ∨ ∃ x v, hi = some x ∧ vhi = some v ∧ Rel w Im T v x) (hmx : mx = none → vmx = none)
    (h : sliceA P σ t x lo hi mx = some y) : SndV P (Instr.sliceAt t v vlo vhi vmx) w Im σ T y σ := by
  unfold sliceA at h
  split at h
  · rename_i hu
    obtain rfl := hmx rfl
    split at h
    · rename_i s
      cases hr
      split at h
      · rename_i l hh e1 e2
        split at h
        · rename_i hb
          cases h
          have hrun := run_sliceBounds (P := P) (isS := false) (bdA_spec e1 hlo) (bdA_spec e2 hhi) hb.1 hb.2 w
          exact .same hW (by simp [Instr.sliceAt, run_underlying hu, Instr.slice, hrun]) (.sc _)
        · cases h
      · cases h
    · cases h
  · rename_i e hu
    obtain rfl := hmx rfl
    split at h
    · rename_i k hk
      split at h
      · rename_i cs len
        split at h
        · rename_i l hh e1 e2
          split at h
          · rename_i hb
            cases h
            cases hr with
            | fs b o _ cap _ vs hl h1 h2 =>
              have hrun := run_sliceBounds (P := P) (isS := true) (cap := cap) (bdA_spec e1 hlo) (bdA_spec e2 hhi) hb.1 (by omega) w
              by_cases hm : cap = l
              · have e0 : hh - l = 0 := by omega
                refine .same hW (v := .slice (some ⟨b, o, none⟩) (hh - l) (cap - l)) (by simp [Instr.sliceAt, run_underlying hu, Instr.slice, hrun, run_sizeOf hk]; simp [hm]) ?_
                refine .fs b o _ _ _ vs (by omega) (fun i c hc => ?_) (fun i c hc => ?_)
                · simp [e0] at hc
                · simp [e0] at hc
              · refine .same hW (v := .slice (some ⟨b, o + l * k, none⟩) (hh - l) (cap - l)) (by simp [Instr.sliceAt, run_underlying hu, Instr.slice, hrun, run_sizeOf hk, hm, Addr.add_lit]) ?_
                have hget : ∀ (i : Nat) (c : AV), ((cs.drop (l * k)).take ((hh - l) * k))[i]? = some c → cs[l * k + i]? = some c := fun i c hc => by
                  have hi : i < (hh - l) * k := by have := lt_of_get hc; simp at this; omega
                  rwa [List.getElem?_take_of_lt hi, List.getElem?_drop] at hc
                refine .fs b (o + l * k) _ _ _ (fun i => vs (l * k + i)) (by omega) (fun i c hc => ?_) (fun i c hc => h2 _ _ (hget i c hc))
                rw [Nat.add_assoc]
                exact h1 _ _ (hget i c hc)
            | fn0 =>
              have hrun := run_sliceBounds (P := P) (isS := true) (len := 0) (cap := 0) (bdA_spec e1 hlo) (bdA_spec e2 hhi) hb.1 (by omega) w
              have e0 : l = 0 := by omega
              have e0' : hh = 0 := by omega
              subst e0 e0'
              refine .same hW (v := .slice none 0 0) (by simp [Instr.sliceAt, run_underlying hu, Instr.slice, hrun, run_sizeOf hk]) (by simpa using .fn0)
            | fs0 a cap =>
              have hrun := run_sliceBounds (P := P) (isS := true) (len := 0) (cap := cap) (bdA_spec e1 hlo) (bdA_spec e2 hhi) hb.1 (by omega) w
              have e0 : l = 0 := by omega
              have e0' : hh = 0 := by omega
              subst e0 e0'
              refine .same hW (v := .slice (some a) 0 cap) (by simp [Instr.sliceAt, run_underlying hu, Instr.slice, hrun, run_sizeOf hk, Addr.add]) (by simpa using .fs0 a cap)
          · cases h
        · cases h
      · rename_i ob g off len k'
        split at h
        · rename_i l hh e1 e2
          split at h
          · rename_i hb
            obtain ⟨hb1, hb2', rfl⟩ := hb
            cases hr with
            | ms a _ _ _ _ _ cap p hp hg hl hs hpl =>
              have hb2 : hh ≤ cap := by
                rcases hb2' with h1 | ⟨h1, h2⟩
                · omega
                · unfold inRow at h2
                  split at h2
                  · rename_i ob' hob
                    have h3 := of_decide_eq_true h2
                    have hgen := hW.gen ob ob' p hob hp
                    have hrm := hW.room ob ob' p hob hp
                    have he := (hpl (by omega)).2
                    refine Nat.le_of_mul_le_mul_right (c := k') ?_ h1
                    omega
                  · cases h2
              have hrun := run_sliceBounds (P := P) (isS := true) (cap := cap) (bdA_spec e1 hlo) (bdA_spec e2 hhi) hb1 (by omega) w
              obtain ⟨ab, ao, as⟩ := a
              simp only at hs
              subst hs
              have hrun' : (Instr.sliceAt t (.slice (some ⟨ab, ao, none⟩) len cap) vlo vhi none).run P w = .ok (.slice (some ⟨ab, ao + (if cap = l then 0 else l * k'), none⟩) (hh - l) (cap - l)) w := by
                simp [Instr.sliceAt, run_underlying hu, Instr.slice, hrun, run_sizeOf hk]
                split <;> simp [Addr.add_lit]
              split at h
              · rename_i he
                cases h
                rw [he.1, Nat.sub_self] at hrun'
                exact .same hW hrun' (.fs _ _ _ _ _ (fun _ => undef) (by omega) (fun i c hc => by simp at hc) (fun i c hc => by simp at hc))
              · rename_i he
                cases h
                refine .same hW hrun' (.ms _ _ _ _ _ _ _ p hp hg (by omega) rfl (fun e => ?_))
                obtain ⟨q1, q2⟩ := hpl e
                simp only [Addr.mk.injEq, and_true] at q1
                obtain ⟨rfl, rfl⟩ := q1
                have hoff : (if cap = l then 0 else l * k') = l * k' := by
                  split
                  · have : l = 0 := by omega
                    subst this; simp
                  · rfl
                rw [hoff, Nat.add_assoc]
                refine ⟨rfl, ?_⟩
                have : l * k' + (cap - l) * k' = cap * k' := by rw [← Nat.add_mul]; congr 1; omega
                omega
          · cases h
        · cases h
      · split at h
        · rename_i e1 e2
          cases h
          cases hr
          have hrun := run_sliceBounds (P := P) (isS := true) (len := 0) (cap := 0) (bdA_spec e1 hlo) (bdA_spec e2 hhi) (Nat.le_refl _) (Nat.le_refl _) w
          exact .same hW (by simp [Instr.sliceAt, run_underlying hu, Instr.slice, hrun, run_sizeOf hk]) (.sc _)
        · cases h
      · cases h
    · cases h
  · cases h
end
end Go.Proofs.Ytemijcjgdgdhjaa
