/- What is compared, copied, converted; the whole of an operation (evalOp). No program. -/
import Derived.Test.YtemijcjgdgdhjaaLogF
namespace Go.Proofs.Ytemijcjgdgdhjaa
open Go.RowKit

section
variable {P : Program} {w : World} {Im : Nat → Prop} {σ σ' : Sto} {T : Tab}

def copyA (P : Program) (σ : Sto) (t0 : TypeId) (d x : AV) : Option (AV × Sto) :=
  match elemOfT P t0 with
  | none => none
  | some (_, k) => match slcCells σ x k with
    | none => none
    | some (m, cells) => match d with
      | .ms l g off len k' => if k' = k ∧ (cells.take (min m len * k)).all AV.one = true then match wrCells σ (.mp l g off) (cells.take (min m len * k)) with
        | some σ' => some (.sc (.int .i64 (min m len : Nat)), σ')
        | none => none else none
      | .sc (.slice none 0 0) => some (.sc (.int .i64 0), σ)
      | _ => none
theorem copyA_snd (hW : WRel w Im σ T) {t0 t1 ty : TypeId} {d x y : AV} {vd vx : Value} (hd : Rel w Im T vd d) (hx : Rel w Im T vx x) (h : copyA P σ t0 d x = some (y, σ')) : SndV P (Builtin.copy_ #[t0, t1] ty #[vd, vx]) w Im σ T y σ' := by
  unfold copyA at h
  split at h
  · cases h
  · rename_i e k he
    obtain ⟨hu, hk⟩ := elemOfT_spec he
    split at h
    · cases h
    · rename_i m cells hc
      obtain ⟨hlen, us, hus, hl1, hl2⟩ := slcCells_rel (P := P) hW hx hc
      split at h
      · rename_i l g off len k'
        split at h
        · rename_i hb
          obtain ⟨rfl, hone⟩ := hb
          split at h
          · rename_i σ'' hw
            cases h
            cases hd with
            | ms a _ _ _ _ _ cap p hp hge hlc hsp hpl =>
              have hp' : Rel w Im T (.pointer (some a)) (.mp l g off) := .mp a l g off p hp hge (fun e => (hpl e).1)
              have hf := hl2 w rfl (min m len) (by omega)
              have hus' : RelL w Im T (us.take (min m len * k')) (cells.take (min m len * k')) := ⟨by simp [hus.1], fun i x v hx hv => by
                have hi : i < min m len * k' := by have := lt_of_get hx; rw [List.length_take] at this; omega
                rw [List.getElem?_take_of_lt hi] at hx hv
                exact hus.2 i x v hx hv⟩
              obtain ⟨a', w', T', ha', hrun, hW', hF⟩ := storeCells_rel (P := P) hW hp' hus' hone hw
              cases ha'
              refine ⟨_, w', Im, T', ?_, .sc _, hW', hF⟩
              have hmin : Nat.min m len = min m len := rfl
              simp [Builtin.copy_, run_underlying hu, hl1, run_sizeOf hk, hmin, hf, hrun, goInt]
          · cases h
        · cases h
      · cases h
        cases hd
        have hf := hl2 w rfl 0 (by omega)
        refine .same hW ?_ (.sc _)
        simp [Builtin.copy_, run_underlying hu, hl1, run_sizeOf hk, hf, goInt]
      · cases h

def clearA (P : Program) (σ : Sto) (t0 : TypeId) (d : AV) : Option (AV × Sto) :=
  match elemOfT P t0 with
  | none => none
  | some (e, k) => match zeroA P e with
    | none => none
    | some z => match d with
      | .fs _ 0 => some (.tup [], σ)
      | .sc (.slice none _ _) => some (.tup [], σ)
      | .ms l g off len k' => if len = 0 then some (.tup [], σ) else if k' = k ∧ z.length = k ∧ (zerosA z (len * k)).all AV.one = true then match wrCells σ (.mp l g off) (zerosA z (len * k)) with
        | some σ' => some (.tup [], σ')
        | none => none else none
      | _ => none
theorem clearA_snd (hW : WRel w Im σ T) {t0 ty : TypeId} {d y : AV} {vd : Value} (hd : Rel w Im T vd d) (h : clearA P σ t0 d = some (y, σ')) : SndV P (Builtin.clear_ #[t0] ty #[vd]) w Im σ T y σ' := by
  have hun : Rel w Im T (.tuple #[]) (.tup []) := .tup _ _ rfl (fun i x v hx _ => by simp at hx)
  unfold clearA at h
  split at h
  · cases h
  · rename_i e k he
    obtain ⟨hu, hk⟩ := elemOfT_spec he
    split at h
    · cases h
    · rename_i z hz
      obtain ⟨zv, hz1, rfl, _⟩ := zeroA_run hz
      split at h
      · cases h
        cases hd <;> exact .same hW (by simp [Builtin.clear_, run_underlying hu]) hun
      · cases h
        cases hd
        exact .same hW (by simp [Builtin.clear_, run_underlying hu]) hun
      · rename_i l g off len k'
        split at h
        · rename_i h0
          subst h0
          cases h
          cases hd
          exact .same hW (by simp [Builtin.clear_, run_underlying hu]) hun
        · rename_i h0
          split at h
          · rename_i hb
            obtain ⟨rfl, hzl, hone⟩ := hb
            split at h
            · rename_i σ'' hw
              cases h
              cases hd with
              | ms a _ _ _ _ _ cap p hp hge hlc hsp hpl =>
                have hp' : Rel w Im T (.pointer (some a)) (.mp l g off) := .mp a l g off p hp hge (fun e => (hpl e).1)
                have hzs : zv.cells.size = k' := by simpa using hzl
                obtain ⟨a', w', T', ha', hrun, hW', hF⟩ := storeCells_rel (P := P) hW hp' (zeroCells_rel zv.cells len k' hzs) hone hw
                cases ha'
                refine ⟨.tuple #[], w', Im, T', ?_, .tup _ _ rfl (fun i x v hx _ => by simp at hx), hW', hF⟩
                have : ∃ m, len = m + 1 := ⟨len - 1, by omega⟩
                obtain ⟨m, rfl⟩ := this
                simp [Builtin.clear_, run_underlying hu, hz1, hrun]
            · cases h
          · cases h
      · cases h

def lenA (P : Program) (t : TypeId) (x : AV) : Option AV := match P.underlying t with
  | some (.slice _) => match x with
    | .fs _ len => some (.sc (.int .i64 len))
    | .ms _ _ _ len _ => some (.sc (.int .i64 len))
    | .sc (.slice _ n _) => some (.sc (.int .i64 n))
    | _ => none
  | some .string => match x with
    | .sc (.string s) => some (.sc (.int .i64 s.size))
    | _ => none
  | _ => none
theorem lenA_snd (hW : WRel w Im σ T) {t ty : TypeId} {x y : AV} {v : Value} (hr : Rel w Im T v x) (h : lenA P t x = some y) : SndV P (Builtin.len_ #[t] ty #[v]) w Im σ T y σ := by
  unfold lenA at h
  split at h
  · rename_i e hu
    split at h
    · cases h; cases hr <;> exact .same hW (by simp [Builtin.len_, run_underlying hu, goInt]) (.sc _)
    · cases h; cases hr; exact .same hW (by simp [Builtin.len_, run_underlying hu, goInt]) (.sc _)
    · cases h; cases hr; exact .same hW (by simp [Builtin.len_, run_underlying hu, goInt]) (.sc _)
    · cases h
  · rename_i hu
    split at h
    · cases h; cases hr; exact .same hW (by simp [Builtin.len_, run_underlying hu, goInt]) (.sc _)
    · cases h
  · cases h

/-- Bytes out of cells. -/
def unbytes : List AV → Option (List UInt8)
  | [] => some []
  | .sc (.int .u8 n) :: rest => match unbytes rest with
    | some l => some (UInt8.ofNat n.toNat :: l)
    | none => none
  | _ => none
theorem unbytes_rel : ∀ (xs : List AV) (us : List Value) (l : List UInt8), RelL w Im T us xs → unbytes xs = some l → ∃ ns : List Int, us = ns.map (Value.int .u8) ∧ ns.map (fun n => UInt8.ofNat n.toNat) = l
  | [], us, l, h, h1 => by
    simp only [unbytes, Option.some.injEq] at h1
    subst h1
    exact ⟨[], List.length_eq_zero_iff.1 h.1, rfl⟩
  | x :: xs, [], l, h, h1 => by have := h.1; simp at this
  | x :: xs, u :: us, l, h, h1 => by
    unfold unbytes at h1
    split at h1
    · rename_i e; cases e
    · rename_i n rest e
      cases e
      split at h1
      · rename_i l' hl'
        cases h1
        obtain ⟨ns, e1, e2⟩ := unbytes_rel xs us l' ⟨by have := h.1; simpa using this, fun i x v hx hv => h.2 (i + 1) x v hx hv⟩ hl'
        have h0 := h.2 0 _ u rfl rfl
        cases h0
        exact ⟨n :: ns, by simp [e1], by simp [e2]⟩
      · cases h1
    · cases h1
theorem unbytes_bytesA (s : ByteArray) : unbytes (bytesA s) = some s.data.toList := by
  unfold bytesA
  induction s.data.toList with
  | nil => rfl
  | cons b l ih => simp [unbytes, ih]

theorem slcCells_sc {u : Value} {k n : Nat} {ys : List AV} (h : slcCells σ (.sc u) k = some (n, ys)) : (u = .slice none 0 0 ∧ n = 0 ∧ ys = []) ∨ ∃ s, u = .string s := by
  cases u with
  | string s => exact .inr ⟨s, rfl⟩
  | slice a l c =>
    cases a with
    | none =>
      cases l with
      | zero =>
        cases c with
        | zero => simp only [slcCells, Option.some.injEq, Prod.mk.injEq] at h; exact .inl ⟨rfl, h.1.symm, h.2.symm⟩
        | succ c => simp [slcCells] at h
      | succ l => simp [slcCells] at h
    | some a => simp [slcCells] at h
  | _ => simp [slcCells] at h

def isStrA : AV → Bool
  | .sc (.string _) => true
  | _ => false
def convA (P : Program) (σ : Sto) (src dst : TypeId) (x : AV) : Option AV :=
  match P.underlying src, P.underlying dst, x with
  | some (.int _), some (.int k), .sc (.int _ n) => some (.sc (.int k (k.wrap n)))
  | some .string, some .string, .sc (.string s) => some (.sc (.string s))
  | some .string, some (.slice e), .sc (.string s) => match P.underlying e with
    | some (.int .u8) => some (.fs (bytesA s) s.size)
    | _ => none
  | some (.slice e), some .string, x => match P.underlying e with
    | some (.int .u8) => match slcCells σ x 1 with
      | some (_, cells) => if isStrA x = true then none else match unbytes cells with
        | some l => some (.sc (.string ⟨l.toArray⟩))
        | none => none
      | none => none
    | _ => none
  | _, _, _ => none
theorem convA_snd (hW : WRel w Im σ T) {src dst : TypeId} {x y : AV} {v : Value} (hr : Rel w Im T v x) (h : convA P σ src dst x = some y) : SndV P (convert src dst v) w Im σ T y σ := by
  unfold convA at h
  split at h
  · rename_i k0 k k1 n hs hd
    cases h; cases hr
    exact .same hW (by simp [convert, run_underlying hs, run_underlying hd, Conv.intToInt]) (.sc _)
  · rename_i s hs hd
    cases h; cases hr
    exact .same hW (by simp [convert, run_underlying hs, run_underlying hd]) (.sc _)
  · rename_i e s hs hd
    split at h
    · rename_i he
      cases h; cases hr
      have hrun := Lib.run_convert_string_bytes w src dst e s hs hd he
      have hge : s.size ≤ grownCap w s.size 0 e := grownCap_ge w s.size 0 e
      have hsz := Lib.bytesWorld_size w e s
      have hi' : ∀ b, (Im b ∨ b = w.heap.size) → Im b ∨ (w.heap.size ≤ b ∧ b < (Lib.bytesWorld w e s).heap.size) := fun b hb => by
        rcases hb with h1 | h1
        · exact .inl h1
        · exact .inr (by rw [hsz]; omega)
      have hW' : WRel (Lib.bytesWorld w e s) (fun b => Im b ∨ b = w.heap.size) σ T := hW.world (by rw [hsz]; omega) (fun b hb => Lib.bytesWorld_at_old w e s b hb) (fun _ h => .inl h) hi'
      have hF : Fut w Im σ T (Lib.bytesWorld w e s) (fun b => Im b ∨ b = w.heap.size) σ T := .world (by simp [Lib.bytesWorld, World.freeze, World.alloc, World.drew, -World.alloc_eq, -World.drew_eq]) (by simp [Lib.bytesWorld, World.freeze, World.alloc, World.drew, -World.alloc_eq, -World.drew_eq]) (by simp [Lib.bytesWorld, World.freeze, World.alloc, World.drew, -World.alloc_eq, -World.drew_eq])
        (by rw [hsz]; omega) (fun b hb => Lib.bytesWorld_at_old w e s b hb) (fun _ h => .inl h) hi'
      refine ⟨_, _, _, _, hrun, ?_, hW', hF⟩
      refine Rel.fs_of (o := 0) (Lib.bytesWorld_at_new w e s) (.inr rfl) (by simp [bytesA, Lib.bytesCells]) hge (fun i x v hx hv => ?_)
      have hi : i < s.size := by have := lt_of_get hx; simpa [bytesA] using this
      simp only [Lib.bytesCells, Nat.zero_add] at hv
      rw [Array.getElem?_append_left (by simpa using hi)] at hv
      simp only [bytesA, List.getElem?_map, Array.getElem?_toList] at hx
      simp only [Array.getElem?_map] at hv
      cases hb : s.data[i]? with
      | none => rw [hb] at hx; simp at hx
      | some b => rw [hb] at hx hv; simp at hx hv; rw [← hx, ← hv]; exact .sc _
    · cases h
  · rename_i x' _ _ _ e hs hd
    split at h
    · rename_i he
      split at h
      · rename_i n cells hc
        obtain ⟨hlen, us, hus, hl1, hl2⟩ := slcCells_rel (P := P) hW hr hc
        split at h
        · cases h
        rename_i hstr
        split at h
        · rename_i l hl
          cases h
          obtain ⟨ns, rfl, rfl⟩ := unbytes_rel cells us l hus hl
          have hf := hl2 w rfl n (Nat.le_refl _)
          have hul : (ns.map (Value.int .u8)).length = n * 1 := by rw [hus.1, hlen]
          rw [← hul, List.take_length] at hf
          cases x' with
          | fs cs len =>
            cases hr with
            | fs b o _ cap _ vs hl h1 h2 =>
              simp only [slcCells] at hc
              split at hc
              · simp only [Option.some.injEq, Prod.mk.injEq] at hc
                obtain ⟨rfl, rfl⟩ := hc
                simp only [Builtin.firstCells, Nat.mul_one] at hf
                have := run_bytesToString w ⟨b, o, none⟩ len cap ns hf
                rw [foldl_push_bytes] at this
                have hconv : (convert src dst (.slice (some ⟨b, o, none⟩) len cap)).run P w = (Conv.bytesToString (.slice (some ⟨b, o, none⟩) len cap)).run P w := by simp [convert, run_underlying hs, run_underlying hd, run_underlying he]
                refine .same hW (hconv.trans this) ?_
                have : (⟨ByteArray.empty.data ++ (ns.map fun n => UInt8.ofNat n.toNat).toArray⟩ : ByteArray) = ⟨(ns.map fun n => UInt8.ofNat n.toNat).toArray⟩ := by
                  congr 1; apply Array.ext'; simp [ByteArray.empty, ByteArray.emptyWithCapacity]; try rfl
                rw [this]; exact .sc _
              · cases hc
            | fn0 =>
              simp only [slcCells, List.length_nil, Nat.zero_mul, if_true, Option.some.injEq, Prod.mk.injEq] at hc
              obtain ⟨rfl, rfl⟩ := hc
              obtain rfl : ns = [] := List.length_eq_zero_iff.1 (by have := hus.1; simpa using this)
              exact .same hW (v := .string ⟨#[]⟩) (by simp [convert, run_underlying hs, run_underlying hd, run_underlying he, Conv.bytesToString]; rfl) (.sc _)
            | fs0 a cap =>
              simp only [slcCells, List.length_nil, Nat.zero_mul, if_true, Option.some.injEq, Prod.mk.injEq] at hc
              obtain ⟨rfl, rfl⟩ := hc
              obtain rfl : ns = [] := List.length_eq_zero_iff.1 (by have := hus.1; simpa using this)
              simp only [Builtin.firstCells, Nat.mul_one] at hf
              have := run_bytesToString w a 0 cap [] hf
              rw [foldl_push_bytes] at this
              have hconv : (convert src dst (.slice (some a) 0 cap)).run P w = (Conv.bytesToString (.slice (some a) 0 cap)).run P w := by simp [convert, run_underlying hs, run_underlying hd, run_underlying he]
              exact .same hW (v := .string ⟨#[]⟩) (hconv.trans (this.trans (by simp [ByteArray.empty, ByteArray.emptyWithCapacity]; try rfl))) (.sc _)
          | ms l g off len k =>
            cases hr with
            | ms a _ _ _ _ _ cap p hp hge hlc hsp hpl =>
              simp only [slcCells] at hc
              split at hc
              · split at hc
                · simp only [Option.some.injEq, Prod.mk.injEq] at hc
                  obtain ⟨rfl, rfl⟩ := hc
                  simp only [Builtin.firstCells, Nat.mul_one] at hf
                  have := run_bytesToString w a len cap ns hf
                  rw [foldl_push_bytes] at this
                  have hconv : (convert src dst (.slice (some a) len cap)).run P w = (Conv.bytesToString (.slice (some a) len cap)).run P w := by simp [convert, run_underlying hs, run_underlying hd, run_underlying he]
                  refine .same hW (hconv.trans this) ?_
                  have : (⟨ByteArray.empty.data ++ (ns.map fun n => UInt8.ofNat n.toNat).toArray⟩ : ByteArray) = ⟨(ns.map fun n => UInt8.ofNat n.toNat).toArray⟩ := by
                    congr 1; apply Array.ext'; simp [ByteArray.empty, ByteArray.emptyWithCapacity]; try rfl
                  rw [this]; exact .sc _
                · cases hc
              · cases hc
          | sc u =>
            rcases slcCells_sc hc with ⟨rfl, rfl, rfl⟩ | ⟨s, rfl⟩
            · cases hr
              obtain rfl : ns = [] := List.length_eq_zero_iff.1 (by have := hus.1; simpa using this)
              exact .same hW (v := .string ⟨#[]⟩) (by simp [convert, run_underlying hs, run_underlying hd, run_underlying he, Conv.bytesToString]; rfl) (.sc _)
            · exact absurd rfl hstr
          | _ => simp [slcCells] at hc
        · cases h
      · cases h
    · cases h
  · cases h
end
end Go.Proofs.Ytemijcjgdgdhjaa
