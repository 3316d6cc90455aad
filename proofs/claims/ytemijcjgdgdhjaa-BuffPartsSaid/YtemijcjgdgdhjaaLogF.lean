/- The last operations on values without memory: rows that grow, copies, texts and bytes, what is compared. No program. -/
import Derived.Test.YtemijcjgdgdhjaaLogE
import Derived.Test.YtemijcjgdgdhjaaPlain
import Derived.Lib.ConvBytes
namespace Go.Proofs.Ytemijcjgdgdhjaa
open Go.RowKit

section
variable {P : Program} {w : World} {Im : Nat → Prop} {σ σ' : Sto} {T : Tab}

def notIntT (P : Program) (t : TypeId) : Bool := match P.underlying t with
  | some (.slice _) => true
  | some .string => true
  | _ => false
theorem notIntT_spec {t : TypeId} (h : notIntT P t = true) : P.underlying t = some .string ∨ ∃ e, P.underlying t = some (.slice e) := by
  unfold notIntT at h
  split at h
  · rename_i e he; exact .inr ⟨e, he⟩
  · rename_i he; exact .inl he
  · cases h

theorem run_append_in {w : World} {t0 t1 ty e : TypeId} {k n sLen sCap b o : Nat} {tt : TypeId} {cur : Array Value} {us : List Value} {xv : Value} (hu : P.underlying t0 = some (.slice e)) (hk : sizeT P e = some k) (h1 : P.underlying t1 = some .string ∨ ∃ e, P.underlying t1 = some (.slice e))
    (hlen : (Builtin.lenOf xv).run P w = .ok n w) (hus : (Builtin.firstCells k n xv).run P w = .ok us.toArray w) (hone : ∀ u ∈ us, u.oneCell' = true)
    (hb : w.heap[b]? = some (.cells cur tt (0, 0))) (hcap : sLen + n ≤ sCap) (hfit : o + sLen * k + us.length ≤ cur.size) :
    (Builtin.append_ #[t0, t1] ty #[.slice (some ⟨b, o, none⟩) sLen sCap, xv]).run P w = .ok (.slice (some ⟨b, o, none⟩) (sLen + n) sCap) (w.setRow b (cur.toList.take (o + sLen * k) ++ us ++ cur.toList.drop (o + sLen * k + us.length)).toArray) := by
  have hst := run_storeCells_at P b (o + sLen * k) tt us 0 cur w hb (by omega) hone
  simp only [Nat.add_zero] at hst
  rcases h1 with h1 | ⟨e1, h1⟩ <;> simp [Builtin.append_, run_underlying hu, run_underlying h1, run_sizeOf hk, hlen, hcap, hus, Addr.add_lit, hst]
theorem run_append_out {w : World} {t0 t1 ty e : TypeId} {k n by_ sLen sCap : Nat} {us os : List Value} {sa : Option Addr} {xv zv : Value} (hu : P.underlying t0 = some (.slice e)) (hk : sizeT P e = some k) (hby : bytesT P e = some by_) (hz : ∀ w : World, (zeroValue e).run P w = .ok zv w) (h1 : P.underlying t1 = some .string ∨ ∃ e, P.underlying t1 = some (.slice e))
    (hlen : (Builtin.lenOf xv).run P w = .ok n w) (hus : (Builtin.firstCells k n xv).run P w.drew = .ok us.toArray w.drew) (hos : (Builtin.firstCells k sLen (.slice sa sLen sCap)).run P w.drew = .ok os.toArray w.drew)
    (hcap : ¬ sLen + n ≤ sCap) (h47 : (sLen + n) * by_ ≤ 140737488355328) (h62 : sLen + n ≤ 140737488355328) :
    (Builtin.append_ #[t0, t1] ty #[.slice sa sLen sCap, xv]).run P w = .ok (.slice (some ⟨w.heap.size, 0, none⟩) (sLen + n) (grownCap w (sLen + n) sCap e))
      (w.drew.alloc (.cells (os.toArray ++ us.toArray ++ Builtin.zeroCells zv.cells (grownCap w (sLen + n) sCap e - (sLen + n))) e)) := by
  obtain ⟨ie, hie, rfl⟩ := Option.map_eq_some_iff.1 hby
  have hfit := growslice_fits (old := sCap) (need := sLen + n) (bytes := ie.bytes) (by omega) h47
  have h63' : ¬ (9223372036854775807 < ((sLen : Int) + (n : Int))) := by omega
  have h48' : ¬ (281474976710656 < Builtin.nextslicecap (sLen + n) sCap * ie.bytes) := by omega
  rcases h1 with h1 | ⟨e1, h1⟩ <;> simp [Builtin.append_, run_underlying hu, run_underlying h1, run_sizeOf hk, typeInfo, hie, hlen, hcap, hus, hos, h63', h48', hz, Question.forced, newRow, grownCap] <;> (congr 2; apply Array.ext'; simp)

def intT (P : Program) (t : TypeId) : Bool := match P.underlying t with
  | some (.int _) => true
  | _ => false
/-- What an append appends: how many, and their cells. -/
def srcA (P : Program) (σ : Sto) (t1 : TypeId) (x : AV) (z : List AV) (k by_ : Nat) : Option (Nat × List AV) :=
  if notIntT P t1 = true then slcCells σ x k
  else if intT P t1 = true then match x with
    | .sc (.int _ m) => if 0 ≤ m ∧ m ≤ 281474976710656 ∧ m * by_ ≤ 281474976710656 then some (m.toNat, zerosA z (m.toNat * k)) else none
    | _ => none
  else none
/-- What append does, once it is known what it appends. -/
structure Src (P : Program) (w : World) (t0 t1 ty e : TypeId) (k n by_ : Nat) (zv xv : Value) (us : List Value) : Prop where
  len : us.length = n * k
  zero : n = 0 → ∀ (sa : Option Addr) (l c : Nat), l ≤ c → (Builtin.append_ #[t0, t1] ty #[.slice sa l c, xv]).run P w = .ok (.slice sa l c) w
  inn : ∀ (sLen sCap b o : Nat) (cur : Array Value) (tt : TypeId), (∀ u ∈ us, u.oneCell' = true) → w.heap[b]? = some (.cells cur tt (0, 0)) → sLen + n ≤ sCap → o + sLen * k + us.length ≤ cur.size →
    (Builtin.append_ #[t0, t1] ty #[.slice (some ⟨b, o, none⟩) sLen sCap, xv]).run P w = .ok (.slice (some ⟨b, o, none⟩) (sLen + n) sCap) (w.setRow b (cur.toList.take (o + sLen * k) ++ us ++ cur.toList.drop (o + sLen * k + us.length)).toArray)
  out : ∀ (sa : Option Addr) (sLen sCap : Nat) (os : List Value), (Builtin.firstCells k sLen (.slice sa sLen sCap)).run P w.drew = .ok os.toArray w.drew → ¬ sLen + n ≤ sCap → (sLen + n) * by_ ≤ 140737488355328 → sLen + n ≤ 140737488355328 →
    (Builtin.append_ #[t0, t1] ty #[.slice sa sLen sCap, xv]).run P w = .ok (.slice (some ⟨w.heap.size, 0, none⟩) (sLen + n) (grownCap w (sLen + n) sCap e)) (w.drew.alloc (.cells (os.toArray ++ us.toArray ++ Builtin.zeroCells zv.cells (grownCap w (sLen + n) sCap e - (sLen + n))) e))
theorem zeroCells_rel (z : Array Value) (n k : Nat) (hk : z.size = k) : RelL w Im T (Builtin.zeroCells z n).toList (zerosA (z.toList.map .sc) (n * k)) := by
  refine ⟨by rw [zerosA_length]; simp [Builtin.zeroCells, hk], fun i x v hx hv => ?_⟩
  have : x = .sc v := by
    refine zerosA_rel z (n * k) i x v hx ?_
    unfold Builtin.zeroCells at hv
    rw [hk] at hv ⊢
    simp only [Array.getElem?_toList] at hv
    exact hv
  rw [this]; exact .sc v
theorem srcA_rel (hW : WRel w Im σ T) {t0 t1 ty e : TypeId} {k n by_ : Nat} {x : AV} {vx zv : Value} {new : List AV} (hu : P.underlying t0 = some (.slice e)) (hk : sizeT P e = some k) (hby : bytesT P e = some by_) (hz1 : ∀ w : World, (zeroValue e).run P w = .ok zv w) (hzs : zv.cells.size = k)
    (hx : Rel w Im T vx x) (h : srcA P σ t1 x (zv.cells.toList.map .sc) k by_ = some (n, new)) : ∃ us, RelL w Im T us new ∧ Src P w t0 t1 ty e k n by_ zv vx us := by
  unfold srcA at h
  split at h
  · rename_i hn
    have hd1 := notIntT_spec hn
    obtain ⟨hlen, us, hus, hl1, hl2⟩ := slcCells_rel (P := P) hW hx h
    have hul : us.length = n * k := by rw [hus.1, hlen]
    have hf1 := hl2 w rfl n (Nat.le_refl _)
    have hf2 := hl2 w.drew rfl n (Nat.le_refl _)
    rw [← hul, List.take_length] at hf1 hf2
    refine ⟨us, hus, hul, fun h0 sa l c hlc => ?_, fun sLen sCap b o cur tt hone hb hc hf => run_append_in hu hk hd1 (hl1 w) hf1 hone hb hc hf, fun sa sLen sCap os hos hc h47 h62 => run_append_out hu hk hby hz1 hd1 (hl1 w) hf2 hos hc h47 h62⟩
    subst h0
    have e0 : us = [] := List.length_eq_zero_iff.1 (by rw [hul]; simp)
    rw [e0] at hf1
    cases sa <;> rcases hd1 with h1 | ⟨e1, h1⟩ <;> simp [Builtin.append_, run_underlying hu, run_underlying h1, run_sizeOf hk, hl1, hf1, hlc, storeCells]
  · split at h
    · rename_i hint
      split at h
      · rename_i ik m
        split at h
        · rename_i hb
          obtain ⟨b1, b2, b3⟩ := hb
          simp only [Option.some.injEq, Prod.mk.injEq] at h
          obtain ⟨rfl, rfl⟩ := h
          cases hx
          obtain ⟨k1, h1⟩ : ∃ k1, P.underlying t1 = some (.int k1) := by
            unfold intT at hint
            split at hint
            · rename_i k1 e1; exact ⟨k1, e1⟩
            · cases hint
          obtain ⟨ie, hie, rfl⟩ := Option.map_eq_some_iff.1 hby
          have hw : IntKind.i64.wrap m = m := by rw [IntKind.wrap_i64]; omega
          have hm0 : ¬ m < 0 := by omega
          have hm1 : ¬ (281474976710656 : Int) < m * ie.bytes := by omega
          have hmm : max m 0 = m := by omega
          refine ⟨(Builtin.zeroCells zv.cells m.toNat).toList, zeroCells_rel _ _ _ hzs, by simp [Builtin.zeroCells, hzs], fun h0 sa l c hlc => ?_, fun sLen sCap b o cur tt hone hb hc hf => ?_, fun sa sLen sCap os hos hc h47 h62 => ?_⟩
          · have hm : m.toNat = 0 := h0
            have hm' : m = 0 := by omega
            subst hm'
            cases sa <;> simp [Builtin.append_, run_underlying hu, run_underlying h1, run_sizeOf hk, asInt, asIntOf, typeInfo, hie, hw, hlc, storeCells]
          · have hst := run_storeCells_at P b (o + sLen * k) tt (Builtin.zeroCells zv.cells m.toNat).toList 0 cur w hb (by omega) hone
            simp only [Nat.add_zero] at hst
            by_cases h0 : m.toNat * k = 0
            · have hzc : (Builtin.zeroCells zv.cells m.toNat).toList = [] := List.length_eq_zero_iff.1 (by simp [Builtin.zeroCells, hzs, h0])
              rw [hzc] at hst ⊢
              simp [Builtin.append_, run_underlying hu, run_underlying h1, run_sizeOf hk, asInt, asIntOf, typeInfo, hie, hw, hm0, hm1, hc, h0, Addr.add_lit, hst]
            · simp [Builtin.append_, run_underlying hu, run_underlying h1, run_sizeOf hk, asInt, asIntOf, typeInfo, hie, hw, hm0, hm1, hc, h0, Addr.add_lit, hz1, hst]
          · have hfit := growslice_fits (old := sCap) (need := sLen + m.toNat) (bytes := ie.bytes) (by omega) h47
            have h63'' : ¬ (9223372036854775807 < ((sLen : Int) + m)) := by omega
            have h48' : ¬ (281474976710656 < Builtin.nextslicecap (sLen + m.toNat) sCap * ie.bytes) := by omega
            by_cases h0 : m.toNat * k = 0
            · have hzc : Builtin.zeroCells zv.cells m.toNat = #[] := Array.eq_empty_of_size_eq_zero (by simp [Builtin.zeroCells, hzs, h0])
              rw [hzc]
              simp [Builtin.append_, run_underlying hu, run_underlying h1, run_sizeOf hk, asInt, asIntOf, typeInfo, hie, hw, hm0, hm1, hmm, hc, hos, h63'', h48', hz1, h0, Question.forced, newRow, grownCap]
            · simp [Builtin.append_, run_underlying hu, run_underlying h1, run_sizeOf hk, asInt, asIntOf, typeInfo, hie, hw, hm0, hm1, hmm, hc, hos, h63'', h48', hz1, h0, Question.forced, newRow, grownCap]
              try (congr 2; apply Array.ext'; simp)
        · cases h
      · cases h
    · cases h

def appendA (P : Program) (mu : Bool) (σ : Sto) (t0 t1 : TypeId) (s x : AV) : Option (AV × Sto) :=
  match elemOfT P t0 with
  | none => none
  | some (e, k) => match zeroA P e, bytesT P e with
    | some z, some by_ => match srcA P σ t1 x z k by_ with
      | none => none
      | some (n, new) =>
      if new.all AV.one = true ∧ z.length = k then
        match s with
        | .sc (.slice none 0 0) => if n = 0 then some (s, σ) else if n * by_ ≤ 140737488355328 ∧ n ≤ 140737488355328 then some (bornS mu σ new n k) else none
        | .ms l g off len k' => match σ[l]? with
          | some o => if o.gen = g ∧ o.frz = false ∧ k' = k ∧ off + len * k ≤ o.cells.length ∧ (len + n) * by_ ≤ 140737488355328 ∧ len + n ≤ 140737488355328 then
              if 0 < k ∧ off + (len + n) * k ≤ o.cells.length then some (.ms l g off (len + n) k, σ.set l ⟨wr o.cells (off + len * k) new, o.gen, false, false⟩)
              else if o.full = true ∧ 0 < k then some (bornS mu σ ((o.cells.drop off).take (len * k) ++ new) (len + n) k)
              else some (.ms l (g + 1) 0 (len + n) k, σ.set l ⟨(o.cells.drop off).take (len * k) ++ new, g + 1, false, false⟩) else none
          | none => none
        | .fs _ _ => if n = 0 then some (s, σ) else none
        | _ => none
      else none
    | _, _ => none
theorem appendA_snd (hW : WRel w Im σ T) {mu : Bool} {t0 t1 ty : TypeId} {s x y : AV} {vs vx : Value} (hs : Rel w Im T vs s) (hx : Rel w Im T vx x) (h : appendA P mu σ t0 t1 s x = some (y, σ')) : SndV P (Builtin.append_ #[t0, t1] ty #[vs, vx]) w Im σ T y σ' := by
  unfold appendA at h
  split at h
  · cases h
  · rename_i e k he
    obtain ⟨hu, hk⟩ := elemOfT_spec he
    split at h
    · rename_i z by_ hz hby
      obtain ⟨zv, hz1, rfl, hz2⟩ := zeroA_run hz
      split at h
      · cases h
      rename_i n new hnew
      split at h
      · rename_i hc
        obtain ⟨c2, c3⟩ := hc
        have hzs : zv.cells.size = k := by simpa using c3
        obtain ⟨us, hus, hsrc⟩ := srcA_rel (ty := ty) hW hu hk hby hz1 hzs hx hnew
        have hul : us.length = n * k := hsrc.len
        have hlen : new.length = n * k := by rw [← hus.1, hul]
        have hone := all_one hus c2
        split at h
        · split at h
          · rename_i h0
            cases h
            cases hs
            exact .same hW (hsrc.zero h0 none 0 0 (Nat.le_refl _)) (.sc _)
          · rename_i h0
            split at h
            · rename_i hb
              cases hs
              simp only [Option.some.injEq] at h
              have hrun := hsrc.out none 0 0 [] (by simp [Builtin.firstCells]) (by omega) (by simpa using hb.1) (by omega)
              simp only [Nat.zero_add] at hrun
              have hge : n ≤ grownCap w n 0 e := grownCap_ge w n 0 e
              have hsz : (([] : List Value).toArray ++ us.toArray ++ Builtin.zeroCells zv.cells (grownCap w n 0 e - n)).size = grownCap w n 0 e * k := by
                simp only [Array.size_append, size_zeroCells, hzs, List.size_toArray, hul, List.length_nil, Nat.zero_add]; rw [← Nat.add_mul]; congr 1; omega
              obtain ⟨Im', T', q1, q2, q3⟩ := bornS_rel hW.drew mu (([] : List Value).toArray ++ us.toArray ++ Builtin.zeroCells zv.cells (grownCap w n 0 e - n)) e new n k (grownCap w n 0 e) (by rw [hsz, hlen]; exact Nat.mul_le_mul_right _ hge) hge hsz.symm
                (fun i x v hx hv => by
                  have hi : i < us.length := by rw [hus.1]; exact lt_of_get hx
                  refine (hus.2 i x v hx ?_).drew
                  rw [Array.append_assoc, Array.getElem?_append_right (by simp), Array.getElem?_append_left (by simpa using hi)] at hv
                  simpa using hv)
              rw [h] at q1 q2 q3
              exact ⟨_, _, Im', T', hrun, q1, q2, (Fut.drew _ _ _ _).trans q3⟩
            · cases h
        · rename_i l g off len k'
          split at h
          · rename_i o ho
            split at h
            · rename_i hb
              obtain ⟨hg, hfz, rfl, hle, h47, h62⟩ := hb
              cases hs with
              | ms a _ _ _ _ _ cap p hp hge hlc hsp hpl =>
                have hgen := hW.gen l o p ho hp
                obtain ⟨ha, hcap⟩ := hpl (by omega)
                obtain ⟨c, t, fz, hc, hfz', hsz, hrel⟩ := hW.obj l o p ho hp
                have hrm := hW.room l o p ho hp
                obtain rfl := hfz' hfz
                subst ha
                have hxs : ((o.cells.drop off).take (len * k')).length = len * k' := by rw [List.length_take, List.length_drop]; omega
                have hadd : (len + n) * k' = len * k' + n * k' := Nat.add_mul _ _ _
                split at h
                · rename_i hin
                  obtain ⟨hk0, hin⟩ := hin
                  cases h
                  have hroom : len + n ≤ cap := by
                    refine Nat.le_of_mul_le_mul_right (c := k') ?_ hk0
                    omega
                  have hrun := hsrc.inn len cap p.blk (p.base + off) c t hone hc hroom (by omega)
                  have hwl : off + len * k' + new.length ≤ o.cells.length := by omega
                  have key := hW.change (w' := w.setRow p.blk (c.toList.take (p.base + off + len * k') ++ us ++ c.toList.drop (p.base + off + len * k' + us.length)).toArray)
                    (o' := ⟨wr o.cells (off + len * k') new, o.gen, false, false⟩) (p' := p) ho hp hfz rfl rfl rfl (by rw [setRow_size]; exact Nat.le_refl _)
                    (fun b _ hne => setRow_other _ _ _ _ hne) (.inl rfl) (Nat.le_refl _) (fun _ => rfl) hgen.symm rfl (by rw [wr_length _ _ _ hwl]; exact hrm) (fun e => by cases e) (setRow_heap w p.blk c _ t (0, 0) hc)
                    (by simp; omega) (by
                      intro i x v hx hv
                      simp only [wr_get _ _ _ hwl] at hx
                      simp only [List.getElem?_toArray] at hv
                      split at hx
                      · rename_i hi
                        refine hus.2 _ x v hx ?_
                        rw [List.append_assoc, List.getElem?_append_right (by simp; omega), List.getElem?_append_left (by simp; omega)] at hv
                        rw [← hv]; congr 1; simp; omega
                      · rename_i hi
                        refine hrel i x v hx ?_
                        rcases Nat.lt_or_ge i (off + len * k') with h2 | h2
                        · rw [List.append_assoc, List.getElem?_append_left (by simp; omega), List.getElem?_take_of_lt (by omega)] at hv
                          simpa using hv
                        · rw [List.getElem?_append_right (by simp; omega), List.getElem?_drop] at hv
                          rw [← Array.getElem?_toList, ← hv]; congr 1; simp; omega)
                  refine ⟨_, _, _, _, hrun, .ms _ _ _ _ _ _ _ p (by rw [List.getElem?_set_self (lt_of_get hp)]) hge hroom rfl (fun _ => ⟨rfl, hcap⟩), key.1, key.2⟩
                rename_i hnin
                split at h
                · rename_i hfull
                  obtain ⟨hfull, hk0⟩ := hfull
                  have hrf := hW.full l o p ho hp hfull
                  simp only [Option.some.injEq] at h
                  have hroom : ¬ len + n ≤ cap := fun hroom => by
                    have hmul : (len + n) * k' ≤ cap * k' := Nat.mul_le_mul_right _ hroom
                    exact hnin ⟨hk0, by omega⟩
                  obtain ⟨_, os, hos, _, ho2⟩ := slcCells_rel (P := P) (x := .ms l g off len k') (k := k') (n := len) (ys := (o.cells.drop off).take (len * k')) hW (.ms ⟨p.blk, p.base + off, none⟩ l g off len k' cap p hp hge hlc rfl (fun _ => ⟨rfl, hcap⟩)) (by simp [slcCells, ho, hg, hle])
                  have hof := ho2 w.drew rfl len (Nat.le_refl _)
                  have hol : os.length = len * k' := by rw [hos.1, hxs]
                  rw [← hol, List.take_length] at hof
                  have hrun := hsrc.out (some ⟨p.blk, p.base + off, none⟩) len cap os hof hroom h47 h62
                  have hge : len + n ≤ grownCap w (len + n) cap e := grownCap_ge w (len + n) cap e
                  generalize grownCap w (len + n) cap e = gc at hrun hge
                  have hsub : (len + n) * k' + (gc - (len + n)) * k' = gc * k' := by rw [← Nat.add_mul]; congr 1; omega
                  have hcs : (os.toArray ++ us.toArray ++ Builtin.zeroCells zv.cells (gc - (len + n))).size = gc * k' := by
                    simp only [Array.size_append, size_zeroCells, hzs, List.size_toArray, hul, hol]; omega
                  obtain ⟨Im', T', q1, q2, q3⟩ := bornS_rel hW.drew mu (os.toArray ++ us.toArray ++ Builtin.zeroCells zv.cells (gc - (len + n))) e ((o.cells.drop off).take (len * k') ++ new) (len + n) k' gc (by rw [hcs, List.length_append, hxs, hlen]; omega) hge hcs.symm
                    (fun i x v hx hv => by
                      rcases Nat.lt_or_ge i (len * k') with h2 | h2
                      · rw [List.getElem?_append_left (by omega)] at hx
                        rw [Array.append_assoc, Array.getElem?_append_left (by simp; omega)] at hv
                        exact (hos.2 i x v hx (by simpa using hv)).drew
                      · rw [List.getElem?_append_right (by omega), hxs] at hx
                        have hi2 : i - len * k' < us.length := by rw [hus.1]; exact lt_of_get hx
                        rw [Array.append_assoc, Array.getElem?_append_right (by simp; omega), Array.getElem?_append_left (by simp; omega)] at hv
                        refine (hus.2 _ x v hx ?_).drew
                        simp only [List.size_toArray, hol] at hv
                        simpa using hv)
                  rw [h] at q1 q2 q3
                  exact ⟨_, _, Im', T', hrun, q1, q2, (Fut.drew _ _ _ _).trans q3⟩
                · cases h
                  by_cases hroom : len + n ≤ cap
                  · have hmul : (len + n) * k' ≤ cap * k' := Nat.mul_le_mul_right _ hroom
                    have hrun := hsrc.inn len cap p.blk (p.base + off) c t hone hc hroom (by omega)
                    have key := hW.change (w' := w.setRow p.blk (c.toList.take (p.base + off + len * k') ++ us ++ c.toList.drop (p.base + off + len * k' + us.length)).toArray)
                      (o' := ⟨(o.cells.drop off).take (len * k') ++ new, g + 1, false, false⟩) (p' := ⟨g + 1, p.blk, p.base + off, p.room - off⟩) ho hp hfz rfl rfl rfl (by rw [setRow_size]; exact Nat.le_refl _)
                      (fun b _ hne => setRow_other _ _ _ _ hne) (.inl rfl) (by simp only; omega) (fun e => by simp only at e; omega) rfl rfl (by simp only [List.length_append, hxs, hlen]; omega) (fun e => by cases e) (setRow_heap w p.blk c _ t (0, 0) hc)
                      (by simp; omega) (by
                        intro i x v hx hv
                        simp only [List.getElem?_toArray] at hv hx
                        rcases Nat.lt_or_ge i (len * k') with h2 | h2
                        · rw [List.getElem?_append_left (by omega), List.getElem?_take_of_lt h2, List.getElem?_drop] at hx
                          rw [List.append_assoc, List.getElem?_append_left (by simp; omega), List.getElem?_take_of_lt (by omega)] at hv
                          exact hrel (off + i) x v hx (by rw [← Nat.add_assoc]; simpa using hv)
                        · rw [List.getElem?_append_right (by omega), hxs] at hx
                          have hi2 : i - len * k' < us.length := by rw [hus.1]; exact lt_of_get hx
                          rw [List.append_assoc, List.getElem?_append_right (by simp; omega), List.getElem?_append_left (by simp; omega)] at hv
                          refine hus.2 _ x v hx ?_
                          rw [← hv]; congr 1; simp; omega)
                    refine ⟨_, _, _, _, hrun, .ms _ _ _ _ _ _ _ ⟨g + 1, p.blk, p.base + off, p.room - off⟩ (by rw [List.getElem?_set_self (lt_of_get hp)]) (Nat.le_refl _) hroom rfl (fun _ => ⟨rfl, ?_⟩), key.1, key.2⟩
                    show 0 + cap * k' = p.room - off
                    omega
                  · obtain ⟨_, os, hos, _, ho2⟩ := slcCells_rel (P := P) (x := .ms l g off len k') (k := k') (n := len) (ys := (o.cells.drop off).take (len * k')) hW (.ms ⟨p.blk, p.base + off, none⟩ l g off len k' cap p hp hge hlc rfl (fun _ => ⟨rfl, hcap⟩)) (by simp [slcCells, ho, hg, hle])
                    have hof := ho2 w.drew rfl len (Nat.le_refl _)
                    have hol : os.length = len * k' := by rw [hos.1, hxs]
                    rw [← hol, List.take_length] at hof
                    have hrun := hsrc.out (some ⟨p.blk, p.base + off, none⟩) len cap os hof hroom h47 h62
                    have hge : len + n ≤ grownCap w (len + n) cap e := grownCap_ge w (len + n) cap e
                    generalize grownCap w (len + n) cap e = gc at hrun hge
                    have hsub : (len + n) * k' + (gc - (len + n)) * k' = gc * k' := by rw [← Nat.add_mul]; congr 1; omega
                    have hcs : (os.toArray ++ us.toArray ++ Builtin.zeroCells zv.cells (gc - (len + n))).size = gc * k' := by
                      simp only [Array.size_append, size_zeroCells, hzs, List.size_toArray, hul, hol]; omega
                    have key := hW.drew.change (w' := w.drew.alloc (.cells (os.toArray ++ us.toArray ++ Builtin.zeroCells zv.cells (gc - (len + n))) e))
                      (o' := ⟨(o.cells.drop off).take (len * k') ++ new, g + 1, false, false⟩) (p' := ⟨g + 1, w.heap.size, 0, gc * k'⟩) ho hp hfz rfl rfl rfl (by rw [alloc_heap_size]; omega)
                      (fun b hb _ => alloc_old _ _ b hb) (.inr (Nat.le_refl _)) (by simp only; omega) (fun e => by simp only at e; omega) rfl rfl (by simp only [List.length_append, hxs, hlen]; omega) (fun e => by cases e) (alloc_new w.drew _)
                      (by rw [hcs]; simp) (by
                        intro i x v hx hv
                        simp only [Nat.zero_add] at hv hx
                        rcases Nat.lt_or_ge i (len * k') with h2 | h2
                        · rw [List.getElem?_append_left (by omega)] at hx
                          rw [Array.append_assoc, Array.getElem?_append_left (by simp; omega)] at hv
                          exact (hos.2 i x v hx (by simpa using hv)).drew
                        · rw [List.getElem?_append_right (by omega), hxs] at hx
                          have hi2 : i - len * k' < us.length := by rw [hus.1]; exact lt_of_get hx
                          rw [Array.append_assoc, Array.getElem?_append_right (by simp; omega), Array.getElem?_append_left (by simp; omega)] at hv
                          refine (hus.2 _ x v hx ?_).drew
                          simp only [List.size_toArray, hol] at hv
                          simpa using hv)
                    refine ⟨_, _, _, _, hrun, .ms _ _ _ _ _ _ _ ⟨g + 1, w.heap.size, 0, gc * k'⟩ (by rw [List.getElem?_set_self (lt_of_get hp)]) (Nat.le_refl _) hge rfl (fun _ => ⟨rfl, ?_⟩), key.1, (Fut.drew _ _ _ _).trans key.2⟩
                    simp
            · cases h
          · cases h
        · rename_i cs len
          split at h
          · rename_i h0
            cases h
            cases hs with
            | fs b o _ cap _ vs hl h1' h2' =>
              exact .same hW (hsrc.zero h0 _ len cap hl) (.fs b o len cap cs vs hl h1' h2')
            | fn0 => exact .same hW (hsrc.zero h0 none 0 0 (Nat.le_refl _)) .fn0
            | fs0 a cap => exact .same hW (hsrc.zero h0 (some a) 0 cap (Nat.zero_le _)) (.fs0 a cap)
          · cases h
        · cases h
      · cases h
    · cases h
end
end Go.Proofs.Ytemijcjgdgdhjaa
