/- Laid to rest: what is told with handles, told without. No program. -/
import Derived.Test.YtemijcjgdgdhjaaLogK
namespace Go.Proofs.Ytemijcjgdgdhjaa
open Go.RowKit

mutual
/-- x told without handles; ls: the objects that are laid to rest. -/
def frz (σ : Sto) (ls : List Nat) : Nat → AV → Option AV
  | 0, x => if x.flat = true then some x else none
  | n + 1, x => if x.flat = true then some x else match x with
    | .mp l g off => match σ[l]? with
      | some o => if o.gen = g ∧ ls.contains l = true then (frzL σ ls n o.cells).map fun cs => .fp cs off else none
      | none => none
    | .ms l g off len k => match σ[l]? with
      | some o => if o.gen = g ∧ ls.contains l = true ∧ off + len * k ≤ o.cells.length then (frzL σ ls n ((o.cells.drop off).take (len * k))).map fun cs => .fs cs len else none
      | none => none
    | .fp cs off => (frzL σ ls n cs).map fun cs => .fp cs off
    | .fs cs len => (frzL σ ls n cs).map fun cs => .fs cs len
    | .agg xs => (frzL σ ls n xs).map .agg
    | .tup xs => (frzL σ ls n xs).map .tup
    | _ => none
def frzL (σ : Sto) (ls : List Nat) : Nat → List AV → Option (List AV)
  | 0, xs => if flatL xs = true then some xs else none
  | n + 1, xs => if flatL xs = true then some xs else match xs with
    | [] => some []
    | x :: xs => match frz σ ls n x, frzL σ ls n xs with
      | some y, some ys => some (y :: ys)
      | _, _ => none
end

theorem frz_flat {σ : Sto} {ls : List Nat} : ∀ (n : Nat), (∀ (x y : AV), frz σ ls n x = some y → y.flat = true) ∧ (∀ (xs ys : List AV), frzL σ ls n xs = some ys → flatL ys = true) := by
  intro n
  induction n with
  | zero =>
    refine ⟨fun x y h => ?_, fun xs ys h => ?_⟩
    · unfold frz at h; split at h
      · rename_i hfl; cases h; exact hfl
      · cases h
    · unfold frzL at h; split at h
      · rename_i hfl; cases h; exact hfl
      · cases h
  | succ n ih =>
    obtain ⟨ih1, ih2⟩ := ih
    refine ⟨fun x y h => ?_, fun xs ys h => ?_⟩
    · unfold frz at h
      split at h
      · rename_i hfl; cases h; exact hfl
      · split at h
        · split at h
          · split at h
            · obtain ⟨cs, hcs, rfl⟩ := Option.map_eq_some_iff.1 h; simpa [AV.flat] using ih2 _ cs hcs
            · cases h
          · cases h
        · split at h
          · split at h
            · obtain ⟨cs, hcs, rfl⟩ := Option.map_eq_some_iff.1 h; simpa [AV.flat] using ih2 _ cs hcs
            · cases h
          · cases h
        · obtain ⟨cs, hcs, rfl⟩ := Option.map_eq_some_iff.1 h; simpa [AV.flat] using ih2 _ cs hcs
        · obtain ⟨cs, hcs, rfl⟩ := Option.map_eq_some_iff.1 h; simpa [AV.flat] using ih2 _ cs hcs
        · obtain ⟨cs, hcs, rfl⟩ := Option.map_eq_some_iff.1 h; simpa [AV.flat] using ih2 _ cs hcs
        · obtain ⟨cs, hcs, rfl⟩ := Option.map_eq_some_iff.1 h; simpa [AV.flat] using ih2 _ cs hcs
        · cases h
    · unfold frzL at h
      split at h
      · rename_i hfl; cases h; exact hfl
      · split at h
        · cases h; rfl
        · split at h
          · rename_i y zs hy hzs
            cases h
            simp [flatL, ih1 _ _ hy, ih2 _ _ hzs]
          · cases h

section
variable {w : World} {Im Im' : Nat → Prop} {σ : Sto} {T : Tab} {ls : List Nat}
theorem frz_rel (hW : WRel w Im σ T) (hf : ∀ l p, l ∈ ls → T[l]? = some p → Im' p.blk) (hi : ∀ b, Im b → Im' b) : ∀ (n : Nat),
    (∀ (x : AV) (v : Value) (y : AV), Rel w Im T v x → frz σ ls n x = some y → Rel w Im' T v y) ∧
    (∀ (xs : List AV) (ys : List AV), frzL σ ls n xs = some ys → ys.length = xs.length ∧ ∀ (i : Nat) (x y : AV) (v : Value), xs[i]? = some x → ys[i]? = some y → Rel w Im T v x → Rel w Im' T v y) := by
  have up : ∀ {v : Value} {x : AV}, Rel w Im T v x → Rel w Im' T v x := fun h => h.mono (fun _ _ => rfl) hi (Tab.le_refl _)
  intro n
  induction n with
  | zero =>
    refine ⟨fun x v y hr h => ?_, fun xs ys h => ?_⟩
    · unfold frz at h
      split at h
      · rename_i hfl; cases h; exact up hr
      · cases h
    · unfold frzL at h
      split at h
      · rename_i hfl; cases h; exact ⟨rfl, fun i x y v hx hy hr => by rw [hx] at hy; cases hy; exact up hr⟩
      · cases h
  | succ n ih =>
    obtain ⟨ih1, ih2⟩ := ih
    refine ⟨fun x v y hr h => ?_, fun xs ys h => ?_⟩
    · unfold frz at h
      split at h
      · rename_i hfl; cases h; exact up hr
      · split at h
        · rename_i l g off _
          split at h
          · rename_i o ho
            split at h
            · rename_i hc
              obtain ⟨cs, hcs, rfl⟩ := Option.map_eq_some_iff.1 h
              obtain ⟨q1, q3⟩ := ih2 _ cs hcs
              obtain ⟨a, rfl⟩ : ∃ a, v = .pointer (some a) := by cases hr; exact ⟨_, rfl⟩
              obtain ⟨p, c, t, fz, hp, rfl, hb, _, hsz, hrm, hrel⟩ := mp_cell hW hr ho hc.1
              refine Rel.fp_of hb (hf l p (by simpa using hc.2) hp) (by omega) (fun i y u hy hu => ?_) off
              have hlt : i < o.cells.length := by rw [← q1]; exact lt_of_get hy
              exact q3 i _ y u (List.getElem?_eq_getElem hlt) hy (hrel i _ u (List.getElem?_eq_getElem hlt) hu)
            · cases h
          · cases h
        · rename_i l g off len k _
          split at h
          · rename_i o ho
            split at h
            · rename_i hc
              obtain ⟨hg, hl, hle⟩ := hc
              obtain ⟨cs, hcs, rfl⟩ := Option.map_eq_some_iff.1 h
              obtain ⟨q1, q3⟩ := ih2 _ cs hcs
              cases hr with
              | ms a _ _ _ _ _ cap p hp hge hlc hsp hpl =>
                have hgen := hW.gen l o p ho hp
                obtain ⟨ha, hcap⟩ := hpl (by omega)
                obtain ⟨c, t, fz, hb, hfz, hsz, hrel⟩ := hW.obj l o p ho hp
                have hrm := hW.room l o p ho hp
                subst ha
                have hlen : cs.length = len * k := by rw [q1, List.length_take, List.length_drop]; omega
                refine Rel.fs_of hb (hf l p (by simpa using hl) hp) (by omega) hlc (fun i y u hy hu => ?_)
                have hlt : i < len * k := by have := lt_of_get hy; omega
                have hx : ((o.cells.drop off).take (len * k))[i]? = some (o.cells[off + i]'(by omega)) := by
                  rw [List.getElem?_take_of_lt hlt, List.getElem?_drop]; exact List.getElem?_eq_getElem _
                exact q3 i _ y u hx hy (hrel (off + i) _ u (List.getElem?_eq_getElem _) (by rw [← Nat.add_assoc]; exact hu))
            · cases h
          · cases h
        · rename_i cs off _
          obtain ⟨cs', hcs, rfl⟩ := Option.map_eq_some_iff.1 h
          obtain ⟨q1, q3⟩ := ih2 _ cs' hcs
          cases hr with
          | fp b o _ _ vs h1 h2 =>
            refine .fp b o off cs' vs (fun i c hc => ?_) (fun i c hc => ?_)
            all_goals
              have hlt : i < cs.length := by rw [← q1]; exact lt_of_get hc
            · exact ⟨hi _ (h1 i _ (List.getElem?_eq_getElem hlt)).1, (h1 i _ (List.getElem?_eq_getElem hlt)).2⟩
            · exact q3 i _ c _ (List.getElem?_eq_getElem hlt) hc (h2 i _ (List.getElem?_eq_getElem hlt))
        · rename_i cs len _
          obtain ⟨cs', hcs, rfl⟩ := Option.map_eq_some_iff.1 h
          obtain ⟨q1, q3⟩ := ih2 _ cs' hcs
          cases hr with
          | fs b o _ cap _ vs hl h1 h2 =>
            refine .fs b o len cap cs' vs hl (fun i c hc => ?_) (fun i c hc => ?_)
            all_goals
              have hlt : i < cs.length := by rw [← q1]; exact lt_of_get hc
            · exact ⟨hi _ (h1 i _ (List.getElem?_eq_getElem hlt)).1, (h1 i _ (List.getElem?_eq_getElem hlt)).2⟩
            · exact q3 i _ c _ (List.getElem?_eq_getElem hlt) hc (h2 i _ (List.getElem?_eq_getElem hlt))
          | fn0 =>
            obtain rfl : cs' = [] := List.length_eq_zero_iff.1 q1
            exact .fn0
          | fs0 a cap =>
            obtain rfl : cs' = [] := List.length_eq_zero_iff.1 q1
            exact .fs0 a cap
        · rename_i xs _
          obtain ⟨ys, hys, rfl⟩ := Option.map_eq_some_iff.1 h
          obtain ⟨q1, q3⟩ := ih2 _ ys hys
          cases hr with
          | agg A _ hA h1 =>
            refine .agg A ys (by omega) (fun i y u hy hu => ?_)
            have hlt : i < xs.length := by rw [← q1]; exact lt_of_get hy
            exact q3 i _ y u (List.getElem?_eq_getElem hlt) hy (h1 i _ u (List.getElem?_eq_getElem hlt) hu)
        · rename_i xs _
          obtain ⟨ys, hys, rfl⟩ := Option.map_eq_some_iff.1 h
          obtain ⟨q1, q3⟩ := ih2 _ ys hys
          cases hr with
          | tup A _ hA h1 =>
            refine .tup A ys (by omega) (fun i y u hy hu => ?_)
            have hlt : i < xs.length := by rw [← q1]; exact lt_of_get hy
            exact q3 i _ y u (List.getElem?_eq_getElem hlt) hy (h1 i _ u (List.getElem?_eq_getElem hlt) hu)
        · cases h
    · unfold frzL at h
      split at h
      · rename_i hfl; cases h; exact ⟨rfl, fun i x y v hx hy hr => by rw [hx] at hy; cases hy; exact up hr⟩
      · split at h
        · cases h; exact ⟨rfl, fun i x y v hx _ _ => by simp at hx⟩
        · rename_i x xs hfl
          split at h
          · rename_i y zs hy hzs
            cases h
            obtain ⟨q1, q3⟩ := ih2 _ zs hzs
            refine ⟨by simp [q1], fun i x' y' v hx' hy' hr => ?_⟩
            · match i with
              | 0 => simp at hx' hy'; subst hx' hy'; exact ih1 _ v _ hr hy
              | i + 1 => exact q3 i x' y' v hx' hy' hr
          · cases h
/-- Several objects are laid to rest. -/
def freezeL (σ : Sto) : List Nat → Sto
  | [] => σ
  | l :: ls => freezeL (σ.freeze l) ls
theorem WRel.freezeL : ∀ (ls : List Nat) {σ : Sto} {Im : Nat → Prop}, WRel w Im σ T → ∃ Im', WRel w Im' (freezeL σ ls) T ∧ Fut w Im σ T w Im' (freezeL σ ls) T ∧ ∀ l p, l ∈ ls → T[l]? = some p → Im' p.blk
  | [], σ, Im, h => ⟨Im, h, Fut.refl _ _ _ _, fun l p hl _ => by simp at hl⟩
  | l :: ls, σ, Im, h => by
    obtain ⟨I1, h1, f1, g1⟩ := h.freeze l
    obtain ⟨I2, h2, f2, g2⟩ := WRel.freezeL ls h1
    refine ⟨I2, h2, f1.trans f2, fun k p hk hp => ?_⟩
    rcases List.mem_cons.1 hk with rfl | hk
    · exact f2.im1 _ (g1 p hp)
    · exact g2 k p hk hp
end
end Go.Proofs.Ytemijcjgdgdhjaa
