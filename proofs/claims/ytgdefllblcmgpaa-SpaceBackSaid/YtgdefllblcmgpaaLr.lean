/- A call's answer that lies in new objects is laid to rest; the new objects are forgotten. No program. -/
import Derived.Test.YtgdefllblcmgpaaLc
namespace Go.Proofs.Ytgdefllblcmgpaa
open Go.RowKit
set_option linter.unusedSimpArgs false
theorem take_some {α : Type} {l : List α} {n i : Nat} {x : α} (h : (l.take n)[i]? = some x) : l[i]? = some x ∧ i < n := by
  rw [List.getElem?_take] at h
  split at h
  · exact ⟨h, by assumption⟩
  · cases h
theorem some_take {α : Type} {l : List α} {n i : Nat} {x : α} (h : l[i]? = some x) (hi : i < n) : (l.take n)[i]? = some x := by rw [List.getElem?_take, if_pos hi]; exact h
theorem Rel.cut {w : World} {Im : Nat → Prop} {T : Tab} {v0 : Value} {x : AV} (h0 : Rel w Im T v0 x) {w' : World} {Im' : Nat → Prop} {T1 : Tab} : ∀ {v : Value}, Rel w' Im' T1 v x → Rel w' Im' (T1.take T.length) v x := by
  induction h0 with
  | top v => intro v hr; exact .top _
  | sc v => intro v hr; cases hr; exact .sc _
  | fp b o off cs vs h1 h2 ih =>
    intro v hr
    cases hr with
    | fp b' o' _ _ vs' k1 k2 => exact .fp b' o' off cs vs' k1 fun i c hc => ih i c hc (k2 i c hc)
  | fs b o len cap cs vs hl h1 h2 ih =>
    intro v hr
    cases hr with
    | fs b' o' _ cap' _ vs' k0 k1 k2 => exact .fs b' o' len cap' cs vs' k0 k1 fun i c hc => ih i c hc (k2 i c hc)
    | fn0 => exact .fn0
    | fs0 a cap => exact .fs0 a cap
  | fn0 =>
    intro v hr
    cases hr with
    | fs b' o' _ cap' _ vs' k0 k1 k2 => exact .fs b' o' 0 cap' [] vs' k0 k1 fun i c hc => by simp at hc
    | fn0 => exact .fn0
    | fs0 a cap => exact .fs0 a cap
  | fs0 a cap =>
    intro v hr
    cases hr with
    | fs b' o' _ cap' _ vs' k0 k1 k2 => exact .fs b' o' 0 cap' [] vs' k0 k1 fun i c hc => by simp at hc
    | fn0 => exact .fn0
    | fs0 a cap => exact .fs0 a cap
  | mp a l g off p hp hg h =>
    intro v hr
    cases hr with
    | mp a' _ _ _ p' hp' hg' h' => exact .mp a' l g off p' (some_take hp' (lt_of_get hp)) hg' h'
  | ms a l g off len k cap p hp hg hl hs h =>
    intro v hr
    cases hr with
    | ms a' _ _ _ _ _ cap' p' hp' hg' hl' hs' h' => exact .ms a' l g off len k cap' p' (some_take hp' (lt_of_get hp)) hg' hl' hs' h'
  | iface t v x h ih =>
    intro v hr
    cases hr with
    | iface _ v' _ h' => exact .iface t v' x (ih h')
  | fn f A B xs ys hA hB h1 h2 ih1 ih2 =>
    intro v hr
    cases hr with
    | fn _ A' B' _ _ kA kB k1 k2 =>
      refine .fn f A' B' xs ys kA kB (fun i x v hx hv => ?_) (fun i x v hx hv => ?_)
      · have hi : i < A.size := by rw [hA]; exact lt_of_get hx
        exact ih1 i x A[i] hx (Array.getElem?_eq_getElem hi) (k1 i x v hx hv)
      · have hi : i < B.size := by rw [hB]; exact lt_of_get hx
        exact ih2 i x B[i] hx (Array.getElem?_eq_getElem hi) (k2 i x v hx hv)
  | agg A xs hA h1 ih =>
    intro v hr
    cases hr with
    | agg A' _ kA k1 =>
      refine .agg A' xs kA fun i x v hx hv => ?_
      have hi : i < A.size := by rw [hA]; exact lt_of_get hx
      exact ih i x A[i] hx (Array.getElem?_eq_getElem hi) (k1 i x v hx hv)
  | tup A xs hA h1 ih =>
    intro v hr
    cases hr with
    | tup A' _ kA k1 =>
      refine .tup A' xs kA fun i x v hx hv => ?_
      have hi : i < A.size := by rw [hA]; exact lt_of_get hx
      exact ih i x A[i] hx (Array.getElem?_eq_getElem hi) (k1 i x v hx hv)
theorem WRel.cut {w w' : World} {Im Im' : Nat → Prop} {σ X : Sto} {T T1 : Tab} (h0 : WRel w Im σ T) (h : WRel w' Im' (σ ++ X) T1) : WRel w' Im' σ (T1.take σ.length) := by
  have up : ∀ {l : Nat} {o : MO}, σ[l]? = some o → (σ ++ X)[l]? = some o := fun {l o} ho => by rw [List.getElem?_append_left (lt_of_get ho)]; exact ho
  exact {
    len := by
      have := h.len
      rw [List.length_take, this, List.length_append]
      omega
    gen := fun l o p ho hp => h.gen l o p (up ho) (take_some hp).1
    im := h.im
    room := fun l o p ho hp => h.room l o p (up ho) (take_some hp).1
    obj := fun l o p ho hp => by
      obtain ⟨c, t, fz, k1, k2, k3, k4⟩ := h.obj l o p (up ho) (take_some hp).1
      refine ⟨c, t, fz, k1, k2, k3, fun i x v hx hv => ?_⟩
      have hT : l < T.length := by rw [h0.len]; exact lt_of_get ho
      obtain ⟨c0, t0, fz0, q1, q2, q3, q4⟩ := h0.obj l o T[l] ho (List.getElem?_eq_getElem hT)
      have hr := h0.room l o T[l] ho (List.getElem?_eq_getElem hT)
      have hi : T[l].base + i < c0.size := by have := lt_of_get hx; omega
      have := (q4 i x c0[T[l].base + i] hx (Array.getElem?_eq_getElem hi)).cut (k4 i x v hx hv)
      rwa [h0.len] at this
    sep := fun l o p ho hp => h.sep l o p (up ho) (take_some hp).1
    fix := fun l o p ho hp => h.fix l o p (up ho) (take_some hp).1
    inj := fun l l' o o' p p' ho hp ho' hp' => h.inj l l' o o' p p' (up ho) (take_some hp).1 (up ho') (take_some hp').1
    full := fun l o p ho hp => h.full l o p (up ho) (take_some hp).1 }
theorem Fut.cut {w w' : World} {Im Im' : Nat → Prop} {σ X : Sto} {T T1 : Tab} (hT : T.length = σ.length) (h : Fut w Im σ T w' Im' (σ ++ X) T1) : Fut w Im σ T w' Im' σ (T1.take σ.length) where
  os := h.os
  tape := h.tape
  output := h.output
  size := h.size
  keep := h.keep
  muts := fun b ⟨l, o, p, ho, hp, hf, hb⟩ => h.muts b ⟨l, o, p, by rw [List.getElem?_append_left (lt_of_get ho)]; exact ho, (take_some hp).1, hf, hb⟩
  im1 := h.im1
  im2 := h.im2
  tab := fun l p hp => by
    obtain ⟨p', k1, k2, k3⟩ := h.tab l p hp
    exact ⟨p', some_take k1 (by rw [← hT]; exact lt_of_get hp), k2, k3⟩
theorem freezeL_app : ∀ (ls : List Nat) (σ X : Sto), (∀ l ∈ ls, σ.length ≤ l) → ∃ X', freezeL (σ ++ X) ls = σ ++ X'
  | [], σ, X, _ => ⟨X, rfl⟩
  | l :: ls, σ, X, h => by
    have hl := h l (by simp)
    have e : (σ ++ X).freeze l = σ ++ Sto.freeze X (l - σ.length) := by
      apply List.ext_getElem?
      intro i
      rw [freeze_get]
      rcases Nat.lt_or_ge i σ.length with q | q
      · rw [List.getElem?_append_left q, List.getElem?_append_left q]
        cases σ[i]? with
        | none => rfl
        | some o => simp; omega
      · rw [List.getElem?_append_right q, List.getElem?_append_right q, freeze_get]
        congr 1
        funext o
        by_cases e : l = i
        · subst e; simp
        · rw [if_neg e, if_neg (by omega)]
    show ∃ X', freezeL ((σ ++ X).freeze l) ls = σ ++ X'
    rw [e]
    exact freezeL_app ls σ _ fun k hk => h k (by simp [hk])
/-- The answer lies in new objects: it is laid to rest, and the store is as it was. -/
theorem spec_new {P : Program} {f : FuncId} {xs : List AV} {σ : Sto} {v : AV} (h : Spec P f xs σ fun r s => ∃ X n u, s = σ ++ X ∧ frz s (List.range' σ.length X.length) n r = some u ∧ Wk u v) (hv : v.flat = true) : Spec P f xs σ fun r s => r = v ∧ s = σ := by
  refine ⟨h.1, fun w Im T vs hW hR => ?_⟩
  refine (h.2 w Im T vs hW hR).mono ?_
  rintro e w' ⟨u, r, σ', I1, T1, rfl, hRu, hW1, hF1, X, n, y, rfl, hfz, hwk⟩
  obtain ⟨Im', hW', hF2, hb⟩ := hW1.freezeL (List.range' σ.length X.length)
  have hRv : Rel w' Im' T1 u y := (frz_rel hW1 hb hF2.im1 n).1 r u y hRu hfz
  obtain ⟨X', hX⟩ := freezeL_app (List.range' σ.length X.length) σ X fun l hl => (List.mem_range'_1.1 hl).1
  rw [hX] at hW' hF2
  have hF := hF1.trans hF2
  exact ⟨u, v, σ, Im', T1.take σ.length, rfl, (hRv.wk hwk).flat hv _, hW.cut hW', hF.cut hW.len, rfl, rfl⟩
/-- Some objects are laid to rest in the midst of a function. -/
theorem tri_frzL {P : Program} {nt : Nat} {env : Env} {σ : Sto} {Q : Exit → Env → Sto → Prop} {c : Code} (ls : List Nat) (t n : Nat) {u : AV} (hf : frz σ ls n (env t) = some u) (h : Tri P nt c (env.put (some t) u) (freezeL σ ls) Q) : Tri P nt c env σ Q := by
  intro w0 Im0 σ0 T0 a w hs
  obtain ⟨Im, T, hW, hE, h1, h2, hF⟩ := hs
  obtain ⟨Im', hW', hF2, hb⟩ := hW.freezeL ls
  refine h w0 Im0 σ0 T0 a w ⟨Im', T, hW', fun t' => ?_, h1, h2, hF.trans hF2⟩
  simp only [put_some]
  split
  · rename_i e; subst e; exact (frz_rel hW hb hF2.im1 n).1 _ _ _ (hE _) hf
  · exact hF2.rel hW (hE t')
end Go.Proofs.Ytgdefllblcmgpaa
