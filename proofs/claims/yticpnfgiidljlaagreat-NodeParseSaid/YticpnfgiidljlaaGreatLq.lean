/- A row of one's own that lies in an object's cell is laid to rest in the midst of a function. No program. -/
import Derived.Test.YticpnfgiidljlaaGreatLr
namespace Go.Proofs.YticpnfgiidljlaaGreat
open Go.RowKit
set_option linter.unusedSimpArgs false
theorem WRel.recell {w : World} {Im : Nat → Prop} {σ : Sto} {T : Tab} {l c : Nat} {o : MO} {y : AV} (h : WRel w Im σ T) (ho : σ[l]? = some o) (hc : ∀ x v, o.cells[c]? = some x → Rel w Im T v x → Rel w Im T v y) : WRel w Im (σ.set l { o with cells := o.cells.set c y }) T := by
  have back : ∀ {k : Nat} {q : MO}, (σ.set l { o with cells := o.cells.set c y })[k]? = some q → ∃ q', σ[k]? = some q' ∧ q'.gen = q.gen ∧ q'.frz = q.frz ∧ q'.full = q.full ∧ q'.cells.length = q.cells.length ∧ (k ≠ l → q' = q) ∧ (k = l → q' = o ∧ q.cells = o.cells.set c y) := by
    intro k q hq
    by_cases e : l = k
    · subst e
      rw [List.getElem?_set_self (lt_of_get ho)] at hq
      cases hq
      exact ⟨o, ho, rfl, rfl, rfl, by simp, fun e => absurd rfl e, fun _ => ⟨rfl, rfl⟩⟩
    · rw [List.getElem?_set_ne e] at hq
      exact ⟨q, hq, rfl, rfl, rfl, rfl, fun _ => rfl, fun e' => absurd e'.symm e⟩
  exact {
    len := by rw [h.len, List.length_set]
    gen := fun k q p hq hp => by
      obtain ⟨q', h1, h2, h3, h4, h5, h6, h7⟩ := back hq
      rw [← h2]; exact h.gen k q' p h1 hp
    im := h.im
    room := fun k q p hq hp => by
      obtain ⟨q', h1, h2, h3, h4, h5, h6, h7⟩ := back hq
      rw [← h5]; exact h.room k q' p h1 hp
    obj := fun k q p hq hp => by
      obtain ⟨q', h1, h2, h3, h4, h5, h6, h7⟩ := back hq
      have hk := h.obj k q' p h1 hp
      refine ⟨fun hn => ?_, fun s hs => ?_⟩
      · rw [← h4] at hn
        obtain ⟨cc, t, fz, k1, k2, k3, k4⟩ := hk.cells hn
        refine ⟨cc, t, fz, k1, fun hf => k2 (by rw [h3]; exact hf), k3, fun i x v hx hv => ?_⟩
        by_cases e : k = l
        · obtain ⟨rfl, e2⟩ := h7 e
          rw [e2] at hx
          by_cases e3 : c = i
          · subst e3
            have hl := lt_of_get hx
            rw [List.length_set] at hl
            rw [List.getElem?_set_self hl] at hx
            cases hx
            exact hc _ v (List.getElem?_eq_getElem hl) (k4 c _ v (List.getElem?_eq_getElem hl) hv)
          · rw [List.getElem?_set_ne e3] at hx
            exact k4 i x v hx hv
        · rw [h6 e] at k4
          exact k4 i x v hx hv
      · rw [← h4] at hs
        obtain ⟨e1, e2, e3⟩ := hk.sp s hs
        exact ⟨List.length_eq_zero_iff.1 (by rw [← h5, e1]; rfl), e2, e3⟩
    sep := fun k q p hq hp hf => by
      obtain ⟨q', h1, h2, h3, h4, h5, h6, h7⟩ := back hq
      exact h.sep k q' p h1 hp (by rw [h3]; exact hf)
    fix := fun k q p hq hp hf => by
      obtain ⟨q', h1, h2, h3, h4, h5, h6, h7⟩ := back hq
      exact h.fix k q' p h1 hp (by rw [h3]; exact hf)
    inj := fun k k' q q' p p' hq hp hq' hp' hne hf hf' => by
      obtain ⟨a, a1, a2, a3, _⟩ := back hq
      obtain ⟨b, b1, b2, b3, _⟩ := back hq'
      exact h.inj k k' a b p p' a1 hp b1 hp' hne (by rw [a3]; exact hf) (by rw [b3]; exact hf')
    full := fun k q p hq hp => by
      obtain ⟨q', h1, h2, h3, h4, h5, h6, h7⟩ := back hq
      have := h.full k q' p h1 hp
      unfold FullOk at this ⊢
      rw [h4, h5] at this
      exact this }
theorem Fut.recell {w w0 : World} {Im Im0 : Nat → Prop} {σ σ0 : Sto} {T T0 : Tab} {l : Nat} {o q : MO} (ho : σ[l]? = some o) (hq : q.frz = o.frz) (h : Fut w0 Im0 σ0 T0 w Im σ T) : Fut w0 Im0 σ0 T0 w Im (σ.set l q) T where
  os := h.os
  tape := h.tape
  output := h.output
  size := h.size
  keep := h.keep
  muts := fun b ⟨k, q', p, h1, hp, hf, hb⟩ => by
    refine h.muts b ?_
    by_cases e : l = k
    · subst e
      rw [List.getElem?_set_self (lt_of_get ho)] at h1
      cases h1
      exact ⟨l, o, p, ho, hp, by rw [← hq]; exact hf, hb⟩
    · rw [List.getElem?_set_ne e] at h1
      exact ⟨k, q', p, h1, hp, hf, hb⟩
  im1 := h.im1
  im2 := h.im2
  tab := h.tab
/-- A row of one's own, or an empty one, that lies in an object's cell is laid to rest. -/
theorem tri_restC {P : Program} {nt : Nat} {code : Code} {env : Env} {σ : Sto} {Q : Exit → Env → Sto → Prop} {k n l c : Nat} {v : AV} {cs : List AV} {o : MO} (l' : Nat) (c' : Nat) (hll : l' = l) (hcc : c' = c) (ho : σ[l]? = some o) (hc : o.cells[c]? = some v) (hO : Own k σ v n cs) (hf : flatL cs = true) (hne : ¬ isH l v)
    (h : ∀ σ' : Sto, σ'[l]? = some { o with cells := o.cells.set c (.fs cs n) } → (∀ j q, j ≠ l → ¬ isH j v → σ[j]? = some q → σ'[j]? = some q) → σ'.length = σ.length → Tri P nt code env σ' Q) : Tri P nt code env σ Q := by
  rcases hO with ⟨rfl, rfl, rfl⟩ | ⟨i, g, off, cc, rfl, h1, h2, h3⟩
  · intro w0 Im0 σ0 T0 a w hs
    obtain ⟨Im, T, hW, hE, e1, e2, hF⟩ := hs
    refine h _ (List.getElem?_set_self (lt_of_get ho)) (fun j q hj _ hq => by rw [List.getElem?_set_ne (Ne.symm hj)]; exact hq) (by simp) w0 Im0 σ0 T0 a w ⟨Im, T, hW.recell ho fun x v hx hr => ?_, hE, e1, e2, hF.recell ho rfl⟩
    rw [hc] at hx
    cases hx
    exact hr.wk .nil
  · have hil : i ≠ l := fun e => hne ⟨_, _, _, _, by rw [e]⟩
    have ho' : (σ.freeze i)[l]? = some o := by
      rw [freeze_get, ho]
      simp [hil]
    have hi' : (σ.freeze i)[i]? = some ⟨cc, g, true, false⟩ := by
      rw [freeze_get, h1]
      simp
    intro w0 Im0 σ0 T0 a w hs
    obtain ⟨Im, T, hW, hE, e1, e2, hF⟩ := hs
    obtain ⟨Im', hW', hF2, hb⟩ := hW.freezeL [i]
    refine h _ (List.getElem?_set_self (lt_of_get ho')) (fun j q hj hnj hq => ?_) (by simp [Sto.freeze]) w0 Im0 σ0 T0 a w ⟨Im', T, WRel.recell (σ := σ.freeze i) hW' ho' fun x v hx hr => ?_, hE.fut hF2 hW, e1, e2, Fut.recell ho' rfl (hF.trans hF2)⟩
    · rw [List.getElem?_set_ne (Ne.symm hj), freeze_get, hq]
      have : i ≠ j := fun e => hnj ⟨_, _, _, _, by rw [e]⟩
      simp [this]
    · rw [hc] at hx
      cases hx
      exact (frz_rel (σ := σ.freeze i) (ls := [i]) hW' hb (fun _ h => h) 2).1 _ _ _ hr (by simp [frz, frzL, AV.flat, h1, h2, h3, hf])
end Go.Proofs.YticpnfgiidljlaaGreat
