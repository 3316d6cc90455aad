/- A region that draws its order: from the text's order to any. No program. -/
import Derived.Test.YtemijcjgdgdhjaaLogM
namespace Go.Proofs.Ytemijcjgdgdhjaa
open Go.RowKit

def predsOf (ops : Array Oper) (i : Nat) : List Nat := match ops[i]? with
  | some o => (o.after.toList.filter (Region.binds .any)).map (·.on)
  | none => []
/-- What must be ahead of what, as bits. -/
def mkMask (M : List Nat) (ps : List Nat) : Nat := ps.foldr (fun d m => m ||| 2 ^ d ||| (M[d]?).getD 0) 0
def masks (ops : Array Oper) : Nat → List Nat
  | 0 => []
  | n + 1 => masks ops n ++ [mkMask (masks ops n) (predsOf ops n)]
theorem masks_length (ops : Array Oper) (n : Nat) : (masks ops n).length = n := by
  induction n with
  | zero => rfl
  | succ n ih => simp [masks, ih]
theorem masks_get (ops : Array Oper) {i n : Nat} (h : i < n) : (masks ops n)[i]? = some (mkMask (masks ops i) (predsOf ops i)) := by
  induction n with
  | zero => omega
  | succ n ih =>
    rw [show masks ops (n + 1) = masks ops n ++ [mkMask (masks ops n) (predsOf ops n)] from rfl]
    by_cases e : i = n
    · subst e
      rw [List.getElem?_append_right (by rw [masks_length]; exact Nat.le_refl _), masks_length]
      simp
    · rw [List.getElem?_append_left (by rw [masks_length]; omega)]
      exact ih (by omega)
theorem mkMask_bit {M ps : List Nat} {j : Nat} (h : (mkMask M ps).testBit j = true) : ∃ d ∈ ps, j = d ∨ ∃ m, M[d]? = some m ∧ m.testBit j = true := by
  induction ps with
  | nil => simp [mkMask] at h
  | cons d ps ih =>
    simp only [mkMask, List.foldr_cons, Nat.testBit_or, Bool.or_eq_true] at h
    rcases h with (h | h) | h
    · obtain ⟨e, he, h1⟩ := ih h
      exact ⟨e, List.mem_cons_of_mem _ he, h1⟩
    · rw [Nat.testBit_two_pow] at h
      exact ⟨d, List.mem_cons_self, .inl (of_decide_eq_true h).symm⟩
    · refine ⟨d, List.mem_cons_self, .inr ?_⟩
      cases hm : M[d]? with
      | none => rw [hm] at h; simp at h
      | some m => exact ⟨m, rfl, by rw [hm] at h; exact h⟩
/-- Each two of the region's operations are in order by its edges, or may change places. -/
def orderOK (ops : Array Oper) (l : List (Nat × Cls)) : Bool :=
  let M := masks ops ops.size
  (List.range ops.size).all (fun i => (predsOf ops i).all fun d => decide (d < i)) &&
  l.all fun p => l.all fun q => !decide (q.1 < p.1) || ((M[p.1]?).getD 0).testBit q.1 || (match ops[q.1]?, ops[p.1]? with
    | some x, some y => mayO ops x y q.2 p.2
    | _, _ => false)

theorem closed_bit {ops : Array Oper} {listed : Nat → Prop} (hc : ∀ i, i < ops.size → listed i → ∀ d ∈ predsOf ops i, d < i ∧ listed d) : ∀ (i j : Nat), i < ops.size → (∀ d ∈ predsOf ops i, d < i ∧ listed d) → (((masks ops ops.size)[i]?).getD 0).testBit j = true → listed j := by
  intro i
  induction i using Nat.strongRecOn with
  | _ i ih =>
    intro j hi hp hb
    rw [masks_get ops hi] at hb
    simp only [Option.getD_some] at hb
    obtain ⟨d, hd, h1⟩ := mkMask_bit hb
    obtain ⟨hdi, hdl⟩ := hp d hd
    rcases h1 with rfl | ⟨m, hm, hbit⟩
    · exact hdl
    · have hm' : m = mkMask (masks ops d) (predsOf ops d) := by
        have := masks_get ops hdi
        rw [this] at hm; cases hm; rfl
      refine ih d hdi j (by omega) (fun e he => hc d (by omega) hdl e he) ?_
      rw [masks_get ops (by omega)]
      simp only [Option.getD_some]
      rw [← hm']; exact hbit

section
variable {P : Program} {nt : Nat} {w0 : World} {Im0 : Nat → Prop} {σ0 : Sto} {T0 : Tab}

theorem rwp_front {mu : List Nat} {ops : Array Oper} {K : Env → Sto → Prop} {i : Nat} {c : Cls} {o : Oper} (hi : ops[i]? = some o) : ∀ (r1 r2 : List (Nat × Cls)) (env : Env) (σ : Sto), (∀ p ∈ r1, ∃ x, ops[p.1]? = some x ∧ mayO ops x o p.2 c = true) →
    rwp P mu ops nt K (r1 ++ (i, c) :: r2) env σ → AStep P mu ops nt c o env σ (rwp P mu ops nt K (r1 ++ r2))
  | [], r2, env, σ, _, h => by
    obtain ⟨o', ho', ha⟩ := h
    rw [hi] at ho'; cases ho'
    exact ha
  | p :: r1, r2, env, σ, hm, h => by
    obtain ⟨j, d⟩ := p
    obtain ⟨x, hx, ha⟩ := h
    obtain ⟨x', hx', hmay⟩ := hm (j, d) List.mem_cons_self
    rw [hx] at hx'; cases hx'
    have h1 : AStep P mu ops nt d x env σ (AStep P mu ops nt c o · · (rwp P mu ops nt K (r1 ++ r2))) :=
      ha.mono fun e s hr => rwp_front hi r1 r2 e s (fun p hp => hm p (List.mem_cons_of_mem _ hp)) hr
    exact (swap_any hmay h1).mono fun e s hr => ⟨x, hx, hr⟩

theorem filter_split {l r1 r2 : List (Nat × Cls)} {i : Nat} {c : Cls} {f : Nat × Cls → Bool} (hn : (l.map (·.1)).Nodup) (h : l.filter f = r1 ++ (i, c) :: r2) : l.filter (fun p => f p && !(p.1 == i)) = r1 ++ r2 := by
  have h1 : l.filter (fun p => f p && !(p.1 == i)) = (l.filter f).filter (fun p => !(p.1 == i)) := by
    rw [List.filter_filter]; congr 1; funext p; rw [Bool.and_comm]
  rw [h1, h, List.filter_append, List.filter_cons]
  simp only [beq_self_eq_true, Bool.not_true, Bool.false_eq_true, if_false]
  have hsub : ((l.filter f).map (·.1)).Nodup := List.Sublist.nodup (List.Sublist.map _ List.filter_sublist) hn
  rw [h, List.map_append, List.map_cons] at hsub
  have hd := List.nodup_append.1 hsub
  have hne : ∀ p ∈ r1, (!(p.1 == i)) = true := by
    intro p hp
    have := hd.2.2 p.1 (List.mem_map_of_mem hp) i List.mem_cons_self
    simpa using this
  have hne2 : ∀ p ∈ r2, (!(p.1 == i)) = true := by
    intro p hp
    have h3 := (List.nodup_cons.1 hd.2.1).1
    have : p.1 ≠ i := fun e => h3 (List.mem_map.2 ⟨p, hp, e⟩)
    simpa using this
  rw [List.filter_eq_self.2 hne, List.filter_eq_self.2 hne2]

theorem getD_set (A : Array Bool) (i j : Nat) (h : i < A.size) : (A.setIfInBounds i true).getD j true = (A.getD j true || j == i) := by
  rw [Array.getD_eq_getD_getElem?, Array.getD_eq_getD_getElem?, Array.getElem?_setIfInBounds]
  by_cases e : i = j
  · subst e; simp [h]
  · rw [if_neg e]
    have : (j == i) = false := by simpa using fun h => e h.symm
    rw [this, Bool.or_false]
theorem getD_false {A : Array Bool} {j : Nat} (h : j < A.size) : A.getD j false = A.getD j true := by
  rw [Array.getD_eq_getD_getElem?, Array.getD_eq_getD_getElem?]; simp [h]
theorem mem_ready {ops : Array Oper} {listed : Array Bool} {i : Nat} (hs : listed.size = ops.size) (hlt : ∀ d ∈ predsOf ops i, d < ops.size) : i ∈ Region.ready .any ops listed ↔ i < ops.size ∧ listed.getD i true = false ∧ ∀ d ∈ predsOf ops i, listed.getD d true = true := by
  unfold Region.ready
  rw [List.mem_filter, List.mem_range]
  constructor
  · rintro ⟨h1, h2⟩
    rw [Bool.and_eq_true, Bool.not_eq_true'] at h2
    refine ⟨h1, h2.1, fun d hd => ?_⟩
    have h3 := h2.2
    have hdl := hlt d hd
    unfold predsOf at hd
    rw [Array.getElem?_eq_getElem h1] at h3 hd
    simp only [Option.map_some, Option.getD_some, Array.all_eq_true'] at h3
    simp only [List.mem_map, List.mem_filter] at hd
    obtain ⟨e, ⟨he, hb⟩, rfl⟩ := hd
    have := h3 e (Array.mem_toList_iff.1 he)
    rw [hb] at this
    simp only [Bool.not_true, Bool.false_or] at this
    rw [← getD_false (by omega)]; exact this
  · rintro ⟨h1, h2, h3⟩
    refine ⟨h1, ?_⟩
    rw [h2]
    rw [Array.getElem?_eq_getElem h1]
    simp only [Bool.not_false, Bool.true_and, Option.map_some, Option.getD_some, Array.all_eq_true']
    intro e he
    cases hb : Region.binds .any e with
    | false => simp
    | true =>
      have hd : e.on ∈ predsOf ops i := by
        unfold predsOf
        rw [Array.getElem?_eq_getElem h1]
        simp only [List.mem_map, List.mem_filter]
        exact ⟨e, ⟨Array.mem_toList_iff.2 he, hb⟩, rfl⟩
      have := h3 _ hd
      rw [← getD_false (by rw [hs]; exact hlt _ hd)] at this
      simp [this]

theorem any_sound {mu : List Nat} {ops : Array Oper} {l : List (Nat × Cls)} {K : Env → Sto → Prop} {Q : Exit → Act → World → Prop} (hl : l.map (·.1) = List.range ops.size) (hok : orderOK ops l = true)
    (hK : ∀ env' σ' a' w', K env' σ' → St nt w0 Im0 σ0 T0 env' σ' a' w' → Q .normal a' w') :
    ∀ (fuel : Nat) (listed : Array Bool) (env : Env) (σ : Sto) (a : Act) (w : World), listed.size = ops.size → (l.filter fun p => !listed.getD p.1 true).length = fuel →
      (∀ i, i < ops.size → listed.getD i true = true → ∀ d ∈ predsOf ops i, listed.getD d true = true) →
      rwp P mu ops nt K (l.filter fun p => !listed.getD p.1 true) env σ → St nt w0 Im0 σ0 T0 env σ a w → wpAny P .any ops Q fuel listed a w := by
  unfold orderOK at hok
  rw [Bool.and_eq_true] at hok
  obtain ⟨hpre, hpair⟩ := hok
  have hlt : ∀ i d, d ∈ predsOf ops i → d < i ∧ i < ops.size := by
    intro i d hd
    have hi : i < ops.size := by
      rcases Nat.lt_or_ge i ops.size with h | h
      · exact h
      · unfold predsOf at hd; rw [Array.getElem?_eq_none h] at hd; simp at hd
    exact ⟨of_decide_eq_true (List.all_eq_true.1 (List.all_eq_true.1 hpre i (List.mem_range.2 hi)) d hd), hi⟩
  have hmem : ∀ i, i < ops.size → ∃ c, (i, c) ∈ l := by
    intro i hi
    have : i ∈ l.map (·.1) := by rw [hl]; exact List.mem_range.2 hi
    obtain ⟨p, hp, rfl⟩ := List.mem_map.1 this
    exact ⟨p.2, hp⟩
  have hnd : (l.map (·.1)).Nodup := by rw [hl]; exact List.nodup_range
  have hsorted : (l.map (·.1)).Pairwise (· < ·) := by rw [hl]; exact List.pairwise_lt_range
  intro fuel
  induction fuel with
  | zero =>
    intro listed env σ a w hs hf hc hr hst
    have hnil := List.length_eq_zero_iff.1 hf
    refine ⟨?_, ?_⟩
    · refine List.eq_nil_iff_forall_not_mem.2 fun i hi => ?_
      have := (mem_ready hs (fun d hd => by have := hlt i d hd; omega)).1 hi
      obtain ⟨c, hcm⟩ := hmem i this.1
      have : (i, c) ∈ l.filter fun p => !listed.getD p.1 true := List.mem_filter.2 ⟨hcm, by simp [this.2.1]⟩
      rw [hnil] at this
      cases this
    · rw [hnil] at hr
      exact hK _ _ _ _ hr hst
  | succ fuel ih =>
    intro listed env σ a w hs hf hc hr hst
    refine ⟨?_, ?_⟩
    · intro hready
      exfalso
      cases hrem : l.filter fun p => !listed.getD p.1 true with
      | nil => rw [hrem] at hf; cases hf
      | cons p rem =>
        have hp : p ∈ l.filter fun p => !listed.getD p.1 true := by rw [hrem]; exact List.mem_cons_self
        obtain ⟨hpl, hpu⟩ := List.mem_filter.1 hp
        have hpi : p.1 < ops.size := by
          have : p.1 ∈ l.map (·.1) := List.mem_map_of_mem hpl
          rw [hl] at this; exact List.mem_range.1 this
        have : p.1 ∈ Region.ready .any ops listed := by
          refine (mem_ready hs (fun d hd => by have := hlt p.1 d hd; omega)).2 ⟨hpi, by simpa using hpu, fun d hd => ?_⟩
          cases hdl : listed.getD d true with
          | true => rfl
          | false =>
            exfalso
            have hdi := hlt p.1 d hd
            obtain ⟨c, hdm⟩ := hmem d (by omega)
            have hin : (d, c) ∈ l.filter fun p => !listed.getD p.1 true := List.mem_filter.2 ⟨hdm, by simp [hdl]⟩
            have hps : ((l.filter fun p => !listed.getD p.1 true).map (·.1)).Pairwise (· < ·) := List.Pairwise.sublist (List.Sublist.map _ List.filter_sublist) hsorted
            rw [hrem] at hin hps
            rcases List.mem_cons.1 hin with e | hin
            · rw [← e] at hdi; simp at hdi
            · have : p.1 < d := (List.pairwise_cons.1 hps).1 d (List.mem_map.2 ⟨_, hin, rfl⟩)
              omega
        rw [hready] at this
        cases this
    · intro i hi
      obtain ⟨h1, h2, h3⟩ := (mem_ready hs (fun d hd => by have := hlt i d hd; omega)).1 hi
      obtain ⟨c, hcm⟩ := hmem i h1
      have hin : (i, c) ∈ l.filter fun p => !listed.getD p.1 true := List.mem_filter.2 ⟨hcm, by simp [h2]⟩
      obtain ⟨r1, r2, hsplit⟩ := List.append_of_mem hin
      have ho : ops[i]? = some ops[i] := Array.getElem?_eq_getElem h1
      have hps : ((l.filter fun p => !listed.getD p.1 true).map (·.1)).Pairwise (· < ·) := List.Pairwise.sublist (List.Sublist.map _ List.filter_sublist) hsorted
      have hmay : ∀ p ∈ r1, ∃ x, ops[p.1]? = some x ∧ mayO ops x ops[i] p.2 c = true := by
        intro p hp
        have hpin : p ∈ l.filter fun p => !listed.getD p.1 true := by rw [hsplit]; exact List.mem_append.2 (.inl hp)
        obtain ⟨hpl, hpu⟩ := List.mem_filter.1 hpin
        have hpu' : listed.getD p.1 true = false := by simpa using hpu
        have hpi : p.1 < i := by
          rw [hsplit, List.map_append, List.map_cons] at hps
          exact (List.pairwise_append.1 hps).2.2 p.1 (List.mem_map_of_mem hp) i List.mem_cons_self
        have hx : ops[p.1]? = some ops[p.1] := Array.getElem?_eq_getElem (by omega)
        refine ⟨_, hx, ?_⟩
        have hq := List.all_eq_true.1 (List.all_eq_true.1 hpair (i, c) hcm) p hpl
        simp only [hpi, decide_true, Bool.not_true, Bool.false_or, Bool.or_eq_true, hx, ho] at hq
        rcases hq with hq | hq
        · exfalso
          have := closed_bit (ops := ops) (listed := fun j => listed.getD j true = true) (fun k hk hkl d hd => ⟨(hlt k d hd).1, hc k hk hkl d hd⟩) i p.1 h1 (fun d hd => ⟨(hlt i d hd).1, h3 d hd⟩) hq
          rw [hpu'] at this; cases this
        · exact hq
      rw [hsplit] at hr
      have ha := rwp_front ho r1 r2 env σ hmay hr
      have hnew : (l.filter fun p => !(listed.setIfInBounds i true).getD p.1 true) = r1 ++ r2 := by
        rw [← filter_split hnd hsplit]
        congr 1
        funext p
        rw [getD_set _ _ _ (by omega)]
        cases listed.getD p.1 true <;> simp
      refine astep_wpOp ho ha hst fun env' σ' a' w' hr' hst' => ?_
      refine ih _ env' σ' a' w' (by simpa using hs) ?_ ?_ ?_ hst'
      · rw [hnew]
        have : (r1 ++ (i, c) :: r2).length = fuel + 1 := by rw [← hsplit]; exact hf
        simp at this ⊢; omega
      · intro k hk hkl d hd
        rw [getD_set _ _ _ (by omega)] at hkl ⊢
        rw [Bool.or_eq_true] at hkl ⊢
        rcases hkl with hkl | hkl
        · exact .inl (hc k hk hkl d hd)
        · have : k = i := by simpa using hkl
          subst this
          exact .inl (h3 d hd)
      · rw [hnew]; exact hr'

theorem region_draw {mu : List Nat} {ops : Array Oper} {id : Nat} {l : List (Nat × Cls)} {K : Env → Sto → Prop} {Q : Exit → Act → World → Prop} {env : Env} {σ : Sto} {a : Act} {w : World} (hm : P.follows .mixedOrders = true) (hl : l.map (·.1) = List.range ops.size) (hok : orderOK ops l = true)
    (h : rwp P mu ops nt K l env σ) (hs : St nt w0 Im0 σ0 T0 env σ a w) (hK : ∀ env' σ' a' w', K env' σ' → St nt w0 Im0 σ0 T0 env' σ' a' w' → Q .normal a' w') : (Code.region id ops true).wp P Q a w := by
  have hfull : (l.filter fun p => !(Array.replicate ops.size false).getD p.1 true) = l := by
    refine List.filter_eq_self.2 fun p hp => ?_
    have : p.1 ∈ l.map (·.1) := List.mem_map_of_mem hp
    rw [hl] at this
    have hlt := List.mem_range.1 this
    simp [hlt]
  refine wp_region_any hm ?_
  refine any_sound (mu := mu) hl hok hK ops.size _ env σ a _ (by simp) (by rw [hfull, ← List.length_map (f := (·.1)), hl]; simp) ?_ (by rw [hfull]; exact h) ?_
  · intro i hi h1
    rw [Array.getD_eq_getD_getElem?] at h1
    simp [hi] at h1
  · obtain ⟨Im, T, hW, hE, h1, h2, hF⟩ := hs
    exact ⟨Im, T, hW.drew, hE.fut (Fut.drew _ _ _ _) hW, h1, h2, hF.trans (Fut.drew _ _ _ _)⟩
end
end Go.Proofs.Ytemijcjgdgdhjaa
