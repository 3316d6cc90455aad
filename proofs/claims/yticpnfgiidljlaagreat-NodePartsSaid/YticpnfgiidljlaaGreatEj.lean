/- The law's awake, layer 9. -/
import Derived.Test.YticpnfgiidljlaaGreatEe
import Derived.Test.YticpnfgiidljlaaGreatLw
import Derived.Test.YticpnfgiidljlaaGreatWi
import Derived.Lib.Overlaps
import Derived.Laws.Externs
import Derived.Test.YticpnfgiidljlaaGreatEc
import Derived.Test.YticpnfgiidljlaaGreatWgd
namespace Go.Proofs.YticpnfgiidljlaaGreat
open Go.RowKit Go.Sort
set_option linter.unusedSimpArgs false
set_option maxRecDepth 10000
section
variable {P : Program} {nt : Nat} {mu : List Nat} {ds : List (Option Nat)} {K : Env → Sto → Prop} {d : Nat} {t : TypeId} {pos : String} {after : Array Edge} {l : List Oper} {env : Env} {σ : Sto}
/-- append of a row of one's own to a row of one's own. -/
theorem app_own2 {t0 t1 e k by_ : Nat} {z : List AV} {v x : AV} {n m : Nat} {cs new : List AV} (he : elemOfT P t0 = some (e, k)) (hz : zeroA P e = some z) (hzk : z.length = k) (hb : bytesT P e = some by_) (hb1 : by_ ≤ 1000)
    (h1 : notIntT P t1 = true) (hv : Own k σ v n cs) (hx : Own k σ x m new) (hn1 : new.all AV.one = true) (hn3 : n + m ≤ 100000000) :
    ∃ v' σ', appendA P true false σ t0 t1 v x = some (v', σ') ∧ Own k σ' v' (n + m) (cs ++ new) ∧ Frame σ v σ' v' := by
  have hlen : new.length = m * k := by
    rcases hx with ⟨_, rfl, rfl⟩ | ⟨i, g, off, c, _, _, q2, q3⟩
    · simp
    · rw [← q3]; simp; omega
  obtain ⟨v', σ', r1, r2, r3⟩ := app_own he hz hzk hb hb1 h1 hv hn1 hlen hn3
  refine ⟨v', σ', ?_, r2, r3⟩
  rw [← r1]
  have e1 : srcA P σ t1 x z k by_ = some (m, new) := by
    unfold srcA
    rw [if_pos h1]
    rcases hx with ⟨rfl, rfl, rfl⟩ | ⟨i, g, off, c, rfl, q1, q2, q3⟩
    · rfl
    · simp [slcCells, q1, q2, q3]
  have e2 : srcA P σ t1 (.fs new m) z k by_ = some (m, new) := by simp [srcA, h1, slcCells, hlen]
  unfold appendA
  simp only [he, hz, hb, e1, e2]
theorem rwf_app2 {s x : Operand} {t0 t1 e k by_ : Nat} {z : List AV} (hd : dOk nt (some d) = true) (hmu : (mu.contains d && !mu.contains (d + 1000000)) = true) (he : elemOfT P t0 = some (e, k)) (hz : zeroA P e = some z) (hzk : z.length = k) (hb : bytesT P e = some by_) (hb1 : by_ ≤ 1000) (h1 : notIntT P t1 = true)
    (h : ∀ G : AV → AV → Prop, Hid (∀ v n cs y new m, Own k σ v n cs → Own k σ y m new → new.all AV.one = true → n + m ≤ 100000000 → (∀ v' σ', Own k σ' v' (n + m) (cs ++ new) → Frame σ v σ' v' → rwf P mu ds nt .a K l (env.put (some d) v') σ') → G v y) → G (evA env s) (evA env x)) :
    rwo P mu ds nt .a K ⟨some d, .call ⟨.builtin .append, #[s, x], #[t0, t1]⟩, t, pos, after, none⟩ l env σ := by
  have := h (fun v y => evA env s = v → evA env x = y → rwo P mu ds nt .a K ⟨some d, .call ⟨.builtin .append, #[s, x], #[t0, t1]⟩, t, pos, after, none⟩ l env σ) fun v n cs y new m q1 q2 q3 q4 q5 e1 e2 => ?_
  · exact this rfl rfl
  · obtain ⟨v', σ', r1, r2, r3⟩ := app_own2 he hz hzk hb hb1 h1 q1 q2 q3 q4
    refine ⟨hd, .inl ⟨v', σ', ?_, q5 v' σ' r2 r3⟩⟩
    show appendA P (mu.contains d) (mu.contains (d + 1000000)) σ t0 t1 (evA env s) (evA env x) = some (v', σ')
    rw [Bool.and_eq_true, Bool.not_eq_true'] at hmu
    rw [hmu.1, hmu.2, e1, e2]; exact r1
end
/-- Leaves in a row. -/
def cQ (l : List Item) : List AV := [.fp (cL l) 0]
def flatQ (l : List (List Item)) : List AV := flatC cQ l
theorem cQ_length (r : List Item) : (cQ r).length = 1 := rfl
theorem cQ_flat (r : List Item) : flatL (cQ r) = true := by simp [cQ, AV.flat, flatL]
theorem cQ_one (r : List Item) : (cQ r).all AV.one = true := rfl
@[simp] theorem flatQ_length (l : List (List Item)) : (flatQ l).length = l.length := by have := flatC_length cQ_length l; rw [Nat.mul_one] at this; exact this
@[simp] theorem flatQ_flat (l : List (List Item)) : flatL (flatQ l) = true := flatC_flat cQ_flat l
@[simp] theorem flatQ_one (l : List (List Item)) : (flatQ l).all AV.one = true := flatC_one' cQ_one l
theorem flatQ_get (l : List (List Item)) (k : Nat) (h : k < l.length) : (flatQ l)[k]? = some (.fp (cL l[k]) 0) := by have := flatC_get cQ_length l k 0 h (by omega); rw [Nat.mul_one] at this; exact this
@[simp] theorem flatQ_at (l : List (List Item)) (k : Nat) (h : k < (flatQ l).length) : (flatQ l)[k] = .fp (cL (l[k]'(by simpa using h))) 0 := by
  have := flatQ_get l k (by simpa using h)
  rw [List.getElem?_eq_getElem h] at this
  exact Option.some.inj this
theorem flatQ_append (l m : List (List Item)) : flatQ (l ++ m) = flatQ l ++ flatQ m := flatC_append l m
/-- A leaf's parts; n bounds how deep they lie. -/
def partsF : Nat → List Item → List (List Item)
  | 0, l => [l]
  | n + 1, l => if iwts l ≤ 240 then [l] else partsF n (l.take (halfI l)) ++ partsF n (l.drop (halfI l))
def partsI (l : List Item) : List (List Item) := partsF l.length l
/-- Items so light that no one of them is half of a leaf that is too heavy. -/
def Light (l : List Item) : Prop := ∀ x ∈ l, 2 ≤ iwt x ∧ iwt x ≤ 100 ∧ x.key.size ≤ 1000000 ∧ x.val.size ≤ 1000000
theorem ok_light {l : List Item} (h : ∀ x ∈ l, okI x = true) : Light l := fun x hx => by
  have := h x hx
  rw [okI_is] at this
  simp [isKey, isVal] at this
  unfold iwt
  omega
theorem Light.take {l : List Item} (h : Light l) (n : Nat) : Light (l.take n) := fun x hx => h x (List.mem_of_mem_take hx)
theorem Light.drop {l : List Item} (h : Light l) (n : Nat) : Light (l.drop n) := fun x hx => h x (List.mem_of_mem_drop hx)
theorem Light.small {l : List Item} (h : Light l) : ISmall l := fun x hx => (h x hx).2.2
theorem half_in {l : List Item} (h : Light l) (hw : ¬ iwts l ≤ 240) : 0 < halfI l ∧ halfI l < l.length := by
  obtain ⟨h1, h2, h3⟩ := halfI_spec l (by omega)
  constructor
  · rcases Nat.eq_zero_or_pos (halfI l) with e | e
    · rw [e] at h2; simp [iwts] at h2; unfold iwts at hw; omega
    · exact e
  · rcases Nat.lt_or_ge (halfI l) l.length with e | e
    · exact e
    · exfalso
      have e : halfI l = l.length := by omega
      rcases Nat.eq_zero_or_pos l.length with e0 | e0
      · have : l = [] := List.length_eq_zero_iff.1 e0
        subst this; simp [iwts] at hw
      · have h4 := h3 (l.length - 1) (by omega)
        have h5 := iwts_take l (l.length - 1) l[l.length - 1] (List.getElem?_eq_getElem (by omega))
        rw [show l.length - 1 + 1 = l.length by omega, List.take_length] at h5
        have h6 := h l[l.length - 1] (List.getElem_mem _)
        omega
theorem partsF_more : ∀ (n : Nat) (l : List Item), Light l → l.length ≤ n → partsF n l = partsI l := by
  have key : ∀ (n : Nat) (l : List Item), Light l → l.length ≤ n → ∀ m, l.length ≤ m → partsF n l = partsF m l := by
    intro n
    induction n with
    | zero =>
      intro l hl hn m hm
      have : l = [] := List.length_eq_zero_iff.1 (by omega)
      subst this
      cases m with
      | zero => rfl
      | succ m => show [[]] = if _ then _ else _; rw [if_pos (by simp [iwts])]
    | succ n ih =>
      intro l hl hn m hm
      cases m with
      | zero =>
        have : l = [] := List.length_eq_zero_iff.1 (by omega)
        subst this
        show (if _ then _ else _) = [[]]; rw [if_pos (by simp [iwts])]
      | succ m =>
        show (if _ then _ else _) = if _ then _ else _
        by_cases hw : iwts l ≤ 240
        · rw [if_pos hw, if_pos hw]
        · obtain ⟨h1, h2⟩ := half_in hl hw
          rw [if_neg hw, if_neg hw, ih (l.take (halfI l)) (hl.take _) (by simp; omega) m (by simp; omega), ih (l.drop (halfI l)) (hl.drop _) (by simp; omega) m (by simp; omega)]
  exact fun n l hl hn => key n l hl hn l.length (Nat.le_refl _)
theorem partsI_eq {l : List Item} (hl : Light l) : partsI l = if iwts l ≤ 240 then [l] else partsI (l.take (halfI l)) ++ partsI (l.drop (halfI l)) := by
  rw [← partsF_more (l.length + 1) l hl (by omega)]
  show (if _ then _ else _) = _
  by_cases hw : iwts l ≤ 240
  · rw [if_pos hw, if_pos hw]
  · rw [if_neg hw, if_neg hw, partsF_more _ _ (hl.take _) (by simp; omega), partsF_more _ _ (hl.drop _) (by simp)]
theorem partsI_len {l : List Item} (hl : Light l) : (partsI l).length ≤ l.length + 1 ∧ (l ≠ [] → (partsI l).length ≤ l.length) := by
  suffices h : ∀ (n : Nat) (l : List Item), l.length ≤ n → Light l → (partsI l).length ≤ l.length + 1 ∧ (l ≠ [] → (partsI l).length ≤ l.length) from h _ l (Nat.le_refl _) hl
  intro n
  induction n with
  | zero =>
    intro l hn hl
    have : l = [] := List.length_eq_zero_iff.1 (by omega)
    subst this
    exact ⟨by simp [partsI, partsF], fun h => absurd rfl h⟩
  | succ n ih =>
    intro l hn hl
    rw [partsI_eq hl]
    by_cases hw : iwts l ≤ 240
    · rw [if_pos hw]
      exact ⟨by simp, fun h => by simp; exact List.length_pos_iff.2 h⟩
    · obtain ⟨h1, h2⟩ := half_in hl hw
      rw [if_neg hw]
      have a1 := (ih (l.take (halfI l)) (by rw [List.length_take]; omega) (hl.take _)).2 (fun e => by have := congrArg List.length e; rw [List.length_take, List.length_nil] at this; omega)
      have a2 := (ih (l.drop (halfI l)) (by rw [List.length_drop]; omega) (hl.drop _)).2 (fun e => by have := congrArg List.length e; rw [List.length_drop, List.length_nil] at this; omega)
      rw [List.length_append]
      simp at a1 a2
      omega
theorem own_keep {k n : Nat} {σ s : Sto} {v : AV} {cs : List AV} (h : Own k σ v n cs) (hf : ∀ (i : Nat) (o : MO), σ[i]? = some o → s[i]? = some o) : Own k s v n cs := by
  rcases h with h | ⟨i, g, off, c, h1, h2, h3, h4⟩
  · exact .inl h
  · exact .inr ⟨i, g, off, c, h1, hf _ _ h2, h3, h4⟩
theorem len_keep {σ s : Sto} (hf : ∀ (i : Nat) (o : MO), σ[i]? = some o → s[i]? = some o) : σ.length ≤ s.length := by
  rcases Nat.eq_zero_or_pos σ.length with h | h
  · omega
  · have := lt_of_get (hf (σ.length - 1) _ (List.getElem?_eq_getElem (by omega)))
    omega
set_option maxHeartbeats 1000000 in
theorem lParts_spec : ∀ (n : Nat) (l : List Item), l.length ≤ n → l.length ≤ 900000 → Light l → ∀ σ : Sto, Spec Tryz.prog 26 [.fp (cL l) 0] σ (fun r s => Own 1 s r (partsI l).length (flatQ (partsI l)) ∧ (∀ (i : Nat) (o : MO), σ[i]? = some o → s[i]? = some o) ∧ ∀ j, isH j r → σ.length ≤ j) := by
  intro n
  induction n with
  | zero =>
    intro l hn hl900 hl σ
    have : l = [] := List.length_eq_zero_iff.1 (by omega)
    subst this
    refine spec_intro Tryz.func26 good26 rfl (by simp [Tryz.ntmps26]) ?_
    have hw : iwts ([] : List Item) = 0 := rfl
    refine go1 [16,39] [] (cns Tryz.results26 (cns cL.eq_1 trivial)) ?_
    exact ⟨.inr ⟨σ.length, 0, 0, _, rfl, List.getElem?_concat_length, by simp [partsI, partsF], rfl⟩, fun i o h => by rw [List.getElem?_append_left (lt_of_get h)]; exact h, fun j hj => by rw [isH_ms hj]; omega⟩
  | succ n ih =>
    intro l hn hl900 hl σ
    have hpe := partsI_eq hl
    by_cases hw : iwts l ≤ 240
    · rw [if_pos hw] at hpe
      rw [hpe]
      refine spec_intro Tryz.func26 good26 rfl (by simp [Tryz.ntmps26]) ?_
      clear hpe ih
      refine go1 [16,39] [] (cns Tryz.results26 trivial) ?_
      exact ⟨.inr ⟨σ.length, 0, 0, _, rfl, List.getElem?_concat_length, by simp, rfl⟩, fun i o h => by rw [List.getElem?_append_left (lt_of_get h)]; exact h, fun j hj => by rw [isH_ms hj]; omega⟩
    · rw [if_neg hw] at hpe
      rw [hpe]
      obtain ⟨h1, h2⟩ := half_in hl hw
      have hh := lHalf_spec l hl900 hl.small
      have l1 : (l.take (halfI l)).length = halfI l := by simp; omega
      have l2 : (l.drop (halfI l)).length = l.length - halfI l := by simp
      have c1 := cloneI_spec (l.take (halfI l)) (by omega)
      have c2 := cloneI_spec (l.drop (halfI l)) (by omega)
      have m1 := lMade_spec (l.take (halfI l)) (by omega) (hl.take _).small
      have m2 := lMade_spec (l.drop (halfI l)) (by omega) (hl.drop _).small
      have p1 := ih (l.take (halfI l)) (by omega) (by omega) (hl.take _)
      have p2 := ih (l.drop (halfI l)) (by omega) (by omega) (hl.drop _)
      have n1 := partsI_len (hl.take (halfI l))
      have n2 := partsI_len (hl.drop (halfI l))
      have t1 := flatI_take l (halfI l)
      have t2 := flatI_drop l (halfI l)
      have t3 : List.take ((l.length - halfI l) * 2) (flatI (l.drop (halfI l))) = flatI (l.drop (halfI l)) := List.take_of_length_le (by rw [flatI_length, l2]; omega)
      rw [l1] at c1 m1
      rw [l2] at c2 m2
      generalize l.take (halfI l) = A at *
      generalize l.drop (halfI l) = D at *
      replace hl := Lib.hid hl
      replace p1 := Lib.hid p1
      replace p2 := Lib.hid p2
      replace n1 := Lib.hid n1
      replace n2 := Lib.hid n2
      generalize halfI l = H at *
      clear hpe ih
      refine spec_intro Tryz.func26 good26 rfl (by simp [Tryz.ntmps26]) ?_
      repeat' (first
       | (with_reducible first | refine Stp.pf ?_ | refine block_x (by decide) ?_ | refine ret_n ?_)
       | refine tri_reg [16,39] ?_ | refine tri_regc [16,39] [] mixed (by decide +kernel) ?_
       | (refine rwf_nilt rfl (by decide +kernel) fun B hB => ?_; (try simp [*]); refine hB.out _ fun b => ?_; clear hB B)
       | (refine Rul.pf ⟨rfl, rfl⟩ fun B C hB => ?_; (try simp [*, -List.all_eq_true, Tryz.results26]); (try (simp (disch := first | assumption | omega) only [wc, ite_yes]; (try simp [*, -List.all_eq_true, Tryz.results26]))); first | (first | refine hB.out.1 _ (fun hb => ?_) fun hb => ⟨rfl, ?_⟩ | refine hB.out.1 _ (fun hb => ?_) fun hb => ?_) <;> clear hB C B <;> (try simp only [Bool.not_true, Bool.not_false] at hb) <;> (first | (exfalso; simp at hb; done) | (exfalso; simp at hb; omega) | (rw [hb]; (try simp at hb)) | (try simp at hb)) | ((first | refine hB.out.1 _ _ ?_ | refine hB.out.1 _ ?_ | refine hB.out.2.1 _ _ _ (hh) ?_ | refine hB.out.2.2 _ _ _ (hh) ?_ | refine hB.out.2.1 _ _ _ (c1) ?_ | refine hB.out.2.2 _ _ _ (c1) ?_ | refine hB.out.2.1 _ _ _ (c2) ?_ | refine hB.out.2.2 _ _ _ (c2) ?_ | refine hB.out.2.1 _ _ _ (m1) ?_ | refine hB.out.2.2 _ _ _ (m1) ?_ | refine hB.out.2.1 _ _ _ (m2) ?_ | refine hB.out.2.2 _ _ _ (m2) ?_ | refine hB.out.2 ⟨rfl, ?_⟩); clear hB C B) | (refine hB.out.2 _ ?_; clear hB C B; (try rfl)))
       | refine rwf_o ?_ | refine rwc_o .n rfl ?_ | refine rwc_o .z rfl ?_ | refine rwc_o .w rfl ?_ | refine rwc_o .b rfl ?_ | refine rwc_o _ rfl ?_)
      refine rwf_ca rfl fun C' hC hP => ?_
      clear hP
      (try simp [*, -List.all_eq_true]); (try (simp (disch := first | assumption | omega) only [wrap_id, wrapu_id, wrapb_id, tmod_nn, tdiv_nn, ite_yes, flatM_seg, flatM_0, flatM_1, flatM_2, flatI_seg, flatI_0, flatI_1, flatS_get]; (try simp [*, -List.all_eq_true])))
      refine hC.out _ _ _ (p1.out _) fun r s hq => ?_
      clear hC C'
      obtain ⟨o1, f1, g1⟩ := hq
      repeat' (first
       | (with_reducible first | refine Stp.pf ?_ | refine block_x (by decide) ?_ | refine ret_n ?_)
       | refine tri_reg [16,39] ?_ | refine tri_regc [16,39] [] mixed (by decide +kernel) ?_
       | (refine rwf_nilt rfl (by decide +kernel) fun B hB => ?_; (try simp [*]); refine hB.out _ fun b => ?_; clear hB B)
       | (refine Rul.pf ⟨rfl, rfl⟩ fun B C hB => ?_; (try simp [*, -List.all_eq_true, Tryz.results26]); (try (simp (disch := first | assumption | omega) only [wc, ite_yes]; (try simp [*, -List.all_eq_true, Tryz.results26]))); first | (first | refine hB.out.1 _ (fun hb => ?_) fun hb => ⟨rfl, ?_⟩ | refine hB.out.1 _ (fun hb => ?_) fun hb => ?_) <;> clear hB C B <;> (try simp only [Bool.not_true, Bool.not_false] at hb) <;> (first | (exfalso; simp at hb; done) | (exfalso; simp at hb; omega) | (rw [hb]; (try simp at hb)) | (try simp at hb)) | ((first | refine hB.out.1 _ _ ?_ | refine hB.out.1 _ ?_ | refine hB.out.2 ⟨rfl, ?_⟩); clear hB C B) | (refine hB.out.2 _ ?_; clear hB C B; (try rfl)))
       | refine rwf_o ?_ | refine rwc_o .n rfl ?_ | refine rwc_o .z rfl ?_ | refine rwc_o .w rfl ?_ | refine rwc_o .b rfl ?_ | refine rwc_o _ rfl ?_)
      refine rwf_ca rfl fun C' hC hP => ?_
      clear hP
      (try simp [*, -List.all_eq_true]); (try (simp (disch := first | assumption | omega) only [wrap_id, wrapu_id, wrapb_id, tmod_nn, tdiv_nn, ite_yes, flatM_seg, flatM_0, flatM_1, flatM_2, flatI_seg, flatI_0, flatI_1, flatS_get]; (try simp [*, -List.all_eq_true])))
      refine hC.out _ _ _ (p2.out _) fun r s2 hq => ?_
      clear hC C'
      obtain ⟨o2, f2, g2⟩ := hq
      have o3 := own_keep o1 f2
      have z1 := len_keep f1
      have z2 := len_keep f2
      have n3 := n1.out.1
      have n4 := n2.out.1
      replace f1 := Lib.hid f1
      replace f2 := Lib.hid f2
      replace g1 := Lib.hid g1
      replace g2 := Lib.hid g2
      clear o1 p1 p2
      rename_i r1 r2
      refine go1 [16,39] [] (cns Tryz.results26 trivial) ?_
      refine rwf_app2 rfl rfl elem56 zero49 rfl bytes49 (by decide) slc56 fun G hG => ?_
      (try simp [*, -List.all_eq_true])
      refine hG.out _ _ _ _ _ _ o3 o2 (by simp) (by omega) fun v' σ' q1 q2 => ?_
      clear hG G
      replace z1 := Lib.hid z1
      replace z2 := Lib.hid z2
      refine go1 [16,39] [] (cns Tryz.results26 trivial) ?_
      refine ⟨by simpa [flatQ_append] using q1, fun i o h => q2.1 i o (f2.out i o (f1.out i o h)) (fun hh => ?_), fun j hj => ?_⟩
      · have := g1.out i hh
        have := lt_of_get h
        omega
      · rcases q2.2.1 j hj with h | h
        · exact g1.out j h
        · have := z1.out
          have := z2.out
          omega
end Go.Proofs.YticpnfgiidljlaaGreat
namespace Go.Proofs.YticpnfgiidljlaaGreat
open Go.RowKit
set_option linter.unusedSimpArgs false
set_option maxRecDepth 10000
end Go.Proofs.YticpnfgiidljlaaGreat
namespace Go.Proofs.YticpnfgiidljlaaGreat
open Go.RowKit
set_option linter.unusedSimpArgs false
end Go.Proofs.YticpnfgiidljlaaGreat
namespace Go.Proofs.YticpnfgiidljlaaGreat
open Go.RowKit
set_option linter.unusedSimpArgs false
set_option maxRecDepth 10000
end Go.Proofs.YticpnfgiidljlaaGreat
namespace Go.Proofs.YticpnfgiidljlaaGreat
open Go.RowKit
set_option linter.unusedSimpArgs false
set_option maxRecDepth 10000
end Go.Proofs.YticpnfgiidljlaaGreat
namespace Go.Proofs.YticpnfgiidljlaaGreat
open Go.RowKit
set_option linter.unusedSimpArgs false
set_option maxRecDepth 10000
instance (l : List Item) : Decidable (Uniq l) := by unfold Uniq; infer_instance
def md : Msg := ⟨2, ⟨#[97]⟩, ⟨#[]⟩⟩
def mp : Msg := ⟨1, ⟨#[99]⟩, ⟨#[51]⟩⟩
theorem lParts_pure (l : List Item) (hl : l.length ≤ 900000) (h : Light l) : PSpec Tryz.prog 26 [.fp (cL l) 0] (.fs (flatQ (partsI l)) (partsI l).length) :=
  spec_pureFW (by simp) (Spec.mono (lParts_spec l.length l (Nat.le_refl _) hl h []) fun r s hq => out_own hq.1 (by simp))
end Go.Proofs.YticpnfgiidljlaaGreat
