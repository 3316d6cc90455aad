/- Code, told without memory (Tri): its laws; how a function's body gives what a call does. No program. -/
import Derived.Test.YtemijcjgdgdhjaaLogN
namespace Go.Proofs.Ytemijcjgdgdhjaa
open Go.RowKit

/-- BEHIND THE CODE c, from slots env and store σ: Q. -/
def Tri (P : Program) (nt : Nat) (c : Code) (env : Env) (σ : Sto) (Q : Exit → Env → Sto → Prop) : Prop :=
  ∀ (w0 : World) (Im0 : Nat → Prop) (σ0 : Sto) (T0 : Tab) (a : Act) (w : World), St nt w0 Im0 σ0 T0 env σ a w →
    c.wp P (fun e a' w' => ∃ env' σ', Q e env' σ' ∧ St nt w0 Im0 σ0 T0 env' σ' a' w') a w
def thenA (K : Env → Sto → Prop) (Q : Exit → Env → Sto → Prop) : Exit → Env → Sto → Prop
  | .normal, env, σ => K env σ
  | e, env, σ => Q e env σ
def blockA (id : Nat) (Q : Exit → Env → Sto → Prop) : Exit → Env → Sto → Prop
  | .exit i, env, σ => if i = id then Q .normal env σ else Q (.exit i) env σ
  | e, env, σ => Q e env σ

section
variable {P : Program} {nt : Nat} {env : Env} {σ : Sto} {Q : Exit → Env → Sto → Prop}

theorem tri_mono {c : Code} {Q' : Exit → Env → Sto → Prop} (h : Tri P nt c env σ Q) (hq : ∀ e env σ, Q e env σ → Q' e env σ) : Tri P nt c env σ Q' :=
  fun w0 Im0 σ0 T0 a w hs => wp_mono (h w0 Im0 σ0 T0 a w hs) fun _ _ _ ⟨env', σ', q, s⟩ => ⟨env', σ', hq _ _ _ q, s⟩
theorem tri_skip (h : Q .normal env σ) : Tri P nt .skip env σ Q := fun _ _ _ _ _ _ hs => wp_skip ⟨env, σ, h, hs⟩
theorem tri_label {l : Nat} (h : Q .normal env σ) : Tri P nt (.label l) env σ Q := fun _ _ _ _ _ _ hs => wp_label ⟨env, σ, h, hs⟩
theorem tri_ret (h : Q .ret env σ) : Tri P nt .ret env σ Q := fun _ _ _ _ _ _ hs => wp_ret ⟨env, σ, h, hs⟩
theorem tri_exit {id : Nat} (h : Q (.exit id) env σ) : Tri P nt (.exit id) env σ Q := fun _ _ _ _ _ _ hs => wp_exit ⟨env, σ, h, hs⟩
theorem tri_seq {x y : Code} (h : Tri P nt x env σ (thenA (fun env σ => Tri P nt y env σ Q) Q)) : Tri P nt (.seq x y) env σ Q := by
  intro w0 Im0 σ0 T0 a w hs
  refine wp_seq (wp_mono (h w0 Im0 σ0 T0 a w hs) ?_)
  rintro e a' w' ⟨env', σ', hq, hs'⟩
  cases e with
  | normal => exact hq w0 Im0 σ0 T0 a' w' hs'
  | _ => exact ⟨env', σ', hq, hs'⟩
/-- What stands behind is kept out of sight. -/
theorem tri_seq_k {x y : Code} (h : ∀ K : Env → Sto → Prop, (∀ env σ, Tri P nt y env σ Q → K env σ) → Tri P nt x env σ (thenA K Q)) : Tri P nt (.seq x y) env σ Q :=
  tri_seq (h _ fun _ _ h => h)
theorem tri_cond {c : Operand} {x y : Code} {b : Bool} (hc : evA env c = .sc (.bool b)) (h1 : b = true → Tri P nt x env σ Q) (h2 : b = false → Tri P nt y env σ Q) : Tri P nt (.cond c x y) env σ Q := by
  intro w0 Im0 σ0 T0 a w hs
  obtain ⟨Im, T, hW, hE, r1, r2, hF⟩ := hs
  have hr := evA_rel hE c
  rw [hc] at hr
  have hv : a.eval c = .bool b := by
    generalize a.eval c = v at hr
    cases hr; rfl
  refine wp_cond_split hv (fun e => h1 e w0 Im0 σ0 T0 a w ⟨Im, T, hW, hE, r1, r2, hF⟩) (fun e => h2 e w0 Im0 σ0 T0 a w ⟨Im, T, hW, hE, r1, r2, hF⟩)
theorem tri_block {id : Nat} {c : Code} (h : Tri P nt c env σ (blockA id Q)) : Tri P nt (.block id c) env σ Q := by
  intro w0 Im0 σ0 T0 a w hs
  refine wp_block (wp_mono (h w0 Im0 σ0 T0 a w hs) ?_)
  rintro e a' w' ⟨env', σ', hq, hs'⟩
  cases e with
  | exit i =>
    simp only [blockA] at hq
    simp only [Exit.inBlock]
    by_cases hi : i = id
    · simp only [hi, if_true] at hq ⊢; exact ⟨env', σ', hq, hs'⟩
    · simp only [hi, if_false] at hq ⊢; exact ⟨env', σ', hq, hs'⟩
  | _ => exact ⟨env', σ', hq, hs'⟩
theorem tri_scope {c : Code} (h : Tri P nt c env σ Q) (hg : ∀ l env σ, ¬ Q (.goto l) env σ) : Tri P nt (.scope c) env σ Q := by
  intro w0 Im0 σ0 T0 a w hs
  refine wp_scope_straight (wp_mono (h w0 Im0 σ0 T0 a w hs) ?_)
  rintro e a' w' ⟨env', σ', hq, hs'⟩
  cases e with
  | goto l => exact absurd hq (hg l env' σ')
  | _ => exact ⟨env', σ', hq, hs'⟩

/-- A loop: a relation that each round keeps, and a number that it lowers. -/
theorem tri_loop {c : Code} (I : Nat → Env → Sto → Prop) (n : Nat) (h0 : I n env σ) (round : ∀ n env σ, I n env σ → Tri P nt c env σ (thenA (fun env σ => ∃ m, m < n ∧ I m env σ) Q)) : Tri P nt (.loop c) env σ Q := by
  intro w0 Im0 σ0 T0 a w hs b k cs
  have key : ∀ n (env : Env) (σ : Sto) a w, I n env σ → St nt w0 Im0 σ0 T0 env σ a w →
      ∃ e a' w', (∃ env' σ', Q e env' σ' ∧ St nt w0 Im0 σ0 T0 env' σ' a' w') ∧ Arrives P (lone (b.at a (.code c :: .inLoop c :: k)) cs w) b k cs e a' w' := by
    intro n
    induction n using Nat.strongRecOn with
    | _ n ih =>
      intro env σ a w hI hs
      obtain ⟨e, a₁, w₁, ⟨env', σ', hq, hs'⟩, harr⟩ := round n env σ hI w0 Im0 σ0 T0 a w hs b (.inLoop c :: k) cs
      cases e with
      | normal =>
        obtain ⟨m, hm, hI'⟩ := hq
        obtain ⟨e₂, a₂, w₂, hq₂, harr₂⟩ := ih m hm env' σ' a₁ w₁ hI' hs'
        exact ⟨e₂, a₂, w₂, hq₂, .of_steps (Steps.trans harr (.one step_inLoop)) harr₂⟩
      | exit id => exact ⟨_, a₁, w₁, ⟨env', σ', hq, hs'⟩, .pass (x := .inLoop c) rfl (fun _ _ => .inl (by simp)) harr⟩
      | goto l => exact ⟨_, a₁, w₁, ⟨env', σ', hq, hs'⟩, .pass (x := .inLoop c) rfl (fun _ _ => .inl (by simp)) harr⟩
      | ret => exact ⟨_, a₁, w₁, ⟨env', σ', hq, hs'⟩, .pass (x := .inLoop c) rfl (fun _ _ => .inl (by simp)) harr⟩
      | panic ch => exact ⟨_, a₁, w₁, ⟨env', σ', hq, hs'⟩, .pass (x := .inLoop c) rfl (fun _ _ => .inl (by simp)) harr⟩
      | outgrown => exact ⟨_, a₁, w₁, ⟨env', σ', hq, hs'⟩, .pass (x := .inLoop c) rfl (fun _ _ => .inl (by simp)) harr⟩
  obtain ⟨e, a', w', hq, harr⟩ := key n env σ a w h0 hs
  exact ⟨e, a', w', hq, .of_steps (.one step_loop) harr⟩

def allA (n : Nat) : List (Nat × Cls) := (List.range n).map fun i => (i, Cls.a)
theorem allA_fst (n : Nat) : (allA n).map (·.1) = List.range n := by simp [allA, List.map_map, Function.comp_def]
/-- A region in the text's order. -/
theorem tri_region {id : Nat} {ops : Array Oper} (mu : List Nat) (h : rwp P mu ops nt (fun env σ => Q .normal env σ) (allA ops.size) env σ) : Tri P nt (.region id ops false) env σ Q := by
  intro w0 Im0 σ0 T0 a w hs
  refine wp_region ?_
  rw [← allA_fst]
  exact rwp_sound (allA ops.size) h hs fun env' σ' a' w' hq hs' => ⟨env', σ', hq, hs'⟩
/-- A region that draws its order. -/
theorem tri_draw {id : Nat} {ops : Array Oper} (mu : List Nat) (l : List (Nat × Cls)) (hm : P.follows .mixedOrders = true) (hl : l.map (·.1) = List.range ops.size) (hok : orderOK ops l = true) (h : rwp P mu ops nt (fun env σ => Q .normal env σ) l env σ) : Tri P nt (.region id ops true) env σ Q := by
  intro w0 Im0 σ0 T0 a w hs
  exact region_draw hm hl hok h hs fun env' σ' a' w' hq hs' => ⟨env', σ', hq, hs'⟩

/-- What a function hands back. -/
def resA (P : Program) (env : Env) (σ : Sto) : ResultVar → Option AV
  | .tmp t => some (env t)
  | .cell a t => loadA P σ t (env a)
def resL (P : Program) (env : Env) (σ : Sto) : List ResultVar → Option (List AV)
  | [] => some []
  | r :: rs => match resA P env σ r, resL P env σ rs with
    | some x, some xs => some (x :: xs)
    | _, _ => none
def resultA (P : Program) (fn : Func) (env : Env) (σ : Sto) : Option AV := match resL P env σ fn.results.toList with
  | some [x] => some x
  | some xs => some (.tup xs)
  | none => none
theorem resL_run {w : World} {Im : Nat → Prop} {T : Tab} {a : Act} {g : ResultVar → Sem Value} (hW : WRel w Im σ T) (hE : ERel w Im T a env) (g1 : ∀ t, g (.tmp t) = pure (a.tmps.getD t undef)) (g2 : ∀ b t, g (.cell b t) = (do loadVar t (← asAddr (a.tmps.getD b undef)))) : ∀ (rs : List ResultVar) (xs : List AV), resL P env σ rs = some xs →
    ∃ vs, (rs.mapM g).run P w = .ok vs w ∧ RelL w Im T vs xs
  | [], xs, h => by
    simp only [resL, Option.some.injEq] at h
    subst h
    exact ⟨[], by simp, rfl, fun i x v hx _ => by simp at hx⟩
  | r :: rs, xs, h => by
    unfold resL at h
    split at h
    · rename_i x ys hx hys
      cases h
      obtain ⟨vs, hvs, hL⟩ := resL_run hW hE g1 g2 rs ys hys
      obtain ⟨v, hv, hR⟩ : ∃ v, (g r).run P w = .ok v w ∧ Rel w Im T v x := by
        cases r with
        | tmp t => simp only [resA, Option.some.injEq] at hx; subst hx; exact ⟨_, by rw [g1]; rfl, hE t⟩
        | cell b t =>
          simp only [resA] at hx
          obtain ⟨ad, u, hau, hl, hRu⟩ := loadVar_rel (P := P) hW (hE b) hx
          exact ⟨u, by rw [g2, hau]; simp [asAddr, hl], hRu⟩
      refine ⟨v :: vs, by simp only [List.mapM_cons, Sem.run_bind, hv, hvs, Result.andThen_ok, Sem.run_pure], by simp [hL.1], fun i y u hy hu => ?_⟩
      match i with
      | 0 => simp at hy hu; subst hy hu; exact hR
      | i + 1 => exact hL.2 i y u hy hu
    · cases h
theorem resultA_run {w : World} {Im : Nat → Prop} {T : Tab} {a : Act} {fn : Func} {r : AV} (hW : WRel w Im σ T) (hE : ERel w Im T a env) (h : resultA P fn env σ = some r) : ∃ v, (results fn a.tmps).run P w = .ok v w ∧ Rel w Im T v r := by
  unfold resultA at h
  cases hx : resL P env σ fn.results.toList with
  | none => rw [hx] at h; cases h
  | some xs =>
    rw [hx] at h
    obtain ⟨vs, hm, hL⟩ : ∃ vs : List Value, (results fn a.tmps).run P w = .ok (if h : vs.length = 1 then vs[0] else .tuple vs.toArray) w ∧ RelL w Im T vs xs := by
      unfold results
      rw [Array.mapM_eq_mapM_toList]
      obtain ⟨vs, hvs, hL⟩ := resL_run (P := P) (g := fun r => match r with | .tmp t => pure (a.tmps.getD t undef) | .cell b t => (do loadVar t (← asAddr (a.tmps.getD b undef)))) hW hE (fun t => rfl) (fun b t => rfl) _ xs hx
      refine ⟨vs, ?_, hL⟩
      simp only [Sem.run_bind, Sem.run_map]
      refine (congrArg (fun r : Result (List Value) => (r.andThen fun a w' => Result.ok a.toArray w').andThen fun a w' => (Result.ok (if h : a.size = 1 then a[0] else Value.tuple a) w' : Result Value)) hvs).trans ?_
      simp only [Result.andThen_ok, List.size_toArray]
      split <;> simp
    rw [hm]
    refine ⟨_, rfl, ?_⟩
    match xs, h, hL with
    | [x], h, hL =>
      cases h
      have h1 : vs.length = 1 := hL.1
      rw [dif_pos h1]
      exact hL.2 0 _ _ rfl (by simp [h1])
    | [], h, hL =>
      cases h
      have h1 : vs.length = 0 := hL.1
      rw [dif_neg (by omega)]
      exact .tup _ _ (by simp [h1]) (fun i x v hx _ => by simp at hx)
    | x :: y :: zs, h, hL =>
      cases h
      have h1 : vs.length = zs.length + 2 := by rw [hL.1]; rfl
      rw [dif_neg (by omega)]
      exact .tup _ _ (by simp [h1]) (fun i z v hz hv => hL.2 i z v hz (by simpa using hv))

/-- What is wanted behind a body. -/
def RetQ (P : Program) (fn : Func) (Q : AV → Sto → Prop) (e : Exit) (env : Env) (σ : Sto) : Prop := (e = .normal ∨ e = .ret) ∧ ∃ r, resultA P fn env σ = some r ∧ Q r σ
/-- The slots as a call begins. -/
def env0 (xs : List AV) : Env := fun t => (xs[t]?).getD (.tup [])
/-- A CALL, OUT OF THE BODY. -/
theorem spec_intro {f : FuncId} {fn : Func} {c : Code} {xs : List AV} {Q : AV → Sto → Prop} (hf : P.funcs[f]? = some fn) (hg : goodF P f = true) (hb : fn.body = some c) (hn : xs.length ≤ fn.ntmps) (h : Tri P fn.ntmps c (env0 xs) σ (RetQ P fn Q)) : Spec P f xs σ Q := by
  refine ⟨hg, fun w Im T vs hW hR => calls_of_wp hf hb ?_⟩
  have hlen : vs.size = xs.length := by have := hR.1; simpa using this
  have hE : ERel w Im T { tmps := vs ++ Array.replicate (fn.ntmps - vs.size) undef, defers := [] } (env0 xs) := by
    intro t
    simp only [env0]
    rw [Array.getD_eq_getD_getElem?]
    cases hx : xs[t]? with
    | none =>
      have : xs.length ≤ t := by simpa using hx
      rw [Array.getElem?_append_right (by omega)]
      have hu : ((Array.replicate (fn.ntmps - vs.size) undef)[t - vs.size]?).getD undef = undef := by
        rw [Array.getElem?_replicate]; split <;> rfl
      rw [hu]
      exact .tup _ _ rfl (fun i x v hx _ => by simp at hx)
    | some x =>
      have hlt := lt_of_get hx
      rw [Array.getElem?_append_left (by omega)]
      obtain ⟨v, hv, hRv⟩ := hR.get hx
      rw [Array.getElem?_toList] at hv
      rw [hv]; exact hRv
  refine wp_mono (h w Im σ T _ w ⟨Im, T, hW, hE, by simp; omega, rfl, Fut.refl _ _ _ _⟩) ?_
  rintro e a' w' ⟨env', σ', ⟨he, r, hr, hq⟩, Im', T', hW', hE', _, hd, hF⟩
  obtain ⟨v, hrun, hRv⟩ := resultA_run (P := P) hW' hE' hr
  rcases he with rfl | rfl <;> exact ⟨hd, v, hrun, v, r, σ', Im', T', rfl, hRv, hW', hF, hq⟩

/-- OUT OF SIGHT OF A STORE: what is told without handles, and answered without handles, is the same with every store, and leaves it alone. -/
theorem spec_pureF {f : FuncId} {xs : List AV} {v : AV} (hx : flatL xs = true) (h : Spec P f xs [] fun r s => ∃ n, frz s (List.range s.length) n r = some v) : PSpec P f xs v := by
  refine fun σ => ⟨h.1, fun w Im T vs hW hR => ?_⟩
  have hW0 : WRel w Im [] [] := ⟨rfl, fun l o p ho _ => by simp at ho, hW.im, fun l o p ho _ => by simp at ho, fun l o p ho _ => by simp at ho, fun l o p ho _ => by simp at ho, fun l o p ho _ => by simp at ho, fun l l' o o' p p' ho _ => by simp at ho, fun l o p ho _ => by simp at ho⟩
  refine (h.2 w Im [] vs hW0 (hR.flat hx [])).mono ?_
  rintro e w' ⟨u, r, σ', I1, T1, rfl, hRu, hW1, hF1, n, hfz⟩
  obtain ⟨Im', hW', hF2, hb⟩ := hW1.freezeL (List.range σ'.length)
  have hRv : Rel w' Im' T1 u v := (frz_rel hW1 hb hF2.im1 n).1 r u v hRu hfz
  have hv : v.flat = true := (frz_flat n).1 _ _ hfz
  have hF := hF1.trans hF2
  have hm : ∀ b, ¬ Mut ([] : Sto) [] b := by rintro b ⟨l, o, p, ho, _⟩; simp at ho
  have hk : ∀ b, b < w.heap.size → w'.heap[b]? = w.heap[b]? := fun b hb => hF.keep b hb (hm b)
  have hi' : ∀ b, Im' b → Im b ∨ (w.heap.size ≤ b ∧ b < w'.heap.size) := fun b hb => by
    rcases hF.im2 b hb with h1 | h1 | h1
    · exact .inl h1
    · exact absurd h1 (hm b)
    · exact .inr ⟨h1, hW'.im b hb⟩
  exact ⟨u, v, σ, Im', T, rfl, hRv.flat hv T, hW.world hF.size hk hF.im1 hi', .world hF.os hF.tape hF.output hF.size hk hF.im1 hi', rfl, rfl⟩
theorem spec_pure {f : FuncId} {xs : List AV} {v : AV} (hx : flatL xs = true) (hv : v.flat = true) (h : Spec P f xs [] fun r _ => r = v) : PSpec P f xs v := by
  refine fun σ => ⟨h.1, fun w Im T vs hW hR => ?_⟩
  have hW0 : WRel w Im [] [] := ⟨rfl, fun l o p ho _ => by simp at ho, hW.im, fun l o p ho _ => by simp at ho, fun l o p ho _ => by simp at ho, fun l o p ho _ => by simp at ho, fun l o p ho _ => by simp at ho, fun l l' o o' p p' ho _ => by simp at ho, fun l o p ho _ => by simp at ho⟩
  refine (h.2 w Im [] vs hW0 (hR.flat hx [])).mono ?_
  rintro e w' ⟨u, r, σ', Im', T', rfl, hRu, hW', hF, rfl⟩
  have hm : ∀ b, ¬ Mut ([] : Sto) [] b := by rintro b ⟨l, o, p, ho, _⟩; simp at ho
  have hk : ∀ b, b < w.heap.size → w'.heap[b]? = w.heap[b]? := fun b hb => hF.keep b hb (hm b)
  have hi' : ∀ b, Im' b → Im b ∨ (w.heap.size ≤ b ∧ b < w'.heap.size) := fun b hb => by
    rcases hF.im2 b hb with h1 | h1 | h1
    · exact .inl h1
    · exact absurd h1 (hm b)
    · exact .inr ⟨h1, hW'.im b hb⟩
  exact ⟨u, r, σ, Im', T, rfl, hRu.flat hv T, hW.world hF.size hk hF.im1 hi', .world hF.os hF.tape hF.output hF.size hk hF.im1 hi', rfl, rfl⟩
end
end Go.Proofs.Ytemijcjgdgdhjaa
