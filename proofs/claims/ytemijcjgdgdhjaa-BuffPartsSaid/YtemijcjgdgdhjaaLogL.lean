/- The operations of a region: one by one, in the text's order, and in any that its edges allow. No program. -/
import Derived.Test.YtemijcjgdgdhjaaLogZ
namespace Go.Proofs.Ytemijcjgdgdhjaa
open Go.RowKit

section
variable {P : Program} {w : World} {Im : Nat → Prop} {σ : Sto} {T : Tab}

theorem evA_congr {env env' : Env} {x : Operand} (h : ∀ t, x = .tmp t → env t = env' t) : evA env x = evA env' x := by
  cases x with
  | tmp t => exact h t rfl
  | _ => rfl
theorem evalOp_congr {mu : List Nat} {o : Oper} {env env' : Env} (h : ∀ x ∈ o.op.operands, evA env x = evA env' x) : evalOp P mu o env σ = evalOp P mu o env' σ := by
  have opt : ∀ q : Option Operand, (∀ x ∈ q.toArray, evA env x = evA env' x) → q.map (evA env) = q.map (evA env') := by
    intro q hq
    cases q with
    | none => rfl
    | some x => simp only [Option.map_some, Option.some.injEq]; exact hq x (by simp)
  have arr : ∀ q : Array Operand, (∀ x ∈ q, evA env x = evA env' x) → q.toList.map (evA env) = q.toList.map (evA env') := fun q hq => List.map_congr_left fun x hx => hq x (Array.mem_toList_iff.1 hx)
  have prt : ∀ ps : Array (Nat × Operand), (∀ x ∈ (ps.toList.map (·.2)).toArray, evA env x = evA env' x) → (ps.toList.map fun p => (p.1, evA env p.2)) = ps.toList.map fun p => (p.1, evA env' p.2) := fun ps hp =>
    List.map_congr_left fun p hm => by rw [hp p.2 (by simp only [List.mem_toArray, List.mem_map]; exact ⟨p, hm, rfl⟩)]
  obtain ⟨dst, op, type, pos, after, guard⟩ := o
  simp only at h
  cases op <;> simp only [evalOp, isMu] <;> simp only [Op.operands] at h <;> try rfl
  case move x => rw [h x (by simp)]
  case assign x => rw [h x (by simp)]
  case pick c a b => rw [h c (by simp), h a (by simp), h b (by simp)]
  case box t x => rw [h x (by simp)]
  case build t ps => rw [prt ps h]
  case buildSlice t n ps => rw [prt ps h]
  case load t x => rw [h x (by simp)]
  case store t a x => rw [h a (by simp), h x (by simp)]
  case nilCheck x => rw [h x (by simp)]
  case binOp op t x y q => rw [h x (by simp), h y (by simp)]
  case unOp op t x => rw [h x (by simp)]
  case convert s d x => rw [h x (by simp)]
  case makeInterface t x => rw [h x (by simp)]
  case makeFunc f xs ys => rw [arr xs (fun x hx => h x (by simp [hx])), arr ys (fun x hx => h x (by simp [hx]))]
  case makeSlice t l c => rw [h l (by simp), h c (by simp)]
  case slice t x lo hi mx => rw [h x (by simp), opt lo (fun x hx => h x (by simp at hx ⊢; simp [hx])), opt hi (fun x hx => h x (by simp at hx ⊢; simp [hx])), opt mx (fun x hx => h x (by simp at hx ⊢; simp [hx]))]
  case fieldAddr s x f => rw [h x (by simp)]
  case field s x f => rw [h x (by simp)]
  case indexAddr t x i => rw [h x (by simp), h i (by simp)]
  case index t x i => rw [h x (by simp), h i (by simp)]
  case typeAssert x a b c => rw [h x (by simp)]
  case extract x i => rw [h x (by simp)]
  case call c => rw [arr c.args (fun x hx => h x (by unfold Call.operands; simp [hx]))]
theorem callOf_congr {o : Oper} {env env' : Env} (h : ∀ x ∈ o.op.operands, evA env x = evA env' x) : callOf P o env σ = callOf P o env' σ := by
  obtain ⟨dst, op, type, pos, after, guard⟩ := o
  simp only at h
  cases op <;> simp only [callOf]
  case call c =>
    simp only [Op.operands, Call.operands] at h
    have arr : c.args.toList.map (evA env) = c.args.toList.map (evA env') := List.map_congr_left fun x hx => h x (by simp [Array.mem_toList_iff.1 hx])
    cases hc : c.callee with
    | value f => simp only; rw [arr, h f (by simp [hc])]
    | invoke r name => simp only; rw [arr, h r (by simp [hc])]
    | builtin b => rfl

/-- Whether an operation's guard lets it. -/
def wantA (ops : Array Oper) (o : Oper) (env : Env) : Option Bool := match o.guard with
  | none => some true
  | some (j, want) => match (ops[j]?).bind (·.dst) with
    | some d => match env d with
      | .sc (.bool b) => some (b == want)
      | .tup [] => some false
      | _ => none
    | none => some false
theorem wantA_spec {ops : Array Oper} {o : Oper} {env : Env} {a : Act} {b : Bool} (hE : ERel w Im T a env) (h : wantA ops o env = some b) : Region.wanted o (yielded ops a.tmps) = b := by
  unfold wantA at h
  unfold Region.wanted
  split at h
  · rename_i hg
    cases h
    simp [hg]
  · rename_i j want hg
    simp only [hg]
    split at h
    · rename_i d hd
      have hr := hE d
      split at h
      · rename_i q hq
        cases h
        rw [hq] at hr
        have hv : a.tmps.getD d undef = .bool q := by
          generalize a.tmps.getD d undef = v at hr
          cases hr; rfl
        have ht : a.tmps[d]? = some (.bool q) := by
          rw [Array.getD_eq_getD_getElem?] at hv
          cases h2 : a.tmps[d]? with
          | none => rw [h2] at hv; simp [undef] at hv
          | some v => rw [h2] at hv; simp at hv; rw [hv]
        simp [yielded, hd, ht]
      · rename_i hq
        cases h
        rw [hq] at hr
        have hv : ∃ A, a.tmps.getD d undef = .tuple A := by
          generalize a.tmps.getD d undef = v at hr
          cases hr; exact ⟨_, rfl⟩
        obtain ⟨A, hv⟩ := hv
        rw [Array.getD_eq_getD_getElem?] at hv
        unfold yielded
        rw [hd]
        simp only [Option.bind_some]
        cases h2 : a.tmps[d]? with
        | none => simp
        | some v => rw [h2] at hv; simp at hv; rw [hv]; simp
      · cases h
    · rename_i hd
      cases h
      simp [yielded, hd]

/-- The capacity of a row that may be written: any that holds it. -/
def CapStep (P : Program) (o : Oper) (env : Env) (σ : Sto) (K : Env → Sto → Prop) : Prop := ∃ c x t e ob l g off len k, o.op = .call c ∧ c.callee = .builtin .cap ∧ c.args = #[x] ∧ c.argTypes = #[t] ∧ P.underlying t = some (.slice e) ∧ evA env x = .ms l g off len k ∧ σ[l]? = some ob ∧ ob.gen = g ∧ ob.frz = false ∧
  ∀ n : Nat, len ≤ n → ob.cells.length ≤ off + n * k → K (env.put o.dst (.sc (.int .i64 n))) (σ.set l ⟨ob.cells ++ List.replicate (off + n * k - ob.cells.length) .top, ob.gen, false, true⟩)
/-- Whether an empty slice is nil: it may be so or so. -/
def NilStep (P : Program) (o : Oper) (env : Env) (σ : Sto) (K : Env → Sto → Prop) : Prop := ∃ t x t' cs e, o.op = .binOp .eql t x (.const (.slice none 0 0)) t' ∧ P.underlying t = some (.slice e) ∧ evA env x = .fs cs 0 ∧ ∀ b, K (env.put o.dst (.sc (.bool b))) σ
/-- A call of a function without a body, that only reads. -/
def ESpec (P : Program) (f : FuncId) (xs : List AV) (σ : Sto) (v : AV) : Prop :=
  ∀ (w : World) (Im : Nat → Prop) (T : Tab) (A : Array Value), WRel w Im σ T → RelL w Im T A.toList xs → ∃ u, (callFunc f A).run P w = .ok (.value u) w ∧ Rel w Im T u v
def ExtStep (P : Program) (o : Oper) (env : Env) (σ : Sto) (K : Env → Sto → Prop) : Prop := ∃ f args ts v, o.op = .call ⟨.value (.func f), args, ts⟩ ∧ ESpec P f (args.toList.map (evA env)) σ v ∧ K (env.put o.dst v) σ
/-- a: whatever it is; z: it leaves the store alone; n: it doesn't look at it either; w: it may write; b: it lays new objects. -/
inductive Cls where
  | a | z | n | w | b
  deriving DecidableEq
def Step1 (P : Program) (mu : List Nat) (c : Cls) (o : Oper) (env : Env) (σ : Sto) (K : Env → Sto → Prop) : Prop := match c with
  | .a => (∃ v σ', evalOp P mu o env σ = some (v, σ') ∧ K (env.put o.dst v) σ') ∨ (∃ f xs Q, callOf P o env σ = some (f, xs) ∧ Spec P f xs σ Q ∧ ∀ r σ', Q r σ' → K (env.put o.dst r) σ') ∨
    (∃ f xs xs' v ls n, callOf P o env σ = some (f, xs) ∧ frzL σ ls n xs = some xs' ∧ PSpec P f xs' v ∧ K (env.put o.dst v) (freezeL σ ls)) ∨ CapStep P o env σ K ∨ NilStep P o env σ K ∨ ExtStep P o env σ K
  | .z => (∃ v, evalOp P mu o env σ = some (v, σ) ∧ K (env.put o.dst v) σ) ∨ (∃ f xs v, callOf P o env σ = some (f, xs) ∧ (∀ X, Spec P f xs (σ ++ X) (fun r σ' => r = v ∧ σ' = σ ++ X)) ∧ K (env.put o.dst v) σ)
  | .n => ∃ v, (∀ σ, evalOp P mu o env σ = some (v, σ)) ∧ K (env.put o.dst v) σ
  | .w => (∃ v σ', evalOp P mu o env σ = some (v, σ') ∧ K (env.put o.dst v) σ') ∨ (∃ f xs Q, callOf P o env σ = some (f, xs) ∧ Spec P f xs σ Q ∧ (∃ r σ', Q r σ') ∧ ∀ r σ', Q r σ' → K (env.put o.dst r) σ')
  | .b => ∃ v X, evalOp P mu o env σ = some (v, σ ++ X) ∧ K (env.put o.dst v) (σ ++ X)
def dstOk (nt : Nat) (o : Oper) : Bool := match o.dst with
  | some d => decide (d < nt)
  | none => true
def AStep (P : Program) (mu : List Nat) (ops : Array Oper) (nt : Nat) (c : Cls) (o : Oper) (env : Env) (σ : Sto) (K : Env → Sto → Prop) : Prop :=
  dstOk nt o = true ∧ ∃ b, wantA ops o env = some b ∧ (b = true → Step1 P mu c o env σ K) ∧ (b = false → K (env.put o.dst (.tup [])) σ)
/-- What holds behind operations, one by one. -/
def rwp (P : Program) (mu : List Nat) (ops : Array Oper) (nt : Nat) (K : Env → Sto → Prop) : List (Nat × Cls) → Env → Sto → Prop
  | [], env, σ => K env σ
  | (i, c) :: l, env, σ => ∃ o, ops[i]? = some o ∧ AStep P mu ops nt c o env σ (rwp P mu ops nt K l)

/-- Slots and world stand as env and σ tell, and what was before w0 is as it was. -/
def St (nt : Nat) (w0 : World) (Im0 : Nat → Prop) (σ0 : Sto) (T0 : Tab) (env : Env) (σ : Sto) (a : Act) (w : World) : Prop :=
  ∃ Im T, WRel w Im σ T ∧ ERel w Im T a env ∧ a.tmps.size = nt ∧ a.defers = [] ∧ Fut w0 Im0 σ0 T0 w Im σ T

theorem ERel.fut {w w' : World} {Im Im' : Nat → Prop} {σ σ' : Sto} {T T' : Tab} {a : Act} {env : Env} (h : ERel w Im T a env) (hF : Fut w Im σ T w' Im' σ' T') (hW : WRel w Im σ T) : ERel w' Im' T' a env := fun t => hF.rel hW (h t)
theorem ERel.put {a : Act} {env : Env} {v : Value} {x : AV} {d : Option Nat} {nt : Nat} (h : ERel w Im T a env) (hr : Rel w Im T v x) (hs : a.tmps.size = nt) (hd : ∀ e, d = some e → e < nt) : ERel w Im T (a.put d v) (env.put d x) := by
  intro t
  cases d with
  | none => exact h t
  | some e =>
    have he := hd e rfl
    simp only [Act.put, Env.put]
    by_cases hte : t = e
    · subst hte
      rw [if_pos rfl, Array.getD_eq_getD_getElem?, Array.getElem?_setIfInBounds_self_of_lt (by omega)]
      exact hr
    · rw [if_neg hte, Array.getD_eq_getD_getElem?, Array.getElem?_setIfInBounds_ne (fun e => hte e.symm), ← Array.getD_eq_getD_getElem?]
      exact h t
theorem put_size (a : Act) (d : Option Nat) (v : Value) : (a.put d v).tmps.size = a.tmps.size := by cases d <;> simp [Act.put]
theorem put_defs (a : Act) (d : Option Nat) (v : Value) : (a.put d v).defers = a.defers := by cases d <;> rfl
theorem dstOk_lt {nt : Nat} {o : Oper} (h : dstOk nt o = true) : ∀ e, o.dst = some e → e < nt := by
  intro e he
  unfold dstOk at h
  rw [he] at h
  simpa using h

theorem eqIn_nilslice {t e : TypeId} (hu : P.underlying t = some (.slice e)) (d : Nat) (m : Option Addr) (n c : Nat) : (Op.equalIn (d + 1) t (.slice m n c) (.slice none 0 0)).run P w = .ok m.isNone w := by
  cases m <;> simp [Op.equalIn, run_underlying hu]
theorem eq_nilslice {t e : TypeId} (hu : P.underlying t = some (.slice e)) (m : Option Addr) (n c : Nat) : (Op.equal t (.slice m n c) (.slice none 0 0)).run P w = .ok m.isNone w := eqIn_nilslice hu 9999 m n c
variable {nt : Nat} {w0 : World} {Im0 : Nat → Prop} {σ0 : Sto} {T0 : Tab}
theorem St.step {env : Env} {a : Act} {w' : World} {Im' : Nat → Prop} {σ' : Sto} {T' : Tab} {d : Option Nat} {v : Value} {x : AV} (hW : WRel w Im σ T) (hE : ERel w Im T a env) (hs : a.tmps.size = nt) (hd : a.defers = []) (hF : Fut w0 Im0 σ0 T0 w Im σ T)
    (hr : Rel w' Im' T' v x) (hW' : WRel w' Im' σ' T') (hF' : Fut w Im σ T w' Im' σ' T') (hdst : ∀ e, d = some e → e < nt) : St nt w0 Im0 σ0 T0 (env.put d x) σ' (a.put d v) w' :=
  ⟨Im', T', hW', (hE.fut hF' hW).put hr hs hdst, by rw [put_size]; exact hs, by rw [put_defs]; exact hd, hF.trans hF'⟩
theorem astep_wpOp {mu : List Nat} {ops : Array Oper} {Q : Exit → Act → World → Prop} {i : Nat} {c : Cls} {o : Oper} {env : Env} {K : Env → Sto → Prop} {Kc : Act → World → Prop} {a : Act} (hi : ops[i]? = some o) (h : AStep P mu ops nt c o env σ K) (hs : St nt w0 Im0 σ0 T0 env σ a w)
    (hK : ∀ env' σ' a' w', K env' σ' → St nt w0 Im0 σ0 T0 env' σ' a' w' → Kc a' w') : wpOp P ops Q i Kc a w := by
  obtain ⟨Im, T, hW, hE, hsz, hdf, hF⟩ := hs
  obtain ⟨hd, b, hb, h1, h2⟩ := h
  have hdl := dstOk_lt hd
  have hw := wantA_spec hE hb
  unfold wpOp
  simp only [hi]
  cases b with
  | false =>
    rw [if_neg (by rw [hw]; simp)]
    exact hK _ _ _ _ (h2 rfl) (St.step hW hE hsz hdf hF (.tup _ _ rfl (fun i x v hx _ => by simp at hx)) hW (Fut.refl _ _ _ _) hdl)
  | true =>
    rw [if_pos hw]
    refine .inl ?_
    have ev : ∀ v σ', evalOp P mu o env σ = some (v, σ') → K (env.put o.dst v) σ' → o.wp P a w Kc Q := by
      intro v σ' he hk
      obtain ⟨nx, vc, w', Im', T', hrun, hnx, hr, hW', hF'⟩ := evalOp_snd (P := P) hW hE he
      unfold Oper.wp
      rw [hrun]
      have := hK _ _ _ _ hk (St.step hW hE hsz hdf hF hr hW' hF' hdl)
      rcases hnx with rfl | ⟨rfl, rfl⟩
      · exact this
      · exact this
    have cl : ∀ f xs (Q' : AV → Sto → Prop), callOf P o env σ = some (f, xs) → Spec P f xs σ Q' → (∀ r σ', Q' r σ' → K (env.put o.dst r) σ') → o.wp P a w Kc Q := by
      intro f xs Q' hc hsp hk
      obtain ⟨B, hrun, hR⟩ := callOf_run (P := P) hW hE hc hsp.1
      unfold Oper.wp
      rw [hrun]
      show Calls P f B w _
      refine (hsp.2 w Im T B hW hR).mono ?_
      rintro e w' ⟨v, r, σ', Im', T', rfl, hr, hW', hF', hq⟩
      exact hK _ _ _ _ (hk r σ' hq) (St.step hW hE hsz hdf hF hr hW' hF' hdl)
    have h3 := h1 rfl
    cases c with
    | a =>
      rcases h3 with ⟨v, σ', he, hk⟩ | ⟨f, xs, Q', hc, hsp, hk⟩ | ⟨f, xs, xs', v, ls, n, hc, hfz, hsp, hk⟩ | ⟨c, x, t, e, ob, l, g, off, len, k, e1, e2, e3, e4, hu, hx, ho, hg, hfz, hk⟩ | ⟨t, x, t', cs, e, e1, hu, hx, hk⟩ | ⟨f, args, ts, v, e1, hsp, hk⟩
      · exact ev v σ' he hk
      · exact cl f xs Q' hc hsp hk
      · obtain ⟨B, hrun, hR⟩ := callOf_run (P := P) hW hE hc (hsp []).1
        obtain ⟨I1, hW1, hF1, hb1⟩ := hW.freezeL ls
        obtain ⟨q1, q2⟩ := (frz_rel hW hb1 hF1.im1 n).2 xs xs' hfz
        have hR1 : RelL w I1 T B.toList xs' := ⟨by rw [hR.1, q1], fun i y u hy hu => by
          have hlt : i < xs.length := by rw [← q1]; exact lt_of_get hy
          exact q2 i _ y u (List.getElem?_eq_getElem hlt) hy (hR.2 i _ u (List.getElem?_eq_getElem hlt) hu)⟩
        unfold Oper.wp
        rw [hrun]
        show Calls P f B w _
        refine ((hsp (freezeL σ ls)).2 w I1 T B hW1 hR1).mono ?_
        rintro e w' ⟨u, r, σ', Im', T', rfl, hr, hW', hF', rfl, rfl⟩
        exact hK _ _ _ _ hk (St.step hW hE hsz hdf hF hr hW' (hF1.trans hF') hdl)
      · have hr := evA_rel hE x
        rw [hx] at hr
        generalize hav : a.eval x = v at hr
        cases hr with
        | ms ad _ _ _ _ _ cap p hp hge hlc hsp hpl =>
          have hgen := hW.gen l ob p ho hp
          obtain ⟨ha, hcap⟩ := hpl (by omega)
          obtain ⟨cc, tt, fz, hc, hfz', hsz', hrel⟩ := hW.obj l ob p ho hp
          have hrm := hW.room l ob p ho hp
          obtain rfl := hfz' hfz
          have hrun : (execOp a.eval o).run P w = .ok (.value (.int .i64 cap)) w := by
            simp [execOp, e1, e2, e3, e4, resolve, invoke, builtin, hav, Builtin.cap_, run_underlying hu, goInt]
          unfold Oper.wp
          rw [hrun]
          have key := hW.change (w' := w) (o' := ⟨ob.cells ++ List.replicate (off + cap * k - ob.cells.length) .top, ob.gen, false, true⟩) (p' := p) ho hp hfz rfl rfl rfl (Nat.le_refl _) (fun _ _ _ => rfl) (.inl rfl) (Nat.le_refl _) (fun _ => rfl) hgen.symm rfl
            (by simp; omega) (fun _ => by simp; omega) hc (by omega) (by
              intro i x v hx hv
              simp only at hx
              rcases Nat.lt_or_ge i ob.cells.length with h2 | h2
              · rw [List.getElem?_append_left h2] at hx; exact hrel i x v hx hv
              · rw [List.getElem?_append_right h2, List.getElem?_replicate] at hx
                split at hx
                · cases hx; exact .top v
                · cases hx)
          exact hK _ _ _ _ (hk cap hlc (by omega)) (St.step hW hE hsz hdf hF (.sc _) key.1 key.2 hdl)
      · have hr := evA_rel hE x
        rw [hx] at hr
        obtain ⟨b, hb⟩ : ∃ b, (execOp a.eval o).run P w = .ok (.value (.bool b)) w := by
          have hcn : a.eval (.const (.slice none 0 0)) = .slice none 0 0 := rfl
          generalize hav : a.eval x = v at hr
          cases hr with
          | fs bb oo _ cap _ vs hl h1 h2 => exact ⟨false, by simp only [execOp, e1, hav, hcn]; simp [eqGuard, binOp, eq_nilslice hu]⟩
          | fs0 a cap => exact ⟨false, by simp only [execOp, e1, hav, hcn]; simp [eqGuard, binOp, eq_nilslice hu]⟩
          | fn0 => exact ⟨true, by simp only [execOp, e1, hav, hcn]; simp [eqGuard, binOp, eq_nilslice hu]⟩
        unfold Oper.wp
        rw [hb]
        exact hK _ _ _ _ (hk b) (St.step hW hE hsz hdf hF (.sc _) hW (Fut.refl _ _ _ _) hdl)
      · obtain ⟨u, hrun, hr⟩ := hsp w Im T (args.map a.eval) hW (evA_list hE args)
        have hx : (execOp a.eval o).run P w = (callFunc f (args.map a.eval)).run P w := by
          simp [execOp, e1, resolve, Act.eval, invoke, Deferred.ofValue]
        unfold Oper.wp
        rw [hx, hrun]
        exact hK _ _ _ _ hk (St.step hW hE hsz hdf hF hr hW (Fut.refl _ _ _ _) hdl)
    | z =>
      rcases h3 with ⟨v, he, hk⟩ | ⟨f, xs, v, hc, hsp, hk⟩
      · exact ev v σ he hk
      · have h0 := hsp []
        rw [List.append_nil] at h0
        exact cl f xs _ hc h0 (fun r σ' ⟨e1, e2⟩ => by subst e1 e2; exact hk)
    | n =>
      obtain ⟨v, he, hk⟩ := h3
      exact ev v σ (he σ) hk
    | w =>
      rcases h3 with ⟨v, σ', he, hk⟩ | ⟨f, xs, Q', hc, hsp, _, hk⟩
      · exact ev v σ' he hk
      · exact cl f xs Q' hc hsp hk
    | b =>
      obtain ⟨v, X, he, hk⟩ := h3
      exact ev v _ he hk
theorem rwp_sound {mu : List Nat} {ops : Array Oper} {Q : Exit → Act → World → Prop} {K : Env → Sto → Prop} : ∀ (l : List (Nat × Cls)) {env : Env} {σ : Sto} {a : Act} {w : World}, rwp P mu ops nt K l env σ → St nt w0 Im0 σ0 T0 env σ a w →
    (∀ env' σ' a' w', K env' σ' → St nt w0 Im0 σ0 T0 env' σ' a' w' → Q .normal a' w') → wpOps P ops Q (l.map (·.1)) a w
  | [], env, σ, a, w, h, hs, hK => hK _ _ _ _ h hs
  | (i, c) :: l, env, σ, a, w, h, hs, hK => by
    obtain ⟨o, hi, ha⟩ := h
    rw [List.map_cons, wpOps_cons]
    exact astep_wpOp hi ha hs (fun env' σ' a' w' hr hs' => rwp_sound l hr hs' hK)
end
end Go.Proofs.Ytemijcjgdgdhjaa
