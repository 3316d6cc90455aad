/- The operations of a region: one by one, in the text's order, and in any that its edges allow. No program. (joined) -/
import Derived.Test.YtejgopcicenbeaaGreatLa
import Derived.Maps.RangeRun
namespace Go.Proofs.YtejgopcicenbeaaGreat
open Go.RowKit
section
variable {P : Program} {w : World} {Im : Nat → Prop} {σ : Sto} {T : Tab}
theorem evA_congr {env env' : Env} {x : Operand} (h : ∀ t, x = .tmp t → env t = env' t) : evA env x = evA env' x := by
  cases x with
  | tmp t => exact h t rfl
  | _ => rfl
theorem evalOp_congr {mu : List Nat} {o : Oper} {env env' : Env} (h : ∀ x ∈ o.op.operands, evA env x = evA env' x) : evalOp P mu o env σ = evalOp P mu o env' σ := by
  have opt : ∀ q : Option Operand, (∀ x ∈ q.toArray, evA env x = evA env' x) → q.map (evA env) = q.map (evA env') := by
    intro q hq
    cases q with
    | none => rfl
    | some x => simp only [Option.map_some, Option.some.injEq]; exact hq x (by simp)
  have arr : ∀ q : Array Operand, (∀ x ∈ q, evA env x = evA env' x) → q.toList.map (evA env) = q.toList.map (evA env') := fun q hq => List.map_congr_left fun x hx => hq x (Array.mem_toList_iff.1 hx)
  have prt : ∀ ps : Array (Nat × Operand), (∀ x ∈ (ps.toList.map (·.2)).toArray, evA env x = evA env' x) → (ps.toList.map fun p => (p.1, evA env p.2)) = ps.toList.map fun p => (p.1, evA env' p.2) := fun ps hp =>
    List.map_congr_left fun p hm => by rw [hp p.2 (by simp only [List.mem_toArray, List.mem_map]; exact ⟨p, hm, rfl⟩)]
  obtain ⟨dst, op, type, pos, after, guard⟩ := o
  simp only at h
  cases op <;> simp only [evalOp, isMu, isTy] <;> simp only [Op.operands] at h <;> try rfl
  case move x => rw [h x (by simp)]
  case assign x => rw [h x (by simp)]
  case pick c a b => rw [h c (by simp), h a (by simp), h b (by simp)]
  case box t x => rw [h x (by simp)]
  case build t ps => rw [prt ps h]
  case buildSlice t n ps => rw [prt ps h]
  case load t x => rw [h x (by simp)]
  case store t a x => rw [h a (by simp), h x (by simp)]
  case nilCheck x => rw [h x (by simp)]
  case binOp op t x y q => rw [h x (by simp), h y (by simp)]
  case unOp op t x => rw [h x (by simp)]
  case convert s d x => rw [h x (by simp)]
  case makeInterface t x => rw [h x (by simp)]
  case makeFunc f xs ys => rw [arr xs (fun x hx => h x (by simp [hx])), arr ys (fun x hx => h x (by simp [hx]))]
  case makeSlice t l c => rw [h l (by simp), h c (by simp)]
  case slice t x lo hi mx => rw [h x (by simp), opt lo (fun x hx => h x (by simp at hx ⊢; simp [hx])), opt hi (fun x hx => h x (by simp at hx ⊢; simp [hx])), opt mx (fun x hx => h x (by simp at hx ⊢; simp [hx]))]
  case fieldAddr s x f => rw [h x (by simp)]
  case field s x f => rw [h x (by simp)]
  case indexAddr t x i => rw [h x (by simp), h i (by simp)]
  case index t x i => rw [h x (by simp), h i (by simp)]
  case typeAssert x a b c => rw [h x (by simp)]
  case extract x i => rw [h x (by simp)]
  case makeMap t r => rw [opt r (fun x hx => h x (by simpa using hx))]
  case lookup t x i ok => rw [h x (by simp), h i (by simp)]
  case mapUpdate t x i v => rw [h x (by simp), h i (by simp), h v (by simp)]
  case mapEntry t x i => rw [h x (by simp), h i (by simp)]
  case entryStore t x i v => rw [h x (by simp), h i (by simp), h v (by simp)]
  case range t x => rw [h x (by simp)]
  case entry x => rw [h x (by simp)]
  case call c => rw [arr c.args (fun x hx => h x (by unfold Call.operands; simp [hx]))]
theorem callOf_congr {o : Oper} {env env' : Env} (h : ∀ x ∈ o.op.operands, evA env x = evA env' x) : callOf P o env σ = callOf P o env' σ := by
  obtain ⟨dst, op, type, pos, after, guard⟩ := o
  simp only at h
  cases op <;> simp only [callOf]
  case call c =>
    simp only [Op.operands, Call.operands] at h
    have arr : c.args.toList.map (evA env) = c.args.toList.map (evA env') := List.map_congr_left fun x hx => h x (by simp [Array.mem_toList_iff.1 hx])
    cases hc : c.callee with
    | value f => simp only; rw [arr, h f (by simp [hc])]
    | invoke r name => simp only; rw [arr, h r (by simp [hc])]
    | builtin b => rfl
/-- Whether an operation's guard lets it. -/
def wantA (ops : Array Oper) (o : Oper) (env : Env) : Option Bool := match o.guard with
  | none => some true
  | some (j, want) => match (ops[j]?).bind (·.dst) with
    | some d => match env d with
      | .sc (.bool b) => some (b == want)
      | .tup [] => some false
      | _ => none
    | none => some false
theorem wantA_spec {ops : Array Oper} {o : Oper} {env : Env} {a : Act} {b : Bool} (hE : ERel w Im T a env) (h : wantA ops o env = some b) : Region.wanted o (yielded ops a.tmps) = b := by
  unfold wantA at h
  unfold Region.wanted
  split at h
  · rename_i hg
    cases h
    simp [hg]
  · rename_i j want hg
    simp only [hg]
    split at h
    · rename_i d hd
      have hr := hE d
      split at h
      · rename_i q hq
        cases h
        rw [hq] at hr
        have hv : a.tmps.getD d undef = .bool q := by
          generalize a.tmps.getD d undef = v at hr
          cases hr; rfl
        have ht : a.tmps[d]? = some (.bool q) := by
          rw [Array.getD_eq_getD_getElem?] at hv
          cases h2 : a.tmps[d]? with
          | none => rw [h2] at hv; simp [undef] at hv
          | some v => rw [h2] at hv; simp at hv; rw [hv]
        simp [yielded, hd, ht]
      · rename_i hq
        cases h
        rw [hq] at hr
        have hv : ∃ A, a.tmps.getD d undef = .tuple A := by
          generalize a.tmps.getD d undef = v at hr
          cases hr; exact ⟨_, rfl⟩
        obtain ⟨A, hv⟩ := hv
        rw [Array.getD_eq_getD_getElem?] at hv
        unfold yielded
        rw [hd]
        simp only [Option.bind_some]
        cases h2 : a.tmps[d]? with
        | none => simp
        | some v => rw [h2] at hv; simp at hv; rw [hv]; simp
      · cases h
    · rename_i hd
      cases h
      simp [yielded, hd]
/-- The capacity of a row that may be written: any that holds it. -/
def CapStep (P : Program) (o : Oper) (env : Env) (σ : Sto) (K : Env → Sto → Prop) : Prop := ∃ c x t e ob l g off len k, o.op = .call c ∧ c.callee = .builtin .cap ∧ c.args = #[x] ∧ c.argTypes = #[t] ∧ P.underlying t = some (.slice e) ∧ evA env x = .ms l g off len k ∧ σ[l]? = some ob ∧ ob.gen = g ∧ ob.frz = false ∧ ob.full.nsp = true ∧
  ∀ n : Nat, len ≤ n → ob.cells.length ≤ off + n * k → K (env.put o.dst (.sc (.int .i64 n))) (σ.set l ⟨ob.cells ++ List.replicate (off + n * k - ob.cells.length) .top, ob.gen, false, true⟩)
/-- Whether an empty slice is nil: it may be so or so. -/
def NilStep (P : Program) (o : Oper) (env : Env) (σ : Sto) (K : Env → Sto → Prop) : Prop := ∃ t x t' cs e, o.op = .binOp .eql t x (.const (.slice none 0 0)) t' ∧ P.underlying t = some (.slice e) ∧ evA env x = .fs cs 0 ∧ ∀ b, K (env.put o.dst (.sc (.bool b))) σ
/-- What is left of a row behind all its elements: it is empty; it may have no room at all, and lies anywhere then. -/
def SlcStep (P : Program) (o : Oper) (env : Env) (σ : Sto) (K : Env → Sto → Prop) : Prop := ∃ t x lo e l g off len k, o.op = .slice t x (some lo) none none ∧ P.underlying t = some (.slice e) ∧ sizeT P e = some k ∧ evA env x = .ms l g off len k ∧ evA env lo = .sc (.int .i64 (len : Int)) ∧ 0 < len ∧
  K (env.put o.dst (.ms l g (off + len * k) 0 k)) σ ∧ ∀ a, K (env.put o.dst (.sc (.slice (some a) 0 0))) σ
/-- A call of a function without a body, that only reads. -/
def ESpec (P : Program) (f : FuncId) (xs : List AV) (σ : Sto) (v : AV) : Prop :=
  ∀ (w : World) (Im : Nat → Prop) (T : Tab) (A : Array Value), WRel w Im σ T → RelL w Im T A.toList xs → ∃ u, (callFunc f A).run P w = .ok (.value u) w ∧ Rel w Im T u v
def ExtStep (P : Program) (o : Oper) (env : Env) (σ : Sto) (K : Env → Sto → Prop) : Prop := ∃ f args ts v, o.op = .call ⟨.value (.func f), args, ts⟩ ∧ ESpec P f (args.toList.map (evA env)) σ v ∧ K (env.put o.dst v) σ
/-- A step of a walk over a map: over, or some entry that was not told yet (nothing was laid into the map since the walk began). -/
def NextStep (P : Program) (o : Oper) (env : Env) (σ : Sto) (K : Env → Sto → Prop) : Prop := ∃ x li q q' m since seen last, o.op = .next x false ∧ evA env x = .mp li 0 0 ∧ σ[li]? = some ⟨q, 0, q', .sp (.iter m since seen last)⟩ ∧
  ((m = none ∧ K (env.put o.dst (.tup [.sc (.bool false)])) σ) ∨ ∃ l q1 q2 kk es clock, m = some l ∧ q' = false ∧ σ[l]? = some ⟨q1, 0, q2, .sp (.map kk es clock)⟩ ∧ (∀ e ∈ es, e.2.2 < since) ∧ since ≤ last ∧
    ((∀ e ∈ es, e.2.2 ∈ seen) → K (env.put o.dst (.tup [.sc (.bool false)])) σ) ∧
    ∀ e ∈ es, e.2.2 ∉ seen → K (env.put o.dst (.tup [.sc (.bool true), .sc (.int kk e.1), e.2.1])) (σ.set li ⟨[], 0, false, .sp (.iter m since (seen ++ [e.2.2]) clock)⟩))
/-- a: whatever it is; z: it leaves the store alone; n: it doesn't look at it either; w: it may write; b: it lays new objects; k s: a call that leaves the object of slot s alone; u l: it looks at object l alone; q l: a call that leaves object l alone. -/
inductive Cls where
  | a | z | n | w | b
  | k (s : Nat)
  | u (l : Nat)
  | q (l : Nat)
  deriving DecidableEq
def Step1 (P : Program) (mu : List Nat) (c : Cls) (o : Oper) (env : Env) (σ : Sto) (K : Env → Sto → Prop) : Prop := match c with
  | .a => (∃ v σ', evalOp P mu o env σ = some (v, σ') ∧ K (env.put o.dst v) σ') ∨ (∃ f xs Q, callOf P o env σ = some (f, xs) ∧ Spec P f xs σ Q ∧ ∀ r σ', Q r σ' → K (env.put o.dst r) σ') ∨
    (∃ f xs xs' v ls n, callOf P o env σ = some (f, xs) ∧ frzL σ ls n xs = some xs' ∧ PSpec P f xs' v ∧ K (env.put o.dst v) (freezeL σ ls)) ∨ CapStep P o env σ K ∨ NilStep P o env σ K ∨ ExtStep P o env σ K ∨ SlcStep P o env σ K ∨ NextStep P o env σ K
  | .z => (∃ v, evalOp P mu o env σ = some (v, σ) ∧ K (env.put o.dst v) σ) ∨ (∃ f xs v, callOf P o env σ = some (f, xs) ∧ (∀ X, Spec P f xs (σ ++ X) (fun r σ' => r = v ∧ σ' = σ ++ X)) ∧ K (env.put o.dst v) σ)
  | .n => ∃ v, (∀ σ, evalOp P mu o env σ = some (v, σ)) ∧ K (env.put o.dst v) σ
  | .w => (∃ v σ', evalOp P mu o env σ = some (v, σ') ∧ K (env.put o.dst v) σ') ∨ (∃ f xs Q, callOf P o env σ = some (f, xs) ∧ Spec P f xs σ Q ∧ (∃ r σ', Q r σ') ∧ ∀ r σ', Q r σ' → K (env.put o.dst r) σ')
  | .b => ∃ v X, evalOp P mu o env σ = some (v, σ ++ X) ∧ K (env.put o.dst v) (σ ++ X)
  | .k s => ∃ l g off f xs Q, env s = .mp l g off ∧ callOf P o env σ = some (f, xs) ∧ Spec P f xs σ Q ∧ (∃ r σ', Q r σ') ∧ ∀ r σ', Q r σ' → σ'[l]? = σ[l]? ∧ K (env.put o.dst r) σ'
  | .u l => ∃ v, (∀ s, s[l]? = σ[l]? → evalOp P mu o env s = some (v, s)) ∧ K (env.put o.dst v) σ
  | .q l => ∃ f xs Q, callOf P o env σ = some (f, xs) ∧ Spec P f xs σ Q ∧ (∃ r σ', Q r σ') ∧ ∀ r σ', Q r σ' → σ'[l]? = σ[l]? ∧ K (env.put o.dst r) σ'
def dstOk (nt : Nat) (o : Oper) : Bool := match o.dst with
  | some d => decide (d < nt)
  | none => true
def AStep (P : Program) (mu : List Nat) (ops : Array Oper) (nt : Nat) (c : Cls) (o : Oper) (env : Env) (σ : Sto) (K : Env → Sto → Prop) : Prop :=
  dstOk nt o = true ∧ ∃ b, wantA ops o env = some b ∧ (b = true → Step1 P mu c o env σ K) ∧ (b = false → K (env.put o.dst (.tup [])) σ)
/-- What holds behind operations, one by one. -/
def rwp (P : Program) (mu : List Nat) (ops : Array Oper) (nt : Nat) (K : Env → Sto → Prop) : List (Nat × Cls) → Env → Sto → Prop
  | [], env, σ => K env σ
  | (i, c) :: l, env, σ => ∃ o, ops[i]? = some o ∧ AStep P mu ops nt c o env σ (rwp P mu ops nt K l)
/-- Slots and world stand as env and σ tell, and what was before w0 is as it was. -/
def St (nt : Nat) (w0 : World) (Im0 : Nat → Prop) (σ0 : Sto) (T0 : Tab) (env : Env) (σ : Sto) (a : Act) (w : World) : Prop :=
  ∃ Im T, WRel w Im σ T ∧ ERel w Im T a env ∧ a.tmps.size = nt ∧ a.defers = [] ∧ Fut w0 Im0 σ0 T0 w Im σ T
theorem ERel.fut {w w' : World} {Im Im' : Nat → Prop} {σ σ' : Sto} {T T' : Tab} {a : Act} {env : Env} (h : ERel w Im T a env) (hF : Fut w Im σ T w' Im' σ' T') (hW : WRel w Im σ T) : ERel w' Im' T' a env := fun t => hF.rel hW (h t)
theorem ERel.put {a : Act} {env : Env} {v : Value} {x : AV} {d : Option Nat} {nt : Nat} (h : ERel w Im T a env) (hr : Rel w Im T v x) (hs : a.tmps.size = nt) (hd : ∀ e, d = some e → e < nt) : ERel w Im T (a.put d v) (env.put d x) := by
  intro t
  cases d with
  | none => exact h t
  | some e =>
    have he := hd e rfl
    simp only [Act.put, Env.put]
    by_cases hte : t = e
    · subst hte
      rw [if_pos rfl, Array.getD_eq_getD_getElem?, Array.getElem?_setIfInBounds_self_of_lt (by omega)]
      exact hr
    · rw [if_neg hte, Array.getD_eq_getD_getElem?, Array.getElem?_setIfInBounds_ne (fun e => hte e.symm), ← Array.getD_eq_getD_getElem?]
      exact h t
theorem put_size (a : Act) (d : Option Nat) (v : Value) : (a.put d v).tmps.size = a.tmps.size := by cases d <;> simp [Act.put]
theorem put_defs (a : Act) (d : Option Nat) (v : Value) : (a.put d v).defers = a.defers := by cases d <;> rfl
theorem dstOk_lt {nt : Nat} {o : Oper} (h : dstOk nt o = true) : ∀ e, o.dst = some e → e < nt := by
  intro e he
  unfold dstOk at h
  rw [he] at h
  simpa using h
theorem eqIn_nilslice {t e : TypeId} (hu : P.underlying t = some (.slice e)) (d : Nat) (m : Option Addr) (n c : Nat) : (Op.equalIn (d + 1) t (.slice m n c) (.slice none 0 0)).run P w = .ok m.isNone w := by
  cases m <;> simp [Op.equalIn, run_underlying hu]
theorem eq_nilslice {t e : TypeId} (hu : P.underlying t = some (.slice e)) (m : Option Addr) (n c : Nat) : (Op.equal t (.slice m n c) (.slice none 0 0)).run P w = .ok m.isNone w := eqIn_nilslice hu 9999 m n c
variable {nt : Nat} {w0 : World} {Im0 : Nat → Prop} {σ0 : Sto} {T0 : Tab}
theorem St.step {env : Env} {a : Act} {w' : World} {Im' : Nat → Prop} {σ' : Sto} {T' : Tab} {d : Option Nat} {v : Value} {x : AV} (hW : WRel w Im σ T) (hE : ERel w Im T a env) (hs : a.tmps.size = nt) (hd : a.defers = []) (hF : Fut w0 Im0 σ0 T0 w Im σ T)
    (hr : Rel w' Im' T' v x) (hW' : WRel w' Im' σ' T') (hF' : Fut w Im σ T w' Im' σ' T') (hdst : ∀ e, d = some e → e < nt) : St nt w0 Im0 σ0 T0 (env.put d x) σ' (a.put d v) w' :=
  ⟨Im', T', hW', (hE.fut hF' hW).put hr hs hdst, by rw [put_size]; exact hs, by rw [put_defs]; exact hd, hF.trans hF'⟩
theorem astep_wpOp {mu : List Nat} {ops : Array Oper} {Q : Exit → Act → World → Prop} {i : Nat} {c : Cls} {o : Oper} {env : Env} {K : Env → Sto → Prop} {Kc : Act → World → Prop} {a : Act} (hi : ops[i]? = some o) (h : AStep P mu ops nt c o env σ K) (hs : St nt w0 Im0 σ0 T0 env σ a w)
    (hK : ∀ env' σ' a' w', K env' σ' → St nt w0 Im0 σ0 T0 env' σ' a' w' → Kc a' w') : wpOp P ops Q i Kc a w := by
  obtain ⟨Im, T, hW, hE, hsz, hdf, hF⟩ := hs
  obtain ⟨hd, b, hb, h1, h2⟩ := h
  have hdl := dstOk_lt hd
  have hw := wantA_spec hE hb
  unfold wpOp
  simp only [hi]
  cases b with
  | false =>
    rw [if_neg (by rw [hw]; simp)]
    exact hK _ _ _ _ (h2 rfl) (St.step hW hE hsz hdf hF (.tup _ _ rfl (fun i x v hx _ => by simp at hx)) hW (Fut.refl _ _ _ _) hdl)
  | true =>
    rw [if_pos hw]
    refine .inl ?_
    have ev : ∀ v σ', evalOp P mu o env σ = some (v, σ') → K (env.put o.dst v) σ' → o.wp P a w Kc Q := by
      intro v σ' he hk
      obtain ⟨nx, vc, w', Im', T', hrun, hnx, hr, hW', hF'⟩ := evalOp_snd (P := P) hW hE he
      unfold Oper.wp
      rw [hrun]
      have := hK _ _ _ _ hk (St.step hW hE hsz hdf hF hr hW' hF' hdl)
      rcases hnx with rfl | ⟨rfl, rfl⟩
      · exact this
      · exact this
    have cl : ∀ f xs (Q' : AV → Sto → Prop), callOf P o env σ = some (f, xs) → Spec P f xs σ Q' → (∀ r σ', Q' r σ' → K (env.put o.dst r) σ') → o.wp P a w Kc Q := by
      intro f xs Q' hc hsp hk
      obtain ⟨B, hrun, hR⟩ := callOf_run (P := P) hW hE hc hsp.1
      unfold Oper.wp
      rw [hrun]
      show Calls P f B w _
      refine (hsp.2 w Im T B hW hR).mono ?_
      rintro e w' ⟨v, r, σ', Im', T', rfl, hr, hW', hF', hq⟩
      exact hK _ _ _ _ (hk r σ' hq) (St.step hW hE hsz hdf hF hr hW' hF' hdl)
    have h3 := h1 rfl
    cases c with
    | a =>
      rcases h3 with ⟨v, σ', he, hk⟩ | ⟨f, xs, Q', hc, hsp, hk⟩ | ⟨f, xs, xs', v, ls, n, hc, hfz, hsp, hk⟩ | ⟨c, x, t, e, ob, l, g, off, len, k, e1, e2, e3, e4, hu, hx, ho, hg, hfz, hns, hk⟩ | ⟨t, x, t', cs, e, e1, hu, hx, hk⟩ | ⟨f, args, ts, v, e1, hsp, hk⟩ | ⟨t, x, lo, e, l, g, off, len, k, e1, hu, hsz2, hx, hlo, hpos, hk1, hk2⟩ | ⟨x, li, q, q', m, since, seen, last, e1, hx, hoi, hnx⟩
      · exact ev v σ' he hk
      · exact cl f xs Q' hc hsp hk
      · obtain ⟨B, hrun, hR⟩ := callOf_run (P := P) hW hE hc (hsp []).1
        obtain ⟨I1, hW1, hF1, hb1⟩ := hW.freezeL ls
        obtain ⟨q1, q2⟩ := (frz_rel hW hb1 hF1.im1 n).2 xs xs' hfz
        have hR1 : RelL w I1 T B.toList xs' := ⟨by rw [hR.1, q1], fun i y u hy hu => by
          have hlt : i < xs.length := by rw [← q1]; exact lt_of_get hy
          exact q2 i _ y u (List.getElem?_eq_getElem hlt) hy (hR.2 i _ u (List.getElem?_eq_getElem hlt) hu)⟩
        unfold Oper.wp
        rw [hrun]
        show Calls P f B w _
        refine ((hsp (freezeL σ ls)).2 w I1 T B hW1 hR1).mono ?_
        rintro e w' ⟨u, r, σ', Im', T', rfl, hr, hW', hF', rfl, rfl⟩
        exact hK _ _ _ _ hk (St.step hW hE hsz hdf hF hr hW' (hF1.trans hF') hdl)
      · have hr := evA_rel hE x
        rw [hx] at hr
        generalize hav : a.eval x = v at hr
        cases hr with
        | ms ad _ _ _ _ _ cap p hp hge hlc hsp hpl =>
          have hgen := hW.gen l ob p ho hp
          obtain ⟨ha, hcap⟩ := hpl (by omega)
          obtain ⟨cc, tt, fz, hc, hfz', hsz', hrel⟩ := (hW.obj l ob p ho hp).cells hns
          have hrm := hW.room l ob p ho hp
          obtain rfl := hfz' hfz
          have hrun : (execOp a.eval o).run P w = .ok (.value (.int .i64 cap)) w := by
            simp [execOp, e1, e2, e3, e4, resolve, invoke, builtin, hav, Builtin.cap_, run_underlying hu, goInt]
          unfold Oper.wp
          rw [hrun]
          have key := hW.change (w' := w) (o' := ⟨ob.cells ++ List.replicate (off + cap * k - ob.cells.length) .top, ob.gen, false, true⟩) (p' := p) ho hp hfz rfl rfl rfl (Nat.le_refl _) (fun _ _ _ => rfl) (.inl rfl) (Nat.le_refl _) (fun _ => rfl) hgen.symm rfl
            (by simp; omega) (fun _ => by simp; omega) hc (by omega) (by
              intro i x v hx hv
              simp only at hx
              rcases Nat.lt_or_ge i ob.cells.length with h2 | h2
              · rw [List.getElem?_append_left h2] at hx; exact hrel i x v hx hv
              · rw [List.getElem?_append_right h2, List.getElem?_replicate] at hx
                split at hx
                · cases hx; exact .top v
                · cases hx)
          exact hK _ _ _ _ (hk cap hlc (by omega)) (St.step hW hE hsz hdf hF (.sc _) key.1 key.2 hdl)
      · have hr := evA_rel hE x
        rw [hx] at hr
        obtain ⟨b, hb⟩ : ∃ b, (execOp a.eval o).run P w = .ok (.value (.bool b)) w := by
          have hcn : a.eval (.const (.slice none 0 0)) = .slice none 0 0 := rfl
          generalize hav : a.eval x = v at hr
          cases hr with
          | fs bb oo _ cap _ vs hl h1 h2 => exact ⟨false, by simp only [execOp, e1, hav, hcn]; simp [eqGuard, binOp, eq_nilslice hu]⟩
          | fs0 a cap => exact ⟨false, by simp only [execOp, e1, hav, hcn]; simp [eqGuard, binOp, eq_nilslice hu]⟩
          | fn0 => exact ⟨true, by simp only [execOp, e1, hav, hcn]; simp [eqGuard, binOp, eq_nilslice hu]⟩
        unfold Oper.wp
        rw [hb]
        exact hK _ _ _ _ (hk b) (St.step hW hE hsz hdf hF (.sc _) hW (Fut.refl _ _ _ _) hdl)
      · obtain ⟨u, hrun, hr⟩ := hsp w Im T (args.map a.eval) hW (evA_list hE args)
        have hx : (execOp a.eval o).run P w = (callFunc f (args.map a.eval)).run P w := by
          simp [execOp, e1, resolve, Act.eval, invoke, Deferred.ofValue]
        unfold Oper.wp
        rw [hx, hrun]
        exact hK _ _ _ _ hk (St.step hW hE hsz hdf hF hr hW (Fut.refl _ _ _ _) hdl)
      · have hr := evA_rel hE x
        rw [hx] at hr
        generalize hav : a.eval x = v at hr
        have hl := evA_rel hE lo
        rw [hlo] at hl
        generalize hlv : a.eval lo = vl at hl
        cases hl
        cases hr with
        | ms ad _ _ _ _ _ cap p hp hge hlc hsp hpl =>
          obtain ⟨ab, ao, asp⟩ := ad
          simp only at hsp
          subst hsp
          have hb := run_sliceBounds (P := P) (isS := true) (len := len) (cap := cap) (l := len) (h := len) (lo := some (.int .i64 (len : Int))) (hi := none) (.inr ⟨.i64, rfl⟩) (.inl ⟨rfl, rfl⟩) (Nat.le_refl _) hlc w
          have hrun : (execOp a.eval o).run P w = .ok (.value (.slice (some ⟨ab, ao + (if cap = len then 0 else len * k), none⟩) 0 (cap - len))) w := by
            simp only [execOp, e1, hav, Option.map_some, Option.map_none, hlv]
            simp [Instr.sliceAt, run_underlying hu, Instr.slice, hb, run_sizeOf hsz2]
            split <;> simp [Addr.add_lit]
          unfold Oper.wp
          rw [hrun]
          by_cases hc : cap = len
          · rw [if_pos hc, hc, Nat.sub_self]
            exact hK _ _ _ _ (hk2 _) (St.step hW hE hsz hdf hF (.sc _) hW (Fut.refl _ _ _ _) hdl)
          · rw [if_neg hc]
            refine hK _ _ _ _ hk1 (St.step hW hE hsz hdf hF (.ms _ _ _ _ _ _ _ p hp hge (Nat.zero_le _) rfl fun q => ?_) hW (Fut.refl _ _ _ _) hdl)
            obtain ⟨q1, q2⟩ := hpl q
            simp only [Addr.mk.injEq, and_true] at q1
            obtain ⟨rfl, rfl⟩ := q1
            rw [Nat.add_assoc]
            refine ⟨rfl, ?_⟩
            have : len * k + (cap - len) * k = cap * k := by rw [← Nat.add_mul]; congr 1; omega
            omega
      · have hr := evA_rel hE x
        rw [hx] at hr
        generalize hav : a.eval x = v at hr
        cases hr with
        | mp ad _ _ _ p hp hge hh =>
          have hgi := hW.gen li _ p hoi hp
          have ha := hh (by simpa using hgi.symm)
          obtain ⟨_, hbase, bm, hbi, hbm⟩ := (hW.obj li _ p hoi hp).sp _ rfl
          subst ha
          rw [hbase] at hav
          have hex : execOp a.eval o = (do pure (.value (← Instr.next (.pointer (some ⟨p.blk, 0, none⟩)) false o.type))) := by simp only [execOp, e1, hav]
          unfold Oper.wp
          rw [hex]
          rcases hnx with ⟨rfl, hk⟩ | ⟨l, q1, q2, kk, es, clock, rfl, rfl, ho, hold, hsl, hk1, hk2⟩
          · rcases hbm with ⟨_, rfl⟩ | ⟨l, c, h, _⟩
            · have hrun : (Instr.next (.pointer (some ⟨p.blk, 0, none⟩)) false o.type).run P w = .ok (.tuple #[.bool false]) w := by
                simp [Instr.next, getObj, Sem.run, hbi]
              simp only [Sem.run_bind, hrun, Result.andThen, Sem.run]
              refine hK _ _ _ _ hk (St.step hW hE hsz hdf hF (.tup _ _ rfl fun i x v hx hv => ?_) hW (Fut.refl _ _ _ _) hdl)
              match i with
              | 0 => simp at hx hv; subst hx hv; exact .sc _
              | i + 1 => simp at hx
            · cases h
          · rcases hbm with ⟨h, _⟩ | ⟨l', c, h1, rfl, hrm⟩
            · cases h
            cases h1
            obtain ⟨pm, hpm, hpg, hbe, _, A, hb, hl, hA⟩ := mm_at hW hrm ho rfl rfl
            cases hbe
            have ent : ∀ x ∈ A.toList, ∃ i e, es[i]? = some e ∧ A.toList[i]? = some x := fun x hx => by
              obtain ⟨i, hi, rfl⟩ := List.getElem_of_mem hx
              exact ⟨i, es[i]'(by omega), List.getElem?_eq_getElem _, List.getElem?_eq_getElem hi⟩
            rcases run_next_at (P := P) w o.type p.blk pm.blk since last seen.toArray A clock hbi hb (fun x hx => by
              obtain ⟨i, e, q1, q2⟩ := ent x hx
              rw [(hA i e x q1 q2).2.2]
              exact hold e (List.mem_of_getElem? q1)) hsl with ⟨h0, hrun⟩ | ⟨x, hx, w1, hw1, hrun⟩
            · simp only [Sem.run_bind, hrun, Result.andThen, Sem.run]
              refine hK _ _ _ _ (hk1 fun e he => ?_) (St.step hW hE hsz hdf hF (.tup _ _ rfl fun i x v hx hv => ?_) hW (Fut.refl _ _ _ _) hdl)
              · obtain ⟨i, hi, rfl⟩ := List.getElem_of_mem he
                have hi' : i < A.toList.length := by omega
                have hxe := (hA i es[i] A.toList[i] (List.getElem?_eq_getElem hi) (List.getElem?_eq_getElem hi')).2.2
                rw [← hxe]
                unfold leftOf at h0
                have h1 := Array.eq_empty_of_size_eq_zero h0
                rw [Array.filter_eq_empty_iff] at h1
                have := h1 A.toList[i] (by simp)
                simpa using this
              · match i with
                | 0 => simp at hx hv; subst hx hv; exact .sc _
                | i + 1 => simp at hx
            · unfold leftOf at hx
              have hx' : x ∈ A.toList ∧ x.born ∉ seen := by simpa using hx
              obtain ⟨i, e, q3, q4⟩ := ent x hx'.1
              obtain ⟨r1, r2, r3⟩ := hA i e x q3 q4
              have hne : e.2.2 ∉ seen := by rw [← r3]; exact hx'.2
              have key := fun wd => sp_set hW hoi hp rfl rfl rfl (.mapIter (some pm.blk) since (seen.toArray.push x.born) clock) (.iter (some l) since (seen ++ [e.2.2]) clock) wd fun w' hb' hi' =>
                ⟨some pm.blk, by rw [hb', r3]; simp, .inr ⟨l, pm.blk, rfl, rfl, hrm.mono hi' (fun _ h => h) (Tab.le_refl _)⟩⟩
              have hw2 : ∃ wd, Go.ChangeMaps.setBlock w1 p.blk (.mapIter (some pm.blk) since (seen.toArray.push x.born) clock) = { w with heap := w.heap.setIfInBounds p.blk (.mapIter (some pm.blk) since (seen.toArray.push x.born) clock), drawn := wd } := by
                rcases hw1 with rfl | rfl
                · exact ⟨_, rfl⟩
                · exact ⟨_, rfl⟩
              obtain ⟨wd, hw2⟩ := hw2
              rw [hw2] at hrun
              simp only [Sem.run_bind, hrun, Result.andThen, Sem.run]
              have hrx := (key wd).2.rel hW r2
              refine hK _ _ _ _ (hk2 e (List.mem_of_getElem? q3) hne) (St.step hW hE hsz hdf hF (.tup _ _ rfl fun i x v hx hv => ?_) (key wd).1 (key wd).2 hdl)
              match i with
              | 0 => simp at hx hv; subst hx hv; exact .sc _
              | 1 => simp at hx hv; subst hx hv; rw [r1]; exact .sc _
              | 2 => simp at hx hv; subst hx hv; exact hrx
              | i + 3 => simp at hx
    | z =>
      rcases h3 with ⟨v, he, hk⟩ | ⟨f, xs, v, hc, hsp, hk⟩
      · exact ev v σ he hk
      · have h0 := hsp []
        rw [List.append_nil] at h0
        exact cl f xs _ hc h0 (fun r σ' ⟨e1, e2⟩ => by subst e1 e2; exact hk)
    | n =>
      obtain ⟨v, he, hk⟩ := h3
      exact ev v σ (he σ) hk
    | w =>
      rcases h3 with ⟨v, σ', he, hk⟩ | ⟨f, xs, Q', hc, hsp, _, hk⟩
      · exact ev v σ' he hk
      · exact cl f xs Q' hc hsp hk
    | b =>
      obtain ⟨v, X, he, hk⟩ := h3
      exact ev v _ he hk
    | k s =>
      obtain ⟨l, g, off, f, xs, Q', _, hc, hsp, _, hk⟩ := h3
      exact cl f xs Q' hc hsp fun r σ' hq => (hk r σ' hq).2
    | u l =>
      obtain ⟨v, he, hk⟩ := h3
      exact ev v σ (he σ rfl) hk
    | q l =>
      obtain ⟨f, xs, Q', hc, hsp, _, hk⟩ := h3
      exact cl f xs Q' hc hsp fun r σ' hq => (hk r σ' hq).2
end
end Go.Proofs.YtejgopcicenbeaaGreat
/- A region that draws its order. No program. -/
namespace Go.Proofs.YtejgopcicenbeaaGreat
open Go.RowKit
section
variable {P : Program} {w : World} {Im : Nat → Prop} {σ : Sto} {T : Tab}
theorem Env.put_comm (env : Env) {d e : Option Nat} (x y : AV) (h : ∀ k, d = some k → e ≠ some k) : (env.put d x).put e y = (env.put e y).put d x := by
  cases d with
  | none => rfl
  | some d =>
    cases e with
    | none => rfl
    | some e =>
      have hne : e ≠ d := fun he => h d rfl (he ▸ rfl)
      funext t
      simp only [Env.put]
      by_cases h1 : t = e
      · subst h1; simp [hne]
      · simp [h1]
theorem evA_put {env : Env} {d : Option Nat} {v : AV} {x : Operand} (h : ∀ k, d = some k → x ≠ .tmp k) : evA (env.put d v) x = evA env x := by
  refine evA_congr fun t ht => ?_
  cases d with
  | none => rfl
  | some k => simp only [Env.put]; rw [if_neg (fun e => h k rfl (by rw [ht, e]))]
theorem looks_op {ops : Array Oper} {o : Oper} {d : Option Nat} (h : ∀ k, d = some k → k ∉ o.looksAt ops) (x : Operand) (hx : x ∈ o.op.operands) : ∀ k, d = some k → x ≠ .tmp k := by
  rintro k hk rfl
  refine h k hk ?_
  unfold Oper.looksAt
  refine List.mem_append.2 (.inl ?_)
  rw [List.mem_filterMap]
  exact ⟨.tmp k, Array.mem_toList_iff.2 hx, rfl⟩
theorem evalOp_put {mu : List Nat} {ops : Array Oper} {o : Oper} {env : Env} {d : Option Nat} {v : AV} (h : ∀ k, d = some k → k ∉ o.looksAt ops) : evalOp P mu o (env.put d v) σ = evalOp P mu o env σ :=
  evalOp_congr fun x hx => evA_put (looks_op h x hx)
theorem callOf_put {ops : Array Oper} {o : Oper} {env : Env} {d : Option Nat} {v : AV} (h : ∀ k, d = some k → k ∉ o.looksAt ops) : callOf P o (env.put d v) σ = callOf P o env σ :=
  callOf_congr fun x hx => evA_put (looks_op h x hx)
theorem wantA_put {ops : Array Oper} {o : Oper} {env : Env} {d : Option Nat} {v : AV} (h : ∀ k, d = some k → k ∉ o.looksAt ops) : wantA ops o (env.put d v) = wantA ops o env := by
  unfold wantA
  cases hg : o.guard with
  | none => rfl
  | some g =>
    obtain ⟨j, want⟩ := g
    simp only
    cases hj : (ops[j]?).bind (·.dst) with
    | none => rfl
    | some e =>
      have he : ∀ k, d = some k → k ≠ e := by
        rintro k hk rfl
        refine h k hk ?_
        unfold Oper.looksAt
        refine List.mem_append.2 (.inr ?_)
        simp [hg, hj]
      cases d with
      | none => rfl
      | some k => simp only [Env.put]; rw [if_neg (fun q => he k rfl q.symm)]
/-- What a step does, without its guard's word. -/
def Core (P : Program) (mu : List Nat) (c : Cls) (o : Oper) (b : Bool) (env : Env) (σ : Sto) (K : Env → Sto → Prop) : Prop := if b = true then Step1 P mu c o env σ K else K (env.put o.dst (.tup [])) σ
theorem AStep.iff {mu : List Nat} {ops : Array Oper} {nt : Nat} {c : Cls} {o : Oper} {env : Env} {K : Env → Sto → Prop} : AStep P mu ops nt c o env σ K ↔ dstOk nt o = true ∧ ∃ b, wantA ops o env = some b ∧ Core P mu c o b env σ K := by
  unfold AStep Core
  constructor
  · rintro ⟨h1, b, h2, h3, h4⟩
    refine ⟨h1, b, h2, ?_⟩
    cases b
    · exact h4 rfl
    · exact h3 rfl
  · rintro ⟨h1, b, h2, h3⟩
    refine ⟨h1, b, h2, fun e => ?_, fun e => ?_⟩
    · subst e; exact h3
    · subst e; exact h3
theorem Step1.mono {mu : List Nat} {c : Cls} {o : Oper} {env : Env} {K K' : Env → Sto → Prop} (h : Step1 P mu c o env σ K) (hk : ∀ e s, K e s → K' e s) : Step1 P mu c o env σ K' := by
  cases c with
  | a =>
    rcases h with ⟨v, s, h1, h2⟩ | ⟨f, xs, Q, h1, h2, h3⟩ | ⟨f, xs, xs', v, ls, n, h1, h2, h3, h4⟩ | ⟨c, x, t, e, ob, l, g, off, len, k, e1, e2, e3, e4, hu, hx, ho, hg, hfz, hns, h⟩ | ⟨t, x, t', cs, e, e1, hu, hx, h⟩ | ⟨f, args, ts, v, e1, hsp, h⟩ | ⟨t, x, lo, e, l, g, off, len, k, e1, hu, hs, hx, hl, hp, h1, h2⟩ | ⟨x, li, q, q', m, since, seen, last, e1, hx, hoi, hnx⟩
    · exact .inl ⟨v, s, h1, hk _ _ h2⟩
    · exact .inr (.inl ⟨f, xs, Q, h1, h2, fun r s hq => hk _ _ (h3 r s hq)⟩)
    · exact .inr (.inr (.inl ⟨f, xs, xs', v, ls, n, h1, h2, h3, hk _ _ h4⟩))
    · exact .inr (.inr (.inr (.inl ⟨c, x, t, e, ob, l, g, off, len, k, e1, e2, e3, e4, hu, hx, ho, hg, hfz, hns, fun n q1 q2 => hk _ _ (h n q1 q2)⟩)))
    · exact .inr (.inr (.inr (.inr (.inl ⟨t, x, t', cs, e, e1, hu, hx, fun b => hk _ _ (h b)⟩))))
    · exact .inr (.inr (.inr (.inr (.inr (.inl ⟨f, args, ts, v, e1, hsp, hk _ _ h⟩)))))
    · exact .inr (.inr (.inr (.inr (.inr (.inr (.inl ⟨t, x, lo, e, l, g, off, len, k, e1, hu, hs, hx, hl, hp, hk _ _ h1, fun a => hk _ _ (h2 a)⟩))))))
    · refine .inr (.inr (.inr (.inr (.inr (.inr (.inr ⟨x, li, q, q', m, since, seen, last, e1, hx, hoi, ?_⟩))))))
      rcases hnx with ⟨h1, h2⟩ | ⟨l, q1, q2, kk, es, clock, h1, h1', h2, h3, h4, h5, h6⟩
      · exact .inl ⟨h1, hk _ _ h2⟩
      · exact .inr ⟨l, q1, q2, kk, es, clock, h1, h1', h2, h3, h4, fun h => hk _ _ (h5 h), fun e he hn => hk _ _ (h6 e he hn)⟩
  | z =>
    rcases h with ⟨v, h1, h2⟩ | ⟨f, xs, v, h1, h2, h3⟩
    · exact .inl ⟨v, h1, hk _ _ h2⟩
    · exact .inr ⟨f, xs, v, h1, h2, hk _ _ h3⟩
  | n => obtain ⟨v, h1, h2⟩ := h; exact ⟨v, h1, hk _ _ h2⟩
  | w =>
    rcases h with ⟨v, s, h1, h2⟩ | ⟨f, xs, Q, h1, h2, h4, h3⟩
    · exact .inl ⟨v, s, h1, hk _ _ h2⟩
    · exact .inr ⟨f, xs, Q, h1, h2, h4, fun r s hq => hk _ _ (h3 r s hq)⟩
  | b => obtain ⟨v, X, h1, h2⟩ := h; exact ⟨v, X, h1, hk _ _ h2⟩
  | k s => obtain ⟨l, g, off, f, xs, Q, h1, h2, h3, h4, h5⟩ := h; exact ⟨l, g, off, f, xs, Q, h1, h2, h3, h4, fun r s hq => ⟨(h5 r s hq).1, hk _ _ (h5 r s hq).2⟩⟩
  | u l => obtain ⟨v, h1, h2⟩ := h; exact ⟨v, h1, hk _ _ h2⟩
  | q l => obtain ⟨f, xs, Q, h2, h3, h4, h5⟩ := h; exact ⟨f, xs, Q, h2, h3, h4, fun r s hq => ⟨(h5 r s hq).1, hk _ _ (h5 r s hq).2⟩⟩
theorem AStep.mono {mu : List Nat} {ops : Array Oper} {nt : Nat} {c : Cls} {o : Oper} {env : Env} {K K' : Env → Sto → Prop} (h : AStep P mu ops nt c o env σ K) (hk : ∀ e s, K e s → K' e s) : AStep P mu ops nt c o env σ K' := by
  obtain ⟨h1, b, h2, h3, h4⟩ := h
  exact ⟨h1, b, h2, fun e => (h3 e).mono hk, fun e => hk _ _ (h4 e)⟩
theorem put_ne {env : Env} {d : Option Nat} {v : AV} {t : Nat} (h : d ≠ some t) : env.put d v t = env t := by
  cases d with
  | none => rfl
  | some d => simp only [Env.put]; rw [if_neg (fun e => h (by rw [e]))]
/-- One that looks at no store, ahead: it may come behind. -/
theorem swap_n {mu : List Nat} {ops : Array Oper} {nt : Nat} {c : Cls} {x y : Oper} {env : Env} {K : Env → Sto → Prop} (h1 : ∀ k, x.dst = some k → k ∉ y.looksAt ops) (h2 : ∀ k, x.dst = some k → y.dst ≠ some k) (h3 : ∀ k, y.dst = some k → k ∉ x.looksAt ops) (hc : c ≠ .a) (hkt : ∀ t, c = .k t → x.dst ≠ some t)
    (h : AStep P mu ops nt .n x env σ (AStep P mu ops nt c y · · K)) : AStep P mu ops nt c y env σ (AStep P mu ops nt .n x · · K) := by
  rw [AStep.iff] at h
  obtain ⟨dx, bx, wx, cx⟩ := h
  obtain ⟨vx, hxv, hy⟩ : ∃ vx, (bx = true → ∀ s, evalOp P mu x env s = some (vx, s)) ∧ (bx = false → vx = .tup []) ∧ AStep P mu ops nt c y (env.put x.dst vx) σ K := by
    cases bx with
    | true => obtain ⟨v, hv, hk⟩ := cx; exact ⟨v, fun _ => hv, (fun e => by cases e), hk⟩
    | false => exact ⟨.tup [], (fun e => by cases e), fun _ => rfl, cx⟩
  obtain ⟨hxf, hy⟩ := hy
  have fin : ∀ (u : AV) (s : Sto), K ((env.put x.dst vx).put y.dst u) s → AStep P mu ops nt .n x (env.put y.dst u) s K := by
    intro u s hk
    rw [Env.put_comm _ _ _ h2] at hk
    rw [AStep.iff]
    refine ⟨dx, bx, by rw [wantA_put h3]; exact wx, ?_⟩
    unfold Core
    cases bx with
    | true => exact ⟨vx, fun s => by rw [evalOp_put h3]; exact hxv rfl s, hk⟩
    | false => rw [hxf rfl] at hk; exact hk
  obtain ⟨dy, b, wy, s1, s2⟩ := hy
  rw [wantA_put h1] at wy
  refine ⟨dy, b, wy, fun e => ?_, fun e => fin _ _ (s2 e)⟩
  have s := s1 e
  cases c with
  | a => exact absurd rfl hc
  | z =>
    rcases s with ⟨v, q1, q2⟩ | ⟨f, xs, v, q1, q2, q3⟩
    · exact .inl ⟨v, by rw [evalOp_put h1] at q1; exact q1, fin _ _ q2⟩
    · exact .inr ⟨f, xs, v, by rw [callOf_put h1] at q1; exact q1, q2, fin _ _ q3⟩
  | n => obtain ⟨v, q1, q2⟩ := s; exact ⟨v, fun s => by rw [← evalOp_put (v := vx) h1]; exact q1 s, fin _ _ q2⟩
  | w =>
    rcases s with ⟨v, s, q1, q2⟩ | ⟨f, xs, Q, q1, q2, q4, q3⟩
    · exact .inl ⟨v, s, by rw [evalOp_put h1] at q1; exact q1, fin _ _ q2⟩
    · exact .inr ⟨f, xs, Q, by rw [callOf_put h1] at q1; exact q1, q2, q4, fun r s hq => fin _ _ (q3 r s hq)⟩
  | b => obtain ⟨v, X, q1, q2⟩ := s; exact ⟨v, X, by rw [evalOp_put h1] at q1; exact q1, fin _ _ q2⟩
  | k t =>
    obtain ⟨l, g, off, f, xs, Q, q0, q1, q2, q4, q3⟩ := s
    exact ⟨l, g, off, f, xs, Q, by rw [put_ne (hkt t rfl)] at q0; exact q0, by rw [callOf_put h1] at q1; exact q1, q2, q4, fun r s hq => ⟨(q3 r s hq).1, fin _ _ (q3 r s hq).2⟩⟩
  | u l => obtain ⟨v, q1, q2⟩ := s; exact ⟨v, fun s hs => by rw [← evalOp_put (v := vx) h1]; exact q1 s hs, fin _ _ q2⟩
  | q l =>
    obtain ⟨f, xs, Q, q1, q2, q4, q3⟩ := s
    exact ⟨f, xs, Q, by rw [callOf_put h1] at q1; exact q1, q2, q4, fun r s hq => ⟨(q3 r s hq).1, fin _ _ (q3 r s hq).2⟩⟩
/-- One that looks at no store, behind: it may come first. -/
theorem swap_n' {mu : List Nat} {ops : Array Oper} {nt : Nat} {c : Cls} {x y : Oper} {env : Env} {K : Env → Sto → Prop} (h1 : ∀ k, x.dst = some k → k ∉ y.looksAt ops) (h2 : ∀ k, x.dst = some k → y.dst ≠ some k) (h3 : ∀ k, y.dst = some k → k ∉ x.looksAt ops) (hc : c ≠ .a) (hkt : ∀ t, c = .k t → y.dst ≠ some t)
    (h : AStep P mu ops nt c x env σ (AStep P mu ops nt .n y · · K)) : AStep P mu ops nt .n y env σ (AStep P mu ops nt c x · · K) := by
  obtain ⟨dx, bx, wx, s1, s2⟩ := h
  -- what y comes to
  have got : ∀ (u : AV) (s : Sto), AStep P mu ops nt .n y (env.put x.dst u) s K → dstOk nt y = true ∧ ∃ b v, wantA ops y env = some b ∧ (b = true → ∀ s, evalOp P mu y env s = some (v, s)) ∧ (b = false → v = .tup []) ∧ K ((env.put y.dst v).put x.dst u) s := by
    intro u s hk
    rw [AStep.iff] at hk
    obtain ⟨dy, b, wy, cy⟩ := hk
    rw [wantA_put h1] at wy
    refine ⟨dy, b, ?_⟩
    cases b with
    | true =>
      obtain ⟨v, q1, q2⟩ := cy
      exact ⟨v, wy, (fun _ s => by rw [← evalOp_put (v := u) h1]; exact q1 s), (fun e => by cases e), by rw [← Env.put_comm _ _ _ h2]; exact q2⟩
    | false => exact ⟨.tup [], wy, (fun e => by cases e), fun _ => rfl, by rw [← Env.put_comm _ _ _ h2]; exact cy⟩
  -- one way of x's
  have one : ∃ u s, AStep P mu ops nt .n y (env.put x.dst u) s K := by
    cases bx with
    | false => exact ⟨_, _, s2 rfl⟩
    | true =>
      have s := s1 rfl
      cases c with
      | a => exact absurd rfl hc
      | z =>
        rcases s with ⟨v, q1, q2⟩ | ⟨f, xs, v, q1, q2, q3⟩
        · exact ⟨_, _, q2⟩
        · exact ⟨_, _, q3⟩
      | n => obtain ⟨v, q1, q2⟩ := s; exact ⟨_, _, q2⟩
      | w =>
        rcases s with ⟨v, s, q1, q2⟩ | ⟨f, xs, Q, q1, q2, ⟨r, s, hq⟩, q3⟩
        · exact ⟨_, _, q2⟩
        · exact ⟨_, _, q3 r s hq⟩
      | b => obtain ⟨v, X, q1, q2⟩ := s; exact ⟨_, _, q2⟩
      | k t => obtain ⟨l, g, off, f, xs, Q, q0, q1, q2, ⟨r, s, hq⟩, q3⟩ := s; exact ⟨_, _, (q3 r s hq).2⟩
      | u l => obtain ⟨v, q1, q2⟩ := s; exact ⟨_, _, q2⟩
      | q l => obtain ⟨f, xs, Q, q1, q2, ⟨r, s, hq⟩, q3⟩ := s; exact ⟨_, _, (q3 r s hq).2⟩
  obtain ⟨u0, s0, h0⟩ := one
  obtain ⟨dy, b, v, wy, ev, ef, _⟩ := got u0 s0 h0
  have fin : ∀ (u : AV) (s : Sto), AStep P mu ops nt .n y (env.put x.dst u) s K → K ((env.put y.dst v).put x.dst u) s := by
    intro u s hk
    obtain ⟨_, b', v', wy', ev', ef', hk'⟩ := got u s hk
    rw [wy] at wy'
    cases wy'
    have : v' = v := by
      cases b with
      | true => have e1 := ev rfl s; have e2 := ev' rfl s; rw [e1] at e2; cases e2; rfl
      | false => rw [ef rfl, ef' rfl]
    rw [this] at hk'
    exact hk'
  have out : AStep P mu ops nt c x (env.put y.dst v) σ K := by
    refine ⟨dx, bx, by rw [wantA_put h3]; exact wx, fun e => ?_, fun e => fin _ _ (s2 e)⟩
    have s := s1 e
    cases c with
    | a => exact absurd rfl hc
    | z =>
      rcases s with ⟨u, q1, q2⟩ | ⟨f, xs, u, q1, q2, q3⟩
      · exact .inl ⟨u, by rw [evalOp_put h3]; exact q1, fin _ _ q2⟩
      · exact .inr ⟨f, xs, u, by rw [callOf_put h3]; exact q1, q2, fin _ _ q3⟩
    | n => obtain ⟨u, q1, q2⟩ := s; exact ⟨u, fun s => by rw [evalOp_put h3]; exact q1 s, fin _ _ q2⟩
    | w =>
      rcases s with ⟨u, s, q1, q2⟩ | ⟨f, xs, Q, q1, q2, q4, q3⟩
      · exact .inl ⟨u, s, by rw [evalOp_put h3]; exact q1, fin _ _ q2⟩
      · exact .inr ⟨f, xs, Q, by rw [callOf_put h3]; exact q1, q2, q4, fun r s hq => fin _ _ (q3 r s hq)⟩
    | b => obtain ⟨u, X, q1, q2⟩ := s; exact ⟨u, X, by rw [evalOp_put h3]; exact q1, fin _ _ q2⟩
    | k t =>
      obtain ⟨l, g, off, f, xs, Q, q0, q1, q2, q4, q3⟩ := s
      exact ⟨l, g, off, f, xs, Q, by rw [put_ne (hkt t rfl)]; exact q0, by rw [callOf_put h3]; exact q1, q2, q4, fun r s hq => ⟨(q3 r s hq).1, fin _ _ (q3 r s hq).2⟩⟩
    | u l => obtain ⟨u, q1, q2⟩ := s; exact ⟨u, fun s hs => by rw [evalOp_put h3]; exact q1 s hs, fin _ _ q2⟩
    | q l =>
      obtain ⟨f, xs, Q, q1, q2, q4, q3⟩ := s
      exact ⟨f, xs, Q, by rw [callOf_put h3]; exact q1, q2, q4, fun r s hq => ⟨(q3 r s hq).1, fin _ _ (q3 r s hq).2⟩⟩
  rw [AStep.iff]
  refine ⟨dy, b, wy, ?_⟩
  unfold Core
  cases b with
  | true => exact ⟨v, ev rfl, out⟩
  | false => rw [ef rfl] at out; exact out
def isCallO (o : Oper) : Bool := match o.op with
  | .call c => (match c.callee with
    | .builtin _ => false
    | _ => true)
  | _ => false
theorem evalOp_isCall {mu : List Nat} {o : Oper} {env : Env} {v : AV} {σ' : Sto} (h : evalOp P mu o env σ = some (v, σ')) : isCallO o = false := by
  cases hc : isCallO o with
  | false => rfl
  | true =>
    unfold isCallO at hc
    split at hc
    · rename_i c ho
      simp only [evalOp, ho] at h
      split at hc
      · cases hc
      · rename_i hb
        split at h
        · rename_i b e; exact absurd e (hb b)
        · cases h
    · cases hc
/-- Two that leave the store alone, not both calls. -/
theorem swap_z {mu : List Nat} {ops : Array Oper} {nt : Nat} {x y : Oper} {env : Env} {K : Env → Sto → Prop} (h1 : ∀ k, x.dst = some k → k ∉ y.looksAt ops) (h2 : ∀ k, x.dst = some k → y.dst ≠ some k) (h3 : ∀ k, y.dst = some k → k ∉ x.looksAt ops)
    (h : AStep P mu ops nt .z x env σ (AStep P mu ops nt .z y · · K)) : AStep P mu ops nt .z y env σ (AStep P mu ops nt .z x · · K) := by
  obtain ⟨dx, bx, wx, s1, s2⟩ := h
  -- x comes to u, by a way that hangs on env alone at this store
  obtain ⟨u, xw, hy⟩ : ∃ u, (∀ (d : AV), (bx = true → ∀ K' : Env → Sto → Prop, K' ((env.put y.dst d).put x.dst u) σ → Step1 P mu .z x (env.put y.dst d) σ K') ∧ (bx = false → u = .tup [])) ∧ AStep P mu ops nt .z y (env.put x.dst u) σ K := by
    cases bx with
    | false => exact ⟨.tup [], fun d => ⟨(fun e => by cases e), fun _ => rfl⟩, s2 rfl⟩
    | true =>
      rcases s1 rfl with ⟨v, q1, q2⟩ | ⟨f, xs, v, q1, q2, q3⟩
      · exact ⟨v, fun d => ⟨fun _ K' hk => .inl ⟨v, by rw [evalOp_put h3]; exact q1, hk⟩, (fun e => by cases e)⟩, q2⟩
      · exact ⟨v, fun d => ⟨fun _ K' hk => .inr ⟨f, xs, v, by rw [callOf_put h3]; exact q1, q2, hk⟩, (fun e => by cases e)⟩, q3⟩
  obtain ⟨dy, b, wy, t1, t2⟩ := hy
  rw [wantA_put h1] at wy
  have fin : ∀ d, K ((env.put x.dst u).put y.dst d) σ → AStep P mu ops nt .z x (env.put y.dst d) σ K := by
    intro d hk
    rw [Env.put_comm _ _ _ h2] at hk
    refine ⟨dx, bx, by rw [wantA_put h3]; exact wx, fun e => (xw d).1 e K hk, fun e => ?_⟩
    rw [(xw d).2 e] at hk; exact hk
  refine ⟨dy, b, wy, fun e => ?_, fun e => fin _ (t2 e)⟩
  rcases t1 e with ⟨v, q1, q2⟩ | ⟨f, xs, v, q1, q2, q3⟩
  · exact .inl ⟨v, by rw [evalOp_put h1] at q1; exact q1, fin _ q2⟩
  · exact .inr ⟨f, xs, v, by rw [callOf_put h1] at q1; exact q1, q2, fin _ q3⟩
def isLoadO (o : Oper) : Bool := match o.op, o.guard with
  | .load _ _, none => true
  | .call ⟨.value (.func _), _, _⟩, none => true
  | _, _ => false
theorem get_app {σ X : Sto} {l : Nat} {o : MO} (h : σ[l]? = some o) : (σ ++ X)[l]? = some o := by
  have hl : l < σ.length := by
    rcases Nat.lt_or_ge l σ.length with h1 | h1
    · exact h1
    · rw [List.getElem?_eq_none h1] at h; cases h
  rw [List.getElem?_append_left hl]; exact h
theorem rdCell_app {X : Sto} {x y : AV} (h : rdCell σ x = some y) : rdCell (σ ++ X) x = some y := by
  unfold rdCell at *
  split at h
  · exact h
  · rename_i l g off
    split at h
    · rename_i o ho; simp only [get_app ho]; exact h
    · cases h
  · cases h
theorem rdCells_app {X : Sto} {x : AV} {n : Nat} {y : List AV} (h : rdCells σ x n = some y) : rdCells (σ ++ X) x n = some y := by
  unfold rdCells at *
  split at h
  · exact h
  · rename_i l g off n
    split at h
    · rename_i o ho; simp only [get_app ho]; exact h
    · cases h
  · cases h
theorem loadA_app {X : Sto} {t : TypeId} {x y : AV} (h : loadA P σ t x = some y) : loadA P (σ ++ X) t x = some y := by
  unfold loadA at *
  split at h
  · split at h
    · rename_i n hn
      obtain ⟨z, hz, rfl⟩ := Option.map_eq_some_iff.1 h
      simp [rdCells_app hz]
    · cases h
  · exact rdCell_app h
  · cases h
theorem guard_none {ops : Array Oper} {o : Oper} {env : Env} (h : o.guard = none) : wantA ops o env = some true := by unfold wantA; rw [h]
/-- A load, or a call that only reads, and a new object. -/
theorem swap_zb {mu : List Nat} {ops : Array Oper} {nt : Nat} {x y : Oper} {env : Env} {K : Env → Sto → Prop} (h1 : ∀ k, x.dst = some k → k ∉ y.looksAt ops) (h2 : ∀ k, x.dst = some k → y.dst ≠ some k) (h3 : ∀ k, y.dst = some k → k ∉ x.looksAt ops)
    (hx : isLoadO x = true) (hy : y.guard = none) (h : AStep P mu ops nt .z x env σ (AStep P mu ops nt .b y · · K)) : AStep P mu ops nt .b y env σ (AStep P mu ops nt .z x · · K) := by
  obtain ⟨dx, bx, wx, s1, s2⟩ := h
  unfold isLoadO at hx
  split at hx
  · rename_i t a hop hg
    rw [guard_none hg] at wx
    cases wx
    rcases s1 rfl with ⟨v, q1, q2⟩ | ⟨f, xs, v, q1, q2, q3⟩
    · obtain ⟨dy, by_, wy, t1, t2⟩ := q2
      rw [guard_none hy] at wy
      cases wy
      obtain ⟨u, X, r1, r2⟩ := t1 rfl
      refine ⟨dy, true, guard_none hy, fun _ => ⟨u, X, by rw [evalOp_put h1] at r1; exact r1, dx, true, guard_none hg, fun _ => .inl ⟨v, ?_, ?_⟩, fun e => by cases e⟩, fun e => by cases e⟩
      · rw [evalOp_put h3]
        simp only [evalOp, hop] at q1 ⊢
        cases hl : loadA P σ t (evA env a) with
        | none => rw [hl] at q1; simp at q1
        | some z => rw [hl] at q1; rw [loadA_app hl]; simp at q1 ⊢; exact q1
      · rw [Env.put_comm _ _ _ h2] at r2; exact r2
    · simp [callOf, hop] at q1
  · rename_i g args ts hop hg
    rw [guard_none hg] at wx
    cases wx
    rcases s1 rfl with ⟨v, q1, q2⟩ | ⟨f, xs, v, q1, q2, q3⟩
    · have := evalOp_isCall q1
      simp [isCallO, hop] at this
    · obtain ⟨dy, by_, wy, t1, t2⟩ := q3
      rw [guard_none hy] at wy
      cases wy
      obtain ⟨u, X, r1, r2⟩ := t1 rfl
      refine ⟨dy, true, guard_none hy, fun _ => ⟨u, X, by rw [evalOp_put h1] at r1; exact r1, dx, true, guard_none hg, fun _ => .inr ⟨f, xs, v, ?_, fun Y => ?_, ?_⟩, fun e => by cases e⟩, fun e => by cases e⟩
      · rw [callOf_put h3]
        simp only [callOf, hop] at q1 ⊢
        exact q1
      · have := q2 (X ++ Y)
        rw [← List.append_assoc] at this
        exact this
      · rw [Env.put_comm _ _ _ h2] at r2; exact r2
  · cases hx
def loadsT (o : Oper) (s : Nat) : Bool := match o.op with
  | .load _ (.tmp t) => t == s && o.guard.isNone && o.dst != some s
  | _ => false
theorem loadsT_spec {o : Oper} {s : Nat} (h : loadsT o s = true) : (∃ t, o.op = .load t (.tmp s)) ∧ o.guard = none ∧ o.dst ≠ some s := by
  unfold loadsT at h
  split at h
  · rename_i t u hop
    simp only [Bool.and_eq_true, beq_iff_eq, Option.isNone_iff_eq_none, bne_iff_ne] at h
    obtain ⟨⟨rfl, hg⟩, hd⟩ := h
    exact ⟨⟨t, hop⟩, hg, hd⟩
  · cases h
theorem load_same {σ' : Sto} {mu : List Nat} {o : Oper} {env : Env} {t : TypeId} {s l g off : Nat} {v : AV} (ho : o.op = .load t (.tmp s)) (he : env s = .mp l g off) (hl : σ'[l]? = σ[l]?) (h : evalOp P mu o env σ = some (v, σ)) : evalOp P mu o env σ' = some (v, σ') := by
  have e : loadA P σ' t (.mp l g off) = loadA P σ t (.mp l g off) := by
    unfold loadA
    simp only [rdCells, rdCell, hl]
  simp only [evalOp, ho, evA, he] at h ⊢
  rw [e]
  cases hz : loadA P σ t (.mp l g off) with
  | none => rw [hz] at h; cases h
  | some z => rw [hz] at h; simp at h ⊢; exact h
/-- A load of slot s's object, and a call that leaves it alone. -/
theorem swap_zk {mu : List Nat} {ops : Array Oper} {nt : Nat} {x y : Oper} {s : Nat} {env : Env} {K : Env → Sto → Prop} (h1 : ∀ k, x.dst = some k → k ∉ y.looksAt ops) (h2 : ∀ k, x.dst = some k → y.dst ≠ some k) (h3 : ∀ k, y.dst = some k → k ∉ x.looksAt ops)
    (hx : loadsT x s = true) (hy : y.guard = none) (_ : y.dst ≠ some s) (h : AStep P mu ops nt .z x env σ (AStep P mu ops nt (.k s) y · · K)) : AStep P mu ops nt (.k s) y env σ (AStep P mu ops nt .z x · · K) := by
  obtain ⟨⟨t, hop⟩, hg, hxd⟩ := loadsT_spec hx
  obtain ⟨dx, bx, wx, s1, s2⟩ := h
  rw [guard_none hg] at wx
  cases wx
  rcases s1 rfl with ⟨v, q1, q2⟩ | ⟨f, xs, v, q1, q2, q3⟩
  · obtain ⟨dy, by_, wy, t1, t2⟩ := q2
    rw [guard_none hy] at wy
    cases wy
    obtain ⟨l, g, off, f, xs, Q, r0, r1, r2, r3, r4⟩ := t1 rfl
    rw [put_ne hxd] at r0
    rw [callOf_put h1] at r1
    refine ⟨dy, true, guard_none hy, fun _ => ⟨l, g, off, f, xs, Q, r0, r1, r2, r3, fun r σ' hq => ⟨(r4 r σ' hq).1, ?_⟩⟩, fun e => by cases e⟩
    refine ⟨dx, true, guard_none hg, fun _ => .inl ⟨v, ?_, ?_⟩, fun e => by cases e⟩
    · rw [evalOp_put h3]; exact load_same hop r0 (r4 r σ' hq).1 q1
    · rw [← Env.put_comm _ _ _ h2]; exact (r4 r σ' hq).2
  · simp [callOf, hop] at q1
theorem swap_kz {mu : List Nat} {ops : Array Oper} {nt : Nat} {x y : Oper} {s : Nat} {env : Env} {K : Env → Sto → Prop} (h1 : ∀ k, x.dst = some k → k ∉ y.looksAt ops) (h2 : ∀ k, x.dst = some k → y.dst ≠ some k) (h3 : ∀ k, y.dst = some k → k ∉ x.looksAt ops)
    (hy : loadsT y s = true) (hx : x.guard = none) (_ : x.dst ≠ some s) (h : AStep P mu ops nt (.k s) x env σ (AStep P mu ops nt .z y · · K)) : AStep P mu ops nt .z y env σ (AStep P mu ops nt (.k s) x · · K) := by
  obtain ⟨⟨t, hop⟩, hg, hyd⟩ := loadsT_spec hy
  obtain ⟨dx, bx, wx, s1, s2⟩ := h
  rw [guard_none hx] at wx
  cases wx
  obtain ⟨l, g, off, f, xs, Q, r0, r1, r2, ⟨ra, σa, hqa⟩, r4⟩ := s1 rfl
  have got : ∀ r σ', Q r σ' → dstOk nt y = true ∧ ∃ v, evalOp P mu y env σ = some (v, σ) ∧ K ((env.put x.dst r).put y.dst v) σ' := fun r σ' hq => by
    obtain ⟨e1, dy, by_, wy, t1, t2⟩ := r4 r σ' hq
    rw [guard_none hg] at wy
    cases wy
    rcases t1 rfl with ⟨v, q1, q2⟩ | ⟨f', xs', v, q1, q2, q3⟩
    · rw [evalOp_put h1] at q1
      exact ⟨dy, v, load_same hop r0 e1.symm q1, q2⟩
    · simp [callOf, hop] at q1
  obtain ⟨dy, v, e1, _⟩ := got ra σa hqa
  refine ⟨dy, true, guard_none hg, fun _ => .inl ⟨v, e1, dx, true, guard_none hx, fun _ => ⟨l, g, off, f, xs, Q, by rw [put_ne hyd]; exact r0, by rw [callOf_put h3]; exact r1, r2, ⟨ra, σa, hqa⟩, fun r σ' hq => ⟨(r4 r σ' hq).1, ?_⟩⟩, fun e => by cases e⟩, fun e => by cases e⟩
  obtain ⟨_, v', e2, hk⟩ := got r σ' hq
  rw [e1] at e2
  cases e2
  rw [Env.put_comm _ _ _ h2] at hk
  exact hk
/-- One that looks at object l alone, and a call that leaves it alone. -/
theorem swap_uq {mu : List Nat} {ops : Array Oper} {nt : Nat} {x y : Oper} {l : Nat} {env : Env} {K : Env → Sto → Prop} (h1 : ∀ k, x.dst = some k → k ∉ y.looksAt ops) (h2 : ∀ k, x.dst = some k → y.dst ≠ some k) (h3 : ∀ k, y.dst = some k → k ∉ x.looksAt ops)
    (hx : x.guard = none) (hy : y.guard = none) (h : AStep P mu ops nt (.u l) x env σ (AStep P mu ops nt (.q l) y · · K)) : AStep P mu ops nt (.q l) y env σ (AStep P mu ops nt (.u l) x · · K) := by
  obtain ⟨dx, bx, wx, s1, s2⟩ := h
  rw [guard_none hx] at wx
  cases wx
  obtain ⟨v, q1, dy, by_, wy, t1, t2⟩ := s1 rfl
  rw [guard_none hy] at wy
  cases wy
  obtain ⟨f, xs, Q, r1, r2, r3, r4⟩ := t1 rfl
  rw [callOf_put h1] at r1
  refine ⟨dy, true, guard_none hy, fun _ => ⟨f, xs, Q, r1, r2, r3, fun r σ' hq => ⟨(r4 r σ' hq).1, dx, true, guard_none hx, fun _ => ⟨v, fun s hs => ?_, ?_⟩, fun e => by cases e⟩⟩, fun e => by cases e⟩
  · rw [evalOp_put h3]; exact q1 s (hs.trans (r4 r σ' hq).1)
  · rw [← Env.put_comm _ _ _ h2]; exact (r4 r σ' hq).2
theorem swap_qu {mu : List Nat} {ops : Array Oper} {nt : Nat} {x y : Oper} {l : Nat} {env : Env} {K : Env → Sto → Prop} (h1 : ∀ k, x.dst = some k → k ∉ y.looksAt ops) (h2 : ∀ k, x.dst = some k → y.dst ≠ some k) (h3 : ∀ k, y.dst = some k → k ∉ x.looksAt ops)
    (hx : x.guard = none) (hy : y.guard = none) (h : AStep P mu ops nt (.q l) x env σ (AStep P mu ops nt (.u l) y · · K)) : AStep P mu ops nt (.u l) y env σ (AStep P mu ops nt (.q l) x · · K) := by
  obtain ⟨dx, bx, wx, s1, s2⟩ := h
  rw [guard_none hx] at wx
  cases wx
  obtain ⟨f, xs, Q, r1, r2, ⟨ra, σa, hqa⟩, r4⟩ := s1 rfl
  have got : ∀ r σ', Q r σ' → dstOk nt y = true ∧ ∃ v, (∀ s, s[l]? = σ[l]? → evalOp P mu y env s = some (v, s)) ∧ K ((env.put x.dst r).put y.dst v) σ' := fun r σ' hq => by
    obtain ⟨e1, dy, by_, wy, t1, t2⟩ := r4 r σ' hq
    rw [guard_none hy] at wy
    cases wy
    obtain ⟨v, q1, q2⟩ := t1 rfl
    exact ⟨dy, v, fun s hs => by rw [← evalOp_put (v := r) h1]; exact q1 s (hs.trans e1.symm), q2⟩
  obtain ⟨dy, v, e1, _⟩ := got ra σa hqa
  refine ⟨dy, true, guard_none hy, fun _ => ⟨v, e1, dx, true, guard_none hx, fun _ => ⟨f, xs, Q, by rw [callOf_put h3]; exact r1, r2, ⟨ra, σa, hqa⟩, fun r σ' hq => ⟨(r4 r σ' hq).1, ?_⟩⟩, fun e => by cases e⟩, fun e => by cases e⟩
  obtain ⟨_, v', e2, hk⟩ := got r σ' hq
  have h1' := e1 σ rfl
  rw [e2 σ rfl] at h1'
  cases h1'
  rw [Env.put_comm _ _ _ h2] at hk
  exact hk
/-- Whether two may change places. -/
def mayC : Cls → Cls → Bool
  | .n, .a => false
  | .a, .n => false
  | .n, _ => true
  | _, .n => true
  | .z, .z => true
  | _, _ => false
/-- Neither writes the slot of the other's class. -/
def slotsOk (x y : Oper) (c d : Cls) : Bool := (match c with
  | .k s => y.dst != some s
  | _ => true) && (match d with
  | .k s => x.dst != some s
  | _ => true)
def mayK (x y : Oper) (c d : Cls) : Bool := match c, d with
  | .z, .k s => loadsT x s && y.guard.isNone && y.dst != some s
  | .k s, .z => loadsT y s && x.guard.isNone && x.dst != some s
  | .u l, .q m => l == m && x.guard.isNone && y.guard.isNone
  | .q l, .u m => l == m && x.guard.isNone && y.guard.isNone
  | _, _ => false
def mayO (ops : Array Oper) (x y : Oper) (c d : Cls) : Bool := x.apart ops y && ((mayC c d && slotsOk x y c d) || (c == .z && d == .b && isLoadO x && y.guard.isNone) || mayK x y c d)
theorem swap_any {mu : List Nat} {ops : Array Oper} {nt : Nat} {c d : Cls} {x y : Oper} {env : Env} {K : Env → Sto → Prop} (hm : mayO ops x y c d = true) (h : AStep P mu ops nt c x env σ (AStep P mu ops nt d y · · K)) : AStep P mu ops nt d y env σ (AStep P mu ops nt c x · · K) := by
  unfold mayO at hm
  rw [Bool.and_eq_true] at hm
  obtain ⟨ha, hc⟩ := hm
  obtain ⟨h1, h2, h3⟩ := Oper.apart_spec ha
  rw [Bool.or_eq_true, Bool.or_eq_true] at hc
  rcases hc with (hc | hc) | hc
  case inl.inr =>
    simp only [Bool.and_eq_true, beq_iff_eq, Option.isNone_iff_eq_none] at hc
    obtain ⟨⟨⟨rfl, rfl⟩, hl⟩, hg⟩ := hc
    exact swap_zb h1 h2 h3 hl hg h
  case inr =>
    unfold mayK at hc
    split at hc
    · simp only [Bool.and_eq_true, Option.isNone_iff_eq_none, bne_iff_ne] at hc
      exact swap_zk h1 h2 h3 hc.1.1 hc.1.2 hc.2 h
    · simp only [Bool.and_eq_true, Option.isNone_iff_eq_none, bne_iff_ne] at hc
      exact swap_kz h1 h2 h3 hc.1.1 hc.1.2 hc.2 h
    · simp only [Bool.and_eq_true, Option.isNone_iff_eq_none, beq_iff_eq] at hc
      obtain ⟨⟨rfl, hx⟩, hy⟩ := hc
      exact swap_uq h1 h2 h3 hx hy h
    · simp only [Bool.and_eq_true, Option.isNone_iff_eq_none, beq_iff_eq] at hc
      obtain ⟨⟨rfl, hx⟩, hy⟩ := hc
      exact swap_qu h1 h2 h3 hx hy h
    · cases hc
  rw [Bool.and_eq_true] at hc
  obtain ⟨hc, hs⟩ := hc
  unfold slotsOk at hs
  rw [Bool.and_eq_true] at hs
  have hd : ∀ t, d = .k t → x.dst ≠ some t := fun t e => by subst e; simpa using hs.2
  have hc' : ∀ t, c = .k t → y.dst ≠ some t := fun t e => by subst e; simpa using hs.1
  cases c <;> cases d <;> simp [mayC] at hc
  · exact swap_z h1 h2 h3 h
  all_goals first | exact swap_n h1 h2 h3 (by simp) hd h | exact swap_n' h1 h2 h3 (by simp) hc' h
end
end Go.Proofs.YtejgopcicenbeaaGreat
/- A region that draws its order: from the text's order to any. No program. -/
namespace Go.Proofs.YtejgopcicenbeaaGreat
open Go.RowKit
def predsOf (ops : Array Oper) (i : Nat) : List Nat := match ops[i]? with
  | some o => (o.after.toList.filter (Region.binds .any)).map (·.on)
  | none => []
/-- What must be ahead of what, as bits. -/
def mkMask (M : List Nat) (ps : List Nat) : Nat := ps.foldr (fun d m => m ||| 2 ^ d ||| (M[d]?).getD 0) 0
def masks (ops : Array Oper) : Nat → List Nat
  | 0 => []
  | n + 1 => masks ops n ++ [mkMask (masks ops n) (predsOf ops n)]
theorem masks_length (ops : Array Oper) (n : Nat) : (masks ops n).length = n := by
  induction n with
  | zero => rfl
  | succ n ih => simp [masks, ih]
theorem masks_get (ops : Array Oper) {i n : Nat} (h : i < n) : (masks ops n)[i]? = some (mkMask (masks ops i) (predsOf ops i)) := by
  induction n with
  | zero => omega
  | succ n ih =>
    rw [show masks ops (n + 1) = masks ops n ++ [mkMask (masks ops n) (predsOf ops n)] from rfl]
    by_cases e : i = n
    · subst e
      rw [List.getElem?_append_right (by rw [masks_length]; exact Nat.le_refl _), masks_length]
      simp
    · rw [List.getElem?_append_left (by rw [masks_length]; omega)]
      exact ih (by omega)
theorem mkMask_bit {M ps : List Nat} {j : Nat} (h : (mkMask M ps).testBit j = true) : ∃ d ∈ ps, j = d ∨ ∃ m, M[d]? = some m ∧ m.testBit j = true := by
  induction ps with
  | nil => simp [mkMask] at h
  | cons d ps ih =>
    simp only [mkMask, List.foldr_cons, Nat.testBit_or, Bool.or_eq_true] at h
    rcases h with (h | h) | h
    · obtain ⟨e, he, h1⟩ := ih h
      exact ⟨e, List.mem_cons_of_mem _ he, h1⟩
    · rw [Nat.testBit_two_pow] at h
      exact ⟨d, List.mem_cons_self, .inl (of_decide_eq_true h).symm⟩
    · refine ⟨d, List.mem_cons_self, .inr ?_⟩
      cases hm : M[d]? with
      | none => rw [hm] at h; simp at h
      | some m => exact ⟨m, rfl, by rw [hm] at h; exact h⟩
/-- Each two of the region's operations are in order by its edges, or may change places. -/
def orderOK (ops : Array Oper) (l : List (Nat × Cls)) : Bool :=
  let M := masks ops ops.size
  (List.range ops.size).all (fun i => (predsOf ops i).all fun d => decide (d < i)) &&
  l.all fun p => l.all fun q => !decide (q.1 < p.1) || ((M[p.1]?).getD 0).testBit q.1 || (match ops[q.1]?, ops[p.1]? with
    | some x, some y => mayO ops x y q.2 p.2
    | _, _ => false)
theorem closed_bit {ops : Array Oper} {listed : Nat → Prop} (hc : ∀ i, i < ops.size → listed i → ∀ d ∈ predsOf ops i, d < i ∧ listed d) : ∀ (i j : Nat), i < ops.size → (∀ d ∈ predsOf ops i, d < i ∧ listed d) → (((masks ops ops.size)[i]?).getD 0).testBit j = true → listed j := by
  intro i
  induction i using Nat.strongRecOn with
  | _ i ih =>
    intro j hi hp hb
    rw [masks_get ops hi] at hb
    simp only [Option.getD_some] at hb
    obtain ⟨d, hd, h1⟩ := mkMask_bit hb
    obtain ⟨hdi, hdl⟩ := hp d hd
    rcases h1 with rfl | ⟨m, hm, hbit⟩
    · exact hdl
    · have hm' : m = mkMask (masks ops d) (predsOf ops d) := by
        have := masks_get ops hdi
        rw [this] at hm; cases hm; rfl
      refine ih d hdi j (by omega) (fun e he => hc d (by omega) hdl e he) ?_
      rw [masks_get ops (by omega)]
      simp only [Option.getD_some]
      rw [← hm']; exact hbit
section
variable {P : Program} {nt : Nat} {w0 : World} {Im0 : Nat → Prop} {σ0 : Sto} {T0 : Tab}
theorem rwp_front {mu : List Nat} {ops : Array Oper} {K : Env → Sto → Prop} {i : Nat} {c : Cls} {o : Oper} (hi : ops[i]? = some o) : ∀ (r1 r2 : List (Nat × Cls)) (env : Env) (σ : Sto), (∀ p ∈ r1, ∃ x, ops[p.1]? = some x ∧ mayO ops x o p.2 c = true) →
    rwp P mu ops nt K (r1 ++ (i, c) :: r2) env σ → AStep P mu ops nt c o env σ (rwp P mu ops nt K (r1 ++ r2))
  | [], r2, env, σ, _, h => by
    obtain ⟨o', ho', ha⟩ := h
    rw [hi] at ho'; cases ho'
    exact ha
  | p :: r1, r2, env, σ, hm, h => by
    obtain ⟨j, d⟩ := p
    obtain ⟨x, hx, ha⟩ := h
    obtain ⟨x', hx', hmay⟩ := hm (j, d) List.mem_cons_self
    rw [hx] at hx'; cases hx'
    have h1 : AStep P mu ops nt d x env σ (AStep P mu ops nt c o · · (rwp P mu ops nt K (r1 ++ r2))) :=
      ha.mono fun e s hr => rwp_front hi r1 r2 e s (fun p hp => hm p (List.mem_cons_of_mem _ hp)) hr
    exact (swap_any hmay h1).mono fun e s hr => ⟨x, hx, hr⟩
theorem filter_split {l r1 r2 : List (Nat × Cls)} {i : Nat} {c : Cls} {f : Nat × Cls → Bool} (hn : (l.map (·.1)).Nodup) (h : l.filter f = r1 ++ (i, c) :: r2) : l.filter (fun p => f p && !(p.1 == i)) = r1 ++ r2 := by
  have h1 : l.filter (fun p => f p && !(p.1 == i)) = (l.filter f).filter (fun p => !(p.1 == i)) := by
    rw [List.filter_filter]; congr 1; funext p; rw [Bool.and_comm]
  rw [h1, h, List.filter_append, List.filter_cons]
  simp only [beq_self_eq_true, Bool.not_true, Bool.false_eq_true, if_false]
  have hsub : ((l.filter f).map (·.1)).Nodup := List.Sublist.nodup (List.Sublist.map _ List.filter_sublist) hn
  rw [h, List.map_append, List.map_cons] at hsub
  have hd := List.nodup_append.1 hsub
  have hne : ∀ p ∈ r1, (!(p.1 == i)) = true := by
    intro p hp
    have := hd.2.2 p.1 (List.mem_map_of_mem hp) i List.mem_cons_self
    simpa using this
  have hne2 : ∀ p ∈ r2, (!(p.1 == i)) = true := by
    intro p hp
    have h3 := (List.nodup_cons.1 hd.2.1).1
    have : p.1 ≠ i := fun e => h3 (List.mem_map.2 ⟨p, hp, e⟩)
    simpa using this
  rw [List.filter_eq_self.2 hne, List.filter_eq_self.2 hne2]
theorem getD_set (A : Array Bool) (i j : Nat) (h : i < A.size) : (A.setIfInBounds i true).getD j true = (A.getD j true || j == i) := by
  rw [Array.getD_eq_getD_getElem?, Array.getD_eq_getD_getElem?, Array.getElem?_setIfInBounds]
  by_cases e : i = j
  · subst e; simp [h]
  · rw [if_neg e]
    have : (j == i) = false := by simpa using fun h => e h.symm
    rw [this, Bool.or_false]
theorem getD_false {A : Array Bool} {j : Nat} (h : j < A.size) : A.getD j false = A.getD j true := by
  rw [Array.getD_eq_getD_getElem?, Array.getD_eq_getD_getElem?]; simp [h]
theorem mem_ready {ops : Array Oper} {listed : Array Bool} {i : Nat} (hs : listed.size = ops.size) (hlt : ∀ d ∈ predsOf ops i, d < ops.size) : i ∈ Region.ready .any ops listed ↔ i < ops.size ∧ listed.getD i true = false ∧ ∀ d ∈ predsOf ops i, listed.getD d true = true := by
  unfold Region.ready
  rw [List.mem_filter, List.mem_range]
  constructor
  · rintro ⟨h1, h2⟩
    rw [Bool.and_eq_true, Bool.not_eq_true'] at h2
    refine ⟨h1, h2.1, fun d hd => ?_⟩
    have h3 := h2.2
    have hdl := hlt d hd
    unfold predsOf at hd
    rw [Array.getElem?_eq_getElem h1] at h3 hd
    simp only [Option.map_some, Option.getD_some, Array.all_eq_true'] at h3
    simp only [List.mem_map, List.mem_filter] at hd
    obtain ⟨e, ⟨he, hb⟩, rfl⟩ := hd
    have := h3 e (Array.mem_toList_iff.1 he)
    rw [hb] at this
    simp only [Bool.not_true, Bool.false_or] at this
    rw [← getD_false (by omega)]; exact this
  · rintro ⟨h1, h2, h3⟩
    refine ⟨h1, ?_⟩
    rw [h2]
    rw [Array.getElem?_eq_getElem h1]
    simp only [Bool.not_false, Bool.true_and, Option.map_some, Option.getD_some, Array.all_eq_true']
    intro e he
    cases hb : Region.binds .any e with
    | false => simp
    | true =>
      have hd : e.on ∈ predsOf ops i := by
        unfold predsOf
        rw [Array.getElem?_eq_getElem h1]
        simp only [List.mem_map, List.mem_filter]
        exact ⟨e, ⟨Array.mem_toList_iff.2 he, hb⟩, rfl⟩
      have := h3 _ hd
      rw [← getD_false (by rw [hs]; exact hlt _ hd)] at this
      simp [this]
theorem any_sound {mu : List Nat} {ops : Array Oper} {l : List (Nat × Cls)} {K : Env → Sto → Prop} {Q : Exit → Act → World → Prop} (hl : l.map (·.1) = List.range ops.size) (hok : orderOK ops l = true)
    (hK : ∀ env' σ' a' w', K env' σ' → St nt w0 Im0 σ0 T0 env' σ' a' w' → Q .normal a' w') :
    ∀ (fuel : Nat) (listed : Array Bool) (env : Env) (σ : Sto) (a : Act) (w : World), listed.size = ops.size → (l.filter fun p => !listed.getD p.1 true).length = fuel →
      (∀ i, i < ops.size → listed.getD i true = true → ∀ d ∈ predsOf ops i, listed.getD d true = true) →
      rwp P mu ops nt K (l.filter fun p => !listed.getD p.1 true) env σ → St nt w0 Im0 σ0 T0 env σ a w → wpAny P .any ops Q fuel listed a w := by
  unfold orderOK at hok
  rw [Bool.and_eq_true] at hok
  obtain ⟨hpre, hpair⟩ := hok
  have hlt : ∀ i d, d ∈ predsOf ops i → d < i ∧ i < ops.size := by
    intro i d hd
    have hi : i < ops.size := by
      rcases Nat.lt_or_ge i ops.size with h | h
      · exact h
      · unfold predsOf at hd; rw [Array.getElem?_eq_none h] at hd; simp at hd
    exact ⟨of_decide_eq_true (List.all_eq_true.1 (List.all_eq_true.1 hpre i (List.mem_range.2 hi)) d hd), hi⟩
  have hmem : ∀ i, i < ops.size → ∃ c, (i, c) ∈ l := by
    intro i hi
    have : i ∈ l.map (·.1) := by rw [hl]; exact List.mem_range.2 hi
    obtain ⟨p, hp, rfl⟩ := List.mem_map.1 this
    exact ⟨p.2, hp⟩
  have hnd : (l.map (·.1)).Nodup := by rw [hl]; exact List.nodup_range
  have hsorted : (l.map (·.1)).Pairwise (· < ·) := by rw [hl]; exact List.pairwise_lt_range
  intro fuel
  induction fuel with
  | zero =>
    intro listed env σ a w hs hf hc hr hst
    have hnil := List.length_eq_zero_iff.1 hf
    refine ⟨?_, ?_⟩
    · refine List.eq_nil_iff_forall_not_mem.2 fun i hi => ?_
      have := (mem_ready hs (fun d hd => by have := hlt i d hd; omega)).1 hi
      obtain ⟨c, hcm⟩ := hmem i this.1
      have : (i, c) ∈ l.filter fun p => !listed.getD p.1 true := List.mem_filter.2 ⟨hcm, by simp [this.2.1]⟩
      rw [hnil] at this
      cases this
    · rw [hnil] at hr
      exact hK _ _ _ _ hr hst
  | succ fuel ih =>
    intro listed env σ a w hs hf hc hr hst
    refine ⟨?_, ?_⟩
    · intro hready
      exfalso
      cases hrem : l.filter fun p => !listed.getD p.1 true with
      | nil => rw [hrem] at hf; cases hf
      | cons p rem =>
        have hp : p ∈ l.filter fun p => !listed.getD p.1 true := by rw [hrem]; exact List.mem_cons_self
        obtain ⟨hpl, hpu⟩ := List.mem_filter.1 hp
        have hpi : p.1 < ops.size := by
          have : p.1 ∈ l.map (·.1) := List.mem_map_of_mem hpl
          rw [hl] at this; exact List.mem_range.1 this
        have : p.1 ∈ Region.ready .any ops listed := by
          refine (mem_ready hs (fun d hd => by have := hlt p.1 d hd; omega)).2 ⟨hpi, by simpa using hpu, fun d hd => ?_⟩
          cases hdl : listed.getD d true with
          | true => rfl
          | false =>
            exfalso
            have hdi := hlt p.1 d hd
            obtain ⟨c, hdm⟩ := hmem d (by omega)
            have hin : (d, c) ∈ l.filter fun p => !listed.getD p.1 true := List.mem_filter.2 ⟨hdm, by simp [hdl]⟩
            have hps : ((l.filter fun p => !listed.getD p.1 true).map (·.1)).Pairwise (· < ·) := List.Pairwise.sublist (List.Sublist.map _ List.filter_sublist) hsorted
            rw [hrem] at hin hps
            rcases List.mem_cons.1 hin with e | hin
            · rw [← e] at hdi; simp at hdi
            · have : p.1 < d := (List.pairwise_cons.1 hps).1 d (List.mem_map.2 ⟨_, hin, rfl⟩)
              omega
        rw [hready] at this
        cases this
    · intro i hi
      obtain ⟨h1, h2, h3⟩ := (mem_ready hs (fun d hd => by have := hlt i d hd; omega)).1 hi
      obtain ⟨c, hcm⟩ := hmem i h1
      have hin : (i, c) ∈ l.filter fun p => !listed.getD p.1 true := List.mem_filter.2 ⟨hcm, by simp [h2]⟩
      obtain ⟨r1, r2, hsplit⟩ := List.append_of_mem hin
      have ho : ops[i]? = some ops[i] := Array.getElem?_eq_getElem h1
      have hps : ((l.filter fun p => !listed.getD p.1 true).map (·.1)).Pairwise (· < ·) := List.Pairwise.sublist (List.Sublist.map _ List.filter_sublist) hsorted
      have hmay : ∀ p ∈ r1, ∃ x, ops[p.1]? = some x ∧ mayO ops x ops[i] p.2 c = true := by
        intro p hp
        have hpin : p ∈ l.filter fun p => !listed.getD p.1 true := by rw [hsplit]; exact List.mem_append.2 (.inl hp)
        obtain ⟨hpl, hpu⟩ := List.mem_filter.1 hpin
        have hpu' : listed.getD p.1 true = false := by simpa using hpu
        have hpi : p.1 < i := by
          rw [hsplit, List.map_append, List.map_cons] at hps
          exact (List.pairwise_append.1 hps).2.2 p.1 (List.mem_map_of_mem hp) i List.mem_cons_self
        have hx : ops[p.1]? = some ops[p.1] := Array.getElem?_eq_getElem (by omega)
        refine ⟨_, hx, ?_⟩
        have hq := List.all_eq_true.1 (List.all_eq_true.1 hpair (i, c) hcm) p hpl
        simp only [hpi, decide_true, Bool.not_true, Bool.false_or, Bool.or_eq_true, hx, ho] at hq
        rcases hq with hq | hq
        · exfalso
          have := closed_bit (ops := ops) (listed := fun j => listed.getD j true = true) (fun k hk hkl d hd => ⟨(hlt k d hd).1, hc k hk hkl d hd⟩) i p.1 h1 (fun d hd => ⟨(hlt i d hd).1, h3 d hd⟩) hq
          rw [hpu'] at this; cases this
        · exact hq
      rw [hsplit] at hr
      have ha := rwp_front ho r1 r2 env σ hmay hr
      have hnew : (l.filter fun p => !(listed.setIfInBounds i true).getD p.1 true) = r1 ++ r2 := by
        rw [← filter_split hnd hsplit]
        congr 1
        funext p
        rw [getD_set _ _ _ (by omega)]
        cases listed.getD p.1 true <;> simp
      refine astep_wpOp ho ha hst fun env' σ' a' w' hr' hst' => ?_
      refine ih _ env' σ' a' w' (by simpa using hs) ?_ ?_ ?_ hst'
      · rw [hnew]
        have : (r1 ++ (i, c) :: r2).length = fuel + 1 := by rw [← hsplit]; exact hf
        simp at this ⊢; omega
      · intro k hk hkl d hd
        rw [getD_set _ _ _ (by omega)] at hkl ⊢
        rw [Bool.or_eq_true] at hkl ⊢
        rcases hkl with hkl | hkl
        · exact .inl (hc k hk hkl d hd)
        · have : k = i := by simpa using hkl
          subst this
          exact .inl (h3 d hd)
      · rw [hnew]; exact hr'
theorem region_draw {mu : List Nat} {ops : Array Oper} {id : Nat} {l : List (Nat × Cls)} {K : Env → Sto → Prop} {Q : Exit → Act → World → Prop} {env : Env} {σ : Sto} {a : Act} {w : World} (hm : P.follows .mixedOrders = true) (hl : l.map (·.1) = List.range ops.size) (hok : orderOK ops l = true)
    (h : rwp P mu ops nt K l env σ) (hs : St nt w0 Im0 σ0 T0 env σ a w) (hK : ∀ env' σ' a' w', K env' σ' → St nt w0 Im0 σ0 T0 env' σ' a' w' → Q .normal a' w') : (Code.region id ops true).wp P Q a w := by
  have hfull : (l.filter fun p => !(Array.replicate ops.size false).getD p.1 true) = l := by
    refine List.filter_eq_self.2 fun p hp => ?_
    have : p.1 ∈ l.map (·.1) := List.mem_map_of_mem hp
    rw [hl] at this
    have hlt := List.mem_range.1 this
    simp [hlt]
  refine wp_region_any hm ?_
  refine any_sound (mu := mu) hl hok hK ops.size _ env σ a _ (by simp) (by rw [hfull, ← List.length_map (f := (·.1)), hl]; simp) ?_ (by rw [hfull]; exact h) ?_
  · intro i hi h1
    rw [Array.getD_eq_getD_getElem?] at h1
    simp [hi] at h1
  · obtain ⟨Im, T, hW, hE, h1, h2, hF⟩ := hs
    exact ⟨Im, T, hW.drew, hE.fut (Fut.drew _ _ _ _) hW, h1, h2, hF.trans (Fut.drew _ _ _ _)⟩
end
end Go.Proofs.YtejgopcicenbeaaGreat
/- Code, told without memory (Tri): its laws; how a function's body gives what a call does. No program. -/
namespace Go.Proofs.YtejgopcicenbeaaGreat
open Go.RowKit
/-- BEHIND THE CODE c, from slots env and store σ: Q. -/
def Tri (P : Program) (nt : Nat) (c : Code) (env : Env) (σ : Sto) (Q : Exit → Env → Sto → Prop) : Prop :=
  ∀ (w0 : World) (Im0 : Nat → Prop) (σ0 : Sto) (T0 : Tab) (a : Act) (w : World), St nt w0 Im0 σ0 T0 env σ a w →
    c.wp P (fun e a' w' => ∃ env' σ', Q e env' σ' ∧ St nt w0 Im0 σ0 T0 env' σ' a' w') a w
def thenA (K : Env → Sto → Prop) (Q : Exit → Env → Sto → Prop) : Exit → Env → Sto → Prop
  | .normal, env, σ => K env σ
  | e, env, σ => Q e env σ
def blockA (id : Nat) (Q : Exit → Env → Sto → Prop) : Exit → Env → Sto → Prop
  | .exit i, env, σ => if i = id then Q .normal env σ else Q (.exit i) env σ
  | e, env, σ => Q e env σ
section
variable {P : Program} {nt : Nat} {env : Env} {σ : Sto} {Q : Exit → Env → Sto → Prop}
theorem tri_mono {c : Code} {Q' : Exit → Env → Sto → Prop} (h : Tri P nt c env σ Q) (hq : ∀ e env σ, Q e env σ → Q' e env σ) : Tri P nt c env σ Q' :=
  fun w0 Im0 σ0 T0 a w hs => wp_mono (h w0 Im0 σ0 T0 a w hs) fun _ _ _ ⟨env', σ', q, s⟩ => ⟨env', σ', hq _ _ _ q, s⟩
theorem tri_skip (h : Q .normal env σ) : Tri P nt .skip env σ Q := fun _ _ _ _ _ _ hs => wp_skip ⟨env, σ, h, hs⟩
theorem tri_ret (h : Q .ret env σ) : Tri P nt .ret env σ Q := fun _ _ _ _ _ _ hs => wp_ret ⟨env, σ, h, hs⟩
theorem tri_exit {id : Nat} (h : Q (.exit id) env σ) : Tri P nt (.exit id) env σ Q := fun _ _ _ _ _ _ hs => wp_exit ⟨env, σ, h, hs⟩
theorem tri_seq {x y : Code} (h : Tri P nt x env σ (thenA (fun env σ => Tri P nt y env σ Q) Q)) : Tri P nt (.seq x y) env σ Q := by
  intro w0 Im0 σ0 T0 a w hs
  refine wp_seq (wp_mono (h w0 Im0 σ0 T0 a w hs) ?_)
  rintro e a' w' ⟨env', σ', hq, hs'⟩
  cases e with
  | normal => exact hq w0 Im0 σ0 T0 a' w' hs'
  | _ => exact ⟨env', σ', hq, hs'⟩
theorem tri_cond {c : Operand} {x y : Code} {b : Bool} (hc : evA env c = .sc (.bool b)) (h1 : b = true → Tri P nt x env σ Q) (h2 : b = false → Tri P nt y env σ Q) : Tri P nt (.cond c x y) env σ Q := by
  intro w0 Im0 σ0 T0 a w hs
  obtain ⟨Im, T, hW, hE, r1, r2, hF⟩ := hs
  have hr := evA_rel hE c
  rw [hc] at hr
  have hv : a.eval c = .bool b := by
    generalize a.eval c = v at hr
    cases hr; rfl
  refine wp_cond_split hv (fun e => h1 e w0 Im0 σ0 T0 a w ⟨Im, T, hW, hE, r1, r2, hF⟩) (fun e => h2 e w0 Im0 σ0 T0 a w ⟨Im, T, hW, hE, r1, r2, hF⟩)
theorem tri_block {id : Nat} {c : Code} (h : Tri P nt c env σ (blockA id Q)) : Tri P nt (.block id c) env σ Q := by
  intro w0 Im0 σ0 T0 a w hs
  refine wp_block (wp_mono (h w0 Im0 σ0 T0 a w hs) ?_)
  rintro e a' w' ⟨env', σ', hq, hs'⟩
  cases e with
  | exit i =>
    simp only [blockA] at hq
    simp only [Exit.inBlock]
    by_cases hi : i = id
    · simp only [hi, if_true] at hq ⊢; exact ⟨env', σ', hq, hs'⟩
    · simp only [hi, if_false] at hq ⊢; exact ⟨env', σ', hq, hs'⟩
  | _ => exact ⟨env', σ', hq, hs'⟩
/-- A loop: a relation that each round keeps, and a number that it lowers. -/
theorem tri_loop {c : Code} (I : Nat → Env → Sto → Prop) (n : Nat) (h0 : I n env σ) (round : ∀ n env σ, I n env σ → Tri P nt c env σ (thenA (fun env σ => ∃ m, m < n ∧ I m env σ) Q)) : Tri P nt (.loop c) env σ Q := by
  intro w0 Im0 σ0 T0 a w hs b k cs
  have key : ∀ n (env : Env) (σ : Sto) a w, I n env σ → St nt w0 Im0 σ0 T0 env σ a w →
      ∃ e a' w', (∃ env' σ', Q e env' σ' ∧ St nt w0 Im0 σ0 T0 env' σ' a' w') ∧ Arrives P (lone (b.at a (.code c :: .inLoop c :: k)) cs w) b k cs e a' w' := by
    intro n
    induction n using Nat.strongRecOn with
    | _ n ih =>
      intro env σ a w hI hs
      obtain ⟨e, a₁, w₁, ⟨env', σ', hq, hs'⟩, harr⟩ := round n env σ hI w0 Im0 σ0 T0 a w hs b (.inLoop c :: k) cs
      cases e with
      | normal =>
        obtain ⟨m, hm, hI'⟩ := hq
        obtain ⟨e₂, a₂, w₂, hq₂, harr₂⟩ := ih m hm env' σ' a₁ w₁ hI' hs'
        exact ⟨e₂, a₂, w₂, hq₂, .of_steps (Steps.trans harr (.one step_inLoop)) harr₂⟩
      | exit id => exact ⟨_, a₁, w₁, ⟨env', σ', hq, hs'⟩, .pass (x := .inLoop c) rfl (fun _ _ => .inl (by simp)) harr⟩
      | goto l => exact ⟨_, a₁, w₁, ⟨env', σ', hq, hs'⟩, .pass (x := .inLoop c) rfl (fun _ _ => .inl (by simp)) harr⟩
      | ret => exact ⟨_, a₁, w₁, ⟨env', σ', hq, hs'⟩, .pass (x := .inLoop c) rfl (fun _ _ => .inl (by simp)) harr⟩
      | panic ch => exact ⟨_, a₁, w₁, ⟨env', σ', hq, hs'⟩, .pass (x := .inLoop c) rfl (fun _ _ => .inl (by simp)) harr⟩
      | outgrown => exact ⟨_, a₁, w₁, ⟨env', σ', hq, hs'⟩, .pass (x := .inLoop c) rfl (fun _ _ => .inl (by simp)) harr⟩
  obtain ⟨e, a', w', hq, harr⟩ := key n env σ a w h0 hs
  exact ⟨e, a', w', hq, .of_steps (.one step_loop) harr⟩
/-- A region that draws its order. -/
theorem tri_draw {id : Nat} {ops : Array Oper} (mu : List Nat) (l : List (Nat × Cls)) (hm : P.follows .mixedOrders = true) (hl : l.map (·.1) = List.range ops.size) (hok : orderOK ops l = true) (h : rwp P mu ops nt (fun env σ => Q .normal env σ) l env σ) : Tri P nt (.region id ops true) env σ Q := by
  intro w0 Im0 σ0 T0 a w hs
  exact region_draw hm hl hok h hs fun env' σ' a' w' hq hs' => ⟨env', σ', hq, hs'⟩
/-- What a function hands back. -/
def resA (P : Program) (env : Env) (σ : Sto) : ResultVar → Option AV
  | .tmp t => some (env t)
  | .cell a t => loadA P σ t (env a)
def resL (P : Program) (env : Env) (σ : Sto) : List ResultVar → Option (List AV)
  | [] => some []
  | r :: rs => match resA P env σ r, resL P env σ rs with
    | some x, some xs => some (x :: xs)
    | _, _ => none
def resultA (P : Program) (fn : Func) (env : Env) (σ : Sto) : Option AV := match resL P env σ fn.results.toList with
  | some [x] => some x
  | some xs => some (.tup xs)
  | none => none
theorem resL_run {w : World} {Im : Nat → Prop} {T : Tab} {a : Act} {g : ResultVar → Sem Value} (hW : WRel w Im σ T) (hE : ERel w Im T a env) (g1 : ∀ t, g (.tmp t) = pure (a.tmps.getD t undef)) (g2 : ∀ b t, g (.cell b t) = (do loadVar t (← asAddr (a.tmps.getD b undef)))) : ∀ (rs : List ResultVar) (xs : List AV), resL P env σ rs = some xs →
    ∃ vs, (rs.mapM g).run P w = .ok vs w ∧ RelL w Im T vs xs
  | [], xs, h => by
    simp only [resL, Option.some.injEq] at h
    subst h
    exact ⟨[], by simp, rfl, fun i x v hx _ => by simp at hx⟩
  | r :: rs, xs, h => by
    unfold resL at h
    split at h
    · rename_i x ys hx hys
      cases h
      obtain ⟨vs, hvs, hL⟩ := resL_run hW hE g1 g2 rs ys hys
      obtain ⟨v, hv, hR⟩ : ∃ v, (g r).run P w = .ok v w ∧ Rel w Im T v x := by
        cases r with
        | tmp t => simp only [resA, Option.some.injEq] at hx; subst hx; exact ⟨_, by rw [g1]; rfl, hE t⟩
        | cell b t =>
          simp only [resA] at hx
          obtain ⟨ad, u, hau, hl, hRu⟩ := loadVar_rel (P := P) hW (hE b) hx
          exact ⟨u, by rw [g2, hau]; simp [asAddr, hl], hRu⟩
      refine ⟨v :: vs, by simp only [List.mapM_cons, Sem.run_bind, hv, hvs, Result.andThen_ok, Sem.run_pure], by simp [hL.1], fun i y u hy hu => ?_⟩
      match i with
      | 0 => simp at hy hu; subst hy hu; exact hR
      | i + 1 => exact hL.2 i y u hy hu
    · cases h
theorem resultA_run {w : World} {Im : Nat → Prop} {T : Tab} {a : Act} {fn : Func} {r : AV} (hW : WRel w Im σ T) (hE : ERel w Im T a env) (h : resultA P fn env σ = some r) : ∃ v, (results fn a.tmps).run P w = .ok v w ∧ Rel w Im T v r := by
  unfold resultA at h
  cases hx : resL P env σ fn.results.toList with
  | none => rw [hx] at h; cases h
  | some xs =>
    rw [hx] at h
    obtain ⟨vs, hm, hL⟩ : ∃ vs : List Value, (results fn a.tmps).run P w = .ok (if h : vs.length = 1 then vs[0] else .tuple vs.toArray) w ∧ RelL w Im T vs xs := by
      unfold results
      rw [Array.mapM_eq_mapM_toList]
      obtain ⟨vs, hvs, hL⟩ := resL_run (P := P) (g := fun r => match r with | .tmp t => pure (a.tmps.getD t undef) | .cell b t => (do loadVar t (← asAddr (a.tmps.getD b undef)))) hW hE (fun t => rfl) (fun b t => rfl) _ xs hx
      refine ⟨vs, ?_, hL⟩
      simp only [Sem.run_bind, Sem.run_map]
      refine (congrArg (fun r : Result (List Value) => (r.andThen fun a w' => Result.ok a.toArray w').andThen fun a w' => (Result.ok (if h : a.size = 1 then a[0] else Value.tuple a) w' : Result Value)) hvs).trans ?_
      simp only [Result.andThen_ok, List.size_toArray]
      split <;> simp
    rw [hm]
    refine ⟨_, rfl, ?_⟩
    match xs, h, hL with
    | [x], h, hL =>
      cases h
      have h1 : vs.length = 1 := hL.1
      rw [dif_pos h1]
      exact hL.2 0 _ _ rfl (by simp [h1])
    | [], h, hL =>
      cases h
      have h1 : vs.length = 0 := hL.1
      rw [dif_neg (by omega)]
      exact .tup _ _ (by simp [h1]) (fun i x v hx _ => by simp at hx)
    | x :: y :: zs, h, hL =>
      cases h
      have h1 : vs.length = zs.length + 2 := by rw [hL.1]; rfl
      rw [dif_neg (by omega)]
      exact .tup _ _ (by simp [h1]) (fun i z v hz hv => hL.2 i z v hz (by simpa using hv))
/-- What is wanted behind a body. -/
def RetQ (P : Program) (fn : Func) (Q : AV → Sto → Prop) (e : Exit) (env : Env) (σ : Sto) : Prop := (e = .normal ∨ e = .ret) ∧ ∃ r, resultA P fn env σ = some r ∧ Q r σ
/-- The slots as a call begins. -/
def env0 (xs : List AV) : Env := fun t => (xs[t]?).getD (.tup [])
/-- A CALL, OUT OF THE BODY. -/
theorem spec_intro {f : FuncId} {fn : Func} {c : Code} {xs : List AV} {Q : AV → Sto → Prop} (hf : P.funcs[f]? = some fn) (hg : goodF P f = true) (hb : fn.body = some c) (hn : xs.length ≤ fn.ntmps) (h : Tri P fn.ntmps c (env0 xs) σ (RetQ P fn Q)) : Spec P f xs σ Q := by
  refine ⟨hg, fun w Im T vs hW hR => calls_of_wp hf hb ?_⟩
  have hlen : vs.size = xs.length := by have := hR.1; simpa using this
  have hE : ERel w Im T { tmps := vs ++ Array.replicate (fn.ntmps - vs.size) undef, defers := [] } (env0 xs) := by
    intro t
    simp only [env0]
    rw [Array.getD_eq_getD_getElem?]
    cases hx : xs[t]? with
    | none =>
      have : xs.length ≤ t := by simpa using hx
      rw [Array.getElem?_append_right (by omega)]
      have hu : ((Array.replicate (fn.ntmps - vs.size) undef)[t - vs.size]?).getD undef = undef := by
        rw [Array.getElem?_replicate]; split <;> rfl
      rw [hu]
      exact .tup _ _ rfl (fun i x v hx _ => by simp at hx)
    | some x =>
      have hlt := lt_of_get hx
      rw [Array.getElem?_append_left (by omega)]
      obtain ⟨v, hv, hRv⟩ := hR.get hx
      rw [Array.getElem?_toList] at hv
      rw [hv]; exact hRv
  refine wp_mono (h w Im σ T _ w ⟨Im, T, hW, hE, by simp; omega, rfl, Fut.refl _ _ _ _⟩) ?_
  rintro e a' w' ⟨env', σ', ⟨he, r, hr, hq⟩, Im', T', hW', hE', _, hd, hF⟩
  obtain ⟨v, hrun, hRv⟩ := resultA_run (P := P) hW' hE' hr
  rcases he with rfl | rfl <;> exact ⟨hd, v, hrun, v, r, σ', Im', T', rfl, hRv, hW', hF, hq⟩
theorem spec_pure {f : FuncId} {xs : List AV} {v : AV} (hx : flatL xs = true) (hv : v.flat = true) (h : Spec P f xs [] fun r _ => r = v) : PSpec P f xs v := by
  refine fun σ => ⟨h.1, fun w Im T vs hW hR => ?_⟩
  have hW0 : WRel w Im [] [] := ⟨rfl, fun l o p ho _ => by simp at ho, hW.im, fun l o p ho _ => by simp at ho, fun l o p ho _ => by simp at ho, fun l o p ho _ => by simp at ho, fun l o p ho _ => by simp at ho, fun l l' o o' p p' ho _ => by simp at ho, fun l o p ho _ => by simp at ho⟩
  refine (h.2 w Im [] vs hW0 (hR.flat hx [])).mono ?_
  rintro e w' ⟨u, r, σ', Im', T', rfl, hRu, hW', hF, rfl⟩
  have hm : ∀ b, ¬ Mut ([] : Sto) [] b := by rintro b ⟨l, o, p, ho, _⟩; simp at ho
  have hk : ∀ b, b < w.heap.size → w'.heap[b]? = w.heap[b]? := fun b hb => hF.keep b hb (hm b)
  have hi' : ∀ b, Im' b → Im b ∨ (w.heap.size ≤ b ∧ b < w'.heap.size) := fun b hb => by
    rcases hF.im2 b hb with h1 | h1 | h1
    · exact .inl h1
    · exact absurd h1 (hm b)
    · exact .inr ⟨h1, hW'.im b hb⟩
  exact ⟨u, r, σ, Im', T, rfl, hRu.flat hv T, hW.world hF.size hk hF.im1 hi', .world hF.os hF.tape hF.output hF.size hk hF.im1 hi', rfl, rfl⟩
end
end Go.Proofs.YtejgopcicenbeaaGreat
