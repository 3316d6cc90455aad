/- A region that draws its order. No program. -/
import Derived.Test.YtemijcjgdgdhjaaLogL
namespace Go.Proofs.Ytemijcjgdgdhjaa
open Go.RowKit

section
variable {P : Program} {w : World} {Im : Nat → Prop} {σ : Sto} {T : Tab}

theorem Env.put_comm (env : Env) {d e : Option Nat} (x y : AV) (h : ∀ k, d = some k → e ≠ some k) : (env.put d x).put e y = (env.put e y).put d x := by
  cases d with
  | none => rfl
  | some d =>
    cases e with
    | none => rfl
    | some e =>
      have hne : e ≠ d := fun he => h d rfl (he ▸ rfl)
      funext t
      simp only [Env.put]
      by_cases h1 : t = e
      · subst h1; simp [hne]
      · simp [h1]
theorem evA_put {env : Env} {d : Option Nat} {v : AV} {x : Operand} (h : ∀ k, d = some k → x ≠ .tmp k) : evA (env.put d v) x = evA env x := by
  refine evA_congr fun t ht => ?_
  cases d with
  | none => rfl
  | some k => simp only [Env.put]; rw [if_neg (fun e => h k rfl (by rw [ht, e]))]
theorem looks_op {ops : Array Oper} {o : Oper} {d : Option Nat} (h : ∀ k, d = some k → k ∉ o.looksAt ops) (x : Operand) (hx : x ∈ o.op.operands) : ∀ k, d = some k → x ≠ .tmp k := by
  rintro k hk rfl
  refine h k hk ?_
  unfold Oper.looksAt
  refine List.mem_append.2 (.inl ?_)
  rw [List.mem_filterMap]
  exact ⟨.tmp k, Array.mem_toList_iff.2 hx, rfl⟩
theorem evalOp_put {mu : List Nat} {ops : Array Oper} {o : Oper} {env : Env} {d : Option Nat} {v : AV} (h : ∀ k, d = some k → k ∉ o.looksAt ops) : evalOp P mu o (env.put d v) σ = evalOp P mu o env σ :=
  evalOp_congr fun x hx => evA_put (looks_op h x hx)
theorem callOf_put {ops : Array Oper} {o : Oper} {env : Env} {d : Option Nat} {v : AV} (h : ∀ k, d = some k → k ∉ o.looksAt ops) : callOf P o (env.put d v) σ = callOf P o env σ :=
  callOf_congr fun x hx => evA_put (looks_op h x hx)
theorem wantA_put {ops : Array Oper} {o : Oper} {env : Env} {d : Option Nat} {v : AV} (h : ∀ k, d = some k → k ∉ o.looksAt ops) : wantA ops o (env.put d v) = wantA ops o env := by
  unfold wantA
  cases hg : o.guard with
  | none => rfl
  | some g =>
    obtain ⟨j, want⟩ := g
    simp only
    cases hj : (ops[j]?).bind (·.dst) with
    | none => rfl
    | some e =>
      have he : ∀ k, d = some k → k ≠ e := by
        rintro k hk rfl
        refine h k hk ?_
        unfold Oper.looksAt
        refine List.mem_append.2 (.inr ?_)
        simp [hg, hj]
      cases d with
      | none => rfl
      | some k => simp only [Env.put]; rw [if_neg (fun q => he k rfl q.symm)]

/-- What a step does, without its guard's word. -/
def Core (P : Program) (mu : List Nat) (c : Cls) (o : Oper) (b : Bool) (env : Env) (σ : Sto) (K : Env → Sto → Prop) : Prop := if b = true then Step1 P mu c o env σ K else K (env.put o.dst (.tup [])) σ
theorem AStep.iff {mu : List Nat} {ops : Array Oper} {nt : Nat} {c : Cls} {o : Oper} {env : Env} {K : Env → Sto → Prop} : AStep P mu ops nt c o env σ K ↔ dstOk nt o = true ∧ ∃ b, wantA ops o env = some b ∧ Core P mu c o b env σ K := by
  unfold AStep Core
  constructor
  · rintro ⟨h1, b, h2, h3, h4⟩
    refine ⟨h1, b, h2, ?_⟩
    cases b
    · exact h4 rfl
    · exact h3 rfl
  · rintro ⟨h1, b, h2, h3⟩
    refine ⟨h1, b, h2, fun e => ?_, fun e => ?_⟩
    · subst e; exact h3
    · subst e; exact h3
theorem Step1.mono {mu : List Nat} {c : Cls} {o : Oper} {env : Env} {K K' : Env → Sto → Prop} (h : Step1 P mu c o env σ K) (hk : ∀ e s, K e s → K' e s) : Step1 P mu c o env σ K' := by
  cases c with
  | a =>
    rcases h with ⟨v, s, h1, h2⟩ | ⟨f, xs, Q, h1, h2, h3⟩ | ⟨f, xs, xs', v, ls, n, h1, h2, h3, h4⟩ | ⟨c, x, t, e, ob, l, g, off, len, k, e1, e2, e3, e4, hu, hx, ho, hg, hfz, h⟩ | ⟨t, x, t', cs, e, e1, hu, hx, h⟩ | ⟨f, args, ts, v, e1, hsp, h⟩
    · exact .inl ⟨v, s, h1, hk _ _ h2⟩
    · exact .inr (.inl ⟨f, xs, Q, h1, h2, fun r s hq => hk _ _ (h3 r s hq)⟩)
    · exact .inr (.inr (.inl ⟨f, xs, xs', v, ls, n, h1, h2, h3, hk _ _ h4⟩))
    · exact .inr (.inr (.inr (.inl ⟨c, x, t, e, ob, l, g, off, len, k, e1, e2, e3, e4, hu, hx, ho, hg, hfz, fun n q1 q2 => hk _ _ (h n q1 q2)⟩)))
    · exact .inr (.inr (.inr (.inr (.inl ⟨t, x, t', cs, e, e1, hu, hx, fun b => hk _ _ (h b)⟩))))
    · exact .inr (.inr (.inr (.inr (.inr ⟨f, args, ts, v, e1, hsp, hk _ _ h⟩))))
  | z =>
    rcases h with ⟨v, h1, h2⟩ | ⟨f, xs, v, h1, h2, h3⟩
    · exact .inl ⟨v, h1, hk _ _ h2⟩
    · exact .inr ⟨f, xs, v, h1, h2, hk _ _ h3⟩
  | n => obtain ⟨v, h1, h2⟩ := h; exact ⟨v, h1, hk _ _ h2⟩
  | w =>
    rcases h with ⟨v, s, h1, h2⟩ | ⟨f, xs, Q, h1, h2, h4, h3⟩
    · exact .inl ⟨v, s, h1, hk _ _ h2⟩
    · exact .inr ⟨f, xs, Q, h1, h2, h4, fun r s hq => hk _ _ (h3 r s hq)⟩
  | b => obtain ⟨v, X, h1, h2⟩ := h; exact ⟨v, X, h1, hk _ _ h2⟩
theorem AStep.mono {mu : List Nat} {ops : Array Oper} {nt : Nat} {c : Cls} {o : Oper} {env : Env} {K K' : Env → Sto → Prop} (h : AStep P mu ops nt c o env σ K) (hk : ∀ e s, K e s → K' e s) : AStep P mu ops nt c o env σ K' := by
  obtain ⟨h1, b, h2, h3, h4⟩ := h
  exact ⟨h1, b, h2, fun e => (h3 e).mono hk, fun e => hk _ _ (h4 e)⟩

/-- One that looks at no store, ahead: it may come behind. -/
theorem swap_n {mu : List Nat} {ops : Array Oper} {nt : Nat} {c : Cls} {x y : Oper} {env : Env} {K : Env → Sto → Prop} (h1 : ∀ k, x.dst = some k → k ∉ y.looksAt ops) (h2 : ∀ k, x.dst = some k → y.dst ≠ some k) (h3 : ∀ k, y.dst = some k → k ∉ x.looksAt ops) (hc : c ≠ .a)
    (h : AStep P mu ops nt .n x env σ (AStep P mu ops nt c y · · K)) : AStep P mu ops nt c y env σ (AStep P mu ops nt .n x · · K) := by
  rw [AStep.iff] at h
  obtain ⟨dx, bx, wx, cx⟩ := h
  obtain ⟨vx, hxv, hy⟩ : ∃ vx, (bx = true → ∀ s, evalOp P mu x env s = some (vx, s)) ∧ (bx = false → vx = .tup []) ∧ AStep P mu ops nt c y (env.put x.dst vx) σ K := by
    cases bx with
    | true => obtain ⟨v, hv, hk⟩ := cx; exact ⟨v, fun _ => hv, (fun e => by cases e), hk⟩
    | false => exact ⟨.tup [], (fun e => by cases e), fun _ => rfl, cx⟩
  obtain ⟨hxf, hy⟩ := hy
  have fin : ∀ (u : AV) (s : Sto), K ((env.put x.dst vx).put y.dst u) s → AStep P mu ops nt .n x (env.put y.dst u) s K := by
    intro u s hk
    rw [Env.put_comm _ _ _ h2] at hk
    rw [AStep.iff]
    refine ⟨dx, bx, by rw [wantA_put h3]; exact wx, ?_⟩
    unfold Core
    cases bx with
    | true => exact ⟨vx, fun s => by rw [evalOp_put h3]; exact hxv rfl s, hk⟩
    | false => rw [hxf rfl] at hk; exact hk
  obtain ⟨dy, b, wy, s1, s2⟩ := hy
  rw [wantA_put h1] at wy
  refine ⟨dy, b, wy, fun e => ?_, fun e => fin _ _ (s2 e)⟩
  have s := s1 e
  cases c with
  | a => exact absurd rfl hc
  | z =>
    rcases s with ⟨v, q1, q2⟩ | ⟨f, xs, v, q1, q2, q3⟩
    · exact .inl ⟨v, by rw [evalOp_put h1] at q1; exact q1, fin _ _ q2⟩
    · exact .inr ⟨f, xs, v, by rw [callOf_put h1] at q1; exact q1, q2, fin _ _ q3⟩
  | n => obtain ⟨v, q1, q2⟩ := s; exact ⟨v, fun s => by rw [← evalOp_put (v := vx) h1]; exact q1 s, fin _ _ q2⟩
  | w =>
    rcases s with ⟨v, s, q1, q2⟩ | ⟨f, xs, Q, q1, q2, q4, q3⟩
    · exact .inl ⟨v, s, by rw [evalOp_put h1] at q1; exact q1, fin _ _ q2⟩
    · exact .inr ⟨f, xs, Q, by rw [callOf_put h1] at q1; exact q1, q2, q4, fun r s hq => fin _ _ (q3 r s hq)⟩
  | b => obtain ⟨v, X, q1, q2⟩ := s; exact ⟨v, X, by rw [evalOp_put h1] at q1; exact q1, fin _ _ q2⟩
/-- One that looks at no store, behind: it may come first. -/
theorem swap_n' {mu : List Nat} {ops : Array Oper} {nt : Nat} {c : Cls} {x y : Oper} {env : Env} {K : Env → Sto → Prop} (h1 : ∀ k, x.dst = some k → k ∉ y.looksAt ops) (h2 : ∀ k, x.dst = some k → y.dst ≠ some k) (h3 : ∀ k, y.dst = some k → k ∉ x.looksAt ops) (hc : c ≠ .a)
    (h : AStep P mu ops nt c x env σ (AStep P mu ops nt .n y · · K)) : AStep P mu ops nt .n y env σ (AStep P mu ops nt c x · · K) := by
  obtain ⟨dx, bx, wx, s1, s2⟩ := h
  -- what y comes to
  have got : ∀ (u : AV) (s : Sto), AStep P mu ops nt .n y (env.put x.dst u) s K → dstOk nt y = true ∧ ∃ b v, wantA ops y env = some b ∧ (b = true → ∀ s, evalOp P mu y env s = some (v, s)) ∧ (b = false → v = .tup []) ∧ K ((env.put y.dst v).put x.dst u) s := by
    intro u s hk
    rw [AStep.iff] at hk
    obtain ⟨dy, b, wy, cy⟩ := hk
    rw [wantA_put h1] at wy
    refine ⟨dy, b, ?_⟩
    cases b with
    | true =>
      obtain ⟨v, q1, q2⟩ := cy
      exact ⟨v, wy, (fun _ s => by rw [← evalOp_put (v := u) h1]; exact q1 s), (fun e => by cases e), by rw [← Env.put_comm _ _ _ h2]; exact q2⟩
    | false => exact ⟨.tup [], wy, (fun e => by cases e), fun _ => rfl, by rw [← Env.put_comm _ _ _ h2]; exact cy⟩
  -- one way of x's
  have one : ∃ u s, AStep P mu ops nt .n y (env.put x.dst u) s K := by
    cases bx with
    | false => exact ⟨_, _, s2 rfl⟩
    | true =>
      have s := s1 rfl
      cases c with
      | a => exact absurd rfl hc
      | z =>
        rcases s with ⟨v, q1, q2⟩ | ⟨f, xs, v, q1, q2, q3⟩
        · exact ⟨_, _, q2⟩
        · exact ⟨_, _, q3⟩
      | n => obtain ⟨v, q1, q2⟩ := s; exact ⟨_, _, q2⟩
      | w =>
        rcases s with ⟨v, s, q1, q2⟩ | ⟨f, xs, Q, q1, q2, ⟨r, s, hq⟩, q3⟩
        · exact ⟨_, _, q2⟩
        · exact ⟨_, _, q3 r s hq⟩
      | b => obtain ⟨v, X, q1, q2⟩ := s; exact ⟨_, _, q2⟩
  obtain ⟨u0, s0, h0⟩ := one
  obtain ⟨dy, b, v, wy, ev, ef, _⟩ := got u0 s0 h0
  have fin : ∀ (u : AV) (s : Sto), AStep P mu ops nt .n y (env.put x.dst u) s K → K ((env.put y.dst v).put x.dst u) s := by
    intro u s hk
    obtain ⟨_, b', v', wy', ev', ef', hk'⟩ := got u s hk
    rw [wy] at wy'
    cases wy'
    have : v' = v := by
      cases b with
      | true => have e1 := ev rfl s; have e2 := ev' rfl s; rw [e1] at e2; cases e2; rfl
      | false => rw [ef rfl, ef' rfl]
    rw [this] at hk'
    exact hk'
  have out : AStep P mu ops nt c x (env.put y.dst v) σ K := by
    refine ⟨dx, bx, by rw [wantA_put h3]; exact wx, fun e => ?_, fun e => fin _ _ (s2 e)⟩
    have s := s1 e
    cases c with
    | a => exact absurd rfl hc
    | z =>
      rcases s with ⟨u, q1, q2⟩ | ⟨f, xs, u, q1, q2, q3⟩
      · exact .inl ⟨u, by rw [evalOp_put h3]; exact q1, fin _ _ q2⟩
      · exact .inr ⟨f, xs, u, by rw [callOf_put h3]; exact q1, q2, fin _ _ q3⟩
    | n => obtain ⟨u, q1, q2⟩ := s; exact ⟨u, fun s => by rw [evalOp_put h3]; exact q1 s, fin _ _ q2⟩
    | w =>
      rcases s with ⟨u, s, q1, q2⟩ | ⟨f, xs, Q, q1, q2, q4, q3⟩
      · exact .inl ⟨u, s, by rw [evalOp_put h3]; exact q1, fin _ _ q2⟩
      · exact .inr ⟨f, xs, Q, by rw [callOf_put h3]; exact q1, q2, q4, fun r s hq => fin _ _ (q3 r s hq)⟩
    | b => obtain ⟨u, X, q1, q2⟩ := s; exact ⟨u, X, by rw [evalOp_put h3]; exact q1, fin _ _ q2⟩
  rw [AStep.iff]
  refine ⟨dy, b, wy, ?_⟩
  unfold Core
  cases b with
  | true => exact ⟨v, ev rfl, out⟩
  | false => rw [ef rfl] at out; exact out
def isCallO (o : Oper) : Bool := match o.op with
  | .call c => (match c.callee with
    | .builtin _ => false
    | _ => true)
  | _ => false
theorem callOf_isCall {o : Oper} {env : Env} {f : FuncId} {xs : List AV} (h : callOf P o env σ = some (f, xs)) : isCallO o = true := by
  unfold callOf at h
  unfold isCallO
  split at h
  · rename_i c ho
    rw [ho]
    simp only
    split at h
    · rename_i e; rw [e]
    · rename_i e; rw [e]
    · cases h
  · cases h
theorem evalOp_isCall {mu : List Nat} {o : Oper} {env : Env} {v : AV} {σ' : Sto} (h : evalOp P mu o env σ = some (v, σ')) : isCallO o = false := by
  cases hc : isCallO o with
  | false => rfl
  | true =>
    unfold isCallO at hc
    split at hc
    · rename_i c ho
      simp only [evalOp, ho] at h
      split at hc
      · cases hc
      · rename_i hb
        split at h
        · rename_i b e; exact absurd e (hb b)
        · cases h
    · cases hc
/-- Two that leave the store alone, not both calls. -/
theorem swap_z {mu : List Nat} {ops : Array Oper} {nt : Nat} {x y : Oper} {env : Env} {K : Env → Sto → Prop} (h1 : ∀ k, x.dst = some k → k ∉ y.looksAt ops) (h2 : ∀ k, x.dst = some k → y.dst ≠ some k) (h3 : ∀ k, y.dst = some k → k ∉ x.looksAt ops)
    (h : AStep P mu ops nt .z x env σ (AStep P mu ops nt .z y · · K)) : AStep P mu ops nt .z y env σ (AStep P mu ops nt .z x · · K) := by
  obtain ⟨dx, bx, wx, s1, s2⟩ := h
  -- x comes to u, by a way that hangs on env alone at this store
  obtain ⟨u, xw, hy⟩ : ∃ u, (∀ (d : AV), (bx = true → ∀ K' : Env → Sto → Prop, K' ((env.put y.dst d).put x.dst u) σ → Step1 P mu .z x (env.put y.dst d) σ K') ∧ (bx = false → u = .tup [])) ∧ AStep P mu ops nt .z y (env.put x.dst u) σ K := by
    cases bx with
    | false => exact ⟨.tup [], fun d => ⟨(fun e => by cases e), fun _ => rfl⟩, s2 rfl⟩
    | true =>
      rcases s1 rfl with ⟨v, q1, q2⟩ | ⟨f, xs, v, q1, q2, q3⟩
      · exact ⟨v, fun d => ⟨fun _ K' hk => .inl ⟨v, by rw [evalOp_put h3]; exact q1, hk⟩, (fun e => by cases e)⟩, q2⟩
      · exact ⟨v, fun d => ⟨fun _ K' hk => .inr ⟨f, xs, v, by rw [callOf_put h3]; exact q1, q2, hk⟩, (fun e => by cases e)⟩, q3⟩
  obtain ⟨dy, b, wy, t1, t2⟩ := hy
  rw [wantA_put h1] at wy
  have fin : ∀ d, K ((env.put x.dst u).put y.dst d) σ → AStep P mu ops nt .z x (env.put y.dst d) σ K := by
    intro d hk
    rw [Env.put_comm _ _ _ h2] at hk
    refine ⟨dx, bx, by rw [wantA_put h3]; exact wx, fun e => (xw d).1 e K hk, fun e => ?_⟩
    rw [(xw d).2 e] at hk; exact hk
  refine ⟨dy, b, wy, fun e => ?_, fun e => fin _ (t2 e)⟩
  rcases t1 e with ⟨v, q1, q2⟩ | ⟨f, xs, v, q1, q2, q3⟩
  · exact .inl ⟨v, by rw [evalOp_put h1] at q1; exact q1, fin _ q2⟩
  · exact .inr ⟨f, xs, v, by rw [callOf_put h1] at q1; exact q1, q2, fin _ q3⟩

def isLoadO (o : Oper) : Bool := match o.op, o.guard with
  | .load _ _, none => true
  | .call ⟨.value (.func _), _, _⟩, none => true
  | _, _ => false
theorem get_app {σ X : Sto} {l : Nat} {o : MO} (h : σ[l]? = some o) : (σ ++ X)[l]? = some o := by
  have hl : l < σ.length := by
    rcases Nat.lt_or_ge l σ.length with h1 | h1
    · exact h1
    · rw [List.getElem?_eq_none h1] at h; cases h
  rw [List.getElem?_append_left hl]; exact h
theorem rdCell_app {X : Sto} {x y : AV} (h : rdCell σ x = some y) : rdCell (σ ++ X) x = some y := by
  unfold rdCell at *
  split at h
  · exact h
  · rename_i l g off
    split at h
    · rename_i o ho; simp only [get_app ho]; exact h
    · cases h
  · cases h
theorem rdCells_app {X : Sto} {x : AV} {n : Nat} {y : List AV} (h : rdCells σ x n = some y) : rdCells (σ ++ X) x n = some y := by
  unfold rdCells at *
  split at h
  · exact h
  · rename_i l g off n
    split at h
    · rename_i o ho; simp only [get_app ho]; exact h
    · cases h
  · cases h
theorem loadA_app {X : Sto} {t : TypeId} {x y : AV} (h : loadA P σ t x = some y) : loadA P (σ ++ X) t x = some y := by
  unfold loadA at *
  split at h
  · split at h
    · rename_i n hn
      obtain ⟨z, hz, rfl⟩ := Option.map_eq_some_iff.1 h
      simp [rdCells_app hz]
    · cases h
  · exact rdCell_app h
  · cases h
theorem guard_none {ops : Array Oper} {o : Oper} {env : Env} (h : o.guard = none) : wantA ops o env = some true := by unfold wantA; rw [h]
/-- A load, or a call that only reads, and a new object. -/
theorem swap_zb {mu : List Nat} {ops : Array Oper} {nt : Nat} {x y : Oper} {env : Env} {K : Env → Sto → Prop} (h1 : ∀ k, x.dst = some k → k ∉ y.looksAt ops) (h2 : ∀ k, x.dst = some k → y.dst ≠ some k) (h3 : ∀ k, y.dst = some k → k ∉ x.looksAt ops)
    (hx : isLoadO x = true) (hy : y.guard = none) (h : AStep P mu ops nt .z x env σ (AStep P mu ops nt .b y · · K)) : AStep P mu ops nt .b y env σ (AStep P mu ops nt .z x · · K) := by
  obtain ⟨dx, bx, wx, s1, s2⟩ := h
  unfold isLoadO at hx
  split at hx
  · rename_i t a hop hg
    rw [guard_none hg] at wx
    cases wx
    rcases s1 rfl with ⟨v, q1, q2⟩ | ⟨f, xs, v, q1, q2, q3⟩
    · obtain ⟨dy, by_, wy, t1, t2⟩ := q2
      rw [guard_none hy] at wy
      cases wy
      obtain ⟨u, X, r1, r2⟩ := t1 rfl
      refine ⟨dy, true, guard_none hy, fun _ => ⟨u, X, by rw [evalOp_put h1] at r1; exact r1, dx, true, guard_none hg, fun _ => .inl ⟨v, ?_, ?_⟩, fun e => by cases e⟩, fun e => by cases e⟩
      · rw [evalOp_put h3]
        simp only [evalOp, hop] at q1 ⊢
        cases hl : loadA P σ t (evA env a) with
        | none => rw [hl] at q1; simp at q1
        | some z => rw [hl] at q1; rw [loadA_app hl]; simp at q1 ⊢; exact q1
      · rw [Env.put_comm _ _ _ h2] at r2; exact r2
    · simp [callOf, hop] at q1
  · rename_i g args ts hop hg
    rw [guard_none hg] at wx
    cases wx
    rcases s1 rfl with ⟨v, q1, q2⟩ | ⟨f, xs, v, q1, q2, q3⟩
    · have := evalOp_isCall q1
      simp [isCallO, hop] at this
    · obtain ⟨dy, by_, wy, t1, t2⟩ := q3
      rw [guard_none hy] at wy
      cases wy
      obtain ⟨u, X, r1, r2⟩ := t1 rfl
      refine ⟨dy, true, guard_none hy, fun _ => ⟨u, X, by rw [evalOp_put h1] at r1; exact r1, dx, true, guard_none hg, fun _ => .inr ⟨f, xs, v, ?_, fun Y => ?_, ?_⟩, fun e => by cases e⟩, fun e => by cases e⟩
      · rw [callOf_put h3]
        simp only [callOf, hop] at q1 ⊢
        exact q1
      · have := q2 (X ++ Y)
        rw [← List.append_assoc] at this
        exact this
      · rw [Env.put_comm _ _ _ h2] at r2; exact r2
  · cases hx
/-- Whether two may change places. -/
def mayC : Cls → Cls → Bool
  | .n, .a => false
  | .a, .n => false
  | .n, _ => true
  | _, .n => true
  | .z, .z => true
  | _, _ => false
def mayO (ops : Array Oper) (x y : Oper) (c d : Cls) : Bool := x.apart ops y && (mayC c d || (c == .z && d == .b && isLoadO x && y.guard.isNone))
theorem swap_any {mu : List Nat} {ops : Array Oper} {nt : Nat} {c d : Cls} {x y : Oper} {env : Env} {K : Env → Sto → Prop} (hm : mayO ops x y c d = true) (h : AStep P mu ops nt c x env σ (AStep P mu ops nt d y · · K)) : AStep P mu ops nt d y env σ (AStep P mu ops nt c x · · K) := by
  unfold mayO at hm
  rw [Bool.and_eq_true] at hm
  obtain ⟨ha, hc⟩ := hm
  obtain ⟨h1, h2, h3⟩ := Oper.apart_spec ha
  rw [Bool.or_eq_true] at hc
  rcases hc with hc | hc
  case inr =>
    simp only [Bool.and_eq_true, beq_iff_eq, Option.isNone_iff_eq_none] at hc
    obtain ⟨⟨⟨rfl, rfl⟩, hl⟩, hg⟩ := hc
    exact swap_zb h1 h2 h3 hl hg h
  cases c <;> cases d <;> simp [mayC] at hc
  · exact swap_z h1 h2 h3 h
  · exact swap_n' h1 h2 h3 (by simp) h
  · exact swap_n h1 h2 h3 (by simp) h
  · exact swap_n h1 h2 h3 (by simp) h
  all_goals first | exact swap_n h1 h2 h3 (by simp) h | exact swap_n' h1 h2 h3 (by simp) h
end
end Go.Proofs.Ytemijcjgdgdhjaa
