/- Steps of a region that draws its order and writes. No program. -/
import Derived.Test.YtemijcjgdgdhjaaLogP
namespace Go.Proofs.Ytemijcjgdgdhjaa
open Go.RowKit

/-- What an operation may do to the store, by its kind. -/
def clsOf (o : Oper) : Cls := match o.op with
  | .load .. => .z
  | .call c => (match c.callee with
    | .builtin .len => .z
    | .builtin .append => .w
    | .builtin .copy => .w
    | .builtin .clear => .w
    | .builtin .max => .n
    | .builtin .min => .n
    | _ => .z)
  | .store .. => .w
  | .alloc .. => .w
  | .box .. => .w
  | .buildSlice .. => .w
  | .convert .. => .z
  | .slice .. => .z
  | _ => .n
def born (o : Oper) : Bool := match o.op with
  | .alloc .. => true
  | .box .. => true
  | .buildSlice .. => true
  | _ => false
def cOf (mu : List Nat) (ov : List (Nat × Cls)) (i : Nat) (o : Oper) : Cls := (ov.lookup i).getD (if born o && !isMu mu o then .n else clsOf o)
section
variable {P : Program} {nt : Nat} {mu : List Nat} {ds : List (Option Nat)} {ov : List (Nat × Cls)} {K : Env → Sto → Prop}
def rwc (P : Program) (mu : List Nat) (ds : List (Option Nat)) (nt : Nat) (ov : List (Nat × Cls)) (K : Env → Sto → Prop) : Nat → List Oper → Env → Sto → Prop
  | _, [], env, σ => K env σ
  | i, o :: l, env, σ => dstOk nt o = true ∧ ∃ b, gdA ds o.guard env = some b ∧ (b = true → Step1 P mu (cOf mu ov i o) o env σ (rwc P mu ds nt ov K (i + 1) l)) ∧ (b = false → rwc P mu ds nt ov K (i + 1) l (env.put o.dst (.tup [])) σ)
def clsL (mu : List Nat) (ov : List (Nat × Cls)) : Nat → List Oper → List (Nat × Cls)
  | _, [] => []
  | i, o :: l => (i, cOf mu ov i o) :: clsL mu ov (i + 1) l
theorem clsL_fst (ov : List (Nat × Cls)) : ∀ (l : List Oper) (i : Nat), (clsL mu ov i l).map (·.1) = List.range' i l.length
  | [], _ => rfl
  | o :: l, i => by rw [clsL, List.map_cons, clsL_fst ov l (i + 1), List.length_cons, List.range'_succ]
theorem rwc_rwp {ops : Array Oper} (hds : ds = ops.toList.map (·.dst)) : ∀ (l : List Oper) (i : Nat) (env : Env) (σ : Sto), (∀ j, ops[i + j]? = l[j]?) → rwc P mu ds nt ov K i l env σ → rwp P mu ops nt K (clsL mu ov i l) env σ
  | [], _, _, _, _, h => h
  | o :: l, i, env, σ, hl, h => by
    refine ⟨o, by have := hl 0; simpa using this, ?_⟩
    obtain ⟨h1, b, h2, h3, h4⟩ := h
    have hl' : ∀ j, ops[i + 1 + j]? = l[j]? := fun j => by have := hl (j + 1); rw [← Nat.add_assoc, Nat.add_right_comm] at this; simpa using this
    exact ⟨h1, b, by rw [gdA_want, ← hds]; exact h2, fun e => (h3 e).mono fun e s hr => rwc_rwp hds l (i + 1) e s hl' hr, fun e => rwc_rwp hds l (i + 1) _ _ hl' (h4 e)⟩
theorem tri_regc {Q : Exit → Env → Sto → Prop} {id : Nat} {l : List Oper} {env : Env} {σ : Sto} (mu : List Nat) (ov : List (Nat × Cls)) (hm : P.follows .mixedOrders = true) (hok : orderOK l.toArray (clsL mu ov 0 l) = true) (h : rwc P mu (l.map (·.dst)) nt ov (fun env σ => Q .normal env σ) 0 l env σ) : Tri P nt (.region id l.toArray true) env σ Q :=
  tri_draw mu (clsL mu ov 0 l) hm (by rw [List.size_toArray, clsL_fst, List.range_eq_range']) hok (rwc_rwp (ops := l.toArray) rfl l 0 env σ (by simp) h)
theorem rwc_nil {i : Nat} {env : Env} {σ : Sto} (h : K env σ) : rwc P mu ds nt ov K i [] env σ := h
variable {d : Option Nat} {op : Op} {t : TypeId} {pos : String} {after : Array Edge} {g : Option (Nat × Bool)} {l q : List Oper} {env : Env} {σ : Sto} {i : Nat}
def rco (P : Program) (mu : List Nat) (ds : List (Option Nat)) (nt : Nat) (ov : List (Nat × Cls)) (K : Env → Sto → Prop) (i : Nat) (c : Cls) (o : Oper) (l : List Oper) (env : Env) (σ : Sto) : Prop := dstOk nt o = true ∧ Step1 P mu c o env σ (rwc P mu ds nt ov K (i + 1) l)
theorem rwc_g {j k : Nat} {want : Bool} (hk : (ds[j]?).bind id = some k)
    (h : ∀ G : AV → Prop, Hid (∀ b, (b = want → rco P mu ds nt ov K i (cOf mu ov i ⟨d, op, t, pos, after, none⟩) ⟨d, op, t, pos, after, none⟩ l env σ) → (b = (!want) → dOk nt d = true ∧ rwc P mu ds nt ov K (i + 1) l (env.put d (.tup [])) σ) → G (.sc (.bool b))) → Hid ((dOk nt d = true ∧ rwc P mu ds nt ov K (i + 1) l (env.put d (.tup [])) σ) → G (.tup [])) → G (env k)) :
    rwc P mu ds nt ov K i (⟨d, op, t, pos, after, some (j, want)⟩ :: l) env σ := by
  have := h (fun x => env k = x → rwc P mu ds nt ov K i (⟨d, op, t, pos, after, some (j, want)⟩ :: l) env σ) ?_ ?_
  · exact this rfl
  · intro b h1 h2 he
    by_cases hb : b = want
    · obtain ⟨q1, q2⟩ := h1 hb
      exact ⟨q1, true, by simp [gdA, hk, he, hb], fun _ => step_guard q2, fun e => by cases e⟩
    · have hb' : b = !want := by cases b <;> cases want <;> simp_all
      obtain ⟨q1, q2⟩ := h2 hb'
      exact ⟨q1, false, by simp [gdA, hk, he, hb'], (fun e => by cases e), fun _ => q2⟩
  · rintro ⟨q1, q2⟩ he
    exact ⟨q1, false, by simp [gdA, hk, he], (fun e => by cases e), fun _ => q2⟩
theorem rwc_o (c : Cls) (hc : cOf mu ov i ⟨d, op, t, pos, after, none⟩ = c) (h : rco P mu ds nt ov K i c ⟨d, op, t, pos, after, none⟩ l env σ) : rwc P mu ds nt ov K i (⟨d, op, t, pos, after, none⟩ :: l) env σ := ⟨h.1, true, rfl, fun _ => by rw [hc]; exact h.2, fun e => by cases e⟩
theorem rwc_n (hd : dOk nt d = true)
    (h : ∀ G : (Sto → Option (AV × Sto)) → Prop, Hid (∀ v, rwc P mu ds nt ov K (i + 1) l (env.put d v) σ → G (fun s => some (v, s))) → G (fun s => evalOp P mu ⟨d, op, t, pos, after, none⟩ env s)) : rco P mu ds nt ov K i .n ⟨d, op, t, pos, after, none⟩ l env σ := by
  have := h (fun r => r = (fun s => evalOp P mu ⟨d, op, t, pos, after, none⟩ env s) → rco P mu ds nt ov K i .n ⟨d, op, t, pos, after, none⟩ l env σ) fun v hv hr => ⟨hd, v, fun s => by have := congrFun hr s; exact this.symm, hv⟩
  exact this rfl
theorem rwc_z (hd : dOk nt d = true)
    (h : ∀ K' : AV → Sto → Prop, Hid (∀ v, rwc P mu ds nt ov K (i + 1) l (env.put d v) σ → K' v σ) → evK (evalOp P mu ⟨d, op, t, pos, after, none⟩ env σ) K') : rco P mu ds nt ov K i .z ⟨d, op, t, pos, after, none⟩ l env σ := by
  refine ⟨hd, ?_⟩
  have := h (fun v s => s = σ ∧ rwc P mu ds nt ov K (i + 1) l (env.put d v) σ) fun _ h => ⟨rfl, h⟩
  cases he : evalOp P mu ⟨d, op, t, pos, after, none⟩ env σ with
  | none => rw [he] at this; exact this.elim
  | some r => obtain ⟨v, s⟩ := r; rw [he] at this; obtain ⟨rfl, h⟩ := this; exact .inl ⟨v, he, h⟩
theorem rwc_w (hd : dOk nt d = true)
    (h : ∀ K' : AV → Sto → Prop, Hid (∀ v s, rwc P mu ds nt ov K (i + 1) l (env.put d v) s → K' v s) → evK (evalOp P mu ⟨d, op, t, pos, after, none⟩ env σ) K') : rco P mu ds nt ov K i .w ⟨d, op, t, pos, after, none⟩ l env σ := by
  refine ⟨hd, ?_⟩
  have := h (fun v s => rwc P mu ds nt ov K (i + 1) l (env.put d v) s) fun _ _ h => h
  cases he : evalOp P mu ⟨d, op, t, pos, after, none⟩ env σ with
  | none => rw [he] at this; exact this.elim
  | some r => obtain ⟨v, s⟩ := r; rw [he] at this; exact .inl ⟨v, s, he, this⟩
theorem rwc_b (hd : dOk nt d = true)
    (h : ∀ K' : AV → Sto → Prop, Hid (∀ v X, rwc P mu ds nt ov K (i + 1) l (env.put d v) (σ ++ X) → K' v (σ ++ X)) → evK (evalOp P mu ⟨d, op, t, pos, after, none⟩ env σ) K') : rco P mu ds nt ov K i .b ⟨d, op, t, pos, after, none⟩ l env σ := by
  refine ⟨hd, ?_⟩
  have := h (fun v s => ∃ X, s = σ ++ X ∧ rwc P mu ds nt ov K (i + 1) l (env.put d v) s) fun _ X h => ⟨X, rfl, h⟩
  cases he : evalOp P mu ⟨d, op, t, pos, after, none⟩ env σ with
  | none => rw [he] at this; exact this.elim
  | some r => obtain ⟨v, s⟩ := r; rw [he] at this; obtain ⟨X, rfl, h⟩ := this; exact ⟨v, X, he, h⟩
theorem rwc_cz (hd : dOk nt d = true)
    (h : ∀ C' : FuncId → List AV → Prop, Hid (∀ f xs v, (∀ X, Spec P f xs (σ ++ X) (fun r s => r = v ∧ s = σ ++ X)) → rwc P mu ds nt ov K (i + 1) l (env.put d v) σ → C' f xs) → Hid (∀ f xs v, PSpec P f xs v → rwc P mu ds nt ov K (i + 1) l (env.put d v) σ → C' f xs) → caK (callOf P ⟨d, op, t, pos, after, none⟩ env σ) C') : rco P mu ds nt ov K i .z ⟨d, op, t, pos, after, none⟩ l env σ := by
  refine ⟨hd, ?_⟩
  have := h (fun f xs => ∃ v, (∀ X, Spec P f xs (σ ++ X) (fun r s => r = v ∧ s = σ ++ X)) ∧ rwc P mu ds nt ov K (i + 1) l (env.put d v) σ) (fun f xs v h1 h2 => ⟨v, h1, h2⟩) (fun f xs v h1 h2 => ⟨v, fun X => h1 _, h2⟩)
  cases he : callOf P ⟨d, op, t, pos, after, none⟩ env σ with
  | none => rw [he] at this; exact this.elim
  | some r => obtain ⟨f, xs⟩ := r; rw [he] at this; obtain ⟨v, h1, h2⟩ := this; exact .inr ⟨f, xs, v, he, h1, h2⟩
theorem rwc_cw (hd : dOk nt d = true)
    (h : ∀ C' : FuncId → List AV → Prop, Hid (∀ f xs Q, Spec P f xs σ Q → (∃ r s, Q r s) → (∀ r s, Q r s → rwc P mu ds nt ov K (i + 1) l (env.put d r) s) → C' f xs) → caK (callOf P ⟨d, op, t, pos, after, none⟩ env σ) C') : rco P mu ds nt ov K i .w ⟨d, op, t, pos, after, none⟩ l env σ := by
  refine ⟨hd, ?_⟩
  have := h (fun f xs => ∃ Q, Spec P f xs σ Q ∧ (∃ r s, Q r s) ∧ ∀ r s, Q r s → rwc P mu ds nt ov K (i + 1) l (env.put d r) s) (fun f xs Q h1 h2 h3 => ⟨Q, h1, h2, h3⟩)
  cases he : callOf P ⟨d, op, t, pos, after, none⟩ env σ with
  | none => rw [he] at this; exact this.elim
  | some r => obtain ⟨f, xs⟩ := r; rw [he] at this; obtain ⟨Q, h1, h2, h3⟩ := this; exact .inr ⟨f, xs, Q, he, h1, h2, h3⟩
end
theorem out_ms {σ : Sto} {i g off len k : Nat} {c cs : List AV} {f fu : Bool} {v : AV} (ho : σ[i]? = some ⟨c, g, f, fu⟩) (hl : (c.drop off).take (len * k) = cs) (hb : off + len * k ≤ c.length) (hf : flatL cs = true) (hv : Wk (.fs cs len) v) : ∃ n u, frz σ (List.range σ.length) n (.ms i g off len k) = some u ∧ Wk u v := by
  refine ⟨2, .fs cs len, ?_, hv⟩
  have hi : (List.range σ.length).contains i = true := by simpa using lt_of_get ho
  generalize List.range σ.length = ls at hi ⊢
  simp [frz, frzL, AV.flat, ho, List.contains_iff_mem.1 hi, hb, hl, hf]
theorem out_mp {σ : Sto} {i g off : Nat} {c : List AV} {f fu : Bool} {v : AV} (ho : σ[i]? = some ⟨c, g, f, fu⟩) (hf : flatL c = true) (hv : Wk (.fp c off) v) : ∃ n u, frz σ (List.range σ.length) n (.mp i g off) = some u ∧ Wk u v := by
  refine ⟨2, .fp c off, ?_, hv⟩
  have hi : (List.range σ.length).contains i = true := by simpa using lt_of_get ho
  generalize List.range σ.length = ls at hi ⊢
  simp [frz, frzL, AV.flat, ho, List.contains_iff_mem.1 hi, hf]
theorem out_flat {σ : Sto} {v u : AV} (hf : u.flat = true) (hv : Wk u v) : ∃ n x, frz σ (List.range σ.length) n u = some x ∧ Wk x v := ⟨0, u, by simp [frz, hf], hv⟩
end Go.Proofs.Ytemijcjgdgdhjaa
