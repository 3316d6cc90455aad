/- Steps of a walk, as a proof takes them. No program. (joined) -/
import Derived.Test.YtejgopcicenbeaaGreatLb
import Derived.Test.YtejgopcicenbeaaGreatLa
import Derived.Lib.MinMaxS
namespace Go.Proofs.YtejgopcicenbeaaGreat
open Go.RowKit
def evK (r : Option (AV × Sto)) (K : AV → Sto → Prop) : Prop := match r with
  | some (v, s) => K v s
  | none => False
def caK (r : Option (FuncId × List AV)) (K : FuncId → List AV → Prop) : Prop := match r with
  | some (f, xs) => K f xs
  | none => False
@[simp] theorem evK_some (v : AV) (s : Sto) (K : AV → Sto → Prop) : evK (some (v, s)) K = K v s := rfl
@[simp] theorem caK_some (f : FuncId) (xs : List AV) (K : FuncId → List AV → Prop) : caK (some (f, xs)) K = K f xs := rfl
section
variable {P : Program} {nt : Nat} {mu : List Nat} {ds : List (Option Nat)} {K : Env → Sto → Prop}
/-- The guard's word: what the slot of operation j must be. -/
def gdA (ds : List (Option Nat)) (g : Option (Nat × Bool)) (env : Env) : Option Bool := match g with
  | none => some true
  | some (j, want) => match (ds[j]?).bind id with
    | some d => match env d with
      | .sc (.bool b) => some (b == want)
      | .tup [] => some false
      | _ => none
    | none => some false
theorem gdA_want {ops : Array Oper} {o : Oper} {env : Env} : wantA ops o env = gdA (ops.toList.map (·.dst)) o.guard env := by
  unfold wantA gdA
  cases o.guard with
  | none => rfl
  | some g =>
    obtain ⟨j, want⟩ := g
    simp only [List.getElem?_map, Array.getElem?_toList]
    cases ops[j]? <;> rfl
def opNe : Operand → Nat → Bool
  | .tmp e, d => !decide (e = d)
  | _, _ => true
/-- A new variable, and at once its value. -/
def boxPair (P : Program) (nt : Nat) (o o2 : Oper) (env : Env) : Option (Nat × List AV) := match o.dst, o.op, o.guard, o2.dst, o2.op, o2.guard with
  | some d, .alloc t, none, none, .store t' (.tmp d') x, none => match zeroA P t with
    | some zs => if d' = d ∧ d < nt ∧ opNe x d = true ∧ (evA env x).celled = true ∧ (evA env x).cellsOf.all AV.one = true ∧ sizeT P t' = some (evA env x).cellsOf.length ∧ zs.length = (evA env x).cellsOf.length then some (d, (evA env x).cellsOf) else none
    | none => none
  | _, _, _, _, _, _ => none
/-- Operations in the text's order, all of one class. -/
def rwf (P : Program) (mu : List Nat) (ds : List (Option Nat)) (nt : Nat) (c : Cls) (K : Env → Sto → Prop) : List Oper → Env → Sto → Prop
  | [], env, σ => K env σ
  | o :: l, env, σ => (dstOk nt o = true ∧ ∃ b, gdA ds o.guard env = some b ∧ (b = true → Step1 P mu c o env σ (rwf P mu ds nt c K l)) ∧ (b = false → rwf P mu ds nt c K l (env.put o.dst (.tup [])) σ)) ∨
    (c = .a ∧ match l with
      | [] => False
      | o2 :: l2 => ∃ d cs, boxPair P nt o o2 env = some (d, cs) ∧ rwf P mu ds nt c K l2 (env.put (some d) (.fp cs 0)) σ)
theorem rwf_cons {c : Cls} {o : Oper} {l : List Oper} {env : Env} {σ : Sto} : rwf P mu ds nt c K (o :: l) env σ = ((dstOk nt o = true ∧ ∃ b, gdA ds o.guard env = some b ∧ (b = true → Step1 P mu c o env σ (rwf P mu ds nt c K l)) ∧ (b = false → rwf P mu ds nt c K l (env.put o.dst (.tup [])) σ)) ∨
    (c = .a ∧ match l with
      | [] => False
      | o2 :: l2 => ∃ d cs, boxPair P nt o o2 env = some (d, cs) ∧ rwf P mu ds nt c K l2 (env.put (some d) (.fp cs 0)) σ)) := by
  cases l <;> rfl
theorem rwf_in {c : Cls} {o : Oper} {l : List Oper} {env : Env} {σ : Sto} (h : dstOk nt o = true ∧ ∃ b, gdA ds o.guard env = some b ∧ (b = true → Step1 P mu c o env σ (rwf P mu ds nt c K l)) ∧ (b = false → rwf P mu ds nt c K l (env.put o.dst (.tup [])) σ)) : rwf P mu ds nt c K (o :: l) env σ := by
  rw [rwf_cons]; exact .inl h
theorem boxPair_wp {ops : Array Oper} {Q : Exit → Act → World → Prop} {o o2 : Oper} {i j d : Nat} {rest : List Nat} {env : Env} {σ : Sto} {cs : List AV} {w0 : World} {Im0 : Nat → Prop} {σ0 : Sto} {T0 : Tab} {a : Act} {w : World} (hi : ops[i]? = some o) (hj : ops[j]? = some o2) (h : boxPair P nt o o2 env = some (d, cs))
    (hs : St nt w0 Im0 σ0 T0 env σ a w) (hk : ∀ a' w', St nt w0 Im0 σ0 T0 (env.put (some d) (.fp cs 0)) σ a' w' → wpOps P ops Q rest a' w') : wpOps P ops Q (i :: j :: rest) a w := by
  unfold boxPair at h
  split at h
  · rename_i d1 t t' d2 x e1 e2 e3 e4 e5 e6
    split at h
    · rename_i zs hz
      split at h
      · rename_i hc
        obtain ⟨rfl, hd, hx, h1, h2, h3, h4⟩ := hc
        cases h
        obtain ⟨Im, T, hW, hE, hsz, hdf, hF⟩ := hs
        obtain ⟨z, hz1, rfl, _⟩ := zeroA_run hz
        have hr := evA_rel hE x
        have hL := hr.cells h1
        have hlen : (a.eval x).cells.size = (evA env x).cellsOf.length := by have := hL.1; simpa using this
        rw [wpOps_cons]
        unfold wpOp
        simp only [hi]
        rw [if_pos (by simp [Region.wanted, e3])]
        refine .inl ?_
        unfold Oper.wp
        have hrun1 : (execOp a.eval o).run P w = .ok (.value (.pointer (some ⟨w.heap.size, 0, none⟩))) (w.alloc (.cells z.cells t)) := by
          simp [execOp, e2, Instr.alloc, newVar, newRow, hz1]
        rw [hrun1, Oper.upon_value, e1, wpOps_cons]
        unfold wpOp
        simp only [hj]
        rw [if_pos (by simp [Region.wanted, e6])]
        refine .inl ?_
        unfold Oper.wp
        have hev : (a.put (some d) (.pointer (some ⟨w.heap.size, 0, none⟩))).eval x = a.eval x := Act.eval_put fun k hk => by
          cases hk
          rintro rfl
          simp [opNe] at hx
        have hevd : (a.put (some d) (.pointer (some ⟨w.heap.size, 0, none⟩))).eval (.tmp d) = .pointer (some ⟨w.heap.size, 0, none⟩) := by
          have : d < a.tmps.size := Nat.lt_of_lt_of_eq hd hsz.symm
          simp [Act.eval, Act.put, this]
        have hst := run_storeCells_at P w.heap.size 0 t (a.eval x).cells.toList 0 z.cells (w.alloc (.cells z.cells t)) (alloc_new w _) (by simp at h4; simp; omega) (all_one hL h2)
        simp only [Nat.add_zero, Nat.zero_add, List.take_zero, List.nil_append] at hst
        have hdrop : z.cells.toList.drop (a.eval x).cells.toList.length = [] := by
          apply List.drop_eq_nil_of_le; simp at h4; simp; omega
        rw [hdrop, List.append_nil, Array.toArray_toList] at hst
        have hset : (w.alloc (.cells z.cells t)).setRow w.heap.size (a.eval x).cells = w.alloc (.cells (a.eval x).cells t) := by
          have hp : ((w.heap.push (.cells z.cells t)).modify w.heap.size fun | .cells _ elem frozen => .cells (a.eval x).cells elem frozen | o => o) = w.heap.push (.cells (a.eval x).cells t) := by
            apply Array.ext
            · simp
            · intro k hk1 hk2
              rw [Array.getElem_modify]
              split
              · rename_i e; subst e; simp
              · rename_i e
                have hk : k < w.heap.size := by simp at hk2; omega
                simp [Array.getElem_push, hk]
          show ({ w with heap := _ } : World) = { w with heap := _ }
          congr 1
        rw [hset] at hst
        have hrun2 : (execOp (a.put (some d) (.pointer (some ⟨w.heap.size, 0, none⟩))).eval o2).run P (w.alloc (.cells z.cells t)) = .ok .skip (w.alloc (.cells (a.eval x).cells t)) := by
          simp only [execOp, e5, hev, hevd]
          simp [Instr.storeAt, Instr.sureAddr, storeVar, run_sizeOf h3, hlen, hst]
        rw [hrun2, Oper.upon_skip, e4]
        show wpOps P ops Q rest (a.put (some d) _) _
        refine hk _ _ ?_
        obtain ⟨Im', T', q1, q2, q3⟩ := bornP_rel hW false (a.eval x).cells t (evA env x).cellsOf (by omega) (fun i x v hx hv => hL.2 i x v hx (by simpa using hv))
        exact St.step hW hE hsz hdf hF q1 q2 q3 (fun e he => by cases he; exact hd)
      · cases h
    · cases h
  · cases h
theorem rwf_sound {ops : Array Oper} {Q : Exit → Act → World → Prop} {w0 : World} {Im0 : Nat → Prop} {σ0 : Sto} {T0 : Tab} (hds : ds = ops.toList.map (·.dst)) (hK : ∀ env' σ' a' w', K env' σ' → St nt w0 Im0 σ0 T0 env' σ' a' w' → Q .normal a' w') :
    ∀ (n : Nat) (l : List Oper) (i : Nat) (env : Env) (σ : Sto) (a : Act) (w : World), l.length ≤ n → (∀ j, ops[i + j]? = l[j]?) → rwf P mu ds nt .a K l env σ → St nt w0 Im0 σ0 T0 env σ a w → wpOps P ops Q (List.range' i l.length) a w
  | _, [], _, env, σ, a, w, _, _, h, hs => hK _ _ _ _ h hs
  | 0, o :: l, _, _, _, _, _, hn, _, _, _ => by simp at hn
  | n + 1, o :: l, i, env, σ, a, w, hn, hl, h, hs => by
    have ho : ops[i]? = some o := by have := hl 0; simpa using this
    rw [List.length_cons, List.range'_succ]
    have hl' : ∀ j, ops[i + 1 + j]? = l[j]? := fun j => by have := hl (j + 1); rw [← Nat.add_assoc, Nat.add_right_comm] at this; simpa using this
    rw [rwf_cons] at h
    rcases h with h | h
    · obtain ⟨h1, b, h2, h3, h4⟩ := h
      rw [wpOps_cons]
      exact astep_wpOp (mu := mu) (c := .a) (K := rwf P mu ds nt .a K l) ho ⟨h1, b, by rw [gdA_want, ← hds]; exact h2, h3, h4⟩ hs fun env' σ' a' w' hr hs' => rwf_sound hds hK n l (i + 1) env' σ' a' w' (by simp at hn; omega) hl' hr hs'
    · obtain ⟨_, h⟩ := h
      match l, h, hl', hn with
      | o2 :: l2, h, hl', hn =>
        obtain ⟨d, cs, hb, hr⟩ := h
        rw [List.length_cons, List.range'_succ]
        refine boxPair_wp (j := i + 1) ho (by have := hl' 0; simpa using this) hb hs fun a' w' hs' => ?_
        exact rwf_sound hds hK n l2 (i + 1 + 1) _ σ a' w' (by simp at hn; omega) (fun j => by have := hl' (j + 1); rw [← Nat.add_assoc, Nat.add_right_comm] at this; simpa using this) hr hs'
theorem tri_reg {Q : Exit → Env → Sto → Prop} {id : Nat} {l : List Oper} {env : Env} {σ : Sto} (mu : List Nat) (h : rwf P mu (l.map (·.dst)) nt .a (fun env σ => Q .normal env σ) l env σ) : Tri P nt (.region id l.toArray false) env σ Q := by
  intro w0 Im0 σ0 T0 a w hs
  refine wp_region ?_
  rw [List.size_toArray, List.range_eq_range']
  exact rwf_sound (ops := l.toArray) rfl (fun env' σ' a' w' hq hs' => ⟨env', σ', hq, hs'⟩) l.length l 0 env σ a w (Nat.le_refl _) (by simp) h hs
theorem rwf_nil {c : Cls} {env : Env} {σ : Sto} (h : K env σ) : rwf P mu ds nt c K [] env σ := h
def dOk (nt : Nat) : Option Nat → Bool
  | some d => decide (d < nt)
  | none => true
section
variable {d : Option Nat} {op : Op} {t : TypeId} {pos : String} {after : Array Edge} {g : Option (Nat × Bool)} {l q : List Oper} {env : Env} {σ : Sto}
theorem step_guard {c : Cls} {g' : Option (Nat × Bool)} {K : Env → Sto → Prop} (h : Step1 P mu c ⟨d, op, t, pos, after, g⟩ env σ K) : Step1 P mu c ⟨d, op, t, pos, after, g'⟩ env σ K := by
  cases c <;> exact h
/-- A guarded operation: by what the guard's slot k holds. -/
def rwo (P : Program) (mu : List Nat) (ds : List (Option Nat)) (nt : Nat) (c : Cls) (K : Env → Sto → Prop) (o : Oper) (l : List Oper) (env : Env) (σ : Sto) : Prop := dstOk nt o = true ∧ Step1 P mu c o env σ (rwf P mu ds nt c K l)
theorem rwf_g {c : Cls} {j k : Nat} {want : Bool} (hk : (ds[j]?).bind id = some k)
    (h : ∀ G : AV → Prop, Hid (∀ b, (b = want → rwo P mu ds nt c K ⟨d, op, t, pos, after, none⟩ l env σ) → (b = (!want) → dOk nt d = true ∧ rwf P mu ds nt c K l (env.put d (.tup [])) σ) → G (.sc (.bool b))) → Hid ((dOk nt d = true ∧ rwf P mu ds nt c K l (env.put d (.tup [])) σ) → G (.tup [])) → G (env k)) :
    rwf P mu ds nt c K (⟨d, op, t, pos, after, some (j, want)⟩ :: l) env σ := by
  have := h (fun x => env k = x → rwf P mu ds nt c K (⟨d, op, t, pos, after, some (j, want)⟩ :: l) env σ) ?_ ?_
  · exact this rfl
  · intro b h1 h2 he
    by_cases hb : b = want
    · obtain ⟨q1, q2⟩ := h1 hb
      exact rwf_in ⟨q1, true, by simp [gdA, hk, he, hb], fun _ => step_guard q2, fun e => by cases e⟩
    · have hb' : b = !want := by cases b <;> cases want <;> simp_all
      obtain ⟨q1, q2⟩ := h2 hb'
      exact rwf_in ⟨q1, false, by simp [gdA, hk, he, hb'], (fun e => by cases e), fun _ => q2⟩
  · rintro ⟨q1, q2⟩ he
    exact rwf_in ⟨q1, false, by simp [gdA, hk, he], (fun e => by cases e), fun _ => q2⟩
theorem rwf_o {c : Cls} (h : rwo P mu ds nt c K ⟨d, op, t, pos, after, none⟩ l env σ) : rwf P mu ds nt c K (⟨d, op, t, pos, after, none⟩ :: l) env σ := rwf_in ⟨h.1, true, rfl, fun _ => h.2, fun e => by cases e⟩
/-- A new variable, and at once its value. -/
theorem rwf_box {d2 : Nat} {t' t2 : TypeId} {x : Operand} {pos' : String} {after' : Array Edge}
    (h : ∀ B : Option (Nat × List AV) → Prop, Hid (∀ d cs, rwf P mu ds nt .a K l (env.put (some d) (.fp cs 0)) σ → B (some (d, cs))) → B (boxPair P nt ⟨d, op, t, pos, after, none⟩ ⟨none, .store t' (.tmp d2) x, t2, pos', after', none⟩ env)) : rwf P mu ds nt .a K (⟨d, op, t, pos, after, none⟩ :: ⟨none, .store t' (.tmp d2) x, t2, pos', after', none⟩ :: l) env σ := by
  have := h (fun b => boxPair P nt ⟨d, op, t, pos, after, none⟩ ⟨none, .store t' (.tmp d2) x, t2, pos', after', none⟩ env = b → rwf P mu ds nt .a K (⟨d, op, t, pos, after, none⟩ :: ⟨none, .store t' (.tmp d2) x, t2, pos', after', none⟩ :: l) env σ) ?_
  · exact this rfl
  · intro d cs hr hb
    rw [rwf_cons]; exact .inr ⟨rfl, d, cs, hb, hr⟩
def notMu (mu : List Nat) : Option Nat → Bool
  | some d => !mu.contains d
  | none => true
theorem rwf_boxm {d2 : Nat} {t' t2 : TypeId} {x : Operand} {pos' : String} {after' : Array Edge} (_hmu : notMu mu d = true)
    (h : ∀ B : Option (Nat × List AV) → Prop, Hid (∀ d cs, rwf P mu ds nt .a K l (env.put (some d) (.fp cs 0)) σ → B (some (d, cs))) → B (boxPair P nt ⟨d, op, t, pos, after, none⟩ ⟨none, .store t' (.tmp d2) x, t2, pos', after', none⟩ env)) : rwf P mu ds nt .a K (⟨d, op, t, pos, after, none⟩ :: ⟨none, .store t' (.tmp d2) x, t2, pos', after', none⟩ :: l) env σ := rwf_box h
theorem rwf_a (hd : dOk nt d = true)
    (h : ∀ K' : AV → Sto → Prop, Hid (∀ v s, rwf P mu ds nt .a K l (env.put d v) s → K' v s) → evK (evalOp P mu ⟨d, op, t, pos, after, none⟩ env σ) K') : rwo P mu ds nt .a K ⟨d, op, t, pos, after, none⟩ l env σ := by
  refine ⟨hd, ?_⟩
  have := h _ fun _ _ h => h
  cases he : evalOp P mu ⟨d, op, t, pos, after, none⟩ env σ with
  | none => rw [he] at this; exact this.elim
  | some r => obtain ⟨v, s⟩ := r; rw [he] at this; exact .inl ⟨v, s, he, this⟩
theorem rwf_ca (hd : dOk nt d = true)
    (h : ∀ C' : FuncId → List AV → Prop, Hid (∀ f xs Q, Spec P f xs σ Q → (∀ r s, Q r s → rwf P mu ds nt .a K l (env.put d r) s) → C' f xs) → Hid (∀ f xs v, PSpec P f xs v → rwf P mu ds nt .a K l (env.put d v) σ → C' f xs) → caK (callOf P ⟨d, op, t, pos, after, none⟩ env σ) C') : rwo P mu ds nt .a K ⟨d, op, t, pos, after, none⟩ l env σ := by
  refine ⟨hd, ?_⟩
  have := h (fun f xs => ∃ Q, Spec P f xs σ Q ∧ ∀ r s, Q r s → rwf P mu ds nt .a K l (env.put d r) s) (fun f xs Q h1 h2 => ⟨Q, h1, h2⟩) (fun f xs v h1 h2 => ⟨_, h1 σ, fun r s ⟨e1, e2⟩ => by subst e1 e2; exact h2⟩)
  cases he : callOf P ⟨d, op, t, pos, after, none⟩ env σ with
  | none => rw [he] at this; exact this.elim
  | some r => obtain ⟨f, xs⟩ := r; rw [he] at this; obtain ⟨Q, h1, h2⟩ := this; exact .inr (.inl ⟨f, xs, Q, he, h1, h2⟩)
def isSlT (P : Program) (t : TypeId) : Bool := match P.underlying t with
  | some (.slice _) => true
  | _ => false
theorem isSlT_spec {t : TypeId} (h : isSlT P t = true) : ∃ e, P.underlying t = some (.slice e) := by
  unfold isSlT at h
  split at h
  · rename_i e he; exact ⟨e, he⟩
  · cases h
/-- Whether an empty slice is nil. -/
theorem rwf_nilt {x : Operand} {ct t2 : TypeId} (hd : dOk nt d = true) (hu : isSlT P ct = true)
    (h : ∀ G : AV → Prop, Hid (∀ cs, (∀ b, rwf P mu ds nt .a K q (env.put d (.sc (.bool b))) σ) → G (.fs cs 0)) → G (evA env x)) :
    rwo P mu ds nt .a K ⟨d, .binOp .eql ct x (.const (.slice none 0 0)) t2, t, pos, after, none⟩ q env σ := by
  obtain ⟨e, hu⟩ := isSlT_spec hu
  refine ⟨hd, .inr (.inr (.inr (.inr (.inl ?_))))⟩
  have := h (fun v => evA env x = v → NilStep P ⟨d, .binOp .eql ct x (.const (.slice none 0 0)) t2, t, pos, after, none⟩ env σ (rwf P mu ds nt .a K q)) fun cs h1 he => ⟨ct, x, t2, cs, e, rfl, hu, he, h1⟩
  exact this rfl
/-- A call whose arguments are laid to rest. -/
theorem rwf_cf (ls : List Nat) (hd : dOk nt d = true)
    (h : ∀ C' : FuncId → Option (List AV) → Prop, Hid (∀ f xs v, PSpec P f xs v → rwf P mu ds nt .a K l (env.put d v) (freezeL σ ls) → C' f (some xs)) → caK (callOf P ⟨d, op, t, pos, after, none⟩ env σ) (fun f xs => C' f (frzL σ ls 9 xs))) : rwo P mu ds nt .a K ⟨d, op, t, pos, after, none⟩ l env σ := by
  refine ⟨hd, ?_⟩
  have := h (fun f ys => ∃ xs v, ys = some xs ∧ PSpec P f xs v ∧ rwf P mu ds nt .a K l (env.put d v) (freezeL σ ls)) (fun f xs v h1 h2 => ⟨xs, v, rfl, h1, h2⟩)
  cases he : callOf P ⟨d, op, t, pos, after, none⟩ env σ with
  | none => rw [he] at this; exact this.elim
  | some r => obtain ⟨f, xs⟩ := r; rw [he] at this; obtain ⟨xs', v, h1, h2, h3⟩ := this; exact .inr (.inr (.inl ⟨f, xs, xs', v, ls, 9, he, h1, h2, h3⟩))
theorem rwf_z (hd : dOk nt d = true)
    (h : ∀ K' : AV → Sto → Prop, Hid (∀ v, rwf P mu ds nt .z K l (env.put d v) σ → K' v σ) → evK (evalOp P mu ⟨d, op, t, pos, after, none⟩ env σ) K') : rwo P mu ds nt .z K ⟨d, op, t, pos, after, none⟩ l env σ := by
  refine ⟨hd, ?_⟩
  have := h (fun v s => s = σ ∧ rwf P mu ds nt .z K l (env.put d v) σ) fun _ h => ⟨rfl, h⟩
  cases he : evalOp P mu ⟨d, op, t, pos, after, none⟩ env σ with
  | none => rw [he] at this; exact this.elim
  | some r => obtain ⟨v, s⟩ := r; rw [he] at this; obtain ⟨rfl, h⟩ := this; exact .inl ⟨v, he, h⟩
theorem rwf_cz (hd : dOk nt d = true)
    (h : ∀ C' : FuncId → List AV → Prop, Hid (∀ f xs v, (∀ X, Spec P f xs (σ ++ X) (fun r s => r = v ∧ s = σ ++ X)) → rwf P mu ds nt .z K l (env.put d v) σ → C' f xs) → Hid (∀ f xs v, PSpec P f xs v → rwf P mu ds nt .z K l (env.put d v) σ → C' f xs) → caK (callOf P ⟨d, op, t, pos, after, none⟩ env σ) C') : rwo P mu ds nt .z K ⟨d, op, t, pos, after, none⟩ l env σ := by
  refine ⟨hd, ?_⟩
  have := h (fun f xs => ∃ v, (∀ X, Spec P f xs (σ ++ X) (fun r s => r = v ∧ s = σ ++ X)) ∧ rwf P mu ds nt .z K l (env.put d v) σ) (fun f xs v h1 h2 => ⟨v, h1, h2⟩) (fun f xs v h1 h2 => ⟨v, fun X => h1 _, h2⟩)
  cases he : callOf P ⟨d, op, t, pos, after, none⟩ env σ with
  | none => rw [he] at this; exact this.elim
  | some r => obtain ⟨f, xs⟩ := r; rw [he] at this; obtain ⟨v, h1, h2⟩ := this; exact .inr ⟨f, xs, v, he, h1, h2⟩
end
section
variable {Q : Exit → Env → Sto → Prop} {env : Env} {σ : Sto}
theorem tri_if {c : Operand} {x y : Code} (h : ∀ G : AV → Prop, Hid (∀ b, (b = true → Tri P nt x env σ Q) → (b = false → Tri P nt y env σ Q) → G (.sc (.bool b))) → G (evA env c)) : Tri P nt (.cond c x y) env σ Q := by
  have := h (fun v => evA env c = v → Tri P nt (.cond c x y) env σ Q) fun b h1 h2 he => tri_cond he h1 h2
  exact this rfl
/-- A loop: the slots of keep stay; a relation that each round keeps, and a number that it lowers. -/
theorem tri_loopk {c : Code} (keep : List Nat) (I : Nat → Env → Sto → Prop) (n : Nat) (h0 : I n env σ) (round : ∀ (n : Nat) (env' : Env) (σ' : Sto), (∀ t ∈ keep, env' t = env t) → I n env' σ' → Tri P nt c env' σ' (thenA (fun e s => (∀ t ∈ keep, e t = env t) ∧ ∃ m, m < n ∧ I m e s) Q)) : Tri P nt (.loop c) env σ Q :=
  tri_loop (fun n e s => (∀ t ∈ keep, e t = env t) ∧ I n e s) n ⟨fun _ _ => rfl, h0⟩ fun n env' σ' ⟨hk, hI⟩ => tri_mono (round n env' σ' hk hI) fun e env'' σ'' hq => by
    cases e with
    | normal => obtain ⟨h1, m, h2, h3⟩ := hq; exact ⟨m, h2, h1, h3⟩
    | _ => exact hq
theorem then_n {K : Env → Sto → Prop} (h : K env σ) : thenA K Q .normal env σ := h
theorem then_e {K : Env → Sto → Prop} {i : Nat} (h : Q (.exit i) env σ) : thenA K Q (.exit i) env σ := h
theorem then_r {K : Env → Sto → Prop} (h : Q .ret env σ) : thenA K Q .ret env σ := h
theorem block_n {id : Nat} (h : Q .normal env σ) : blockA id Q .normal env σ := h
theorem block_r {id : Nat} (h : Q .ret env σ) : blockA id Q .ret env σ := h
theorem block_e {id : Nat} (h : Q .normal env σ) : blockA id Q (.exit id) env σ := by simp only [blockA, if_true]; exact h
theorem block_x {id i : Nat} (hne : (i == id) = false) (h : Q (.exit i) env σ) : blockA id Q (.exit i) env σ := by simp only [blockA]; rw [if_neg (by simpa using hne)]; exact h
end
end
theorem ite_yes {α : Type} {c : Prop} [Decidable c] {a b : α} (hc : c) : (if c then a else b) = a := if_pos hc
theorem wrapu_id {x : Int} (h1 : 0 ≤ x) (h2 : x ≤ 18446744073709551615) : IntKind.u64.wrap x = x := by rw [IntKind.wrap_u64]; omega
theorem wrapb_id {x : Int} (h1 : 0 ≤ x) (h2 : x ≤ 255) : IntKind.u8.wrap x = x := by rw [IntKind.wrap_u8]; omega
theorem tmod_nn {a b : Int} (h : 0 ≤ a) : a.tmod b = a % b := Int.tmod_eq_emod_of_nonneg h
theorem tdiv_nn {a b : Int} (h : 0 ≤ a) : a.tdiv b = a / b := Int.tdiv_eq_ediv_of_nonneg h
@[simp] theorem bytesA_len (s : ByteArray) : (bytesA s).length = s.size := by simp [bytesA]
theorem wrap_id {x : Int} (h1 : -9223372036854775808 ≤ x) (h2 : x ≤ 9223372036854775807) : IntKind.i64.wrap x = x := by rw [IntKind.wrap_i64]; omega
def avK (r : Option AV) (K : AV → Prop) : Prop := match r with
  | some v => K v
  | none => False
@[simp] theorem avK_some (v : AV) (K : AV → Prop) : avK (some v) K = K v := rfl
theorem ret_q {P : Program} {fn : Func} {Q : AV → Sto → Prop} {env : Env} {σ : Sto} (h : ∀ R : AV → Prop, Hid (∀ r, Q r σ → R r) → avK (resultA P fn env σ) R) : RetQ P fn Q .ret env σ := by
  have := h (fun r => Q r σ) fun _ h => h
  cases hr : resultA P fn env σ with
  | none => rw [hr] at this; exact this.elim
  | some r => rw [hr] at this; exact ⟨.inr rfl, r, hr, this⟩
theorem ret_n {P : Program} {fn : Func} {Q : AV → Sto → Prop} {env : Env} {σ : Sto} (h : RetQ P fn Q .ret env σ) : RetQ P fn Q .normal env σ := ⟨.inl rfl, h.2⟩
@[simp] theorem env0_zero (x : AV) (xs : List AV) : env0 (x :: xs) 0 = x := rfl
@[simp] theorem env0_succ (x : AV) (xs : List AV) (n : Nat) : env0 (x :: xs) (n + 1) = env0 xs n := by simp [env0]
@[simp] theorem env0_nil (n : Nat) : env0 [] n = .tup [] := rfl
@[simp] theorem put_some (env : Env) (d t : Nat) (x : AV) : (env.put (some d) x) t = if t = d then x else env t := rfl
@[simp] theorem put_none (env : Env) (x : AV) : env.put none x = env := rfl
attribute [simp] lookupA mapAt setMap updateA deleteA entryA entryStoreA makeMapA rangeA iterA okA nsp_ofB nsp_ty nsp_el keep_sp is_sp boxPair evalOp callOf applyA invokeA evA ofV builtinA binA isSh shBin intBin strBin unA loadA rdCell rdCells storeA wrCells keep_ofB keep_ty keep_el regFl_ofB regFl_el is_ofB is_ty is_el bornT bornST isTy boxA bornP bornS isMu nilA AV.celled AV.one AV.cellsOf Value.oneCell' lenA indexAddrA indexA sliceA bdA buildA fillA buildSliceA makeSliceA slcCells appendA srcA intT clearA inRow copyA convA isStrA assertA isConst gdA recvA frz frzL freezeL Sto.freeze eqA eqGuardA eqV eqFieldsA ptrNil slcNil fnNil ifNil nilEq partA resultA resL resA AV.flat flatL
@[simp] theorem zerosA_1 (a : AV) (n : Nat) : zerosA [a] n = List.replicate n a := rfl
attribute [simp] zerosA_length
theorem zerosA_all {q : AV → Bool} (z : List AV) (n : Nat) (h : z.all q = true) (h0 : q (.sc default) = true) : (zerosA z n).all q = true := by
  rw [List.all_eq_true] at h ⊢
  intro x hx
  unfold zerosA at hx
  split at hx
  · obtain rfl := (List.mem_replicate.1 hx).2; exact h _ List.mem_cons_self
  · obtain ⟨i, _, rfl⟩ := List.mem_map.1 hx
    cases hz : z[i % z.length]? with
    | none => exact h0
    | some y => exact h _ (List.mem_of_getElem? hz)
@[simp] theorem zerosA_one (z : List AV) (n : Nat) (h : z.all AV.one = true) : (zerosA z n).all AV.one = true := zerosA_all z n h rfl
@[simp] theorem wr_1 (c : List AV) (off : Nat) (v : AV) : wr c off [v] = c.set off v := rfl
@[simp] theorem wr_0 (c : List AV) (off : Nat) : wr c off [] = c.take off ++ [] ++ c.drop (off + 0) := rfl
@[simp] theorem wr_2 (c : List AV) (off : Nat) (x y : AV) (l : List AV) : wr c off (x :: y :: l) = c.take off ++ (x :: y :: l) ++ c.drop (off + (x :: y :: l).length) := rfl
/-- y tells no more than x. -/
inductive Wk : AV → AV → Prop where
  | refl (x : AV) : Wk x x
  | top (x : AV) : Wk x .top
  | nil : Wk (.sc (.slice none 0 0)) (.fs [] 0)
  | fp (xs ys : List AV) (off : Nat) (hl : xs.length = ys.length) (h : ∀ (i : Nat) (x y : AV), xs[i]? = some x → ys[i]? = some y → Wk x y) : Wk (.fp xs off) (.fp ys off)
  | fs (xs ys : List AV) (n : Nat) (hl : xs.length = ys.length) (h : ∀ (i : Nat) (x y : AV), xs[i]? = some x → ys[i]? = some y → Wk x y) : Wk (.fs xs n) (.fs ys n)
  | agg (xs ys : List AV) (hl : xs.length = ys.length) (h : ∀ (i : Nat) (x y : AV), xs[i]? = some x → ys[i]? = some y → Wk x y) : Wk (.agg xs) (.agg ys)
  | tup (xs ys : List AV) (hl : xs.length = ys.length) (h : ∀ (i : Nat) (x y : AV), xs[i]? = some x → ys[i]? = some y → Wk x y) : Wk (.tup xs) (.tup ys)
def WkL (xs ys : List AV) : Prop := xs.length = ys.length ∧ ∀ (i : Nat) (x y : AV), xs[i]? = some x → ys[i]? = some y → Wk x y
theorem WkL.nil : WkL [] [] := ⟨rfl, fun i x y hx _ => by simp at hx⟩
theorem WkL.cons {x y : AV} {xs ys : List AV} (h : Wk x y) (k : WkL xs ys) : WkL (x :: xs) (y :: ys) := ⟨by simp [k.1], fun i a b ha hb => by
  match i with
  | 0 => simp at ha hb; subst ha hb; exact h
  | i + 1 => exact k.2 i a b ha hb⟩
theorem Wk.tupL {xs ys : List AV} (h : WkL xs ys) : Wk (.tup xs) (.tup ys) := .tup _ _ h.1 h.2
theorem Rel.wk {w : World} {Im : Nat → Prop} {T : Tab} {x y : AV} (h : Wk x y) : ∀ {v : Value}, Rel w Im T v x → Rel w Im T v y := by
  induction h with
  | refl x => exact fun hr => hr
  | top x => exact fun _ => .top _
  | nil => intro v hr; cases hr; exact .fn0
  | fp xs ys off hl h ih =>
    intro v hr
    cases hr with
    | fp b o _ _ vs h1 h2 =>
      refine .fp b o off ys vs (fun i c hc => ?_) (fun i c hc => ?_)
      all_goals
        have hlt : i < xs.length := by rw [hl]; exact lt_of_get hc
      · exact h1 i _ (List.getElem?_eq_getElem hlt)
      · exact ih i _ c (List.getElem?_eq_getElem hlt) hc (h2 i _ (List.getElem?_eq_getElem hlt))
  | fs xs ys n hl h ih =>
    intro v hr
    cases hr with
    | fs b o _ cap _ vs hc h1 h2 =>
      refine .fs b o n cap ys vs hc (fun i c hc => ?_) (fun i c hc => ?_)
      all_goals
        have hlt : i < xs.length := by rw [hl]; exact lt_of_get hc
      · exact h1 i _ (List.getElem?_eq_getElem hlt)
      · exact ih i _ c (List.getElem?_eq_getElem hlt) hc (h2 i _ (List.getElem?_eq_getElem hlt))
    | fn0 =>
      obtain rfl : ys = [] := List.length_eq_zero_iff.1 hl.symm
      exact .fn0
    | fs0 a cap =>
      obtain rfl : ys = [] := List.length_eq_zero_iff.1 hl.symm
      exact .fs0 a cap
  | agg xs ys hl h ih =>
    intro v hr
    cases hr with
    | agg A _ hA h1 =>
      refine .agg A ys (by omega) fun i y u hy hu => ?_
      have hlt : i < xs.length := by rw [hl]; exact lt_of_get hy
      exact ih i _ y (List.getElem?_eq_getElem hlt) hy (h1 i _ u (List.getElem?_eq_getElem hlt) hu)
  | tup xs ys hl h ih =>
    intro v hr
    cases hr with
    | tup A _ hA h1 =>
      refine .tup A ys (by omega) fun i y u hy hu => ?_
      have hlt : i < xs.length := by rw [hl]; exact lt_of_get hy
      exact ih i _ y (List.getElem?_eq_getElem hlt) hy (h1 i _ u (List.getElem?_eq_getElem hlt) hu)
theorem spec_pureFW {P : Program} {f : FuncId} {xs : List AV} {v : AV} (hx : flatL xs = true) (h : Spec P f xs [] fun r s => ∃ n u, frz s (List.range s.length) n r = some u ∧ Wk u v) : PSpec P f xs v := by
  refine fun σ => ?_
  refine ⟨h.1, fun w Im T vs hW hR => ?_⟩
  have hW0 : WRel w Im [] [] := ⟨rfl, fun l o p ho _ => by simp at ho, hW.im, fun l o p ho _ => by simp at ho, fun l o p ho _ => by simp at ho, fun l o p ho _ => by simp at ho, fun l o p ho _ => by simp at ho, fun l l' o o' p p' ho _ => by simp at ho, fun l o p ho _ => by simp at ho⟩
  refine (h.2 w Im [] vs hW0 (hR.flat hx [])).mono ?_
  rintro e w' ⟨u, r, σ', I1, T1, rfl, hRu, hW1, hF1, n, y, hfz, hwk⟩
  obtain ⟨Im', hW', hF2, hb⟩ := hW1.freezeL (List.range σ'.length)
  have hRv : Rel w' Im' T1 u y := (frz_rel hW1 hb hF2.im1 n).1 r u y hRu hfz
  have hv : y.flat = true := (frz_flat n).1 _ _ hfz
  have hF := hF1.trans hF2
  have hm : ∀ b, ¬ Mut ([] : Sto) [] b := by rintro b ⟨l, o, p, ho, _⟩; simp at ho
  have hk : ∀ b, b < w.heap.size → w'.heap[b]? = w.heap[b]? := fun b hb => hF.keep b hb (hm b)
  have hi' : ∀ b, Im' b → Im b ∨ (w.heap.size ≤ b ∧ b < w'.heap.size) := fun b hb => by
    rcases hF.im2 b hb with h1 | h1 | h1
    · exact .inl h1
    · exact absurd h1 (hm b)
    · exact .inr ⟨h1, hW'.im b hb⟩
  exact ⟨u, v, σ, Im', T, rfl, (hRv.flat hv T).wk hwk, hW.world hF.size hk hF.im1 hi', .world hF.os hF.tape hF.output hF.size hk hF.im1 hi', rfl, rfl⟩
end Go.Proofs.YtejgopcicenbeaaGreat
/- Steps of a region that draws its order and writes. No program. -/
namespace Go.Proofs.YtejgopcicenbeaaGreat
open Go.RowKit
/-- What an operation may do to the store, by its kind. -/
def clsOf (o : Oper) : Cls := match o.op with
  | .load .. => .z
  | .call c => (match c.callee with
    | .builtin .len => .z
    | .builtin .append => .w
    | .builtin .copy => .w
    | .builtin .clear => .w
    | .builtin .max => .n
    | .builtin .min => .n
    | _ => .z)
  | .store .. => .w
  | .alloc .. => .w
  | .box .. => .w
  | .buildSlice .. => .w
  | .convert .. => .z
  | .slice .. => .z
  | _ => .n
def born (o : Oper) : Bool := match o.op with
  | .alloc .. => true
  | .box .. => true
  | .buildSlice .. => true
  | _ => false
def cOf (mu : List Nat) (ov : List (Nat × Cls)) (i : Nat) (o : Oper) : Cls := (ov.lookup i).getD (if born o && !isMu mu o then .n else clsOf o)
section
variable {P : Program} {nt : Nat} {mu : List Nat} {ds : List (Option Nat)} {ov : List (Nat × Cls)} {K : Env → Sto → Prop}
def rwc (P : Program) (mu : List Nat) (ds : List (Option Nat)) (nt : Nat) (ov : List (Nat × Cls)) (K : Env → Sto → Prop) : Nat → List Oper → Env → Sto → Prop
  | _, [], env, σ => K env σ
  | i, o :: l, env, σ => dstOk nt o = true ∧ ∃ b, gdA ds o.guard env = some b ∧ (b = true → Step1 P mu (cOf mu ov i o) o env σ (rwc P mu ds nt ov K (i + 1) l)) ∧ (b = false → rwc P mu ds nt ov K (i + 1) l (env.put o.dst (.tup [])) σ)
def clsL (mu : List Nat) (ov : List (Nat × Cls)) : Nat → List Oper → List (Nat × Cls)
  | _, [] => []
  | i, o :: l => (i, cOf mu ov i o) :: clsL mu ov (i + 1) l
theorem clsL_fst (ov : List (Nat × Cls)) : ∀ (l : List Oper) (i : Nat), (clsL mu ov i l).map (·.1) = List.range' i l.length
  | [], _ => rfl
  | o :: l, i => by rw [clsL, List.map_cons, clsL_fst ov l (i + 1), List.length_cons, List.range'_succ]
theorem rwc_rwp {ops : Array Oper} (hds : ds = ops.toList.map (·.dst)) : ∀ (l : List Oper) (i : Nat) (env : Env) (σ : Sto), (∀ j, ops[i + j]? = l[j]?) → rwc P mu ds nt ov K i l env σ → rwp P mu ops nt K (clsL mu ov i l) env σ
  | [], _, _, _, _, h => h
  | o :: l, i, env, σ, hl, h => by
    refine ⟨o, by have := hl 0; simpa using this, ?_⟩
    obtain ⟨h1, b, h2, h3, h4⟩ := h
    have hl' : ∀ j, ops[i + 1 + j]? = l[j]? := fun j => by have := hl (j + 1); rw [← Nat.add_assoc, Nat.add_right_comm] at this; simpa using this
    exact ⟨h1, b, by rw [gdA_want, ← hds]; exact h2, fun e => (h3 e).mono fun e s hr => rwc_rwp hds l (i + 1) e s hl' hr, fun e => rwc_rwp hds l (i + 1) _ _ hl' (h4 e)⟩
theorem tri_regc {Q : Exit → Env → Sto → Prop} {id : Nat} {l : List Oper} {env : Env} {σ : Sto} (mu : List Nat) (ov : List (Nat × Cls)) (hm : P.follows .mixedOrders = true) (hok : orderOK l.toArray (clsL mu ov 0 l) = true) (h : rwc P mu (l.map (·.dst)) nt ov (fun env σ => Q .normal env σ) 0 l env σ) : Tri P nt (.region id l.toArray true) env σ Q :=
  tri_draw mu (clsL mu ov 0 l) hm (by rw [List.size_toArray, clsL_fst, List.range_eq_range']) hok (rwc_rwp (ops := l.toArray) rfl l 0 env σ (by simp) h)
theorem rwc_nil {i : Nat} {env : Env} {σ : Sto} (h : K env σ) : rwc P mu ds nt ov K i [] env σ := h
variable {d : Option Nat} {op : Op} {t : TypeId} {pos : String} {after : Array Edge} {g : Option (Nat × Bool)} {l q : List Oper} {env : Env} {σ : Sto} {i : Nat}
def rco (P : Program) (mu : List Nat) (ds : List (Option Nat)) (nt : Nat) (ov : List (Nat × Cls)) (K : Env → Sto → Prop) (i : Nat) (c : Cls) (o : Oper) (l : List Oper) (env : Env) (σ : Sto) : Prop := dstOk nt o = true ∧ Step1 P mu c o env σ (rwc P mu ds nt ov K (i + 1) l)
theorem rwc_g {j k : Nat} {want : Bool} (hk : (ds[j]?).bind id = some k)
    (h : ∀ G : AV → Prop, Hid (∀ b, (b = want → rco P mu ds nt ov K i (cOf mu ov i ⟨d, op, t, pos, after, none⟩) ⟨d, op, t, pos, after, none⟩ l env σ) → (b = (!want) → dOk nt d = true ∧ rwc P mu ds nt ov K (i + 1) l (env.put d (.tup [])) σ) → G (.sc (.bool b))) → Hid ((dOk nt d = true ∧ rwc P mu ds nt ov K (i + 1) l (env.put d (.tup [])) σ) → G (.tup [])) → G (env k)) :
    rwc P mu ds nt ov K i (⟨d, op, t, pos, after, some (j, want)⟩ :: l) env σ := by
  have := h (fun x => env k = x → rwc P mu ds nt ov K i (⟨d, op, t, pos, after, some (j, want)⟩ :: l) env σ) ?_ ?_
  · exact this rfl
  · intro b h1 h2 he
    by_cases hb : b = want
    · obtain ⟨q1, q2⟩ := h1 hb
      exact ⟨q1, true, by simp [gdA, hk, he, hb], fun _ => step_guard q2, fun e => by cases e⟩
    · have hb' : b = !want := by cases b <;> cases want <;> simp_all
      obtain ⟨q1, q2⟩ := h2 hb'
      exact ⟨q1, false, by simp [gdA, hk, he, hb'], (fun e => by cases e), fun _ => q2⟩
  · rintro ⟨q1, q2⟩ he
    exact ⟨q1, false, by simp [gdA, hk, he], (fun e => by cases e), fun _ => q2⟩
theorem rwc_o (c : Cls) (hc : cOf mu ov i ⟨d, op, t, pos, after, none⟩ = c) (h : rco P mu ds nt ov K i c ⟨d, op, t, pos, after, none⟩ l env σ) : rwc P mu ds nt ov K i (⟨d, op, t, pos, after, none⟩ :: l) env σ := ⟨h.1, true, rfl, fun _ => by rw [hc]; exact h.2, fun e => by cases e⟩
theorem rwc_n (hd : dOk nt d = true)
    (h : ∀ G : (Sto → Option (AV × Sto)) → Prop, Hid (∀ v, rwc P mu ds nt ov K (i + 1) l (env.put d v) σ → G (fun s => some (v, s))) → G (fun s => evalOp P mu ⟨d, op, t, pos, after, none⟩ env s)) : rco P mu ds nt ov K i .n ⟨d, op, t, pos, after, none⟩ l env σ := by
  have := h (fun r => r = (fun s => evalOp P mu ⟨d, op, t, pos, after, none⟩ env s) → rco P mu ds nt ov K i .n ⟨d, op, t, pos, after, none⟩ l env σ) fun v hv hr => ⟨hd, v, fun s => by have := congrFun hr s; exact this.symm, hv⟩
  exact this rfl
theorem rwc_z (hd : dOk nt d = true)
    (h : ∀ K' : AV → Sto → Prop, Hid (∀ v, rwc P mu ds nt ov K (i + 1) l (env.put d v) σ → K' v σ) → evK (evalOp P mu ⟨d, op, t, pos, after, none⟩ env σ) K') : rco P mu ds nt ov K i .z ⟨d, op, t, pos, after, none⟩ l env σ := by
  refine ⟨hd, ?_⟩
  have := h (fun v s => s = σ ∧ rwc P mu ds nt ov K (i + 1) l (env.put d v) σ) fun _ h => ⟨rfl, h⟩
  cases he : evalOp P mu ⟨d, op, t, pos, after, none⟩ env σ with
  | none => rw [he] at this; exact this.elim
  | some r => obtain ⟨v, s⟩ := r; rw [he] at this; obtain ⟨rfl, h⟩ := this; exact .inl ⟨v, he, h⟩
theorem rwc_w (hd : dOk nt d = true)
    (h : ∀ K' : AV → Sto → Prop, Hid (∀ v s, rwc P mu ds nt ov K (i + 1) l (env.put d v) s → K' v s) → evK (evalOp P mu ⟨d, op, t, pos, after, none⟩ env σ) K') : rco P mu ds nt ov K i .w ⟨d, op, t, pos, after, none⟩ l env σ := by
  refine ⟨hd, ?_⟩
  have := h (fun v s => rwc P mu ds nt ov K (i + 1) l (env.put d v) s) fun _ _ h => h
  cases he : evalOp P mu ⟨d, op, t, pos, after, none⟩ env σ with
  | none => rw [he] at this; exact this.elim
  | some r => obtain ⟨v, s⟩ := r; rw [he] at this; exact .inl ⟨v, s, he, this⟩
theorem rwc_b (hd : dOk nt d = true)
    (h : ∀ K' : AV → Sto → Prop, Hid (∀ v X, rwc P mu ds nt ov K (i + 1) l (env.put d v) (σ ++ X) → K' v (σ ++ X)) → evK (evalOp P mu ⟨d, op, t, pos, after, none⟩ env σ) K') : rco P mu ds nt ov K i .b ⟨d, op, t, pos, after, none⟩ l env σ := by
  refine ⟨hd, ?_⟩
  have := h (fun v s => ∃ X, s = σ ++ X ∧ rwc P mu ds nt ov K (i + 1) l (env.put d v) s) fun _ X h => ⟨X, rfl, h⟩
  cases he : evalOp P mu ⟨d, op, t, pos, after, none⟩ env σ with
  | none => rw [he] at this; exact this.elim
  | some r => obtain ⟨v, s⟩ := r; rw [he] at this; obtain ⟨X, rfl, h⟩ := this; exact ⟨v, X, he, h⟩
theorem rwc_cz (hd : dOk nt d = true)
    (h : ∀ C' : FuncId → List AV → Prop, Hid (∀ f xs v, (∀ X, Spec P f xs (σ ++ X) (fun r s => r = v ∧ s = σ ++ X)) → rwc P mu ds nt ov K (i + 1) l (env.put d v) σ → C' f xs) → Hid (∀ f xs v, PSpec P f xs v → rwc P mu ds nt ov K (i + 1) l (env.put d v) σ → C' f xs) → caK (callOf P ⟨d, op, t, pos, after, none⟩ env σ) C') : rco P mu ds nt ov K i .z ⟨d, op, t, pos, after, none⟩ l env σ := by
  refine ⟨hd, ?_⟩
  have := h (fun f xs => ∃ v, (∀ X, Spec P f xs (σ ++ X) (fun r s => r = v ∧ s = σ ++ X)) ∧ rwc P mu ds nt ov K (i + 1) l (env.put d v) σ) (fun f xs v h1 h2 => ⟨v, h1, h2⟩) (fun f xs v h1 h2 => ⟨v, fun X => h1 _, h2⟩)
  cases he : callOf P ⟨d, op, t, pos, after, none⟩ env σ with
  | none => rw [he] at this; exact this.elim
  | some r => obtain ⟨f, xs⟩ := r; rw [he] at this; obtain ⟨v, h1, h2⟩ := this; exact .inr ⟨f, xs, v, he, h1, h2⟩
end
theorem out_mp {σ : Sto} {i g off : Nat} {c : List AV} {f fu : Bool} {v : AV} (ho : σ[i]? = some ⟨c, g, f, fu⟩) (hf : flatL c = true) (hv : Wk (.fp c off) v) : ∃ n u, frz σ (List.range σ.length) n (.mp i g off) = some u ∧ Wk u v := by
  refine ⟨2, .fp c off, ?_, hv⟩
  have hi : (List.range σ.length).contains i = true := by simpa using lt_of_get ho
  generalize List.range σ.length = ls at hi ⊢
  simp [frz, frzL, AV.flat, ho, List.contains_iff_mem.1 hi, hf]
theorem out_flat {σ : Sto} {v u : AV} (hf : u.flat = true) (hv : Wk u v) : ∃ n x, frz σ (List.range σ.length) n u = some x ∧ Wk x v := ⟨0, u, by simp [frz, hf], hv⟩
end Go.Proofs.YtejgopcicenbeaaGreat
/- What a call only reads may be written elsewhere: arguments lent. No program. -/
namespace Go.Proofs.YtejgopcicenbeaaGreat
open Go.RowKit
mutual
/-- It speaks of no memory. -/
def AV.bare : AV → Bool
  | .top => true
  | .sc _ => true
  | .iface _ x => x.bare
  | .agg xs => bareL xs
  | .tup xs => bareL xs
  | _ => false
def bareL : List AV → Bool
  | [] => true
  | x :: xs => x.bare && bareL xs
end
theorem bareL_iff (xs : List AV) : bareL xs = true ↔ ∀ x ∈ xs, x.bare = true := by
  induction xs with
  | nil => simp [bareL]
  | cons x xs ih => simp [bareL, ih]
theorem bare_at {xs : List AV} (h : bareL xs = true) {i : Nat} {x : AV} (hx : xs[i]? = some x) : x.bare = true := (bareL_iff xs).1 h x (List.mem_of_getElem? hx)
theorem Rel.bare {w : World} {Im : Nat → Prop} {T : Tab} {v : Value} {x : AV} (h : Rel w Im T v x) (hf : x.bare = true) (w' : World) (Im' : Nat → Prop) (T' : Tab) : Rel w' Im' T' v x := by
  induction h with
  | top v => exact .top v
  | sc v => exact .sc v
  | iface t v x h ih => simp only [AV.bare] at hf; exact .iface t v x (ih hf)
  | agg A xs hA h1 ih => simp only [AV.bare] at hf; exact .agg A xs hA (fun i x v hx hv => ih i x v hx hv (bare_at hf hx))
  | tup A xs hA h1 ih => simp only [AV.bare] at hf; exact .tup A xs hA (fun i x v hx hv => ih i x v hx hv (bare_at hf hx))
  | _ => simp [AV.bare] at hf
attribute [simp] AV.bare bareL
end Go.Proofs.YtejgopcicenbeaaGreat
/- Rows of one's own that grow by append. No program. -/
namespace Go.Proofs.YtejgopcicenbeaaGreat
open Go.RowKit
def isH (l : Nat) (v : AV) : Prop := ∃ g off n k, v = .ms l g off n k
/-- A row of one's own: nil, or an object's. -/
def Own (k : Nat) (σ : Sto) (v : AV) (n : Nat) (cs : List AV) : Prop :=
  (v = .sc (.slice none 0 0) ∧ n = 0 ∧ cs = []) ∨ ∃ i g off c, v = .ms i g off n k ∧ σ[i]? = some ⟨c, g, false, false⟩ ∧ off + n * k ≤ c.length ∧ (c.drop off).take (n * k) = cs
/-- What is not v's stays, and what is new is nobody's. -/
def Frame (σ : Sto) (v : AV) (σ' : Sto) (v' : AV) : Prop :=
  (∀ l o, σ[l]? = some o → ¬ isH l v → σ'[l]? = some o) ∧ (∀ l, isH l v' → isH l v ∨ σ.length ≤ l) ∧ σ.length ≤ σ'.length
theorem Own.lt {k : Nat} {σ : Sto} {v : AV} {n : Nat} {cs : List AV} (h : Own k σ v n cs) {l : Nat} (hl : isH l v) : l < σ.length := by
  obtain ⟨g, off, n', k', rfl⟩ := hl
  rcases h with ⟨h, _⟩ | ⟨i, g', off', c, e, h1, _⟩
  · cases h
  · cases e; exact lt_of_get h1
theorem Own.frame {k : Nat} {σ σ' : Sto} {u v v' : AV} {n : Nat} {cs : List AV} (h : Own k σ u n cs) (hd : ∀ l, isH l u → ¬ isH l v) (hF : Frame σ v σ' v') : Own k σ' u n cs ∧ ∀ l, isH l u → ¬ isH l v' := by
  refine ⟨?_, fun l hl hl' => ?_⟩
  · rcases h with h | ⟨i, g, off, c, rfl, h1, h2⟩
    · exact .inl h
    · exact .inr ⟨i, g, off, c, rfl, hF.1 i _ h1 (hd i ⟨g, off, n, k, rfl⟩), h2⟩
  · rcases hF.2.1 l hl' with h2 | h2
    · exact hd l hl h2
    · have := h.lt hl; omega
theorem isH_ms {l i g off n k : Nat} (h : isH l (.ms i g off n k)) : l = i := by obtain ⟨g', off', n', k', e⟩ := h; cases e; rfl
theorem app_own {P : Program} {σ : Sto} {t0 t1 e k by_ : Nat} {z : List AV} {v : AV} {n m : Nat} {cs new : List AV} (he : elemOfT P t0 = some (e, k)) (hz : zeroA P e = some z) (hzk : z.length = k) (hb : bytesT P e = some by_) (hb1 : by_ ≤ 1000)
    (h1 : notIntT P t1 = true) (hv : Own k σ v n cs) (hn1 : new.all AV.one = true) (hn2 : new.length = m * k) (hn3 : n + m ≤ 100000000) :
    ∃ v' σ', appendA P true false σ t0 t1 v (.fs new m) = some (v', σ') ∧ Own k σ' v' (n + m) (cs ++ new) ∧ Frame σ v σ' v' := by
  have hby : (n + m) * by_ ≤ 140737488355328 := Nat.le_trans (Nat.mul_le_mul hn3 hb1) (by omega)
  have hby' : m * by_ ≤ 140737488355328 := Nat.le_trans (Nat.mul_le_mul_right _ (by omega)) hby
  have hsrc : srcA P σ t1 (.fs new m) z k by_ = some (m, new) := by simp [srcA, h1, slcCells, hn2]
  unfold appendA
  simp only [he, hz, hb, hsrc, hn1, hzk, and_self, if_true]
  rcases hv with ⟨rfl, rfl, rfl⟩ | ⟨i, g, off, c, rfl, h2, h3, h4⟩
  · by_cases hm : m = 0
    · subst hm
      have : new = [] := List.length_eq_zero_iff.1 (by simpa using hn2)
      subst this
      refine ⟨_, _, by simp, .inl ⟨rfl, rfl, rfl⟩, fun l o ho _ => ho, fun l hl => .inl hl, Nat.le_refl _⟩
    · refine ⟨_, _, by simp [hm, hby']; exact ⟨by omega, rfl, rfl⟩, ?_, ?_⟩
      · exact .inr ⟨σ.length, 0, 0, new, by simp, by simp, by simp [hn2], by simp [List.take_of_length_le, hn2]⟩
      · refine ⟨fun l o ho _ => get_app ho, fun l hl => .inr ?_, by simp⟩
        have := isH_ms hl; omega
  · have hil := lt_of_get h2
    have hadd : (n + m) * k = n * k + m * k := Nat.add_mul _ _ _
    simp only [h2]
    rw [if_pos (by simp [h3, hby]; omega)]
    by_cases hin : 0 < k ∧ off + (n + m) * k ≤ c.length
    · rw [if_pos hin]
      refine ⟨_, _, rfl, .inr ⟨i, g, off, _, rfl, List.getElem?_set_self hil, ?_, ?_⟩, fun l o ho hl => ?_, fun l hl => .inl ⟨g, off, n, k, by rw [isH_ms hl]⟩, by simp⟩
      · rw [wr_length _ _ _ (by omega)]; exact hin.2
      · rw [wr_eq _ _ _ (by omega), List.append_assoc, List.drop_append_of_le_length (by simp; omega), List.drop_take, show off + n * k - off = n * k by omega, h4, ← List.append_assoc]
        refine List.take_left' ?_
        rw [List.length_append, ← h4]; simp; omega
      · have hli : i ≠ l := fun e => hl ⟨g, off, n, k, by rw [e]⟩
        rw [List.getElem?_set_ne hli]; exact ho
    · rw [if_neg hin, if_neg (by simp)]
      refine ⟨_, _, rfl, .inr ⟨i, g + 1, 0, _, rfl, List.getElem?_set_self hil, ?_, ?_⟩, fun l o ho hl => ?_, fun l hl => .inl ⟨g, off, n, k, by rw [isH_ms hl]⟩, by simp⟩
      · simp; omega
      · rw [List.drop_zero, h4]
        exact List.take_of_length_le (by rw [List.length_append, ← h4]; simp; omega)
      · have hli : i ≠ l := fun e => hl ⟨g, off, n, k, by rw [e]⟩
        rw [List.getElem?_set_ne hli]; exact ho
theorem frz_flat1 {σ : Sto} {ls : List Nat} {x : AV} (h : x.flat = true) (n : Nat) : frz σ ls n x = some x := by cases n <;> simp [frz, h]
theorem frz_own {k : Nat} {σ : Sto} {v : AV} {n : Nat} {cs : List AV} (h : Own k σ v n cs) (hf : flatL cs = true) (f : Nat) : ∃ u, frz σ (List.range σ.length) (f + 2) v = some u ∧ Wk u (.fs cs n) := by
  rcases h with ⟨rfl, rfl, rfl⟩ | ⟨i, g, off, c, rfl, h1, h2, h3⟩
  · exact ⟨_, frz_flat1 rfl _, .nil⟩
  · refine ⟨.fs cs n, ?_, .refl _⟩
    have hi : (List.range σ.length).contains i = true := by simpa using lt_of_get h1
    generalize List.range σ.length = ls at hi ⊢
    simp [frz, frzL, AV.flat, h1, List.contains_iff_mem.1 hi, h2, h3, hf]
theorem frzL_2 {σ : Sto} {ls : List Nat} {a b u v : AV} (n : Nat) (ha : frz σ ls (n + 1) a = some u) (hb : frz σ ls n b = some v) : frzL σ ls (n + 2) [a, b] = some [u, v] ∨ frzL σ ls (n + 2) [a, b] = some [a, b] ∧ u = a ∧ v = b := by
  by_cases h : flatL [a, b] = true
  · right
    simp [flatL] at h
    rw [frz_flat1 h.1] at ha
    rw [frz_flat1 h.2] at hb
    cases ha; cases hb
    exact ⟨by simp [frzL, flatL, h], rfl, rfl⟩
  · left
    rw [frzL, if_neg h]
    simp only [ha]
    by_cases h2 : flatL [b] = true
    · simp [flatL] at h2
      rw [frz_flat1 h2] at hb; cases hb
      simp [frzL, flatL, h2]
    · rw [frzL, if_neg h2]
      simp only [hb]
      cases n <;> simp [frzL, flatL]
section
variable {P : Program} {nt : Nat} {mu : List Nat} {ds : List (Option Nat)} {K : Env → Sto → Prop} {d : Nat} {t : TypeId} {pos : String} {after : Array Edge} {l : List Oper} {env : Env} {σ : Sto}
/-- append, to a row of one's own. -/
theorem rwf_app {s x : Operand} {t0 t1 e k by_ : Nat} {z : List AV} (hd : dOk nt (some d) = true) (hmu : (mu.contains d && !mu.contains (d + 1000000)) = true) (he : elemOfT P t0 = some (e, k)) (hz : zeroA P e = some z) (hzk : z.length = k) (hb : bytesT P e = some by_) (hb1 : by_ ≤ 1000) (h1 : notIntT P t1 = true)
    (h : ∀ G : AV → AV → Prop, Hid (∀ v n cs new m, Own k σ v n cs → new.all AV.one = true → new.length = m * k → n + m ≤ 100000000 → (∀ v' σ', Own k σ' v' (n + m) (cs ++ new) → Frame σ v σ' v' → rwf P mu ds nt .a K l (env.put (some d) v') σ') → G v (.fs new m)) → G (evA env s) (evA env x)) :
    rwo P mu ds nt .a K ⟨some d, .call ⟨.builtin .append, #[s, x], #[t0, t1]⟩, t, pos, after, none⟩ l env σ := by
  have := h (fun v y => evA env s = v → evA env x = y → rwo P mu ds nt .a K ⟨some d, .call ⟨.builtin .append, #[s, x], #[t0, t1]⟩, t, pos, after, none⟩ l env σ) fun v n cs new m q1 q2 q3 q4 q5 e1 e2 => ?_
  · exact this rfl rfl
  · obtain ⟨v', σ', r1, r2, r3⟩ := app_own he hz hzk hb hb1 h1 q1 q2 q3 q4
    refine ⟨hd, .inl ⟨v', σ', ?_, q5 v' σ' r2 r3⟩⟩
    show appendA P (mu.contains d) (mu.contains (d + 1000000)) σ t0 t1 (evA env s) (evA env x) = some (v', σ')
    rw [Bool.and_eq_true, Bool.not_eq_true'] at hmu
    rw [hmu.1, hmu.2, e1, e2]; exact r1
end
end Go.Proofs.YtejgopcicenbeaaGreat
/- Loops that count. No program. -/
namespace Go.Proofs.YtejgopcicenbeaaGreat
open Go.RowKit
theorem Own.append {k : Nat} {σ : Sto} {v : AV} {n : Nat} {cs : List AV} (h : Own k σ v n cs) (X : Sto) : Own k (σ ++ X) v n cs := by
  rcases h with h | ⟨i, g, off, c, h1, h2, h3, h4⟩
  · exact .inl h
  · exact .inr ⟨i, g, off, c, h1, get_app h2, h3, h4⟩
theorem Own.new (k : Nat) (σ : Sto) : Own k (σ ++ [⟨[], 0, false, false⟩]) (.ms σ.length 0 0 0 k) 0 [] := .inr ⟨σ.length, 0, 0, [], rfl, by simp, by simp, by simp⟩
theorem Own.nil (k : Nat) (σ : Sto) : Own k σ (.sc (.slice none 0 0)) 0 [] := .inl ⟨rfl, rfl, rfl⟩
section
variable {P : Program} {nt : Nat} {Q : Exit → Env → Sto → Prop} {env : Env} {σ : Sto}
@[simp] theorem drop_zeros (z : List AV) (n m : Nat) (h : decide (n ≤ m) = true) : List.drop m (zerosA z n) = [] := List.drop_eq_nil_of_le (by simpa using h)
@[simp] theorem wr_zeros (z : List AV) (n : Nat) (ys : List AV) (h : (ys.length == n) = true) : wr (zerosA z n) 0 ys = ys := by
  simp at h
  rw [wr_eq _ _ _ (by simp; omega)]
  simp [List.drop_eq_nil_of_le, h]
@[simp high] theorem sto_set_get (σ : Sto) (q : Nat) (x : MO) : (List.set σ q x)[q]? = (σ[q]?).map fun _ => x := by
  cases h : σ[q]? with
  | none => simp at h; simp [h]
  | some o => simp [lt_of_get h]
/-- A loop of N rounds at most: behind round k holds I k. -/
theorem tri_for {c : Code} (keep : List Nat) (N : Nat) (I : Nat → Env → Sto → Prop) (h0 : I 0 env σ)
    (step : ∀ (k : Nat) (env' : Env) (σ' : Sto), k < N → (∀ t ∈ keep, env' t = env t) → I k env' σ' → Tri P nt c env' σ' (thenA (fun e s => (∀ t ∈ keep, e t = env t) ∧ I (k + 1) e s) Q))
    (last : ∀ (env' : Env) (σ' : Sto), (∀ t ∈ keep, env' t = env t) → I N env' σ' → Tri P nt c env' σ' (thenA (fun _ _ => False) Q)) : Tri P nt (.loop c) env σ Q := by
  refine tri_loopk keep (fun m e s => ∃ k, k + m = N ∧ I k e s) N ⟨0, by omega, h0⟩ ?_
  rintro m e s hk ⟨k, hkm, hI⟩
  rcases Nat.lt_or_ge k N with h | h
  · refine tri_mono (step k e s h hk hI) fun x e' s' hq => ?_
    cases x with
    | normal => exact ⟨hq.1, m - 1, by omega, k + 1, by omega, hq.2⟩
    | _ => exact hq
  · obtain rfl : k = N := by omega
    refine tri_mono (last e s hk hI) fun x e' s' hq => ?_
    cases x with
    | normal => exact hq.elim
    | _ => exact hq
/-- A loop: what each round keeps and lowers; the slots of keep stay. -/
theorem tri_whl {c : Code} (keep : List Nat) (n : Nat) (I : Nat → Env → Sto → Prop) (h0 : ∃ m, m ≤ n ∧ I m env σ)
    (round : ∀ (m : Nat) (env' : Env) (σ' : Sto), m ≤ n → (∀ t ∈ keep, env' t = env t) → I m env' σ' → Tri P nt c env' σ' (thenA (fun e s => (∀ t ∈ keep, e t = env t) ∧ ∃ m', m' < m ∧ I m' e s) Q)) : Tri P nt (.loop c) env σ Q := by
  obtain ⟨m0, hm, h0⟩ := h0
  refine tri_loopk keep (fun m e s => m ≤ n ∧ I m e s) m0 ⟨hm, h0⟩ ?_
  rintro m e s hk ⟨hm, hI⟩
  refine tri_mono (round m e s hm hk hI) fun x e' s' hq => ?_
  cases x with
  | normal =>
    obtain ⟨h1, m', h2, h3⟩ := hq
    exact ⟨h1, m', h2, by omega, h3⟩
  | _ => exact hq
end
section
variable {P : Program} {nt : Nat} {mu : List Nat} {ds : List (Option Nat)} {ov : List (Nat × Cls)} {K : Env → Sto → Prop} {d : Nat} {t : TypeId} {pos : String} {after : Array Edge} {l : List Oper} {env : Env} {σ : Sto} {i : Nat}
end
end Go.Proofs.YtejgopcicenbeaaGreat
/- A row is laid to rest in the midst of a function. -/
namespace Go.Proofs.YtejgopcicenbeaaGreat
open Go.RowKit
variable {P : Program} {nt : Nat} {env : Env} {σ : Sto} {Q : Exit → Env → Sto → Prop}
end Go.Proofs.YtejgopcicenbeaaGreat
/- Plain words of keys, messages, rows of them: what is found, put, taken. No program. (Out of session 1's texts.) -/
namespace Go.Proofs.YtejgopcicenbeaaGreat
open Go.RowKit
theorem isMsg_put {k v : Str} : isMsg ⟨1, k, v⟩ = (isKey k && isVal v) := by simp [isMsg, isVal]
theorem wraps_u64 (n : Int) (h₀ : 0 ≤ n) (h₁ : n < 2 ^ 64) : IntKind.u64.wrap n = n := by
  show (if (IntKind.u64.signed && decide (n % 2 ^ 64 ≥ 2 ^ 63)) = true then n % 2 ^ 64 - 2 ^ 64 else n % 2 ^ 64) = n
  simp [IntKind.signed]; omega
theorem scmp_neg {a b : Str} : decide (scmp a b < 0) = slt a b := by
  unfold scmp
  cases h : slt a b with
  | true => simp
  | false => cases h' : slt b a <;> simp
deriving instance DecidableEq for Msg
def mwts (l : List Msg) : Int := (l.map mwt).sum
end Go.Proofs.YtejgopcicenbeaaGreat
/- Rows of things, as cells. No program. -/
namespace Go.Proofs.YtejgopcicenbeaaGreat
open Go.RowKit
/-- The cells of a row of things, each of so many cells. -/
def flatC {α : Type} (c : α → List AV) (l : List α) : List AV := l.flatMap c
section
variable {α : Type} {c : α → List AV} {n : Nat}
theorem flatC_length (hc : ∀ x, (c x).length = n) (l : List α) : (flatC c l).length = l.length * n := by
  induction l with
  | nil => simp [flatC]
  | cons x l ih => simp only [flatC, List.flatMap_cons, List.length_append, hc, List.length_cons, Nat.add_mul, Nat.one_mul] at *; omega
theorem flatC_drop (hc : ∀ x, (c x).length = n) : ∀ (l : List α) (k : Nat), (flatC c l).drop (k * n) = flatC c (l.drop k)
  | [], k => by simp [flatC]
  | x :: l, 0 => by simp
  | x :: l, k + 1 => by
    have ih := flatC_drop hc l k
    simp only [flatC, List.flatMap_cons, List.drop_succ_cons] at *
    rw [Nat.add_mul, Nat.one_mul, Nat.add_comm, ← List.drop_drop, List.drop_left' (hc x)]
    exact ih
theorem flatC_take (hc : ∀ x, (c x).length = n) : ∀ (l : List α) (k : Nat), (flatC c l).take (k * n) = flatC c (l.take k)
  | [], k => by simp [flatC]
  | x :: l, 0 => by simp [flatC]
  | x :: l, k + 1 => by
    have ih := flatC_take hc l k
    simp only [flatC, List.flatMap_cons, List.take_succ_cons] at *
    rw [Nat.add_mul, Nat.one_mul, Nat.add_comm, List.take_append, hc, List.take_of_length_le (by rw [hc]; omega), Nat.add_sub_cancel_left, ih]
theorem flatC_get (hc : ∀ x, (c x).length = n) (l : List α) (k j : Nat) (h : k < l.length) (hj : j < n) : (flatC c l)[k * n + j]? = (c l[k])[j]? := by
  rw [← List.getElem?_drop, flatC_drop hc, List.drop_eq_getElem_cons h]
  simp only [flatC, List.flatMap_cons]
  rw [List.getElem?_append_left (by rw [hc]; exact hj)]
theorem flatC_seg (hc : ∀ x, (c x).length = n) (l : List α) (k : Nat) (h : k < l.length) : ((flatC c l).drop (k * n)).take n = c l[k] := by
  rw [flatC_drop hc, List.drop_eq_getElem_cons h]
  simp only [flatC, List.flatMap_cons]
  rw [List.take_left' (hc _)]
theorem flatC_append (l m : List α) : flatC c (l ++ m) = flatC c l ++ flatC c m := by simp [flatC]
theorem flatC_one (x : α) : flatC c [x] = c x := by simp [flatC]
theorem flatC_flat (hc : ∀ x, flatL (c x) = true) (l : List α) : flatL (flatC c l) = true := by
  rw [flatL_iff]
  intro y hy
  simp only [flatC, List.mem_flatMap] at hy
  obtain ⟨x, _, hx⟩ := hy
  exact (flatL_iff _).1 (hc x) y hx
theorem flatC_one' (hc : ∀ x, (c x).all AV.one = true) (l : List α) : (flatC c l).all AV.one = true := by
  rw [List.all_eq_true]
  intro y hy
  simp only [flatC, List.mem_flatMap] at hy
  obtain ⟨x, _, hx⟩ := hy
  exact List.all_eq_true.1 (hc x) y hx
end
/-- A message, as cells. -/
def cM (m : Msg) : List AV := [.sc (.int .i64 m.kind), .sc (.string m.key), .sc (.string m.val)]
def flatM (l : List Msg) : List AV := flatC cM l
@[simp] theorem cM_length (m : Msg) : (cM m).length = 3 := rfl
@[simp] theorem flatM_length (l : List Msg) : (flatM l).length = l.length * 3 := flatC_length cM_length l
@[simp] theorem flatM_flat (l : List Msg) : flatL (flatM l) = true := flatC_flat (fun _ => rfl) l
@[simp] theorem flatM_one (l : List Msg) : (flatM l).all AV.one = true := flatC_one' (fun _ => rfl) l
@[simp] theorem cM_one (m : Msg) : (cM m).all AV.one = true := rfl
@[simp] theorem cM_flat (m : Msg) : flatL (cM m) = true := rfl
theorem flatM_seg (l : List Msg) (k : Nat) (h : k < l.length) : ((flatM l).drop (k * 3)).take 3 = cM l[k] := flatC_seg cM_length l k h
theorem flatM_0 (l : List Msg) (k : Nat) (h : k < l.length) : (flatM l)[k * 3]? = some (.sc (.int .i64 l[k].kind)) := flatC_get cM_length l k 0 h (by omega)
theorem flatM_1 (l : List Msg) (k : Nat) (h : k < l.length) : (flatM l)[k * 3 + 1]? = some (.sc (.string l[k].key)) := flatC_get cM_length l k 1 h (by omega)
theorem flatM_2 (l : List Msg) (k : Nat) (h : k < l.length) : (flatM l)[k * 3 + 2]? = some (.sc (.string l[k].val)) := flatC_get cM_length l k 2 h (by omega)
/-- An item, as cells. -/
def cI (x : Item) : List AV := [.sc (.string x.key), .sc (.string x.val)]
def flatI (l : List Item) : List AV := flatC cI l
@[simp] theorem cI_length (m : Item) : (cI m).length = 2 := rfl
@[simp] theorem flatI_length (l : List Item) : (flatI l).length = l.length * 2 := flatC_length cI_length l
@[simp] theorem flatI_flat (l : List Item) : flatL (flatI l) = true := flatC_flat (fun _ => rfl) l
@[simp] theorem flatI_one (l : List Item) : (flatI l).all AV.one = true := flatC_one' (fun _ => rfl) l
@[simp] theorem cI_one (m : Item) : (cI m).all AV.one = true := rfl
@[simp] theorem cI_flat (m : Item) : flatL (cI m) = true := rfl
theorem flatI_seg (l : List Item) (k : Nat) (h : k < l.length) : ((flatI l).drop (k * 2)).take 2 = cI l[k] := flatC_seg cI_length l k h
theorem flatI_0 (l : List Item) (k : Nat) (h : k < l.length) : (flatI l)[k * 2]? = some (.sc (.string l[k].key)) := flatC_get cI_length l k 0 h (by omega)
theorem flatI_1 (l : List Item) (k : Nat) (h : k < l.length) : (flatI l)[k * 2 + 1]? = some (.sc (.string l[k].val)) := flatC_get cI_length l k 1 h (by omega)
theorem flatI_take (l : List Item) (k : Nat) : (flatI l).take (k * 2) = flatI (l.take k) := flatC_take cI_length l k
theorem flatI_drop (l : List Item) (k : Nat) : (flatI l).drop (k * 2) = flatI (l.drop k) := flatC_drop cI_length l k
/-- Texts, as cells. -/
def cS (s : Str) : List AV := [.sc (.string s)]
def flatS (l : List Str) : List AV := flatC cS l
@[simp] theorem cS_length (m : Str) : (cS m).length = 1 := rfl
@[simp] theorem flatS_length (l : List Str) : (flatS l).length = l.length := by have := flatC_length cS_length l; rw [Nat.mul_one] at this; exact this
@[simp] theorem flatS_flat (l : List Str) : flatL (flatS l) = true := flatC_flat (fun _ => rfl) l
theorem flatS_get (l : List Str) (k : Nat) (h : k < l.length) : (flatS l)[k]? = some (.sc (.string l[k])) := by have := flatC_get cS_length l k 0 h (by omega); rw [Nat.mul_one] at this; exact this
@[simp] theorem flatS_at (l : List Str) (k : Nat) (h : k < (flatS l).length) : (flatS l)[k] = .sc (.string (l[k]'(by simpa using h))) := by
  have h' : k < l.length := by simpa using h
  have := flatS_get l k h'
  rw [List.getElem?_eq_getElem h] at this
  exact Option.some.inj this
/-- Numbers, as cells. -/
def cN (x : Int) : List AV := [.sc (.int .i64 x)]
def flatN (l : List Int) : List AV := flatC cN l
@[simp] theorem cN_length (x : Int) : (cN x).length = 1 := rfl
@[simp] theorem flatN_length (l : List Int) : (flatN l).length = l.length := by have := flatC_length cN_length l; rw [Nat.mul_one] at this; exact this
@[simp] theorem flatN_flat (l : List Int) : flatL (flatN l) = true := flatC_flat (fun _ => rfl) l
@[simp] theorem flatN_one (l : List Int) : (flatN l).all AV.one = true := flatC_one' (fun _ => rfl) l
theorem flatN_get (l : List Int) (k : Nat) (h : k < l.length) : (flatN l)[k]? = some (.sc (.int .i64 l[k])) := by have := flatC_get cN_length l k 0 h (by omega); rw [Nat.mul_one] at this; exact this
@[simp] theorem flatN_at (l : List Int) (k : Nat) (h : k < (flatN l).length) : (flatN l)[k] = .sc (.int .i64 (l[k]'(by simpa using h))) := by
  have h' : k < l.length := by simpa using h
  have := flatN_get l k h'
  rw [List.getElem?_eq_getElem h] at this
  exact Option.some.inj this
end Go.Proofs.YtejgopcicenbeaaGreat
/- The walk's steps, told as classes: a step is found by its goal. No program. -/
namespace Go.Proofs.YtejgopcicenbeaaGreat
open Go.RowKit
/-- A step that asks nothing. -/
class Stp (g : Prop) (n : outParam Prop) : Prop where
  pf : n → g
/-- A step that asks c, which is plain to see. -/
class Rul (g : Prop) (c n : outParam (Nat → Prop)) : Prop where
  pf : ∀ {k : Nat}, c k → n k → g
section
variable {P : Program} {nt : Nat} {mu : List Nat} {ds : List (Option Nat)} {K : Env → Sto → Prop} {c : Cls} {d : Option Nat} {op : Op} {t : TypeId} {pos : String} {after : Array Edge} {l : List Oper} {env : Env} {σ : Sto} {Q : Exit → Env → Sto → Prop} {ov : List (Nat × Cls)} {i : Nat}
instance {x y : Code} : Stp (Tri P nt (.seq x y) env σ Q) (Tri P nt x env σ (thenA (fun env σ => Tri P nt y env σ Q) Q)) := ⟨tri_seq⟩
instance : Stp (Tri P nt .skip env σ Q) (Q .normal env σ) := ⟨tri_skip⟩
instance : Stp (Tri P nt .ret env σ Q) (Q .ret env σ) := ⟨tri_ret⟩
instance {id : Nat} : Stp (Tri P nt (.exit id) env σ Q) (Q (.exit id) env σ) := ⟨tri_exit⟩
instance {id : Nat} {x : Code} : Stp (Tri P nt (.block id x) env σ Q) (Tri P nt x env σ (blockA id Q)) := ⟨tri_block⟩
instance : Stp (thenA K Q .normal env σ) (K env σ) := ⟨then_n⟩
instance {j : Nat} : Stp (thenA K Q (.exit j) env σ) (Q (.exit j) env σ) := ⟨then_e⟩
instance : Stp (thenA K Q .ret env σ) (Q .ret env σ) := ⟨then_r⟩
instance {id : Nat} : Stp (blockA id Q .normal env σ) (Q .normal env σ) := ⟨block_n⟩
instance {id : Nat} : Stp (blockA id Q .ret env σ) (Q .ret env σ) := ⟨block_r⟩
instance {id : Nat} : Stp (blockA id Q (.exit id) env σ) (Q .normal env σ) := ⟨block_e⟩
instance : Stp (rwf P mu ds nt c K [] env σ) (K env σ) := ⟨rwf_nil⟩
instance : Stp (rwc P mu ds nt ov K i [] env σ) (K env σ) := ⟨rwc_nil⟩
def stK (c : Option (FuncId × List AV)) (r : Option (AV × Sto)) (B : AV → Sto → Prop) (C : FuncId → List AV → Prop) : Prop := match c with
  | some (f, xs) => C f xs
  | none => evK r B
@[simp] theorem stK_some (f : FuncId) (xs : List AV) (r : Option (AV × Sto)) (B : AV → Sto → Prop) (C : FuncId → List AV → Prop) : stK (some (f, xs)) r B C = C f xs := rfl
@[simp] theorem stK_none (r : Option (AV × Sto)) (B : AV → Sto → Prop) (C : FuncId → List AV → Prop) : stK none r B C = evK r B := rfl
instance {d2 : Nat} {t' t2 : TypeId} {x : Operand} {pos' : String} {after' : Array Edge} : Rul (rwf P mu ds nt .a K (⟨d, op, t, pos, after, none⟩ :: ⟨none, .store t' (.tmp d2) x, t2, pos', after', none⟩ :: l) env σ) (fun k => notMu mu d = true ∧ k = 0)
    (fun _ => ∀ (B : Option (Nat × List AV) → Prop) (_ : Unit), Hid ((∀ d cs, rwf P mu ds nt .a K l (env.put (some d) (.fp cs 0)) σ → B (some (d, cs))) ∧ True) → B (boxPair P nt ⟨d, op, t, pos, after, none⟩ ⟨none, .store t' (.tmp d2) x, t2, pos', after', none⟩ env)) :=
  ⟨fun hc h => rwf_boxm hc.1 fun B hB => h B () ⟨hB.out, trivial⟩⟩
instance : Rul (rwo P mu ds nt .a K ⟨d, op, t, pos, after, none⟩ l env σ) (fun k => dOk nt d = true ∧ k = 0)
    (fun _ => ∀ (B : AV → Sto → Prop) (C : FuncId → List AV → Prop), Hid ((∀ v s, rwf P mu ds nt .a K l (env.put d v) s → B v s) ∧ (∀ f xs v, PSpec P f xs v → rwf P mu ds nt .a K l (env.put d v) σ → C f xs) ∧ ∀ f xs v, Spec P f xs σ (fun r s => r = v ∧ s = σ) → rwf P mu ds nt .a K l (env.put d v) σ → C f xs) → stK (callOf P ⟨d, op, t, pos, after, none⟩ env σ) (evalOp P mu ⟨d, op, t, pos, after, none⟩ env σ) B C) where
  pf hd h := by
    replace hd := hd.1
    cases hc : callOf P ⟨d, op, t, pos, after, none⟩ env σ with
    | none =>
      refine rwf_a hd fun B hB => ?_
      have := h B (fun _ _ => True) ⟨hB.out, fun _ _ _ _ _ => trivial, fun _ _ _ _ _ => trivial⟩
      rw [hc] at this; exact this
    | some r =>
      refine rwf_ca hd fun C hC hP => ?_
      have := h (fun _ _ => True) C ⟨fun _ _ _ => trivial, hP.out, fun f xs v hs hr => hC.out f xs _ hs fun r s ⟨e1, e2⟩ => by subst e1 e2; exact hr⟩
      rw [hc] at this ⊢; exact this
instance : Rul (rwo P mu ds nt .z K ⟨d, op, t, pos, after, none⟩ l env σ) (fun k => dOk nt d = true ∧ k = 0)
    (fun _ => ∀ (B : AV → Sto → Prop) (C : FuncId → List AV → Prop), Hid ((∀ v, rwf P mu ds nt .z K l (env.put d v) σ → B v σ) ∧ (∀ f xs v, PSpec P f xs v → rwf P mu ds nt .z K l (env.put d v) σ → C f xs) ∧ ∀ f xs v, (∀ X, Spec P f xs (σ ++ X) (fun r s => r = v ∧ s = σ ++ X)) → rwf P mu ds nt .z K l (env.put d v) σ → C f xs) → stK (callOf P ⟨d, op, t, pos, after, none⟩ env σ) (evalOp P mu ⟨d, op, t, pos, after, none⟩ env σ) B C) where
  pf hd h := by
    replace hd := hd.1
    cases hc : callOf P ⟨d, op, t, pos, after, none⟩ env σ with
    | none =>
      refine rwf_z hd fun B hB => ?_
      have := h B (fun _ _ => True) ⟨hB.out, fun _ _ _ _ _ => trivial, fun _ _ _ _ _ => trivial⟩
      rw [hc] at this; exact this
    | some r =>
      refine rwf_cz hd fun C hC hP => ?_
      have := h (fun _ _ => True) C ⟨fun _ _ => trivial, hP.out, hC.out⟩
      rw [hc] at this ⊢; exact this
instance : Rul (rco P mu ds nt ov K i .z ⟨d, op, t, pos, after, none⟩ l env σ) (fun k => dOk nt d = true ∧ k = 0)
    (fun _ => ∀ (B : AV → Sto → Prop) (C : FuncId → List AV → Prop), Hid ((∀ v, rwc P mu ds nt ov K (i + 1) l (env.put d v) σ → B v σ) ∧ (∀ f xs v, PSpec P f xs v → rwc P mu ds nt ov K (i + 1) l (env.put d v) σ → C f xs) ∧ ∀ f xs v, (∀ X, Spec P f xs (σ ++ X) (fun r s => r = v ∧ s = σ ++ X)) → rwc P mu ds nt ov K (i + 1) l (env.put d v) σ → C f xs) → stK (callOf P ⟨d, op, t, pos, after, none⟩ env σ) (evalOp P mu ⟨d, op, t, pos, after, none⟩ env σ) B C) where
  pf hd h := by
    replace hd := hd.1
    cases hc : callOf P ⟨d, op, t, pos, after, none⟩ env σ with
    | none =>
      refine rwc_z hd fun B hB => ?_
      have := h B (fun _ _ => True) ⟨hB.out, fun _ _ _ _ _ => trivial, fun _ _ _ _ _ => trivial⟩
      rw [hc] at this; exact this
    | some r =>
      refine rwc_cz hd fun C hC hP => ?_
      have := h (fun _ _ => True) C ⟨fun _ _ => trivial, hP.out, hC.out⟩
      rw [hc] at this ⊢; exact this
instance : Rul (rco P mu ds nt ov K i .n ⟨d, op, t, pos, after, none⟩ l env σ) (fun k => dOk nt d = true ∧ k = 0)
    (fun _ => ∀ (B : (Sto → Option (AV × Sto)) → Prop) (_ : Unit), Hid ((∀ v, rwc P mu ds nt ov K (i + 1) l (env.put d v) σ → B (fun s => some (v, s))) ∧ True) → B (fun s => evalOp P mu ⟨d, op, t, pos, after, none⟩ env s)) :=
  ⟨fun hd h => rwc_n hd.1 fun B hB => h B () ⟨hB.out, trivial⟩⟩
instance : Rul (rco P mu ds nt ov K i .w ⟨d, op, t, pos, after, none⟩ l env σ) (fun k => dOk nt d = true ∧ k = 0)
    (fun _ => ∀ (B : AV → Sto → Prop) (_ : Unit), Hid ((∀ v s, rwc P mu ds nt ov K (i + 1) l (env.put d v) s → B v s) ∧ True) → evK (evalOp P mu ⟨d, op, t, pos, after, none⟩ env σ) B) :=
  ⟨fun hd h => rwc_w hd.1 fun B hB => h B () ⟨hB.out, trivial⟩⟩
instance : Rul (rco P mu ds nt ov K i .b ⟨d, op, t, pos, after, none⟩ l env σ) (fun k => dOk nt d = true ∧ k = 0)
    (fun _ => ∀ (B : AV → Sto → Prop) (_ : Unit), Hid ((∀ v X, rwc P mu ds nt ov K (i + 1) l (env.put d v) (σ ++ X) → B v (σ ++ X)) ∧ True) → evK (evalOp P mu ⟨d, op, t, pos, after, none⟩ env σ) B) :=
  ⟨fun hd h => rwc_b hd.1 fun B hB => h B () ⟨hB.out, trivial⟩⟩
instance {j : Nat} {want : Bool} : Rul (rwf P mu ds nt c K (⟨d, op, t, pos, after, some (j, want)⟩ :: l) env σ) (fun k => (True = True) ∧ (ds[j]?).bind id = some k)
    (fun k => ∀ (B : AV → Prop) (_ : Unit), Hid ((∀ b, (b = want → rwo P mu ds nt c K ⟨d, op, t, pos, after, none⟩ l env σ) → (b = (!want) → dOk nt d = true ∧ rwf P mu ds nt c K l (env.put d (.tup [])) σ) → B (.sc (.bool b))) ∧ ((dOk nt d = true ∧ rwf P mu ds nt c K l (env.put d (.tup [])) σ) → B (.tup []))) → B (env k)) :=
  ⟨fun hk h => rwf_g hk.2 fun B h1 h2 => h B () ⟨h1.out, h2.out⟩⟩
instance {j : Nat} {want : Bool} : Rul (rwc P mu ds nt ov K i (⟨d, op, t, pos, after, some (j, want)⟩ :: l) env σ) (fun k => (True = True) ∧ (ds[j]?).bind id = some k)
    (fun k => ∀ (B : AV → Prop) (_ : Unit), Hid ((∀ b, (b = want → rwc P mu ds nt ov K i (⟨d, op, t, pos, after, none⟩ :: l) env σ) → (b = (!want) → dOk nt d = true ∧ rwc P mu ds nt ov K (i + 1) l (env.put d (.tup [])) σ) → B (.sc (.bool b))) ∧ ((dOk nt d = true ∧ rwc P mu ds nt ov K (i + 1) l (env.put d (.tup [])) σ) → B (.tup []))) → B (env k)) :=
  ⟨fun hk h => rwc_g hk.2 fun B h1 h2 => h B () ⟨fun b q1 q2 => h1.out b (fun e => by
    obtain ⟨r1, b', r2, r3, _⟩ := q1 e
    simp [gdA] at r2
    subst r2
    exact ⟨r1, r3 rfl⟩) q2, h2.out⟩⟩
instance {x : Operand} {y z : Code} : Rul (Tri P nt (.cond x y z) env σ Q) (fun k => (True = True) ∧ k = 0)
    (fun _ => ∀ (B : AV → Prop) (_ : Unit), Hid ((∀ b, (b = true → Tri P nt y env σ Q) → (b = false → Tri P nt z env σ Q) → B (.sc (.bool b))) ∧ True) → B (evA env x)) :=
  ⟨fun _ h => tri_if fun B hB => h B () ⟨hB.out, trivial⟩⟩
instance {fn : Func} {R : AV → Sto → Prop} : Rul (RetQ P fn R .ret env σ) (fun k => (True = True) ∧ k = 0) (fun _ => ∀ (B : AV → Prop) (_ : Unit), Hid (True ∧ ∀ r, R r σ → B r) → avK (resultA P fn env σ) B) :=
  ⟨fun _ h => ret_q fun B hB => h B () ⟨trivial, hB.out⟩⟩
end
/-- The laws with conditions that a walk tries. -/
theorem wc : (∀ x : Int, -9223372036854775808 ≤ x → x ≤ 9223372036854775807 → IntKind.i64.wrap x = x) ∧ (∀ x : Int, 0 ≤ x → x ≤ 18446744073709551615 → IntKind.u64.wrap x = x) ∧ (∀ x : Int, 0 ≤ x → x ≤ 255 → IntKind.u8.wrap x = x) ∧
    (∀ a b : Int, 0 ≤ a → a.tmod b = a % b) ∧ (∀ a b : Int, 0 ≤ a → a.tdiv b = a / b) ∧
    (∀ (l : List Msg) (k : Nat) (h : k < l.length), ((flatM l).drop (k * 3)).take 3 = cM l[k]) ∧ (∀ (l : List Msg) (k : Nat) (h : k < l.length), (flatM l)[k * 3]? = some (.sc (.int .i64 l[k].kind))) ∧
    (∀ (l : List Msg) (k : Nat) (h : k < l.length), (flatM l)[k * 3 + 1]? = some (.sc (.string l[k].key))) ∧ (∀ (l : List Msg) (k : Nat) (h : k < l.length), (flatM l)[k * 3 + 2]? = some (.sc (.string l[k].val))) ∧
    (∀ (l : List Item) (k : Nat) (h : k < l.length), ((flatI l).drop (k * 2)).take 2 = cI l[k]) ∧ (∀ (l : List Item) (k : Nat) (h : k < l.length), (flatI l)[k * 2]? = some (.sc (.string l[k].key))) ∧ (∀ (l : List Item) (k : Nat) (h : k < l.length), (flatI l)[k * 2 + 1]? = some (.sc (.string l[k].val))) ∧
    (∀ (l : List Str) (k : Nat) (h : k < l.length), (flatS l)[k]? = some (.sc (.string l[k]))) :=
  ⟨@wrap_id, @wrapu_id, @wrapb_id, @tmod_nn, @tdiv_nn, flatM_seg, flatM_0, flatM_1, flatM_2, flatI_seg, flatI_0, flatI_1, flatS_get⟩
end Go.Proofs.YtejgopcicenbeaaGreat
