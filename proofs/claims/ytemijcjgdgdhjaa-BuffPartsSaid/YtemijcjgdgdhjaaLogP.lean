/- Steps of a walk, as a proof takes them. No program. -/
import Derived.Test.YtemijcjgdgdhjaaLogO
namespace Go.Proofs.Ytemijcjgdgdhjaa
open Go.RowKit

def evK (r : Option (AV × Sto)) (K : AV → Sto → Prop) : Prop := match r with
  | some (v, s) => K v s
  | none => False
def caK (r : Option (FuncId × List AV)) (K : FuncId → List AV → Prop) : Prop := match r with
  | some (f, xs) => K f xs
  | none => False
@[simp] theorem evK_some (v : AV) (s : Sto) (K : AV → Sto → Prop) : evK (some (v, s)) K = K v s := rfl
@[simp] theorem caK_some (f : FuncId) (xs : List AV) (K : FuncId → List AV → Prop) : caK (some (f, xs)) K = K f xs := rfl
theorem evK_ite (c : Prop) [Decidable c] (a : Option (AV × Sto)) (K : AV → Sto → Prop) (hc : c) (h : evK a K) : evK (if c then a else none) K := by rw [if_pos hc]; exact h

section
variable {P : Program} {nt : Nat} {mu : List Nat} {ds : List (Option Nat)} {K : Env → Sto → Prop}

/-- The guard's word: what the slot of operation j must be. -/
def gdA (ds : List (Option Nat)) (g : Option (Nat × Bool)) (env : Env) : Option Bool := match g with
  | none => some true
  | some (j, want) => match (ds[j]?).bind id with
    | some d => match env d with
      | .sc (.bool b) => some (b == want)
      | .tup [] => some false
      | _ => none
    | none => some false
theorem gdA_want {ops : Array Oper} {o : Oper} {env : Env} : wantA ops o env = gdA (ops.toList.map (·.dst)) o.guard env := by
  unfold wantA gdA
  cases o.guard with
  | none => rfl
  | some g =>
    obtain ⟨j, want⟩ := g
    simp only [List.getElem?_map, Array.getElem?_toList]
    cases ops[j]? <;> rfl
def opNe : Operand → Nat → Bool
  | .tmp e, d => !decide (e = d)
  | _, _ => true
/-- A new variable, and at once its value. -/
def boxPair (P : Program) (nt : Nat) (o o2 : Oper) (env : Env) : Option (Nat × List AV) := match o.dst, o.op, o.guard, o2.dst, o2.op, o2.guard with
  | some d, .alloc t, none, none, .store t' (.tmp d') x, none => match zeroA P t with
    | some zs => if d' = d ∧ d < nt ∧ opNe x d = true ∧ (evA env x).celled = true ∧ (evA env x).cellsOf.all AV.one = true ∧ sizeT P t' = some (evA env x).cellsOf.length ∧ zs.length = (evA env x).cellsOf.length then some (d, (evA env x).cellsOf) else none
    | none => none
  | _, _, _, _, _, _ => none
/-- Operations in the text's order, all of one class. -/
def rwf (P : Program) (mu : List Nat) (ds : List (Option Nat)) (nt : Nat) (c : Cls) (K : Env → Sto → Prop) : List Oper → Env → Sto → Prop
  | [], env, σ => K env σ
  | o :: l, env, σ => (dstOk nt o = true ∧ ∃ b, gdA ds o.guard env = some b ∧ (b = true → Step1 P mu c o env σ (rwf P mu ds nt c K l)) ∧ (b = false → rwf P mu ds nt c K l (env.put o.dst (.tup [])) σ)) ∨
    (c = .a ∧ match l with
      | [] => False
      | o2 :: l2 => ∃ d cs, boxPair P nt o o2 env = some (d, cs) ∧ rwf P mu ds nt c K l2 (env.put (some d) (.fp cs 0)) σ)
theorem rwf_cons {c : Cls} {o : Oper} {l : List Oper} {env : Env} {σ : Sto} : rwf P mu ds nt c K (o :: l) env σ = ((dstOk nt o = true ∧ ∃ b, gdA ds o.guard env = some b ∧ (b = true → Step1 P mu c o env σ (rwf P mu ds nt c K l)) ∧ (b = false → rwf P mu ds nt c K l (env.put o.dst (.tup [])) σ)) ∨
    (c = .a ∧ match l with
      | [] => False
      | o2 :: l2 => ∃ d cs, boxPair P nt o o2 env = some (d, cs) ∧ rwf P mu ds nt c K l2 (env.put (some d) (.fp cs 0)) σ)) := by
  cases l <;> rfl
theorem rwf_in {c : Cls} {o : Oper} {l : List Oper} {env : Env} {σ : Sto} (h : dstOk nt o = true ∧ ∃ b, gdA ds o.guard env = some b ∧ (b = true → Step1 P mu c o env σ (rwf P mu ds nt c K l)) ∧ (b = false → rwf P mu ds nt c K l (env.put o.dst (.tup [])) σ)) : rwf P mu ds nt c K (o :: l) env σ := by
  rw [rwf_cons]; exact .inl h
theorem rwf_rwp {c : Cls} {ops : Array Oper} (hca : c ≠ .a) (hds : ds = ops.toList.map (·.dst)) : ∀ (l : List Oper) (i : Nat) (env : Env) (σ : Sto), (∀ j, ops[i + j]? = l[j]?) → rwf P mu ds nt c K l env σ → rwp P mu ops nt K ((List.range' i l.length).map fun j => (j, c)) env σ
  | [], _, _, _, _, h => h
  | o :: l, i, env, σ, hl, h => by
    rw [List.length_cons, List.range'_succ, List.map_cons]
    refine ⟨o, by have := hl 0; simpa using this, ?_⟩
    rw [rwf_cons] at h
    rcases h with h | h
    · obtain ⟨h1, b, h2, h3, h4⟩ := h
      have hl' : ∀ j, ops[i + 1 + j]? = l[j]? := fun j => by have := hl (j + 1); rw [← Nat.add_assoc, Nat.add_right_comm] at this; simpa using this
      exact ⟨h1, b, by rw [gdA_want, ← hds]; exact h2, fun e => (h3 e).mono fun e s hr => rwf_rwp hca hds l (i + 1) e s hl' hr, fun e => rwf_rwp hca hds l (i + 1) _ _ hl' (h4 e)⟩
    · exact absurd h.1 hca
theorem boxPair_wp {ops : Array Oper} {Q : Exit → Act → World → Prop} {o o2 : Oper} {i j d : Nat} {rest : List Nat} {env : Env} {σ : Sto} {cs : List AV} {w0 : World} {Im0 : Nat → Prop} {σ0 : Sto} {T0 : Tab} {a : Act} {w : World} (hi : ops[i]? = some o) (hj : ops[j]? = some o2) (h : boxPair P nt o o2 env = some (d, cs))
    (hs : St nt w0 Im0 σ0 T0 env σ a w) (hk : ∀ a' w', St nt w0 Im0 σ0 T0 (env.put (some d) (.fp cs 0)) σ a' w' → wpOps P ops Q rest a' w') : wpOps P ops Q (i :: j :: rest) a w := by
  unfold boxPair at h
  split at h
  · rename_i d1 t t' d2 x e1 e2 e3 e4 e5 e6
    split at h
    · rename_i zs hz
      split at h
      · rename_i hc
        obtain ⟨rfl, hd, hx, h1, h2, h3, h4⟩ := hc
        cases h
        obtain ⟨Im, T, hW, hE, hsz, hdf, hF⟩ := hs
        obtain ⟨z, hz1, rfl, _⟩ := zeroA_run hz
        have hr := evA_rel hE x
        have hL := hr.cells h1
        have hlen : (a.eval x).cells.size = (evA env x).cellsOf.length := by have := hL.1; simpa using this
        rw [wpOps_cons]
        unfold wpOp
        simp only [hi]
        rw [if_pos (by simp [Region.wanted, e3])]
        refine .inl ?_
        unfold Oper.wp
        have hrun1 : (execOp a.eval o).run P w = .ok (.value (.pointer (some ⟨w.heap.size, 0, none⟩))) (w.alloc (.cells z.cells t)) := by
          simp [execOp, e2, Instr.alloc, newVar, newRow, hz1]
        rw [hrun1, Oper.upon_value, e1, wpOps_cons]
        unfold wpOp
        simp only [hj]
        rw [if_pos (by simp [Region.wanted, e6])]
        refine .inl ?_
        unfold Oper.wp
        have hev : (a.put (some d) (.pointer (some ⟨w.heap.size, 0, none⟩))).eval x = a.eval x := Act.eval_put fun k hk => by
          cases hk
          rintro rfl
          simp [opNe] at hx
        have hevd : (a.put (some d) (.pointer (some ⟨w.heap.size, 0, none⟩))).eval (.tmp d) = .pointer (some ⟨w.heap.size, 0, none⟩) := by
          have : d < a.tmps.size := Nat.lt_of_lt_of_eq hd hsz.symm
          simp [Act.eval, Act.put, this]
        have hst := run_storeCells_at P w.heap.size 0 t (a.eval x).cells.toList 0 z.cells (w.alloc (.cells z.cells t)) (alloc_new w _) (by simp at h4; simp; omega) (all_one hL h2)
        simp only [Nat.add_zero, Nat.zero_add, List.take_zero, List.nil_append] at hst
        have hdrop : z.cells.toList.drop (a.eval x).cells.toList.length = [] := by
          apply List.drop_eq_nil_of_le; simp at h4; simp; omega
        rw [hdrop, List.append_nil, Array.toArray_toList] at hst
        have hset : (w.alloc (.cells z.cells t)).setRow w.heap.size (a.eval x).cells = w.alloc (.cells (a.eval x).cells t) := by
          have hp : ((w.heap.push (.cells z.cells t)).modify w.heap.size fun | .cells _ elem frozen => .cells (a.eval x).cells elem frozen | o => o) = w.heap.push (.cells (a.eval x).cells t) := by
            apply Array.ext
            · simp
            · intro k hk1 hk2
              rw [Array.getElem_modify]
              split
              · rename_i e; subst e; simp
              · rename_i e
                have hk : k < w.heap.size := by simp at hk2; omega
                simp [Array.getElem_push, hk]
          show ({ w with heap := _ } : World) = { w with heap := _ }
          congr 1
        rw [hset] at hst
        have hrun2 : (execOp (a.put (some d) (.pointer (some ⟨w.heap.size, 0, none⟩))).eval o2).run P (w.alloc (.cells z.cells t)) = .ok .skip (w.alloc (.cells (a.eval x).cells t)) := by
          simp only [execOp, e5, hev, hevd]
          simp [Instr.storeAt, Instr.sureAddr, storeVar, run_sizeOf h3, hlen, hst]
        rw [hrun2, Oper.upon_skip, e4]
        show wpOps P ops Q rest (a.put (some d) _) _
        refine hk _ _ ?_
        obtain ⟨Im', T', q1, q2, q3⟩ := bornP_rel hW false (a.eval x).cells t (evA env x).cellsOf (by omega) (fun i x v hx hv => hL.2 i x v hx (by simpa using hv))
        exact St.step hW hE hsz hdf hF q1 q2 q3 (fun e he => by cases he; exact hd)
      · cases h
    · cases h
  · cases h
theorem rwf_sound {ops : Array Oper} {Q : Exit → Act → World → Prop} {w0 : World} {Im0 : Nat → Prop} {σ0 : Sto} {T0 : Tab} (hds : ds = ops.toList.map (·.dst)) (hK : ∀ env' σ' a' w', K env' σ' → St nt w0 Im0 σ0 T0 env' σ' a' w' → Q .normal a' w') :
    ∀ (n : Nat) (l : List Oper) (i : Nat) (env : Env) (σ : Sto) (a : Act) (w : World), l.length ≤ n → (∀ j, ops[i + j]? = l[j]?) → rwf P mu ds nt .a K l env σ → St nt w0 Im0 σ0 T0 env σ a w → wpOps P ops Q (List.range' i l.length) a w
  | _, [], _, env, σ, a, w, _, _, h, hs => hK _ _ _ _ h hs
  | 0, o :: l, _, _, _, _, _, hn, _, _, _ => by simp at hn
  | n + 1, o :: l, i, env, σ, a, w, hn, hl, h, hs => by
    have ho : ops[i]? = some o := by have := hl 0; simpa using this
    rw [List.length_cons, List.range'_succ]
    have hl' : ∀ j, ops[i + 1 + j]? = l[j]? := fun j => by have := hl (j + 1); rw [← Nat.add_assoc, Nat.add_right_comm] at this; simpa using this
    rw [rwf_cons] at h
    rcases h with h | h
    · obtain ⟨h1, b, h2, h3, h4⟩ := h
      rw [wpOps_cons]
      exact astep_wpOp (mu := mu) (c := .a) (K := rwf P mu ds nt .a K l) ho ⟨h1, b, by rw [gdA_want, ← hds]; exact h2, h3, h4⟩ hs fun env' σ' a' w' hr hs' => rwf_sound hds hK n l (i + 1) env' σ' a' w' (by simp at hn; omega) hl' hr hs'
    · obtain ⟨_, h⟩ := h
      match l, h, hl', hn with
      | o2 :: l2, h, hl', hn =>
        obtain ⟨d, cs, hb, hr⟩ := h
        rw [List.length_cons, List.range'_succ]
        refine boxPair_wp (j := i + 1) ho (by have := hl' 0; simpa using this) hb hs fun a' w' hs' => ?_
        exact rwf_sound hds hK n l2 (i + 1 + 1) _ σ a' w' (by simp at hn; omega) (fun j => by have := hl' (j + 1); rw [← Nat.add_assoc, Nat.add_right_comm] at this; simpa using this) hr hs'
def allC (c : Cls) (n : Nat) : List (Nat × Cls) := (List.range' 0 n).map fun j => (j, c)
theorem allC_fst (c : Cls) (n : Nat) : (allC c n).map (·.1) = List.range n := by simp [allC, List.map_map, Function.comp_def, List.range_eq_range']

theorem tri_reg {Q : Exit → Env → Sto → Prop} {id : Nat} {l : List Oper} {env : Env} {σ : Sto} (mu : List Nat) (h : rwf P mu (l.map (·.dst)) nt .a (fun env σ => Q .normal env σ) l env σ) : Tri P nt (.region id l.toArray false) env σ Q := by
  intro w0 Im0 σ0 T0 a w hs
  refine wp_region ?_
  rw [List.size_toArray, List.range_eq_range']
  exact rwf_sound (ops := l.toArray) rfl (fun env' σ' a' w' hq hs' => ⟨env', σ', hq, hs'⟩) l.length l 0 env σ a w (Nat.le_refl _) (by simp) h hs
/-- All of it leaves the store alone. -/
theorem tri_regz {Q : Exit → Env → Sto → Prop} {id : Nat} {l : List Oper} {env : Env} {σ : Sto} (mu : List Nat) (hm : P.follows .mixedOrders = true) (hok : orderOK l.toArray (allC .z l.length) = true) (h : rwf P mu (l.map (·.dst)) nt .z (fun env σ => Q .normal env σ) l env σ) : Tri P nt (.region id l.toArray true) env σ Q :=
  tri_draw mu (allC .z l.length) hm (by rw [List.size_toArray]; exact allC_fst .z _) hok (rwf_rwp (ops := l.toArray) (by simp) rfl l 0 env σ (by simp) h)

theorem rwf_nil {c : Cls} {env : Env} {σ : Sto} (h : K env σ) : rwf P mu ds nt c K [] env σ := h
def dOk (nt : Nat) : Option Nat → Bool
  | some d => decide (d < nt)
  | none => true
section
variable {d : Option Nat} {op : Op} {t : TypeId} {pos : String} {after : Array Edge} {g : Option (Nat × Bool)} {l q : List Oper} {env : Env} {σ : Sto}
theorem rwf_core {c : Cls} {b : Bool} (hd : dOk nt d = true) (hg : gdA ds g env = some b) (h1 : b = true → Step1 P mu c ⟨d, op, t, pos, after, g⟩ env σ (rwf P mu ds nt c K l)) (h2 : b = false → rwf P mu ds nt c K l (env.put d (.tup [])) σ) : rwf P mu ds nt c K (⟨d, op, t, pos, after, g⟩ :: l) env σ :=
  rwf_in ⟨hd, b, hg, h1, h2⟩
theorem evalOp_guard {g' : Option (Nat × Bool)} : evalOp P mu ⟨d, op, t, pos, after, g⟩ env σ = evalOp P mu ⟨d, op, t, pos, after, g'⟩ env σ := rfl
theorem step_guard {c : Cls} {g' : Option (Nat × Bool)} {K : Env → Sto → Prop} (h : Step1 P mu c ⟨d, op, t, pos, after, g⟩ env σ K) : Step1 P mu c ⟨d, op, t, pos, after, g'⟩ env σ K := by
  cases c <;> exact h
/-- A guarded operation: by what the guard's slot k holds. -/
def rwo (P : Program) (mu : List Nat) (ds : List (Option Nat)) (nt : Nat) (c : Cls) (K : Env → Sto → Prop) (o : Oper) (l : List Oper) (env : Env) (σ : Sto) : Prop := dstOk nt o = true ∧ Step1 P mu c o env σ (rwf P mu ds nt c K l)
theorem rwf_g {c : Cls} {j k : Nat} {want : Bool} (hk : (ds[j]?).bind id = some k)
    (h : ∀ G : AV → Prop, Hid (∀ b, (b = want → rwo P mu ds nt c K ⟨d, op, t, pos, after, none⟩ l env σ) → (b = (!want) → dOk nt d = true ∧ rwf P mu ds nt c K l (env.put d (.tup [])) σ) → G (.sc (.bool b))) → Hid ((dOk nt d = true ∧ rwf P mu ds nt c K l (env.put d (.tup [])) σ) → G (.tup [])) → G (env k)) :
    rwf P mu ds nt c K (⟨d, op, t, pos, after, some (j, want)⟩ :: l) env σ := by
  have := h (fun x => env k = x → rwf P mu ds nt c K (⟨d, op, t, pos, after, some (j, want)⟩ :: l) env σ) ?_ ?_
  · exact this rfl
  · intro b h1 h2 he
    by_cases hb : b = want
    · obtain ⟨q1, q2⟩ := h1 hb
      exact rwf_in ⟨q1, true, by simp [gdA, hk, he, hb], fun _ => step_guard q2, fun e => by cases e⟩
    · have hb' : b = !want := by cases b <;> cases want <;> simp_all
      obtain ⟨q1, q2⟩ := h2 hb'
      exact rwf_in ⟨q1, false, by simp [gdA, hk, he, hb'], (fun e => by cases e), fun _ => q2⟩
  · rintro ⟨q1, q2⟩ he
    exact rwf_in ⟨q1, false, by simp [gdA, hk, he], (fun e => by cases e), fun _ => q2⟩
theorem rwf_o {c : Cls} (h : rwo P mu ds nt c K ⟨d, op, t, pos, after, none⟩ l env σ) : rwf P mu ds nt c K (⟨d, op, t, pos, after, none⟩ :: l) env σ := rwf_in ⟨h.1, true, rfl, fun _ => h.2, fun e => by cases e⟩
/-- A new variable, and at once its value. -/
theorem rwf_box {d2 : Nat} {t' t2 : TypeId} {x : Operand} {pos' : String} {after' : Array Edge}
    (h : ∀ B : Option (Nat × List AV) → Prop, Hid (∀ d cs, rwf P mu ds nt .a K l (env.put (some d) (.fp cs 0)) σ → B (some (d, cs))) → B (boxPair P nt ⟨d, op, t, pos, after, none⟩ ⟨none, .store t' (.tmp d2) x, t2, pos', after', none⟩ env)) : rwf P mu ds nt .a K (⟨d, op, t, pos, after, none⟩ :: ⟨none, .store t' (.tmp d2) x, t2, pos', after', none⟩ :: l) env σ := by
  have := h (fun b => boxPair P nt ⟨d, op, t, pos, after, none⟩ ⟨none, .store t' (.tmp d2) x, t2, pos', after', none⟩ env = b → rwf P mu ds nt .a K (⟨d, op, t, pos, after, none⟩ :: ⟨none, .store t' (.tmp d2) x, t2, pos', after', none⟩ :: l) env σ) ?_
  · exact this rfl
  · intro d cs hr hb
    rw [rwf_cons]; exact .inr ⟨rfl, d, cs, hb, hr⟩
def notMu (mu : List Nat) : Option Nat → Bool
  | some d => !mu.contains d
  | none => true
theorem rwf_boxm {d2 : Nat} {t' t2 : TypeId} {x : Operand} {pos' : String} {after' : Array Edge} (_hmu : notMu mu d = true)
    (h : ∀ B : Option (Nat × List AV) → Prop, Hid (∀ d cs, rwf P mu ds nt .a K l (env.put (some d) (.fp cs 0)) σ → B (some (d, cs))) → B (boxPair P nt ⟨d, op, t, pos, after, none⟩ ⟨none, .store t' (.tmp d2) x, t2, pos', after', none⟩ env)) : rwf P mu ds nt .a K (⟨d, op, t, pos, after, none⟩ :: ⟨none, .store t' (.tmp d2) x, t2, pos', after', none⟩ :: l) env σ := rwf_box h
theorem rwf_a (hd : dOk nt d = true)
    (h : ∀ K' : AV → Sto → Prop, Hid (∀ v s, rwf P mu ds nt .a K l (env.put d v) s → K' v s) → evK (evalOp P mu ⟨d, op, t, pos, after, none⟩ env σ) K') : rwo P mu ds nt .a K ⟨d, op, t, pos, after, none⟩ l env σ := by
  refine ⟨hd, ?_⟩
  have := h _ fun _ _ h => h
  cases he : evalOp P mu ⟨d, op, t, pos, after, none⟩ env σ with
  | none => rw [he] at this; exact this.elim
  | some r => obtain ⟨v, s⟩ := r; rw [he] at this; exact .inl ⟨v, s, he, this⟩
theorem rwf_ca (hd : dOk nt d = true)
    (h : ∀ C' : FuncId → List AV → Prop, Hid (∀ f xs Q, Spec P f xs σ Q → (∀ r s, Q r s → rwf P mu ds nt .a K l (env.put d r) s) → C' f xs) → Hid (∀ f xs v, PSpec P f xs v → rwf P mu ds nt .a K l (env.put d v) σ → C' f xs) → caK (callOf P ⟨d, op, t, pos, after, none⟩ env σ) C') : rwo P mu ds nt .a K ⟨d, op, t, pos, after, none⟩ l env σ := by
  refine ⟨hd, ?_⟩
  have := h (fun f xs => ∃ Q, Spec P f xs σ Q ∧ ∀ r s, Q r s → rwf P mu ds nt .a K l (env.put d r) s) (fun f xs Q h1 h2 => ⟨Q, h1, h2⟩) (fun f xs v h1 h2 => ⟨_, h1 σ, fun r s ⟨e1, e2⟩ => by subst e1 e2; exact h2⟩)
  cases he : callOf P ⟨d, op, t, pos, after, none⟩ env σ with
  | none => rw [he] at this; exact this.elim
  | some r => obtain ⟨f, xs⟩ := r; rw [he] at this; obtain ⟨Q, h1, h2⟩ := this; exact .inr (.inl ⟨f, xs, Q, he, h1, h2⟩)
def isSlT (P : Program) (t : TypeId) : Bool := match P.underlying t with
  | some (.slice _) => true
  | _ => false
theorem isSlT_spec {t : TypeId} (h : isSlT P t = true) : ∃ e, P.underlying t = some (.slice e) := by
  unfold isSlT at h
  split at h
  · rename_i e he; exact ⟨e, he⟩
  · cases h
/-- The capacity of a row. -/
theorem rwf_cap {x : Operand} {ct : TypeId} (hd : dOk nt d = true) (hu : isSlT P ct = true)
    (h : ∀ G : AV → Prop, Hid (∀ (l g off len k : Nat) (ob : MO), σ[l]? = some ob → ob.gen = g → ob.frz = false → (∀ n : Nat, len ≤ n → ob.cells.length ≤ off + n * k → rwf P mu ds nt .a K q (env.put d (.sc (.int .i64 n))) (σ.set l ⟨ob.cells ++ List.replicate (off + n * k - ob.cells.length) .top, ob.gen, false, true⟩)) → G (.ms l g off len k)) → G (evA env x)) :
    rwo P mu ds nt .a K ⟨d, .call ⟨.builtin .cap, #[x], #[ct]⟩, t, pos, after, none⟩ q env σ := by
  obtain ⟨e, hu⟩ := isSlT_spec hu
  refine ⟨hd, .inr (.inr (.inr (.inl ?_)))⟩
  have := h (fun v => evA env x = v → CapStep P ⟨d, .call ⟨.builtin .cap, #[x], #[ct]⟩, t, pos, after, none⟩ env σ (rwf P mu ds nt .a K q)) fun l g off len k ob h1 h2 h3 h4 he => ⟨⟨.builtin .cap, #[x], #[ct]⟩, x, ct, e, ob, l, g, off, len, k, rfl, rfl, rfl, rfl, hu, he, h1, h2, h3, h4⟩
  exact this rfl
/-- Whether an empty slice is nil. -/
theorem rwf_nilt {x : Operand} {ct t2 : TypeId} (hd : dOk nt d = true) (hu : isSlT P ct = true)
    (h : ∀ G : AV → Prop, Hid (∀ cs, (∀ b, rwf P mu ds nt .a K q (env.put d (.sc (.bool b))) σ) → G (.fs cs 0)) → G (evA env x)) :
    rwo P mu ds nt .a K ⟨d, .binOp .eql ct x (.const (.slice none 0 0)) t2, t, pos, after, none⟩ q env σ := by
  obtain ⟨e, hu⟩ := isSlT_spec hu
  refine ⟨hd, .inr (.inr (.inr (.inr (.inl ?_))))⟩
  have := h (fun v => evA env x = v → NilStep P ⟨d, .binOp .eql ct x (.const (.slice none 0 0)) t2, t, pos, after, none⟩ env σ (rwf P mu ds nt .a K q)) fun cs h1 he => ⟨ct, x, t2, cs, e, rfl, hu, he, h1⟩
  exact this rfl
/-- A call of a function without a body. -/
theorem rwf_ext {f : FuncId} {args : Array Operand} {ts : Array TypeId} (hd : dOk nt d = true)
    (h : ∀ G : List AV → Prop, Hid (∀ xs v, ESpec P f xs σ v → rwf P mu ds nt .a K q (env.put d v) σ → G xs) → G (args.toList.map (evA env))) :
    rwo P mu ds nt .a K ⟨d, .call ⟨.value (.func f), args, ts⟩, t, pos, after, none⟩ q env σ := by
  obtain ⟨v, h1, h2⟩ := h (fun xs => ∃ v, ESpec P f xs σ v ∧ rwf P mu ds nt .a K q (env.put d v) σ) fun xs v h1 h2 => ⟨v, h1, h2⟩
  exact ⟨hd, .inr (.inr (.inr (.inr (.inr ⟨f, args, ts, v, rfl, h1, h2⟩))))⟩
/-- A call whose arguments are laid to rest. -/
theorem rwf_cf (ls : List Nat) (hd : dOk nt d = true)
    (h : ∀ C' : FuncId → Option (List AV) → Prop, Hid (∀ f xs v, PSpec P f xs v → rwf P mu ds nt .a K l (env.put d v) (freezeL σ ls) → C' f (some xs)) → caK (callOf P ⟨d, op, t, pos, after, none⟩ env σ) (fun f xs => C' f (frzL σ ls 9 xs))) : rwo P mu ds nt .a K ⟨d, op, t, pos, after, none⟩ l env σ := by
  refine ⟨hd, ?_⟩
  have := h (fun f ys => ∃ xs v, ys = some xs ∧ PSpec P f xs v ∧ rwf P mu ds nt .a K l (env.put d v) (freezeL σ ls)) (fun f xs v h1 h2 => ⟨xs, v, rfl, h1, h2⟩)
  cases he : callOf P ⟨d, op, t, pos, after, none⟩ env σ with
  | none => rw [he] at this; exact this.elim
  | some r => obtain ⟨f, xs⟩ := r; rw [he] at this; obtain ⟨xs', v, h1, h2, h3⟩ := this; exact .inr (.inr (.inl ⟨f, xs, xs', v, ls, 9, he, h1, h2, h3⟩))
theorem rwf_z (hd : dOk nt d = true)
    (h : ∀ K' : AV → Sto → Prop, Hid (∀ v, rwf P mu ds nt .z K l (env.put d v) σ → K' v σ) → evK (evalOp P mu ⟨d, op, t, pos, after, none⟩ env σ) K') : rwo P mu ds nt .z K ⟨d, op, t, pos, after, none⟩ l env σ := by
  refine ⟨hd, ?_⟩
  have := h (fun v s => s = σ ∧ rwf P mu ds nt .z K l (env.put d v) σ) fun _ h => ⟨rfl, h⟩
  cases he : evalOp P mu ⟨d, op, t, pos, after, none⟩ env σ with
  | none => rw [he] at this; exact this.elim
  | some r => obtain ⟨v, s⟩ := r; rw [he] at this; obtain ⟨rfl, h⟩ := this; exact .inl ⟨v, he, h⟩
theorem rwf_cz (hd : dOk nt d = true)
    (h : ∀ C' : FuncId → List AV → Prop, Hid (∀ f xs v, (∀ X, Spec P f xs (σ ++ X) (fun r s => r = v ∧ s = σ ++ X)) → rwf P mu ds nt .z K l (env.put d v) σ → C' f xs) → Hid (∀ f xs v, PSpec P f xs v → rwf P mu ds nt .z K l (env.put d v) σ → C' f xs) → caK (callOf P ⟨d, op, t, pos, after, none⟩ env σ) C') : rwo P mu ds nt .z K ⟨d, op, t, pos, after, none⟩ l env σ := by
  refine ⟨hd, ?_⟩
  have := h (fun f xs => ∃ v, (∀ X, Spec P f xs (σ ++ X) (fun r s => r = v ∧ s = σ ++ X)) ∧ rwf P mu ds nt .z K l (env.put d v) σ) (fun f xs v h1 h2 => ⟨v, h1, h2⟩) (fun f xs v h1 h2 => ⟨v, fun X => h1 _, h2⟩)
  cases he : callOf P ⟨d, op, t, pos, after, none⟩ env σ with
  | none => rw [he] at this; exact this.elim
  | some r => obtain ⟨f, xs⟩ := r; rw [he] at this; obtain ⟨v, h1, h2⟩ := this; exact .inr ⟨f, xs, v, he, h1, h2⟩
end
section
variable {Q : Exit → Env → Sto → Prop} {env : Env} {σ : Sto}
theorem tri_if {c : Operand} {x y : Code} (h : ∀ G : AV → Prop, Hid (∀ b, (b = true → Tri P nt x env σ Q) → (b = false → Tri P nt y env σ Q) → G (.sc (.bool b))) → G (evA env c)) : Tri P nt (.cond c x y) env σ Q := by
  have := h (fun v => evA env c = v → Tri P nt (.cond c x y) env σ Q) fun b h1 h2 he => tri_cond he h1 h2
  exact this rfl
/-- A loop: the slots of keep stay; a relation that each round keeps, and a number that it lowers. -/
theorem tri_loopk {c : Code} (keep : List Nat) (I : Nat → Env → Sto → Prop) (n : Nat) (h0 : I n env σ) (round : ∀ (n : Nat) (env' : Env) (σ' : Sto), (∀ t ∈ keep, env' t = env t) → I n env' σ' → Tri P nt c env' σ' (thenA (fun e s => (∀ t ∈ keep, e t = env t) ∧ ∃ m, m < n ∧ I m e s) Q)) : Tri P nt (.loop c) env σ Q :=
  tri_loop (fun n e s => (∀ t ∈ keep, e t = env t) ∧ I n e s) n ⟨fun _ _ => rfl, h0⟩ fun n env' σ' ⟨hk, hI⟩ => tri_mono (round n env' σ' hk hI) fun e env'' σ'' hq => by
    cases e with
    | normal => obtain ⟨h1, m, h2, h3⟩ := hq; exact ⟨m, h2, h1, h3⟩
    | _ => exact hq
theorem then_n {K : Env → Sto → Prop} (h : K env σ) : thenA K Q .normal env σ := h
theorem then_e {K : Env → Sto → Prop} {i : Nat} (h : Q (.exit i) env σ) : thenA K Q (.exit i) env σ := h
theorem then_r {K : Env → Sto → Prop} (h : Q .ret env σ) : thenA K Q .ret env σ := h
theorem block_n {id : Nat} (h : Q .normal env σ) : blockA id Q .normal env σ := h
theorem block_r {id : Nat} (h : Q .ret env σ) : blockA id Q .ret env σ := h
theorem block_e {id : Nat} (h : Q .normal env σ) : blockA id Q (.exit id) env σ := by simp only [blockA, if_true]; exact h
theorem block_x {id i : Nat} (hne : (i == id) = false) (h : Q (.exit i) env σ) : blockA id Q (.exit i) env σ := by simp only [blockA]; rw [if_neg (by simpa using hne)]; exact h
end
end

theorem ite_yes {α : Type} {c : Prop} [Decidable c] {a b : α} (hc : c) : (if c then a else b) = a := if_pos hc
theorem wrapu_id {x : Int} (h1 : 0 ≤ x) (h2 : x ≤ 18446744073709551615) : IntKind.u64.wrap x = x := by rw [IntKind.wrap_u64]; omega
theorem wrapb_id {x : Int} (h1 : 0 ≤ x) (h2 : x ≤ 255) : IntKind.u8.wrap x = x := by rw [IntKind.wrap_u8]; omega
theorem tmod_nn {a b : Int} (h : 0 ≤ a) : a.tmod b = a % b := Int.tmod_eq_emod_of_nonneg h
theorem tdiv_nn {a b : Int} (h : 0 ≤ a) : a.tdiv b = a / b := Int.tdiv_eq_ediv_of_nonneg h
@[simp] theorem bytesA_len (s : ByteArray) : (bytesA s).length = s.size := by simp [bytesA]
theorem bytesA_set (l : List UInt8) (i : Nat) (b : UInt8) : (bytesA ⟨l.toArray⟩).set i (.sc (.int .u8 b.toNat)) = bytesA ⟨(l.set i b).toArray⟩ := by simp [bytesA, List.map_set]
theorem wrap_id {x : Int} (h1 : -9223372036854775808 ≤ x) (h2 : x ≤ 9223372036854775807) : IntKind.i64.wrap x = x := by rw [IntKind.wrap_i64]; omega
def avK (r : Option AV) (K : AV → Prop) : Prop := match r with
  | some v => K v
  | none => False
@[simp] theorem avK_some (v : AV) (K : AV → Prop) : avK (some v) K = K v := rfl
theorem ret_q {P : Program} {fn : Func} {Q : AV → Sto → Prop} {env : Env} {σ : Sto} (h : ∀ R : AV → Prop, Hid (∀ r, Q r σ → R r) → avK (resultA P fn env σ) R) : RetQ P fn Q .ret env σ := by
  have := h (fun r => Q r σ) fun _ h => h
  cases hr : resultA P fn env σ with
  | none => rw [hr] at this; exact this.elim
  | some r => rw [hr] at this; exact ⟨.inr rfl, r, hr, this⟩
theorem ret_n {P : Program} {fn : Func} {Q : AV → Sto → Prop} {env : Env} {σ : Sto} (h : RetQ P fn Q .ret env σ) : RetQ P fn Q .normal env σ := ⟨.inl rfl, h.2⟩
@[simp] theorem env0_zero (x : AV) (xs : List AV) : env0 (x :: xs) 0 = x := rfl
@[simp] theorem env0_succ (x : AV) (xs : List AV) (n : Nat) : env0 (x :: xs) (n + 1) = env0 xs n := by simp [env0]
@[simp] theorem env0_nil (n : Nat) : env0 [] n = .tup [] := rfl
@[simp] theorem put_some (env : Env) (d t : Nat) (x : AV) : (env.put (some d) x) t = if t = d then x else env t := rfl
@[simp] theorem put_none (env : Env) (x : AV) : env.put none x = env := rfl
attribute [simp] boxPair evalOp callOf applyA invokeA evA ofV builtinA binA isSh shBin intBin strBin unA loadA rdCell rdCells storeA wrCells boxA bornP bornS isMu nilA AV.celled AV.one AV.cellsOf Value.oneCell' lenA indexAddrA indexA sliceA bdA buildA fillA buildSliceA makeSliceA slcCells appendA srcA intT clearA inRow copyA convA isStrA assertA isConst gdA recvA frz frzL freezeL Sto.freeze eqA eqGuardA eqV eqFieldsA ptrNil slcNil fnNil ifNil nilEq partA resultA resL resA AV.flat flatL
@[simp] theorem zerosA_1 (a : AV) (n : Nat) : zerosA [a] n = List.replicate n a := rfl
attribute [simp] zerosA_length
theorem zerosA_all {q : AV → Bool} (z : List AV) (n : Nat) (h : z.all q = true) (h0 : q (.sc default) = true) : (zerosA z n).all q = true := by
  rw [List.all_eq_true] at h ⊢
  intro x hx
  unfold zerosA at hx
  split at hx
  · obtain rfl := (List.mem_replicate.1 hx).2; exact h _ List.mem_cons_self
  · obtain ⟨i, _, rfl⟩ := List.mem_map.1 hx
    cases hz : z[i % z.length]? with
    | none => exact h0
    | some y => exact h _ (List.mem_of_getElem? hz)
@[simp] theorem zerosA_one (z : List AV) (n : Nat) (h : z.all AV.one = true) : (zerosA z n).all AV.one = true := zerosA_all z n h rfl
@[simp] theorem wr_1 (c : List AV) (off : Nat) (v : AV) : wr c off [v] = c.set off v := rfl
@[simp] theorem wr_0 (c : List AV) (off : Nat) : wr c off [] = c.take off ++ [] ++ c.drop (off + 0) := rfl
@[simp] theorem wr_2 (c : List AV) (off : Nat) (x y : AV) (l : List AV) : wr c off (x :: y :: l) = c.take off ++ (x :: y :: l) ++ c.drop (off + (x :: y :: l).length) := rfl
/-- y tells no more than x. -/
inductive Wk : AV → AV → Prop where
  | refl (x : AV) : Wk x x
  | top (x : AV) : Wk x .top
  | nil : Wk (.sc (.slice none 0 0)) (.fs [] 0)
  | fp (xs ys : List AV) (off : Nat) (hl : xs.length = ys.length) (h : ∀ (i : Nat) (x y : AV), xs[i]? = some x → ys[i]? = some y → Wk x y) : Wk (.fp xs off) (.fp ys off)
  | fs (xs ys : List AV) (n : Nat) (hl : xs.length = ys.length) (h : ∀ (i : Nat) (x y : AV), xs[i]? = some x → ys[i]? = some y → Wk x y) : Wk (.fs xs n) (.fs ys n)
  | agg (xs ys : List AV) (hl : xs.length = ys.length) (h : ∀ (i : Nat) (x y : AV), xs[i]? = some x → ys[i]? = some y → Wk x y) : Wk (.agg xs) (.agg ys)
  | tup (xs ys : List AV) (hl : xs.length = ys.length) (h : ∀ (i : Nat) (x y : AV), xs[i]? = some x → ys[i]? = some y → Wk x y) : Wk (.tup xs) (.tup ys)
def WkL (xs ys : List AV) : Prop := xs.length = ys.length ∧ ∀ (i : Nat) (x y : AV), xs[i]? = some x → ys[i]? = some y → Wk x y
theorem WkL.nil : WkL [] [] := ⟨rfl, fun i x y hx _ => by simp at hx⟩
theorem WkL.cons {x y : AV} {xs ys : List AV} (h : Wk x y) (k : WkL xs ys) : WkL (x :: xs) (y :: ys) := ⟨by simp [k.1], fun i a b ha hb => by
  match i with
  | 0 => simp at ha hb; subst ha hb; exact h
  | i + 1 => exact k.2 i a b ha hb⟩
theorem Wk.tupL {xs ys : List AV} (h : WkL xs ys) : Wk (.tup xs) (.tup ys) := .tup _ _ h.1 h.2
theorem Wk.aggL {xs ys : List AV} (h : WkL xs ys) : Wk (.agg xs) (.agg ys) := .agg _ _ h.1 h.2
theorem Wk.fpL {xs ys : List AV} {off : Nat} (h : WkL xs ys) : Wk (.fp xs off) (.fp ys off) := .fp _ _ _ h.1 h.2
theorem Rel.wk {w : World} {Im : Nat → Prop} {T : Tab} {x y : AV} (h : Wk x y) : ∀ {v : Value}, Rel w Im T v x → Rel w Im T v y := by
  induction h with
  | refl x => exact fun hr => hr
  | top x => exact fun _ => .top _
  | nil => intro v hr; cases hr; exact .fn0
  | fp xs ys off hl h ih =>
    intro v hr
    cases hr with
    | fp b o _ _ vs h1 h2 =>
      refine .fp b o off ys vs (fun i c hc => ?_) (fun i c hc => ?_)
      all_goals
        have hlt : i < xs.length := by rw [hl]; exact lt_of_get hc
      · exact h1 i _ (List.getElem?_eq_getElem hlt)
      · exact ih i _ c (List.getElem?_eq_getElem hlt) hc (h2 i _ (List.getElem?_eq_getElem hlt))
  | fs xs ys n hl h ih =>
    intro v hr
    cases hr with
    | fs b o _ cap _ vs hc h1 h2 =>
      refine .fs b o n cap ys vs hc (fun i c hc => ?_) (fun i c hc => ?_)
      all_goals
        have hlt : i < xs.length := by rw [hl]; exact lt_of_get hc
      · exact h1 i _ (List.getElem?_eq_getElem hlt)
      · exact ih i _ c (List.getElem?_eq_getElem hlt) hc (h2 i _ (List.getElem?_eq_getElem hlt))
    | fn0 =>
      obtain rfl : ys = [] := List.length_eq_zero_iff.1 hl.symm
      exact .fn0
    | fs0 a cap =>
      obtain rfl : ys = [] := List.length_eq_zero_iff.1 hl.symm
      exact .fs0 a cap
  | agg xs ys hl h ih =>
    intro v hr
    cases hr with
    | agg A _ hA h1 =>
      refine .agg A ys (by omega) fun i y u hy hu => ?_
      have hlt : i < xs.length := by rw [hl]; exact lt_of_get hy
      exact ih i _ y (List.getElem?_eq_getElem hlt) hy (h1 i _ u (List.getElem?_eq_getElem hlt) hu)
  | tup xs ys hl h ih =>
    intro v hr
    cases hr with
    | tup A _ hA h1 =>
      refine .tup A ys (by omega) fun i y u hy hu => ?_
      have hlt : i < xs.length := by rw [hl]; exact lt_of_get hy
      exact ih i _ y (List.getElem?_eq_getElem hlt) hy (h1 i _ u (List.getElem?_eq_getElem hlt) hu)
theorem spec_wk {P : Program} {f : FuncId} {xs : List AV} {σ : Sto} {Q : AV → Sto → Prop} (h : Spec P f xs σ fun r s => ∃ r', Wk r r' ∧ Q r' s) : Spec P f xs σ Q :=
  ⟨h.1, fun w Im T vs hW hR => (h.2 w Im T vs hW hR).mono fun e w' ⟨v, r, σ', Im', T', h1, h2, h3, h4, r', h5, h6⟩ => ⟨v, r', σ', Im', T', h1, h2.wk h5, h3, h4, h6⟩⟩
theorem spec_args {P : Program} {f : FuncId} {xs xs' : List AV} {σ : Sto} {Q : AV → Sto → Prop} (h : Spec P f xs σ Q) (hx : WkL xs' xs) : Spec P f xs' σ Q :=
  ⟨h.1, fun w Im T vs hW hR => h.2 w Im T vs hW ⟨by rw [hR.1, hx.1], fun i x v hx' hv => by
    have hlt : i < xs'.length := by rw [hx.1]; exact lt_of_get hx'
    exact (hR.2 i _ v (List.getElem?_eq_getElem hlt) hv).wk (hx.2 i _ x (List.getElem?_eq_getElem hlt) hx')⟩⟩
theorem pspec_args {P : Program} {f : FuncId} {xs xs' : List AV} {v : AV} (h : PSpec P f xs v) (hx : WkL xs' xs) : PSpec P f xs' v := fun σ => spec_args (h σ) hx
theorem pspec_wk {P : Program} {f : FuncId} {xs : List AV} {v v' : AV} (h : PSpec P f xs v) (hv : Wk v v') : PSpec P f xs v' := fun σ => spec_wk ((h σ).mono fun r s ⟨e1, e2⟩ => ⟨v', e1 ▸ hv, rfl, e2⟩)
/-- Handed back, told less. -/
theorem spec_pureW {P : Program} {f : FuncId} {xs : List AV} {v : AV} (hx : flatL xs = true) (hv : v.flat = true) (h : Spec P f xs [] fun r _ => Wk r v) : PSpec P f xs v :=
  spec_pure hx hv (spec_wk (h.mono fun _ _ hr => ⟨v, hr, rfl⟩))
theorem spec_pureFW {P : Program} {f : FuncId} {xs : List AV} {v : AV} (hx : flatL xs = true) (h : Spec P f xs [] fun r s => ∃ n u, frz s (List.range s.length) n r = some u ∧ Wk u v) : PSpec P f xs v := by
  refine fun σ => ?_
  refine ⟨h.1, fun w Im T vs hW hR => ?_⟩
  have hW0 : WRel w Im [] [] := ⟨rfl, fun l o p ho _ => by simp at ho, hW.im, fun l o p ho _ => by simp at ho, fun l o p ho _ => by simp at ho, fun l o p ho _ => by simp at ho, fun l o p ho _ => by simp at ho, fun l l' o o' p p' ho _ => by simp at ho, fun l o p ho _ => by simp at ho⟩
  refine (h.2 w Im [] vs hW0 (hR.flat hx [])).mono ?_
  rintro e w' ⟨u, r, σ', I1, T1, rfl, hRu, hW1, hF1, n, y, hfz, hwk⟩
  obtain ⟨Im', hW', hF2, hb⟩ := hW1.freezeL (List.range σ'.length)
  have hRv : Rel w' Im' T1 u y := (frz_rel hW1 hb hF2.im1 n).1 r u y hRu hfz
  have hv : y.flat = true := (frz_flat n).1 _ _ hfz
  have hF := hF1.trans hF2
  have hm : ∀ b, ¬ Mut ([] : Sto) [] b := by rintro b ⟨l, o, p, ho, _⟩; simp at ho
  have hk : ∀ b, b < w.heap.size → w'.heap[b]? = w.heap[b]? := fun b hb => hF.keep b hb (hm b)
  have hi' : ∀ b, Im' b → Im b ∨ (w.heap.size ≤ b ∧ b < w'.heap.size) := fun b hb => by
    rcases hF.im2 b hb with h1 | h1 | h1
    · exact .inl h1
    · exact absurd h1 (hm b)
    · exact .inr ⟨h1, hW'.im b hb⟩
  exact ⟨u, v, σ, Im', T, rfl, (hRv.flat hv T).wk hwk, hW.world hF.size hk hF.im1 hi', .world hF.os hF.tape hF.output hF.size hk hF.im1 hi', rfl, rfl⟩
/-- A contract over worlds, at plain values. -/
theorem pspec_gives {P : Program} {f : FuncId} (vs : List Value) {v : Value} (hg : goodF P f = true) (h : ∀ w, Calls P f vs.toArray w fun e w' => e = .returned v ∧ Below w.heap.size w w') : PSpec P f (vs.map .sc) (ofV v) := by
  refine fun σ => ⟨hg, fun w Im T A hW hR => ?_⟩
  obtain rfl : A = vs.toArray := by
    apply Array.ext'
    refine List.ext_getElem? fun i => ?_
    cases hx : vs[i]? with
    | none =>
      have h1 : vs.length ≤ i := by simpa using hx
      have h2 := hR.1
      simp at h2
      simp; omega
    | some x =>
      obtain ⟨u, hu, hr⟩ := hR.get (i := i) (x := .sc x) (by simp [hx])
      cases hr
      simp [hu, hx] at *
  refine (h w).mono ?_
  rintro e w' ⟨rfl, hb⟩
  exact ⟨v, _, σ, Im, T, rfl, rel_ofV _ _ _ _, hW.world hb.size hb.block (fun _ h => h) (fun _ h => .inl h), .world hb.os hb.tape hb.output hb.size hb.block (fun _ h => h) (fun _ h => .inl h), rfl, rfl⟩
end Go.Proofs.Ytemijcjgdgdhjaa
