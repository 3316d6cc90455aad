/- The machine does what evalOp tells. No program. -/
import Derived.Test.YtemijcjgdgdhjaaLogI
namespace Go.Proofs.Ytemijcjgdgdhjaa
open Go.RowKit

section
variable {P : Program} {w : World} {Im : Nat → Prop} {σ σ' : Sto} {T : Tab}

/-- The slots hold what env tells. -/
def ERel (w : World) (Im : Nat → Prop) (T : Tab) (a : Act) (env : Env) : Prop := ∀ t : Nat, Rel w Im T (a.tmps.getD t undef) (env t)
theorem evA_rel {a : Act} {env : Env} (hE : ERel w Im T a env) (x : Operand) : Rel w Im T (a.eval x) (evA env x) := by
  cases x with
  | tmp t => exact hE t
  | const v => exact rel_ofV _ _ _ v
  | global g => exact .sc _
  | func f => exact .fn _ _ _ _ _ rfl rfl (fun i x v hx _ => by simp at hx) (fun i x v hx _ => by simp at hx)
theorem evA_list {a : Act} {env : Env} (hE : ERel w Im T a env) (xs : Array Operand) : RelL w Im T (xs.map a.eval).toList (xs.toList.map (evA env)) := by
  refine ⟨by simp, fun i x v hx hv => ?_⟩
  simp only [List.getElem?_map, Array.toList_map] at hx hv
  cases h : xs.toList[i]? with
  | none => rw [h] at hx; cases hx
  | some o =>
    rw [h] at hx hv
    simp only [Option.map_some, Option.some.injEq] at hx hv
    subst hx hv
    exact evA_rel hE o
theorem evA_parts {a : Act} {env : Env} (hE : ERel w Im T a env) (ps : Array (Nat × Operand)) (i : Nat) (p : Nat × AV) (q : Nat × Value) (hp : (ps.toList.map fun p => (p.1, evA env p.2))[i]? = some p) (hq : (ps.map fun (i, x) => (i, a.eval x))[i]? = some q) : p.1 = q.1 ∧ Rel w Im T q.2 p.2 := by
  simp only [List.getElem?_map, Array.getElem?_toList, Array.getElem?_map] at hp hq
  cases h : ps[i]? with
  | none => rw [h] at hp; cases hp
  | some o =>
    rw [h] at hp hq
    simp only [Option.map_some, Option.some.injEq] at hp hq
    subst hp hq
    exact ⟨rfl, evA_rel hE o.2⟩
theorem evA_opt {a : Act} {env : Env} (hE : ERel w Im T a env) (o : Option Operand) : (o.map (evA env) = none ∧ o.map a.eval = none) ∨ ∃ x v, o.map (evA env) = some x ∧ o.map a.eval = some v ∧ Rel w Im T v x := by
  cases o with
  | none => exact .inl ⟨rfl, rfl⟩
  | some x => exact .inr ⟨_, _, rfl, rfl, evA_rel hE x⟩
theorem map_pair {z : Option AV} {y : AV} (h : (z.map fun u => (u, σ)) = some (y, σ')) : z = some y ∧ σ' = σ := by
  obtain ⟨u, hu, e⟩ := Option.map_eq_some_iff.1 h
  cases e
  exact ⟨hu, rfl⟩
theorem list_toList2 {α : Type} {A : Array α} {x y : α} (h : A.toList = [x, y]) : A = #[x, y] := by apply Array.ext'; simpa using h
theorem list_toList1 {α : Type} {A : Array α} {x : α} (h : A.toList = [x]) : A = #[x] := by apply Array.ext'; simpa using h

theorem builtinA_snd (hW : WRel w Im σ T) {mu : Bool} {b : Builtin} {A : Array TypeId} {ty : TypeId} {cs : Array Bool} {V : Array Value} {xs : List AV} {y : AV} (hV : RelL w Im T V.toList xs) (h : builtinA P mu σ b A.toList xs = some (y, σ')) : Snd P (builtin b A ty cs V) w Im σ T y σ' := by
  have two : ∀ x1 x2, xs = [x1, x2] → ∃ v1 v2, V = #[v1, v2] ∧ Rel w Im T v1 x1 ∧ Rel w Im T v2 x2 := by
    rintro x1 x2 rfl
    have h2 : V.toList.length = 2 := hV.1
    match hl : V.toList, h2 with
    | [v1, v2], _ => exact ⟨v1, v2, list_toList2 hl, hV.2 0 _ _ rfl (by rw [hl]; rfl), hV.2 1 _ _ rfl (by rw [hl]; rfl)⟩
  unfold builtinA at h
  split at h
  · rename_i t x e
    have h1 : V.toList.length = 1 := hV.1
    match hl : V.toList, h1 with
    | [v], _ =>
      obtain rfl := list_toList1 hl
      obtain rfl := list_toList1 e
      obtain ⟨hz, rfl⟩ := map_pair h
      exact (lenA_snd (ty := ty) hW (hV.2 0 _ _ rfl rfl) hz).snd
  · rename_i t0 t1 s x e
    obtain ⟨v1, v2, rfl, r1, r2⟩ := two _ _ rfl
    obtain rfl := list_toList2 e
    exact (appendA_snd (ty := ty) hW r1 r2 h).snd
  · rename_i t0 t1 d x e
    obtain ⟨v1, v2, rfl, r1, r2⟩ := two _ _ rfl
    obtain rfl := list_toList2 e
    exact (copyA_snd (ty := ty) hW r1 r2 h).snd
  · rename_i t0 d e
    have h1 : V.toList.length = 1 := hV.1
    match hl : V.toList, h1 with
    | [v], _ =>
      obtain rfl := list_toList1 hl
      obtain rfl := list_toList1 e
      exact (clearA_snd (ty := ty) hW (hV.2 0 _ _ rfl rfl) h).snd
  · rename_i t l c e
    have h1 : V.toList.length = 1 := hV.1
    match hl : V.toList, h1 with
    | [v], _ =>
      obtain rfl := list_toList1 hl
      obtain rfl := list_toList1 e
      have hr := hV.2 0 _ _ rfl rfl
      split at h
      · rename_i e' hu
        cases h
        cases hr
        exact (SndV.same hW (by simp [Builtin.cap_, run_underlying hu, goInt]) (.sc _) : SndV P (Builtin.cap_ #[t] ty #[.slice none l c]) w Im _ T _ _).snd
      · cases h
  · rename_i k a k' b e
    obtain ⟨v1, v2, rfl, r1, r2⟩ := two _ _ rfl
    cases h; cases r1; cases r2
    exact (SndV.same hW (by simp [Builtin.max_, Builtin.max2]) (.sc _) : SndV P (Builtin.max_ A ty #[.int k a, .int k' b]) w Im _ T _ _).snd
  · rename_i k a k' b e
    obtain ⟨v1, v2, rfl, r1, r2⟩ := two _ _ rfl
    cases h; cases r1; cases r2
    exact (SndV.same hW (by simp [Builtin.min_, Builtin.min2]) (.sc _) : SndV P (Builtin.min_ A ty #[.int k a, .int k' b]) w Im _ T _ _).snd
  · rename_i a b e
    obtain ⟨v1, v2, rfl, r1, r2⟩ := two _ _ rfl
    cases h; cases r1; cases r2
    refine (SndV.same hW (v := .string (if slt a b = true then b else a)) ?_ (.sc _) : SndV P (Builtin.max_ A ty #[.string a, .string b]) w Im _ T _ _).snd
    simp only [Builtin.max_, Builtin.max2, List.foldlM_cons, List.foldlM_nil, Sem.run_bind, Op.stringOp, Sem.run_pure, Result.andThen_ok, asBool, less_is]
    cases slt a b <;> simp
  · cases h

theorem evalOp_snd (hW : WRel w Im σ T) {mu : List Nat} {o : Oper} {a : Act} {env : Env} {y : AV} (hE : ERel w Im T a env) (h : evalOp P mu o env σ = some (y, σ')) : Snd P (execOp a.eval o) w Im σ T y σ' := by
  have same : ∀ {v : Value} {z : AV}, Rel w Im T v z → Snd P (pure (.value v)) w Im σ T z σ := fun {v z} hr => ⟨.value v, v, w, Im, T, rfl, .inl rfl, hr, hW, Fut.refl _ _ _ _⟩
  unfold evalOp at h
  split at h
  · rename_i x ho
    cases h; simp only [execOp, ho]; exact same (evA_rel hE x)
  · rename_i x ho
    cases h; simp only [execOp, ho]; exact same (evA_rel hE x)
  · rename_i c p q ho
    split at h
    · rename_i r hc
      cases h
      have hr := evA_rel hE c
      rw [hc] at hr
      simp only [execOp, ho]
      refine ⟨.value (if r = true then a.eval p else a.eval q), _, w, Im, T, ?_, .inl rfl, ?_, hW, Fut.refl _ _ _ _⟩
      · generalize a.eval c = vc at hr
        cases hr
        simp [asBool]
      · split
        · exact evA_rel hE p
        · exact evA_rel hE q
    · cases h
  · rename_i t ho
    split at h
    · rename_i xs hz
      simp only [Option.some.injEq] at h
      have := (allocA_snd (P := P) (mu := isMu mu o) hW hz).snd
      rw [h] at this
      simp only [execOp, ho]; exact this
    · cases h
  · rename_i t x ho
    simp only [execOp, ho]; exact (boxA_snd hW (evA_rel hE x) h).snd
  · rename_i t ps ho
    obtain ⟨hz, rfl⟩ := map_pair h
    simp only [execOp, ho]
    exact (buildA_snd hW (by simp) (evA_parts hE ps) hz).snd
  · rename_i t n ps ho
    simp only [execOp, ho]
    exact (buildSliceA_snd hW (by simp) (evA_parts hE ps) h).snd
  · rename_i t p ho
    obtain ⟨hz, rfl⟩ := map_pair h
    simp only [execOp, ho]
    exact (loadA_snd hW (evA_rel hE p) hz).snd
  · rename_i t p x ho
    obtain ⟨s', hs, e⟩ := Option.map_eq_some_iff.1 h
    cases e
    obtain ⟨w', T', hrun, hW', hF⟩ := storeA_snd (P := P) hW (evA_rel hE p) (evA_rel hE x) hs
    simp only [execOp, ho]
    exact ⟨.skip, undef, w', Im, T', by simp [hrun], .inr ⟨rfl, rfl⟩, .tup _ _ rfl (fun i x v hx _ => by simp at hx), hW', hF⟩
  · rename_i x ho
    split at h
    · rename_i hn
      cases h
      have hr := evA_rel hE x
      simp only [execOp, ho]
      generalize evA env x = z at hr hn
      generalize a.eval x = v at hr
      cases hr <;> simp [nilA] at hn
      · exact same (.fp _ _ _ _ _ (by assumption) (by assumption))
      · exact same (.mp _ _ _ _ _ (by assumption) (by assumption) (by assumption))
      · exact same (.iface _ _ _ (by assumption))
      · rename_i f A B xs ys hA hB h1 h2
        cases f <;> simp at hn
        · exact same (.fn _ _ _ _ _ hA hB h1 h2)
        · exact same (.fn _ _ _ _ _ hA hB h1 h2)
    · cases h
  · rename_i op t x z q ho
    obtain ⟨hz, rfl⟩ := map_pair h
    simp only [execOp, ho]
    exact (binA_snd hW (fun hc => by simpa using hc) (evA_rel hE x) (evA_rel hE z) hz).snd
  · rename_i op t x ho
    obtain ⟨hz, rfl⟩ := map_pair h
    simp only [execOp, ho]
    exact (unA_snd hW (evA_rel hE x) hz).snd
  · rename_i s d x ho
    obtain ⟨hz, rfl⟩ := map_pair h
    simp only [execOp, ho]
    exact (convA_snd hW (evA_rel hE x) hz).snd
  · rename_i t x ho
    split at h
    · rename_i hc
      cases h
      simp only [execOp, ho]
      exact (SndV.same hW (run_makeInterface w t _ hc) (.iface _ _ _ (evA_rel hE x))).snd
    · cases h
  · rename_i f xs ys ho
    cases h
    simp only [execOp, ho]
    have hA := evA_list hE xs
    have hB := evA_list hE ys
    exact (SndV.same hW (v := .func f (xs.map a.eval) (ys.map a.eval)) (by simp [Instr.makeFunc]) (.fn _ _ _ _ _ (by simp) (by simp) (fun i x v hx hv => hA.2 i x v hx (by simpa using hv)) (fun i x v hx hv => hB.2 i x v hx (by simpa using hv)))).snd
  · rename_i t l c ho
    simp only [execOp, ho]
    exact (makeSliceA_snd hW (evA_rel hE l) (evA_rel hE c) h).snd
  · rename_i t x lo hi mx ho
    obtain ⟨hz, rfl⟩ := map_pair h
    simp only [execOp, ho]
    exact (sliceA_snd hW (evA_rel hE x) (evA_opt hE lo) (evA_opt hE hi) (fun e => by cases mx <;> simp at e ⊢) hz).snd
  · rename_i s x f ho
    obtain ⟨hz, rfl⟩ := map_pair h
    simp only [execOp, ho]
    exact (fieldAddrA_snd hW (evA_rel hE x) hz).snd
  · rename_i s x f ho
    obtain ⟨hz, rfl⟩ := map_pair h
    simp only [execOp, ho]
    exact (fieldA_snd hW (evA_rel hE x) hz).snd
  · rename_i t x i ho
    obtain ⟨hz, rfl⟩ := map_pair h
    simp only [execOp, ho]
    exact (indexAddrA_snd hW (evA_rel hE x) (evA_rel hE i) hz).snd
  · rename_i t x i ho
    obtain ⟨hz, rfl⟩ := map_pair h
    simp only [execOp, ho]
    exact (indexA_snd hW (evA_rel hE x) (evA_rel hE i) hz).snd
  · rename_i x xt t ok ho
    obtain ⟨hz, rfl⟩ := map_pair h
    simp only [execOp, ho]
    exact (assertA_snd hW (evA_rel hE x) hz).snd
  · rename_i x i ho
    split at h
    · rename_i xs hx
      obtain ⟨hz, rfl⟩ := map_pair h
      have hr := evA_rel hE x
      rw [hx] at hr
      simp only [execOp, ho]
      generalize a.eval x = v at hr
      cases hr with
      | tup A _ hA h1 =>
        have hlt := lt_of_get hz
        obtain ⟨u, hu⟩ : ∃ u, A[i]? = some u := ⟨A[i]'(by omega), Array.getElem?_eq_getElem _⟩
        exact (SndV.same hW (by simp [Instr.extract, hu]) (h1 i y u hz hu) : SndV P (Instr.extract (.tuple A) i) w Im _ T y _).snd
    · cases h
  · rename_i c ho
    split at h
    · rename_i b hb
      simp only [execOp, ho, resolve, hb]
      exact builtinA_snd hW (evA_list hE c.args) h
    · cases h
  · cases h
end
end Go.Proofs.Ytemijcjgdgdhjaa
