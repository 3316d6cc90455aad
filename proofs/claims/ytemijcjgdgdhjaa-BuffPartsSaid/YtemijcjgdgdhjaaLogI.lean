/- evalOp: an operation that calls no Go function; the machine does the same. No program. -/
import Derived.Test.YtemijcjgdgdhjaaLogH
namespace Go.Proofs.Ytemijcjgdgdhjaa
open Go.RowKit

section
variable {P : Program} {w : World} {Im : Nat → Prop} {σ σ' : Sto} {T : Tab}

def isConst : Operand → Bool
  | .const _ => true
  | _ => false
theorem str_leq (a b : Str) : (slt a b || decide (a = b)) = !slt b a := by
  cases h : slt a b with
  | true => rw [slt_asymm h]; rfl
  | false =>
    cases h' : slt b a with
    | true => have := slt_ne h'; simp; exact fun e => this e.symm
    | false => simp [slt_tri h h']
theorem strBin_run {op : BinOp} {a b : ByteArray} {z : AV} (h : strBin op a b = some z) : ∃ v, (Op.stringOp op a b).run P w = .ok v w ∧ z = .sc v := by
  cases op <;> simp only [strBin, reduceCtorEq] at h
  · split at h
    · rename_i hs
      cases h
      exact ⟨.string (a ++ b), by simp [Op.stringOp]; omega, rfl⟩
    · cases h
  all_goals
    cases h
    refine ⟨_, ?_, rfl⟩
    simp only [Op.stringOp, Sem.run_pure, str_leq, less_is, beq_is, Bool.not_not]
theorem intBin_run {op : BinOp} {t : TypeId} {k : IntKind} {a b : Int} {z : AV} (h : intBin op k a b = some z) : ∃ v, (binOp op t (.int k a) (.int k b)).run P w = .ok v w ∧ z = .sc v := by
  by_cases hb : b = 0
  · cases op <;> simp only [intBin, hb, if_true, reduceCtorEq] at h
    all_goals
      cases h
      refine ⟨_, ?_, rfl⟩
      simp [binOp, Op.intArith, Op.intBits, Op.intCmp, hb]
    all_goals rfl
  · cases op <;> simp only [intBin, hb, if_false, reduceCtorEq] at h
    all_goals
      cases h
      refine ⟨_, ?_, rfl⟩
      simp [binOp, Op.intArith, Op.intBits, Op.intCmp, Op.intDiv, hb]
    all_goals rfl
theorem shBin_run {op : BinOp} {t : TypeId} {k k' : IntKind} {a b : Int} {z : AV} (h : shBin op k a b = some z) : ∃ v, (binOp op t (.int k a) (.int k' b)).run P w = .ok v w ∧ z = .sc v := by
  unfold shBin at h
  split at h
  · cases h
  · rename_i hb
    cases op <;> simp only [reduceCtorEq] at h
    all_goals
      cases h
      refine ⟨_, ?_, rfl⟩
      simp [binOp, Op.shift, hb]
theorem eqV_top {n : Nat} {t : TypeId} {y : AV} : eqV P n t .top y = none := by
  cases n <;> simp [eqV, ptrNil, slcNil, fnNil, ifNil, nilEq]
  split <;> simp
theorem nilEq_none (a : Option Bool) : nilEq a none = none := by cases a with | none => rfl | some b => cases b <;> rfl
theorem eqV_top' {n : Nat} {t : TypeId} {x : AV} : eqV P n t x .top = none := by
  cases n <;> simp only [eqV, ptrNil, slcNil, fnNil, ifNil, nilEq_none]
  split <;> first | rfl | (split <;> first | rfl | (rename_i h; cases h))
theorem eqV_scagg {n : Nat} {t : TypeId} {A : Array Value} {y : AV} : eqV P n t (.sc (.agg A)) y = none := by
  cases n <;> simp [eqV, ptrNil, slcNil, fnNil, ifNil, nilEq]
  split <;> simp
theorem eqV_scagg' {n : Nat} {t : TypeId} {A : Array Value} {x : AV} : eqV P n t x (.sc (.agg A)) = none := by
  cases n <;> simp only [eqV, ptrNil, slcNil, fnNil, ifNil, nilEq_none]
  split <;> first | rfl | (split <;> first | rfl | (rename_i h; cases h))
theorem eqGuard_run {op : BinOp} {t : TypeId} {X Y : Operand} {c : Bool} {x y : AV} {u v : Value} {r : Bool} (hc : c = true → isConst X = true ∨ isConst Y = true) (hu : Rel w Im T u x) (hv : Rel w Im T v y) (h : eqA P t c x y = some r) : (eqGuard op t X Y u v).run P w = .ok () w := by
  unfold eqA at h
  split at h
  · rename_i hg
    cases op <;> try (simp [eqGuard]; done)
    all_goals
      simp only [eqGuard, Bool.not_true, Bool.false_eq_true, if_false]
      split
      · cases hu with
        | top => rw [eqV_top] at h; cases h
        | sc =>
          cases hv with
          | top => rw [eqV_top'] at h; cases h
          | sc =>
            simp only [eqGuardA] at hg
            rcases hc hg with h1 | h1
            · cases X with
              | const v => simp
              | _ => simp [isConst] at h1
            · cases Y with
              | const v => simp
              | _ => simp [isConst] at h1
      · cases hu with
        | top => rw [eqV_top] at h; cases h
        | sc => rw [eqV_scagg] at h; cases h
        | agg A xs hA h1 =>
          cases hv with
          | top => rw [eqV_top'] at h; cases h
          | sc => rw [eqV_scagg'] at h; cases h
          | agg B ys hB h2 =>
            simp only [eqGuardA, Bool.not_eq_true'] at hg
            simp [run_program, hg]
      · simp
  · cases h
theorem eqA_run {t : TypeId} {c : Bool} {x y : AV} {u v : Value} {r : Bool} (hu : Rel w Im T u x) (hv : Rel w Im T v y) (h : eqA P t c x y = some r) : (Op.equal t u v).run P w = .ok r w := by
  unfold eqA at h
  split at h
  · exact eqV_run 8 Op.maxDepth t x y u v r h (by simp [Op.maxDepth]) hu hv
  · cases h
/-- What '==' comes to where neither is a whole number nor a text on both sides. -/
theorem binOp_eq {t : TypeId} {x y : AV} {u v : Value} {c : Bool} {r : Bool} (hu : Rel w Im T u x) (hv : Rel w Im T v y) (hx : ∀ k a k' b, ¬ (x = .sc (.int k a) ∧ y = .sc (.int k' b))) (hs : ∀ a b, ¬ (x = .sc (.string a) ∧ y = .sc (.string b))) (h : eqA P t c x y = some r) :
    (binOp .eql t u v).run P w = .ok (.bool r) w ∧ (binOp .neq t u v).run P w = .ok (.bool (!r)) w := by
  have he := eqA_run (P := P) hu hv h
  have h' : eqV P 8 t x y = some r := by
    unfold eqA at h
    split at h
    · exact h
    · cases h
  have hxt : x ≠ .top := fun e => by rw [e, eqV_top] at h'; cases h'
  have hyt : y ≠ .top := fun e => by rw [e, eqV_top'] at h'; cases h'
  cases u <;> cases v <;> first
    | ((refine ⟨?_, ?_⟩ <;> simp [binOp, he]); done)
    | (exfalso; cases hu <;> first | exact hxt rfl | (cases hv <;> first | exact hyt rfl | exact hx _ _ _ _ ⟨rfl, rfl⟩ | exact hs _ _ ⟨rfl, rfl⟩))
    | skip
  all_goals
    exfalso
    cases hu <;> first | exact absurd rfl hxt | skip
    cases hv <;> first | exact absurd rfl hyt | skip
    unfold eqV at h'
    split at h' <;> first
      | (simp [ptrNil, slcNil, fnNil, ifNil, nilEq] at h'; done)
      | cases h'
theorem binA_snd (hW : WRel w Im σ T) {op : BinOp} {t : TypeId} {X Y : Operand} {c : Bool} {x y z : AV} {u v : Value} (hc : c = true → isConst X = true ∨ isConst Y = true) (hu : Rel w Im T u x) (hv : Rel w Im T v y) (h : binA P op t c x y = some z) :
    SndV P (do eqGuard op t X Y u v; binOp op t u v) w Im σ T z σ := by
  unfold binA at h
  split at h
  · rename_i k a k' b
    cases hu; cases hv
    have hg : (eqGuard op t X Y (.int k a) (.int k' b)).run P w = .ok () w := by cases op <;> simp [eqGuard]
    split at h
    · obtain ⟨r, hr, rfl⟩ := shBin_run (P := P) (w := w) (t := t) (k' := k') h
      exact .same hW (by simp [hg, hr]) (.sc _)
    · split at h
      · rename_i e
        subst e
        obtain ⟨r, hr, rfl⟩ := intBin_run (P := P) (w := w) (t := t) h
        exact .same hW (by simp [hg, hr]) (.sc _)
      · cases h
  · rename_i a b
    cases hu; cases hv
    have hg : (eqGuard op t X Y (.string a) (.string b)).run P w = .ok () w := by cases op <;> simp [eqGuard]
    obtain ⟨r, hr, rfl⟩ := strBin_run (P := P) (w := w) h
    have hb : (binOp op t (.string a) (.string b)).run P w = .ok r w := by rw [← hr]; cases op <;> rfl
    exact .same hW (by simp [hg, hb]) (.sc _)
  · rename_i hx hs
    split at h
    · obtain ⟨r, hr, rfl⟩ := Option.map_eq_some_iff.1 h
      have hg := eqGuard_run (P := P) (op := .eql) hc hu hv hr
      have hb := (binOp_eq (P := P) hu hv (fun k a k' b e => hx k a k' b e.1 e.2) (fun a b e => hs a b e.1 e.2) hr).1
      exact .same hW (by simp [hg, hb]) (.sc _)
    · obtain ⟨r, hr, rfl⟩ := Option.map_eq_some_iff.1 h
      have hg := eqGuard_run (P := P) (op := .neq) hc hu hv hr
      have hb := (binOp_eq (P := P) hu hv (fun k a k' b e => hx k a k' b e.1 e.2) (fun a b e => hs a b e.1 e.2) hr).2
      exact .same hW (by simp [hg, hb]) (.sc _)
    · cases h

def unA (op : UnOp) (x : AV) : Option AV :=
  match op, x with
  | .not, .sc (.bool b) => some (.sc (.bool (!b)))
  | .neg, .sc (.int k n) => some (.sc (.int k (k.wrap (0 - n))))
  | _, _ => none
theorem unA_snd (hW : WRel w Im σ T) {op : UnOp} {x z : AV} {u : Value} (hu : Rel w Im T u x) (h : unA op x = some z) : SndV P (Op.unary op u) w Im σ T z σ := by
  unfold unA at h
  split at h
  · cases h; cases hu; exact .same hW (by simp [Op.unary]) (.sc _)
  · cases h; cases hu; exact .same hW (by simp [Op.unary, Op.intArith]) (.sc _)
  · cases h

/-- Not nil, and no method of an interface value. -/
def nilA (x : AV) : Bool :=
  match x with
  | .fp _ _ => true
  | .mp _ _ _ => true
  | .fn (.func _) _ _ => true
  | .fn (.via _ _ _ _) _ _ => true
  | .iface _ _ => true
  | _ => false

def assertA (P : Program) (asserted : TypeId) (ok : Bool) (x : AV) : Option AV :=
  match P.underlying asserted with
  | some (.interface _) => none
  | some _ => match x with
    | .iface t y => if t = asserted then some (if ok = true then .tup [y, .sc (.bool true)] else y) else none
    | _ => none
  | none => none
theorem assertA_snd (hW : WRel w Im σ T) {xt at_ : TypeId} {ok : Bool} {x z : AV} {u : Value} (hu : Rel w Im T u x) (h : assertA P at_ ok x = some z) : SndV P (Instr.typeAssert u xt at_ ok) w Im σ T z σ := by
  unfold assertA at h
  split at h
  · cases h
  · rename_i d hd hund
    split at h
    · rename_i t y
      split at h
      · rename_i e
        subst e
        cases h
        cases hu with
        | iface _ v _ hR =>
          refine .same hW (v := if ok = true then .tuple #[v, .bool true] else v) ?_ ?_
          · cases d <;> first | (exact absurd rfl (hd _)) | (simp [Instr.typeAssert, run_underlying hund]; done)
          · split
            · refine .tup _ _ rfl (fun i x v hx hv => ?_)
              match i with
              | 0 => simp at hx hv; subst hx hv; exact hR
              | 1 => simp at hx hv; subst hx hv; exact .sc _
              | i + 2 => simp at hx
            · exact hR
      · cases h
    · cases h
  · cases h

def builtinA (P : Program) (mu : Bool) (σ : Sto) (b : Builtin) (ts : List TypeId) (xs : List AV) : Option (AV × Sto) :=
  match b, ts, xs with
  | .len, [t], [x] => (lenA P t x).map fun z => (z, σ)
  | .append, [t0, t1], [s, x] => appendA P mu σ t0 t1 s x
  | .copy, [t0, _], [d, x] => copyA P σ t0 d x
  | .clear, [t0], [d] => clearA P σ t0 d
  | .cap, [t], [.sc (.slice none l c)] => (match P.underlying t with
    | some (.slice _) => some (.sc (.int .i64 c), σ)
    | _ => none)
  | .max, [_, _], [.sc (.int k a), .sc (.int _ b)] => some (.sc (.int k (if a < b then b else a)), σ)
  | .min, [_, _], [.sc (.int k a), .sc (.int _ b)] => some (.sc (.int k (if b < a then b else a)), σ)
  | .max, [_, _], [.sc (.string a), .sc (.string b)] => some (.sc (.string (if slt a b = true then b else a)), σ)
  | _, _, _ => none

def evA (env : Env) : Operand → AV
  | .tmp t => env t
  | .const v => ofV v
  | .global g => .sc (.pointer (some ⟨g, 0, none⟩))
  | .func f => .fn (.func f) [] []
def isMu (mu : List Nat) (o : Oper) : Bool := match o.dst with
  | some d => mu.contains d
  | none => false

/-- An operation that calls no Go function: what it yields, and the store behind it. -/
def evalOp (P : Program) (mu : List Nat) (o : Oper) (env : Env) (σ : Sto) : Option (AV × Sto) :=
  match o.op with
  | .move x => some (evA env x, σ)
  | .assign x => some (evA env x, σ)
  | .pick c a b => match evA env c with
    | .sc (.bool r) => some (if r = true then evA env a else evA env b, σ)
    | _ => none
  | .alloc t => match zeroA P t with
    | some xs => some (bornP (isMu mu o) σ xs)
    | none => none
  | .box _ x => boxA (isMu mu o) σ (evA env x)
  | .build t parts => (buildA P t (parts.toList.map fun p => (p.1, evA env p.2))).map fun z => (z, σ)
  | .buildSlice t n parts => buildSliceA P (isMu mu o) σ t n (parts.toList.map fun p => (p.1, evA env p.2))
  | .load t a => (loadA P σ t (evA env a)).map fun z => (z, σ)
  | .store t a x => (storeA P σ t (evA env a) (evA env x)).map fun σ' => (.tup [], σ')
  | .nilCheck x => if nilA (evA env x) = true then some (evA env x, σ) else none
  | .binOp op t x y _ => (binA P op t (isConst x || isConst y) (evA env x) (evA env y)).map fun z => (z, σ)
  | .unOp op _ x => (unA op (evA env x)).map fun z => (z, σ)
  | .convert s d x => (convA P σ s d (evA env x)).map fun z => (z, σ)
  | .makeInterface t x => if P.concrete t = true then some (.iface t (evA env x), σ) else none
  | .makeFunc f xs ys => some (.fn f (xs.toList.map (evA env)) (ys.toList.map (evA env)), σ)
  | .makeSlice t l c => makeSliceA P (isMu mu o) σ t (evA env l) (evA env c)
  | .slice t x lo hi mx => (sliceA P σ t (evA env x) (lo.map (evA env)) (hi.map (evA env)) (mx.map (evA env))).map fun z => (z, σ)
  | .fieldAddr s x f => (fieldAddrA P s (evA env x) f).map fun z => (z, σ)
  | .field s x f => (fieldA P s (evA env x) f).map fun z => (z, σ)
  | .indexAddr t x i => (indexAddrA P t (evA env x) (evA env i)).map fun z => (z, σ)
  | .index t x i => (indexA P t (evA env x) (evA env i)).map fun z => (z, σ)
  | .typeAssert x _ t ok => (assertA P t ok (evA env x)).map fun z => (z, σ)
  | .extract x i => match evA env x with
    | .tup xs => xs[i]?.map fun z => (z, σ)
    | _ => none
  | .call c => match c.callee with
    | .builtin b => builtinA P (isMu mu o) σ b c.argTypes.toList (c.args.toList.map (evA env))
    | _ => none
  | _ => none
end
end Go.Proofs.Ytemijcjgdgdhjaa
