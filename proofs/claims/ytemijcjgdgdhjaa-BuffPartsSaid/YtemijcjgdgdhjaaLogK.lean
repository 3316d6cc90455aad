/- Calls by what they are known to do (Spec); the operations of a region, in the text's order and in any that its edges allow. No program. -/
import Derived.Test.YtemijcjgdgdhjaaLogJ
namespace Go.Proofs.Ytemijcjgdgdhjaa
open Go.RowKit

section
variable {P : Program}

def Env.put (env : Env) (d : Option Nat) (x : AV) : Env := match d with
  | some d => fun t => if t = d then x else env t
  | none => env

/-- A Go function with a body. -/
def goodF (P : Program) (f : FuncId) : Bool := match P.funcs[f]? with
  | some fn => !(fn.name == "runtime.NumGoroutine") && fn.body.isSome
  | none => false
/-- WHAT A CALL DOES: of function f, at what xs tell, with the store σ. -/
def Spec (P : Program) (f : FuncId) (xs : List AV) (σ : Sto) (Q : AV → Sto → Prop) : Prop :=
  goodF P f = true ∧ ∀ (w : World) (Im : Nat → Prop) (T : Tab) (vs : Array Value), WRel w Im σ T → RelL w Im T vs.toList xs →
    Calls P f vs w fun e w' => ∃ v r σ' Im' T', e = .returned v ∧ Rel w' Im' T' v r ∧ WRel w' Im' σ' T' ∧ Fut w Im σ T w' Im' σ' T' ∧ Q r σ'
theorem Spec.mono {f : FuncId} {xs : List AV} {σ : Sto} {Q Q' : AV → Sto → Prop} (h : Spec P f xs σ Q) (hq : ∀ r σ', Q r σ' → Q' r σ') : Spec P f xs σ Q' :=
  ⟨h.1, fun w Im T vs hW hR => (h.2 w Im T vs hW hR).mono fun e w' ⟨v, r, σ', Im', T', h1, h2, h3, h4, h5⟩ => ⟨v, r, σ', Im', T', h1, h2, h3, h4, hq _ _ h5⟩⟩
/-- It comes to v and leaves the store alone, whatever the store. -/
def PSpec (P : Program) (f : FuncId) (xs : List AV) (v : AV) : Prop := ∀ σ, Spec P f xs σ fun r σ' => r = v ∧ σ' = σ

/-- The receiver that a method gets. -/
def recvA (P : Program) (σ : Sto) (t : TypeId) (x : AV) (ptr : Bool) : Option AV := match P.underlying t with
  | some (.pointer e) => if ptr = true then (if nilA x = true then some x else none) else loadA P σ e x
  | some _ => if ptr = true then none else some x
  | none => none
def methA (P : Program) (t : TypeId) (name : String) : Option (FuncId × Bool) := match P.info? t with
  | some i => match i.methods.find? (·.name == name) with
    | some m => if m.path.isEmpty = true then m.func else none
    | none => none
  | none => none
def invokeA (P : Program) (σ : Sto) (x : AV) (name : String) (xs : List AV) : Option (FuncId × List AV) := match x with
  | .iface t y => match methA P t name with
    | some (f, ptr) => match recvA P σ t y ptr with
      | some z => some (f, z :: xs)
      | none => none
    | none => none
  | _ => none
def applyA (P : Program) (σ : Sto) (f : AV) (xs : List AV) : Option (FuncId × List AV) := match f with
  | .fn (.func g) first cap => some (g, first ++ xs ++ cap)
  | .fn (.via t path g ptr) first _ => match first ++ xs with
    | x :: rest => if path.isEmpty = true then match recvA P σ t x ptr with
        | some z => some (g, z :: rest)
        | none => none else none
    | [] => none
  | .fn (.method name) first _ => match first ++ xs with
    | x :: rest => invokeA P σ x name rest
    | [] => none
  | _ => none
/-- Which Go function an operation calls, and with what. -/
def callOf (P : Program) (o : Oper) (env : Env) (σ : Sto) : Option (FuncId × List AV) := match o.op with
  | .call c => match c.callee with
    | .value f => applyA P σ (evA env f) (c.args.toList.map (evA env))
    | .invoke r name => invokeA P σ (evA env r) name (c.args.toList.map (evA env))
    | _ => none
  | _ => none

variable {w : World} {Im : Nat → Prop} {σ : Sto} {T : Tab}
theorem callFunc_run {f : FuncId} {A : Array Value} (h : goodF P f = true) : (callFunc f A).run P w = .ok (.enter f A) w := by
  unfold goodF at h
  split at h
  · rename_i fn hf
    simp only [Bool.and_eq_true, Bool.not_eq_true'] at h
    have hn : fn.name ≠ "runtime.NumGoroutine" := by simpa using h.1
    have hb : fn.body ≠ none := by intro e; simp [e] at h
    simp [callFunc, run_program, hf, hn, hb]
  · cases h
theorem wrap_run (ts : Array TypeId) (t : TypeId) (a : Addr) (x y : ByteArray) : (Builtin.ssaWrapNilChk_ ts t #[.pointer (some a), .string x, .string y]).run P w = .ok (.pointer (some a)) w := rfl
theorem recvA_run {t : TypeId} {x z : AV} {v : Value} {ptr : Bool} {wr : Option String} (hW : WRel w Im σ T) (hr : Rel w Im T v x) (h : recvA P σ t x ptr = some z) :
    ∃ u, (receiverAt t (.val v) ptr wr).run P w = .ok u w ∧ Rel w Im T u z := by
  unfold recvA at h
  split at h
  · rename_i e hu
    split at h
    · rename_i hp
      subst hp
      split at h
      · cases h; exact ⟨v, by simp [receiverAt, run_underlying hu, Place.get], hr⟩
      · cases h
    · rename_i hp
      obtain ⟨a, u, rfl, hl, hR⟩ := loadVar_rel (P := P) hW hr h
      refine ⟨u, ?_, hR⟩
      have hp' : ptr = false := by simpa using hp
      subst hp'
      cases wr <;> simp [receiverAt, run_underlying hu, Place.get, strVal, wrap_run, asAddr, hl]
  · rename_i d hd hu
    split at h
    · cases h
    · rename_i hp
      cases h
      have hp' : ptr = false := by simpa using hp
      subst hp'
      refine ⟨v, ?_, hr⟩
      cases d <;> first | (exact absurd rfl (hd _)) | simp [receiverAt, run_underlying hu, Place.get]
  · cases h
theorem invokeA_run {x : AV} {v : Value} {name : String} {xs ys : List AV} {A : Array Value} {f : FuncId} (hW : WRel w Im σ T) (hr : Rel w Im T v x) (hA : RelL w Im T A.toList xs) (h : invokeA P σ x name xs = some (f, ys)) (hg : goodF P f = true) :
    ∃ B, (callMethod v name A).run P w = .ok (.enter f B) w ∧ RelL w Im T B.toList ys := by
  unfold invokeA at h
  split at h
  · rename_i t y
    split at h
    · rename_i g ptr hm
      split at h
      · rename_i z hz
        simp only [Option.some.injEq, Prod.mk.injEq] at h
        obtain ⟨rfl, rfl⟩ := h
        cases hr with
        | iface _ u _ hR =>
          unfold methA at hm
          split at hm
          · rename_i i hi
            split at hm
            · rename_i m hfind
              split at hm
              · rename_i hpath
                have hpl : m.path.toList = [] := by simpa using hpath
                obtain ⟨q, hq, hRq⟩ := recvA_run (P := P) (wr := if m.path.isEmpty = true then some ((name.splitOn ".").getLastD name) else none) hW hR hz
                refine ⟨#[q] ++ A, ?_, ?_⟩
                · have hmeth : (method (P.types.size + Made.depth) t u name).run P w = .ok (g, q) w := by
                    have : P.types.size + Made.depth = (P.types.size + Made.depth - 1) + 1 := by unfold Made.depth; omega
                    rw [this]
                    simp only [method, typeInfo, Sem.run_bind, run_program, Result.andThen_ok, hi, hfind, hpl, follow, hm, hq, Sem.run_pure]
                  simp [callMethod, run_program, hmeth, callFunc_run hg]
                · refine ⟨by have := hA.1; simp at this; simp; omega, fun i x v hx hv => ?_⟩
                  match i with
                  | 0 => simp at hx hv; subst hx hv; exact hRq
                  | i + 1 =>
                    simp only [List.getElem?_cons_succ] at hx
                    refine hA.2 i x v hx ?_
                    simpa using hv
              · cases hm
            · cases hm
          · cases hm
      · cases h
    · cases h
  · cases h
theorem RelL.append {A B : List Value} {xs ys : List AV} (h : RelL w Im T A xs) (k : RelL w Im T B ys) : RelL w Im T (A ++ B) (xs ++ ys) := by
  refine ⟨by simp [h.1, k.1], fun i x v hx hv => ?_⟩
  rcases Nat.lt_or_ge i xs.length with h1 | h1
  · rw [List.getElem?_append_left h1] at hx
    rw [List.getElem?_append_left (by rw [h.1]; exact h1)] at hv
    exact h.2 i x v hx hv
  · rw [List.getElem?_append_right h1] at hx
    rw [List.getElem?_append_right (by rw [h.1]; exact h1), h.1] at hv
    exact k.2 _ x v hx hv
theorem RelL.tail {a : Value} {A : List Value} {x : AV} {xs : List AV} (h : RelL w Im T (a :: A) (x :: xs)) : Rel w Im T a x ∧ RelL w Im T A xs :=
  ⟨h.2 0 x a rfl rfl, by have := h.1; simpa using this, fun i y v hy hv => h.2 (i + 1) y v hy hv⟩
theorem RelL.cons_inv {A : List Value} {x : AV} {xs : List AV} (h : RelL w Im T A (x :: xs)) : ∃ a B, A = a :: B ∧ Rel w Im T a x ∧ RelL w Im T B xs := by
  match A, h with
  | [], h => have := h.1; simp at this
  | a :: B, h => exact ⟨a, B, rfl, h.tail⟩
theorem applyA_run {f : AV} {v : Value} {xs ys : List AV} {A : Array Value} {g : FuncId} (hW : WRel w Im σ T) (hr : Rel w Im T v f) (hA : RelL w Im T A.toList xs) (h : applyA P σ f xs = some (g, ys)) (hg : goodF P g = true) :
    ∃ B, (do let d ← Deferred.ofValue v A; invoke d.target d.args).run P w = .ok (.enter g B) w ∧ RelL w Im T B.toList ys := by
  unfold applyA at h
  split at h
  · rename_i q first cap
    simp only [Option.some.injEq, Prod.mk.injEq] at h
    obtain ⟨rfl, rfl⟩ := h
    cases hr with
    | fn _ F C _ _ hF hC h1 h2 =>
      refine ⟨F ++ A ++ C, by simp [Deferred.ofValue, invoke, callFunc_run hg], ?_⟩
      simp only [Array.toList_append]
      exact (RelL.append (RelL.append ⟨by simpa using hF, fun i x v hx hv => h1 i x v hx (by simpa using hv)⟩ hA) ⟨by simpa using hC, fun i x v hx hv => h2 i x v hx (by simpa using hv)⟩)
  · rename_i t path q ptr first cap
    cases hr with
    | fn _ F C _ _ hF hC h1 h2 =>
      have hL : RelL w Im T (F ++ A).toList (first ++ xs) := by
        rw [Array.toList_append]
        exact RelL.append ⟨by simpa using hF, fun i x v hx hv => h1 i x v hx (by simpa using hv)⟩ hA
      split at h
      · rename_i x rest e
        rw [e] at hL
        obtain ⟨a, B, hB, hRa, hRB⟩ := hL.cons_inv
        split at h
        · rename_i hpath
          split at h
          · rename_i z hz
            simp only [Option.some.injEq, Prod.mk.injEq] at h
            obtain ⟨rfl, rfl⟩ := h
            obtain ⟨u, hu, hRu⟩ := recvA_run (P := P) (wr := none) hW hRa hz
            have hFA : F ++ A = (a :: B).toArray := by apply Array.ext'; simpa using hB
            refine ⟨#[u] ++ B.toArray, ?_, ?_⟩
            · have hpl : path.toList = [] := by simpa using hpath
              simp only [Deferred.ofValue, Sem.run_bind, Sem.run_pure, Result.andThen_ok]
              rw [hFA]
              simp [invoke, receiverVia, hpl, follow, hu, callFunc_run hg]
            · refine ⟨by simp [hRB.1], fun i x v hx hv => ?_⟩
              match i with
              | 0 => simp at hx hv; subst hx hv; exact hRu
              | i + 1 => simp only [List.getElem?_cons_succ] at hx; exact hRB.2 i x v hx (by simpa using hv)
          · cases h
        · cases h
      · cases h
  · rename_i name first cap
    cases hr with
    | fn _ F C _ _ hF hC h1 h2 =>
      have hL : RelL w Im T (F ++ A).toList (first ++ xs) := by
        rw [Array.toList_append]
        exact RelL.append ⟨by simpa using hF, fun i x v hx hv => h1 i x v hx (by simpa using hv)⟩ hA
      split at h
      · rename_i x rest e
        rw [e] at hL
        obtain ⟨a, B, hB, hRa, hRB⟩ := hL.cons_inv
        have hFA : F ++ A = (a :: B).toArray := by apply Array.ext'; simpa using hB
        obtain ⟨D, hD, hRD⟩ := invokeA_run (P := P) (A := B.toArray) hW hRa (by simpa using hRB) h hg
        refine ⟨D, ?_, hRD⟩
        simp only [Deferred.ofValue, Sem.run_bind, Sem.run_pure, Result.andThen_ok]
        rw [hFA]
        simp [invoke, hD]
      · cases h
  · cases h
theorem callOf_run {o : Oper} {a : Act} {env : Env} {f : FuncId} {xs : List AV} (hW : WRel w Im σ T) (hE : ERel w Im T a env) (h : callOf P o env σ = some (f, xs)) (hg : goodF P f = true) :
    ∃ B, (execOp a.eval o).run P w = .ok (.enter f B) w ∧ RelL w Im T B.toList xs := by
  unfold callOf at h
  split at h
  · rename_i c ho
    split at h
    · rename_i q hq
      obtain ⟨B, hB, hR⟩ := applyA_run (P := P) hW (evA_rel hE q) (evA_list hE c.args) h hg
      refine ⟨B, ?_, hR⟩
      simp only [execOp, ho, resolve, hq]
      exact hB
    · rename_i r name hr
      obtain ⟨B, hB, hR⟩ := invokeA_run (P := P) hW (evA_rel hE r) (evA_list hE c.args) h hg
      refine ⟨B, ?_, hR⟩
      simp only [execOp, ho, resolve, hr]
      have hFA : #[a.eval r] ++ c.args.map a.eval = (a.eval r :: (c.args.map a.eval).toList).toArray := by apply Array.ext'; simp
      simp only [Sem.run_bind, Sem.run_pure, Result.andThen_ok]
      rw [hFA]
      have ht : (List.take c.args.size (List.map a.eval c.args.toList)).toArray = Array.map a.eval c.args := by
        rw [List.take_of_length_le (by simp)]
        apply Array.ext'; simp
      simp only [invoke]
      simp [ht, hB]
    · cases h
  · cases h
end
end Go.Proofs.Ytemijcjgdgdhjaa
