/- The whole of an operation that calls no Go function (evalOp), and that the machine does it. No program. -/
import Derived.Test.YtemijcjgdgdhjaaLogG
namespace Go.Proofs.Ytemijcjgdgdhjaa
open Go.RowKit

section
variable {P : Program} {w : World} {Im : Nat → Prop} {σ σ' : Sto} {T : Tab}

def ptrNil : AV → Option Bool
  | .fp _ _ => some false
  | .mp _ _ _ => some false
  | .sc (.pointer none) => some true
  | _ => none
def slcNil : AV → Option Bool
  | .fs _ (_ + 1) => some false
  | .ms _ _ _ _ _ => some false
  | .sc (.slice none _ _) => some true
  | _ => none
def fnNil : AV → Option Bool
  | .fn _ _ _ => some false
  | .sc .nilFunc => some true
  | _ => none
def ifNil : AV → Option Bool
  | .iface _ _ => some false
  | .sc .nilIface => some true
  | _ => none
/-- Two of which one is nil. -/
def nilEq : Option Bool → Option Bool → Option Bool
  | some true, some b => some b
  | some false, some true => some false
  | _, _ => none
def eqFieldsA (P : Program) (E : TypeId → AV → AV → Option Bool) (xs ys : List AV) : List Field → Option Bool
  | [] => some true
  | f :: fs => if f.name = "_" then eqFieldsA P E xs ys fs else
    match partA P f.type xs f.offset, partA P f.type ys f.offset with
    | some a, some b => match E f.type a b, eqFieldsA P E xs ys fs with
      | some r, some q => some (r && q)
      | _, _ => none
    | _, _ => none
/-- Whether two are the same. -/
def eqV (P : Program) : Nat → TypeId → AV → AV → Option Bool
  | 0, _, _, _ => none
  | d + 1, t, x, y => match P.underlying t with
    | some (.int _) => match x, y with
      | .sc (.int k a), .sc (.int k' b) => if k = k' then some (decide (a = b)) else none
      | _, _ => none
    | some .bool => match x, y with
      | .sc (.bool a), .sc (.bool b) => some (a == b)
      | _, _ => none
    | some .string => match x, y with
      | .sc (.string a), .sc (.string b) => some (decide (a = b))
      | _, _ => none
    | some (.pointer _) => nilEq (ptrNil x) (ptrNil y)
    | some (.slice _) => nilEq (slcNil x) (slcNil y)
    | some (.func _ _ _) => nilEq (fnNil x) (fnNil y)
    | some (.interface _) => nilEq (ifNil x) (ifNil y)
    | some (.struct fs) => match x, y with
      | .agg xs, .agg ys => if P.stoodInHeld t = false then eqFieldsA P (eqV P d) xs ys fs.toList else none
      | _, _ => none
    | _ => none
theorem nilEq_spec {a b : Option Bool} {r : Bool} (h : nilEq a b = some r) : (a = some true ∧ b = some r) ∨ (a = some false ∧ b = some true ∧ r = false) := by
  unfold nilEq at h
  split at h <;> simp_all
theorem beqDec (a b : ByteArray) : (a == b) = decide (a = b) := by rw [beq_toListBytes, beq_is]
theorem eqFields_run {d : Nat} {E : TypeId → AV → AV → Option Bool} (hE : ∀ (t : TypeId) (x y : AV) (u v : Value) (r : Bool), E t x y = some r → Rel w Im T u x → Rel w Im T v y → (Op.equalIn d t u v).run P w = .ok r w) {A B : Array Value} {xs ys : List AV}
    (hA : A.size = xs.length) (h1 : ∀ (i : Nat) (x : AV) (v : Value), xs[i]? = some x → A[i]? = some v → Rel w Im T v x) (hB : B.size = ys.length) (h2 : ∀ (i : Nat) (x : AV) (v : Value), ys[i]? = some x → B[i]? = some v → Rel w Im T v x) :
    ∀ (fs : List Field) (r : Bool), eqFieldsA P E xs ys fs = some r → (Op.eqFields d A B fs).run P w = .ok r w
  | [], r, h => by simp only [eqFieldsA, Option.some.injEq] at h; subst h; simp [Op.eqFields]
  | f :: fs, r, h => by
    unfold eqFieldsA at h
    unfold Op.eqFields
    split at h
    · rename_i hn
      simp only [hn, ne_eq, not_true_eq_false, if_false]
      exact eqFields_run hE hA h1 hB h2 fs r h
    · rename_i hn
      simp only [ne_eq, hn, not_false_eq_true, if_true]
      split at h
      · rename_i a b ha hb
        split at h
        · rename_i r1 q hr hq
          cases h
          obtain ⟨u, hu, hRu⟩ := partA_run (P := P) hA h1 ha
          obtain ⟨v, hv, hRv⟩ := partA_run (P := P) hB h2 hb
          have he := hE _ _ _ _ _ _ hr hRu hRv
          have hrest := eqFields_run hE hA h1 hB h2 fs q hq
          simp only [Sem.run_bind, hu, hv, he, Result.andThen_ok]
          cases r1
          · simp
          · simpa using hrest
        · cases h
      · cases h
theorem eqV_run : ∀ (n d : Nat) (t : TypeId) (x y : AV) (u v : Value) (r : Bool), eqV P n t x y = some r → n ≤ d → Rel w Im T u x → Rel w Im T v y → (Op.equalIn d t u v).run P w = .ok r w
  | 0, d, t, x, y, u, v, r, h, _, _, _ => by simp [eqV] at h
  | n + 1, 0, t, x, y, u, v, r, h, hd, _, _ => by omega
  | n + 1, d + 1, t, x, y, u, v, r, h, hd, hu, hv => by
    unfold eqV at h
    split at h
    · rename_i k ht
      split at h
      · split at h
        · rename_i e
          subst e
          cases h; cases hu; cases hv
          rw [run_equalIn_int _ _ _ _ _ _ _ ht]
          congr 1
        · cases h
      · cases h
    · rename_i ht
      split at h
      · cases h; cases hu; cases hv
        exact run_equalIn_bool' _ _ _ _ _ ht
      · cases h
    · rename_i ht
      split at h
      · cases h; cases hu; cases hv
        rw [run_equalIn_string _ _ _ _ _ ht, beq_is]
      · cases h
    · rename_i e ht
      rcases nilEq_spec h with ⟨h1, h2⟩ | ⟨h1, h2, rfl⟩
      · have : u = .pointer none := by
          unfold ptrNil at h1
          split at h1 <;> simp at h1
          cases hu; rfl
        subst this
        unfold ptrNil at h2
        split at h2 <;> simp at h2 <;> subst h2 <;> cases hv <;> simp [Op.equalIn, run_underlying ht]
      · have : v = .pointer none := by
          unfold ptrNil at h2
          split at h2 <;> simp at h2
          cases hv; rfl
        subst this
        unfold ptrNil at h1
        split at h1 <;> simp at h1 <;> cases hu <;> simp [Op.equalIn, run_underlying ht]
    · rename_i e ht
      rcases nilEq_spec h with ⟨h1, h2⟩ | ⟨h1, h2, rfl⟩
      · obtain ⟨l, c, rfl⟩ : ∃ l c, u = .slice none l c := by
          unfold slcNil at h1
          split at h1 <;> simp at h1
          cases hu; exact ⟨_, _, rfl⟩
        unfold slcNil at h2
        split at h2 <;> simp at h2 <;> subst h2 <;> cases hv <;> simp [Op.equalIn, run_underlying ht]
      · obtain ⟨l, c, rfl⟩ : ∃ l c, v = .slice none l c := by
          unfold slcNil at h2
          split at h2 <;> simp at h2
          cases hv; exact ⟨_, _, rfl⟩
        unfold slcNil at h1
        split at h1 <;> simp at h1 <;> cases hu <;> simp [Op.equalIn, run_underlying ht]
    · rename_i ht
      rcases nilEq_spec h with ⟨h1, h2⟩ | ⟨h1, h2, rfl⟩
      · have : u = .nilFunc := by
          unfold fnNil at h1
          split at h1 <;> simp at h1
          cases hu; rfl
        subst this
        unfold fnNil at h2
        split at h2 <;> simp at h2 <;> subst h2 <;> cases hv <;> simp [Op.equalIn, run_underlying ht]
      · have : v = .nilFunc := by
          unfold fnNil at h2
          split at h2 <;> simp at h2
          cases hv; rfl
        subst this
        unfold fnNil at h1
        split at h1 <;> simp at h1 <;> cases hu <;> simp [Op.equalIn, run_underlying ht]
    · rename_i ht
      rcases nilEq_spec h with ⟨h1, h2⟩ | ⟨h1, h2, rfl⟩
      · have : u = .nilIface := by
          unfold ifNil at h1
          split at h1 <;> simp at h1
          cases hu; rfl
        subst this
        unfold ifNil at h2
        split at h2 <;> simp at h2 <;> subst h2 <;> cases hv <;> simp [Op.equalIn, run_underlying ht]
      · have : v = .nilIface := by
          unfold ifNil at h2
          split at h2 <;> simp at h2
          cases hv; rfl
        subst this
        unfold ifNil at h1
        split at h1 <;> simp at h1 <;> cases hu <;> simp [Op.equalIn, run_underlying ht]
    · rename_i fs ht
      split at h
      · split at h
        · rename_i hst
          cases hu with
          | agg A _ hA h1 =>
            cases hv with
            | agg B _ hB h2 =>
              have hf : P.fieldsOf t = fs := by simp [Program.fieldsOf, ht]
              rw [run_equalIn_struct w d t A B (by rw [hf]; exact ht) hst, hf]
              exact eqFields_run (fun t x y u v r h hu hv => eqV_run n d t x y u v r h (by omega) hu hv) hA h1 hB h2 fs.toList r h
        · cases h
      · cases h
    · cases h

def intBin (op : BinOp) (k : IntKind) (a b : Int) : Option AV :=
  match op with
  | .add => some (.sc (.int k (k.wrap (a + b))))
  | .sub => some (.sc (.int k (k.wrap (a - b))))
  | .mul => some (.sc (.int k (k.wrap (a * b))))
  | .quo => if b = 0 then none else some (.sc (.int k (k.wrap (a.tdiv b))))
  | .rem => if b = 0 then none else some (.sc (.int k (a.tmod b)))
  | .and => some (.sc (.int k (k.wrap (BitVec.ofInt k.bits a &&& BitVec.ofInt k.bits b).toNat)))
  | .or => some (.sc (.int k (k.wrap (BitVec.ofInt k.bits a ||| BitVec.ofInt k.bits b).toNat)))
  | .xor => some (.sc (.int k (k.wrap (BitVec.ofInt k.bits a ^^^ BitVec.ofInt k.bits b).toNat)))
  | .eql => some (.sc (.bool (decide (a = b))))
  | .neq => some (.sc (.bool (!decide (a = b))))
  | .lss => some (.sc (.bool (decide (a < b))))
  | .leq => some (.sc (.bool (decide (a ≤ b))))
  | .gtr => some (.sc (.bool (decide (b < a))))
  | .geq => some (.sc (.bool (decide (b ≤ a))))
  | _ => none
def shBin (op : BinOp) (k : IntKind) (a b : Int) : Option AV :=
  if b < 0 then none else match op with
  | .shl => some (.sc (.int k (k.wrap (a * 2 ^ (min b.toNat k.bits)))))
  | .shr => some (.sc (.int k (a.fdiv (2 ^ (min b.toNat k.bits)))))
  | _ => none
def strBin (op : BinOp) (a b : ByteArray) : Option AV :=
  match op with
  | .add => if a.size + b.size ≤ 9223372036854775807 then some (.sc (.string (a ++ b))) else none
  | .eql => some (.sc (.bool (decide (a = b))))
  | .neq => some (.sc (.bool (!decide (a = b))))
  | .lss => some (.sc (.bool (slt a b)))
  | .gtr => some (.sc (.bool (slt b a)))
  | .leq => some (.sc (.bool (!slt b a)))
  | .geq => some (.sc (.bool (!slt a b)))
  | _ => none
def isSh : BinOp → Bool
  | .shl => true
  | .shr => true
  | _ => false
def eqGuardA (P : Program) (t : TypeId) (c : Bool) : AV → AV → Bool
  | .agg _, .agg _ => !(P.eqGuardType P.depth t)
  | .sc .nilIface, .sc .nilIface => c
  | _, _ => true
def eqA (P : Program) (t : TypeId) (c : Bool) (x y : AV) : Option Bool := if eqGuardA P t c x y = true then eqV P 8 t x y else none
def binA (P : Program) (op : BinOp) (t : TypeId) (c : Bool) (x y : AV) : Option AV :=
  match x, y with
  | .sc (.int k a), .sc (.int k' b) => if isSh op = true then shBin op k a b else if k = k' then intBin op k a b else none
  | .sc (.string a), .sc (.string b) => strBin op a b
  | x, y => match op with
    | .eql => (eqA P t c x y).map fun r => .sc (.bool r)
    | .neq => (eqA P t c x y).map fun r => .sc (.bool (!r))
    | _ => none
end
end Go.Proofs.Ytemijcjgdgdhjaa
