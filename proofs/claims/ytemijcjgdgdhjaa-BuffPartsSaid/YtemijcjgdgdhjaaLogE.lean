/- Still more operations on values without memory: rows that are made, that grow; texts and bytes; what is made of several. No program. -/
import Derived.Test.YtemijcjgdgdhjaaLogD
namespace Go.Proofs.Ytemijcjgdgdhjaa
open Go.RowKit

section
variable {P : Program} {w : World} {Im : Nat → Prop} {σ σ' : Sto} {T : Tab}

/-- Parts laid into cells. -/
def fillA (place : Nat → Option (Nat × Nat)) (cells : List AV) : List (Nat × AV) → Option (List AV)
  | [] => some cells
  | (i, v) :: rest => match place i with
    | none => none
    | some (off, size) => if v.celled = true ∧ v.cellsOf.length = size ∧ off + size ≤ cells.length then fillA place (wr cells off v.cellsOf) rest else none
theorem fold_set (us : List Value) : ∀ (off j : Nat) (A : Array Value), off + j + us.length ≤ A.size →
    ((us.zipIdx j).foldl (fun cs (x : Value × Nat) => cs.setIfInBounds (off + x.2) x.1) A).size = A.size ∧
    ∀ i, ((us.zipIdx j).foldl (fun cs (x : Value × Nat) => cs.setIfInBounds (off + x.2) x.1) A)[i]? = if off + j ≤ i ∧ i < off + j + us.length then us[i - (off + j)]? else A[i]? := by
  induction us with
  | nil => intro off j A h; refine ⟨rfl, fun i => ?_⟩; rw [if_neg (by simp)]; rfl
  | cons u us ih =>
    intro off j A h
    simp only [List.length_cons] at h
    obtain ⟨h1, h2⟩ := ih off (j + 1) (A.setIfInBounds (off + j) u) (by simp; omega)
    simp only [List.zipIdx_cons, List.foldl_cons]
    refine ⟨by rw [h1]; simp, fun i => ?_⟩
    rw [h2]
    simp only [List.length_cons]
    by_cases e : off + j = i
    · rw [if_neg (by omega), if_pos (by omega), ← e]
      have : off + j < A.size := by omega
      simp [this]
    · by_cases e2 : off + j ≤ i ∧ i < off + j + (us.length + 1)
      · rw [if_pos (by omega), if_pos e2]
        rw [show i - (off + j) = (i - (off + (j + 1))) + 1 from by omega, List.getElem?_cons_succ]
      · rw [if_neg (by omega), if_neg e2, Array.getElem?_setIfInBounds_ne e]
theorem fill_cons {place : Nat → Option (Nat × Nat)} {A : Array Value} {i off size : Nat} {u : Value} {rest : List (Nat × Value)} (hp : place i = some (off, size)) (hu : u.cells.size = size) (h : off + size ≤ A.size) :
    ∃ B, Instr.fill place A ((i, u) :: rest) = Instr.fill place B rest ∧ B.size = A.size ∧ ∀ j : Nat, B[j]? = if off ≤ j ∧ j < off + size then u.cells[j - off]? else A[j]? := by
  obtain ⟨k1, k2⟩ := fold_set u.cells.toList off 0 A (by simp; omega)
  refine ⟨_, ?_, k1, fun j => ?_⟩
  · conv => lhs; unfold Instr.fill
    rw [hp]
    simp only [hu, ne_eq, not_true_eq_false]
    rw [if_neg (by simp; omega), ← Array.foldl_toList, Array.toList_zipIdx]
  · rw [k2]
    simp only [Nat.add_zero, Array.length_toList, hu, Array.getElem?_toList]
theorem fillA_run {place : Nat → Option (Nat × Nat)} : ∀ (parts : List (Nat × AV)) (vals : List (Nat × Value)) (A : Array Value) (xs ys : List AV), A.size = xs.length → (∀ (i : Nat) (x : AV) (v : Value), xs[i]? = some x → A[i]? = some v → Rel w Im T v x) →
    parts.length = vals.length → (∀ (i : Nat) (p : Nat × AV) (q : Nat × Value), parts[i]? = some p → vals[i]? = some q → p.1 = q.1 ∧ Rel w Im T q.2 p.2) → fillA place xs parts = some ys →
    ∃ B, Instr.fill place A vals = some B ∧ B.size = ys.length ∧ ys.length = xs.length ∧ ∀ (i : Nat) (x : AV) (v : Value), ys[i]? = some x → B[i]? = some v → Rel w Im T v x
  | [], vals, A, xs, ys, hA, h1, hl, _, h => by
    simp only [fillA, Option.some.injEq] at h
    subst h
    obtain rfl : vals = [] := List.length_eq_zero_iff.1 (by simpa using hl.symm)
    exact ⟨A, rfl, hA, rfl, h1⟩
  | (i, v) :: rest, [], A, xs, ys, hA, h1, hl, _, h => by simp at hl
  | (i, v) :: rest, (i', u) :: vals, A, xs, ys, hA, h1, hl, hr, h => by
    obtain ⟨e, hR⟩ := hr 0 (i, v) (i', u) rfl rfl
    simp only at e hR
    subst e
    unfold fillA at h
    split at h
    · cases h
    · rename_i off size hp
      split at h
      · rename_i hc
        obtain ⟨c1, c2, c3⟩ := hc
        have hL := hR.cells c1
        have hus : u.cells.size = size := by have := hL.1; simp at this; omega
        have hw : off + v.cellsOf.length ≤ xs.length := by omega
        obtain ⟨C, hC, k1, k2⟩ := fill_cons (rest := vals) (A := A) hp hus (by omega)
        obtain ⟨B, hB, hB1, hB2, hB3⟩ := fillA_run rest vals C (wr xs off v.cellsOf) ys (by rw [k1, wr_length _ _ _ hw]; exact hA) (by
          intro j x z hx hz
          rw [k2] at hz
          rw [wr_get _ _ _ hw, c2] at hx
          split at hx
          · rename_i hj
            rw [if_pos hj] at hz
            exact hL.2 _ x z hx (by simpa using hz)
          · rename_i hj
            rw [if_neg hj] at hz
            exact h1 j x z hx hz) (by simpa using hl) (fun j p q hp hq => hr (j + 1) p q hp hq) h
        exact ⟨B, by rw [hC]; exact hB, hB1, by rw [hB2, wr_length _ _ _ hw], hB3⟩
      · cases h

/-- The cells of a struct that is made. -/
def placesT (P : Program) (t : TypeId) : Option (List (Nat × Nat)) := match P.underlying t with
  | some (.struct fields) => fields.toList.mapM fun f => (P.info? f.type).map fun i => (f.offset, i.size)
  | _ => none
def buildA (P : Program) (t : TypeId) (parts : List (Nat × AV)) : Option AV :=
  match placesT P t, zeroA P t with
  | some ps, some z => (fillA (fun i => ps[i]?) z parts).map .agg
  | _, _ => none
theorem buildA_snd (hW : WRel w Im σ T) {t : TypeId} {parts : List (Nat × AV)} {vals : Array (Nat × Value)} {y : AV} (hl : parts.length = vals.size)
    (hr : ∀ (i : Nat) (p : Nat × AV) (q : Nat × Value), parts[i]? = some p → vals[i]? = some q → p.1 = q.1 ∧ Rel w Im T q.2 p.2) (h : buildA P t parts = some y) : SndV P (Instr.build t vals) w Im σ T y σ := by
  unfold buildA at h
  split at h
  · rename_i ps z hp hz
    obtain ⟨ys, hf, rfl⟩ := Option.map_eq_some_iff.1 h
    obtain ⟨zv, hz1, rfl, _⟩ := zeroA_run hz
    unfold placesT at hp
    split at hp
    · rename_i fields hu
      obtain ⟨B, hB, h1, h2, h3⟩ := fillA_run parts vals.toList zv.cells _ ys (by simp) (fun i x v hx hv => (relL_sc w Im T zv.cells.toList).2 i x v hx (by simpa using hv)) (by simpa using hl) (fun i p q hp hq => hr i p q hp (by simpa using hq)) hf
      refine .same hW (v := .agg B) ?_ (.agg _ _ h1 h3)
      simp [Instr.build, run_underlying hu, hz1, Array.mapM_eq_mapM_toList, run_places w _ _ hp, hB]
    · cases hp
  · cases h

/-- n cells of zeros. -/
def zerosA (z : List AV) (n : Nat) : List AV := match z with
  | [a] => List.replicate n a
  | _ => (List.range n).map fun i => (z[i % z.length]?).getD (.sc default)
theorem zerosA_length (z : List AV) (n : Nat) : (zerosA z n).length = n := by unfold zerosA; split <;> simp
theorem zerosA_rel (z : Array Value) (n : Nat) (i : Nat) (x : AV) (v : Value) (hx : (zerosA (z.toList.map .sc) n)[i]? = some x) (hv : ((Array.range n).map (fun j => z[j % z.size]!))[i]? = some v) : x = .sc v := by
  have hi : i < n := by have := lt_of_get hx; rwa [zerosA_length] at this
  simp only [Array.getElem?_map, Array.getElem?_range, hi, if_true, Option.map_some, Option.some.injEq] at hv
  subst hv
  unfold zerosA at hx
  split at hx
  · rename_i a ha
    have hz : z = #[z[0]!] := by
      apply Array.ext'
      cases hzl : z.toList with
      | nil => rw [hzl] at ha; simp at ha
      | cons b l =>
        rw [hzl] at ha
        cases l with
        | nil =>
          have : z = #[b] := by apply Array.ext'; rw [hzl]
          subst this; rfl
        | cons _ _ => simp at ha
    have ha' : a = .sc z[0]! := by rw [hz] at ha; simp at ha; exact ha.symm
    simp only [List.getElem?_replicate, hi, if_true, Option.some.injEq] at hx
    rw [← hx, ha', hz]
    simp [Nat.mod_one]
  · simp only [List.getElem?_map, List.getElem?_range hi, Option.map_some, Option.some.injEq, List.length_map, Array.length_toList] at hx
    rw [← hx]
    by_cases hm : i % z.size < z.size
    · simp [hm]
    · have : z.size = 0 := by
        rcases Nat.eq_zero_or_pos z.size with h | h
        · exact h
        · exact absurd (Nat.mod_lt _ h) hm
      have hz : z = #[] := Array.eq_empty_of_size_eq_zero this
      subst hz; simp

def buildSliceA (P : Program) (mu : Bool) (σ : Sto) (t : TypeId) (len : Nat) (parts : List (Nat × AV)) : Option (AV × Sto) :=
  match elemOfT P t with
  | some (e, k) => match zeroA P e with
    | some z => if len * k ≤ 16777216 ∧ 0 < len * k then (fillA (fun i => some (i * k, k)) (zerosA z (len * k)) parts).map fun cs => bornS mu σ cs len k
      else if len = 0 ∧ parts = [] then some (bornS mu σ [] 0 k) else none
    | none => none
  | none => none
theorem buildSliceA_snd (hW : WRel w Im σ T) {t : TypeId} {mu : Bool} {len : Nat} {parts : List (Nat × AV)} {vals : Array (Nat × Value)} {y : AV} (hl : parts.length = vals.size)
    (hr : ∀ (i : Nat) (p : Nat × AV) (q : Nat × Value), parts[i]? = some p → vals[i]? = some q → p.1 = q.1 ∧ Rel w Im T q.2 p.2) (h : buildSliceA P mu σ t len parts = some (y, σ')) : SndV P (Instr.buildSlice t len vals) w Im σ T y σ' := by
  unfold buildSliceA at h
  split at h
  · rename_i e k he
    obtain ⟨hu, hk⟩ := elemOfT_spec he
    split at h
    · rename_i z hz
      obtain ⟨zv, hz1, rfl, hz2⟩ := zeroA_run hz
      split at h
      · rename_i hb
        obtain ⟨cs, hf, he⟩ := Option.map_eq_some_iff.1 h
        obtain ⟨B, hB, h1, h2, h3⟩ := fillA_run parts vals.toList ((Array.range (len * k)).map (fun j => zv.cells[j % zv.cells.size]!)) (zerosA (zv.cells.toList.map .sc) (len * k)) cs (by rw [zerosA_length]; simp)
          (fun i x v hx hv => by rw [zerosA_rel _ _ i x v hx hv]; exact .sc v) (by simpa using hl) (fun i p q hp hq => hr i p q hp (by simpa using hq)) hf
        rw [zerosA_length] at h2
        obtain ⟨Im', T', q1, q2, q3⟩ := bornS_rel hW mu B e cs len k len (by omega) (Nat.le_refl _) (by rw [h1]; omega) h3
        rw [he] at q1 q2 q3
        refine ⟨_, _, Im', T', ?_, q1, q2, q3⟩
        have h0 : ¬ len * k = 0 := by omega
        have h24 : ¬ 16777216 < len * k := by omega
        simp [Instr.buildSlice, run_underlying hu, run_sizeOf hk, h0, h24, hz1, hB, newRow]
      · split at h
        · rename_i hb
          obtain ⟨rfl, rfl⟩ := hb
          obtain rfl : vals = #[] := by
            apply Array.eq_empty_of_size_eq_zero; simpa using hl.symm
          simp only [Option.some.injEq] at h
          obtain ⟨Im', T', q1, q2, q3⟩ := bornS_rel hW mu #[] e [] 0 k 0 (by simp) (Nat.le_refl _) (by simp) (fun i x v hx _ => by simp at hx)
          rw [h] at q1 q2 q3
          exact ⟨_, _, Im', T', by simp [Instr.buildSlice, run_underlying hu, run_sizeOf hk, Instr.fill, newRow]; congr 2; apply Array.eq_empty_of_size_eq_zero; simp, q1, q2, q3⟩
        · cases h
    · cases h
  · cases h

def bytesT (P : Program) (t : TypeId) : Option Nat := (P.info? t).map (·.bytes)
def makeSliceA (P : Program) (mu : Bool) (σ : Sto) (t : TypeId) (len cap : AV) : Option (AV × Sto) :=
  match elemOfT P t, len, cap with
  | some (e, k), .sc (.int _ n), .sc (.int _ c) => match zeroA P e, bytesT P e with
    | some z, some by_ => if 0 ≤ n ∧ n ≤ c ∧ c ≤ 281474976710656 ∧ (by_ : Int) * c ≤ 281474976710656 then some (bornS mu σ (zerosA z (n.toNat * k)) n.toNat k) else none
    | _, _ => none
  | _, _, _ => none
theorem makeSliceA_snd (hW : WRel w Im σ T) {t : TypeId} {mu : Bool} {len cap : AV} {vl vc : Value} {y : AV} (hl : Rel w Im T vl len) (hc : Rel w Im T vc cap) (h : makeSliceA P mu σ t len cap = some (y, σ')) : SndV P (Instr.makeSlice t vl vc) w Im σ T y σ' := by
  unfold makeSliceA at h
  split at h
  · rename_i e k k1 n k2 c he
    obtain ⟨hu, hk⟩ := elemOfT_spec he
    cases hl; cases hc
    split at h
    · rename_i z by_ hz hby
      obtain ⟨zv, hz1, rfl, hz2⟩ := zeroA_run hz
      split at h
      · rename_i hb
        obtain ⟨b1, b2, b3, b4⟩ := hb
        simp only [Option.some.injEq] at h
        obtain ⟨ie, hie, rfl⟩ := Option.map_eq_some_iff.1 hby
        have hnc : n.toNat * k ≤ c.toNat * k := Nat.mul_le_mul_right _ (by omega)
        obtain ⟨Im', T', q1, q2, q3⟩ := bornS_rel hW mu ((Array.range (c.toNat * k)).map (fun j => (if c.toNat * k = 0 then #[] else zv.cells)[j % (if c.toNat * k = 0 then #[] else zv.cells).size]!)) e (zerosA (zv.cells.toList.map .sc) (n.toNat * k)) n.toNat k c.toNat (by rw [zerosA_length]; simp; exact hnc) (by omega) (by simp)
          (fun i x v hx hv => by
            have hi : i < n.toNat * k := by have := lt_of_get hx; rwa [zerosA_length] at this
            have h0 : ¬ c.toNat * k = 0 := by omega
            simp only [h0, if_false] at hv
            have hv' : ((Array.range (n.toNat * k)).map (fun j => zv.cells[j % zv.cells.size]!))[i]? = some v := by
              simp only [Array.getElem?_map, Array.getElem?_range] at hv ⊢
              rw [if_pos (by omega)] at hv
              rw [if_pos hi]; exact hv
            rw [zerosA_rel _ _ i x v hx hv']; exact .sc v)
        rw [h] at q1 q2 q3
        refine ⟨_, _, Im', T', ?_, q1, q2, q3⟩
        have w1 : IntKind.i64.wrap n = n := by rw [IntKind.wrap_i64]; omega
        have w2 : IntKind.i64.wrap c = c := by rw [IntKind.wrap_i64]; omega
        have t1 : ¬ c < 0 := by omega
        have t2 : ¬ n < 0 := by omega
        have t3 : ¬ c < n := by omega
        have t4 : ¬ (281474976710656 : Int) < ie.bytes * c := by omega
        by_cases h0 : c.toNat * k = 0
        · simp [Instr.makeSlice, run_underlying hu, asInt, asIntOf, typeInfo, hie, w1, w2, t1, t2, t3, t4, run_sizeOf hk, h0, newRow]
        · simp [Instr.makeSlice, run_underlying hu, asInt, asIntOf, typeInfo, hie, w1, w2, t1, t2, t3, t4, run_sizeOf hk, h0, newRow, hz1]
      · cases h
    · cases h
  · cases h

/-- The cells of a slice's elements (or a text's bytes), and how many elements. -/
def bytesA (s : ByteArray) : List AV := s.data.toList.map fun b => .sc (.int .u8 b.toNat)
def slcCells (σ : Sto) (x : AV) (k : Nat) : Option (Nat × List AV) :=
  match x with
  | .fs cs len => if cs.length = len * k then some (len, cs) else none
  | .ms l g off len k' => match σ[l]? with
    | some o => if o.gen = g ∧ k' = k ∧ off + len * k ≤ o.cells.length then some (len, (o.cells.drop off).take (len * k)) else none
    | none => none
  | .sc (.slice none 0 0) => some (0, [])
  | .sc (.string s) => if k = 1 then some (s.size, bytesA s) else none
  | _ => none
theorem slcCells_rel (hW : WRel w Im σ T) {v : Value} {x : AV} {k n : Nat} {ys : List AV} (hr : Rel w Im T v x) (h : slcCells σ x k = some (n, ys)) :
    ys.length = n * k ∧ ∃ us, RelL w Im T us ys ∧ (∀ w' : World, (Builtin.lenOf v).run P w' = .ok n w') ∧ (∀ w' : World, w'.heap = w.heap → ∀ m, m ≤ n → (Builtin.firstCells k m v).run P w' = .ok (us.take (m * k)).toArray w') := by
  cases x with
  | fs cs len =>
    simp only [slcCells] at h
    split at h
    · rename_i hc
      simp only [Option.some.injEq, Prod.mk.injEq] at h
      obtain ⟨rfl, rfl⟩ := h
      cases hr with
      | fs b o _ cap _ vs hl h1 h2 =>
        refine ⟨hc, (List.range (len * k)).map vs, ⟨by simp [hc], fun i x v hx hv => ?_⟩, fun w' => by simp [Builtin.lenOf], fun w' hw' m hm => ?_⟩
        · have hi : i < len * k := by have := lt_of_get hx; omega
          simp only [List.getElem?_map, List.getElem?_range hi, Option.map_some, Option.some.injEq] at hv
          subst hv
          exact h2 i x hx
        · have hmk : m * k ≤ len * k := Nat.mul_le_mul_right _ hm
          refine run_firstCells_some w' k m _ len cap _ (by rw [List.length_take, List.length_map, List.length_range]; omega) (fun j u hu => ?_)
          have hi : j < m * k := by have := lt_of_get hu; rw [List.length_take] at this; omega
          rw [List.getElem?_take_of_lt hi] at hu
          simp only [List.getElem?_map, List.getElem?_range (show j < len * k by omega), Option.map_some, Option.some.injEq] at hu
          subst hu
          rw [Addr.add_lit]
          have := (h1 j cs[j] (List.getElem?_eq_getElem (by omega))).2
          simpa [World.cell?, hw'] using this
      | fn0 =>
        refine ⟨by simp, [], ⟨rfl, fun i x v hx _ => by simp at hx⟩, fun w' => by simp [Builtin.lenOf], fun w' _ m hm => ?_⟩
        simp [Builtin.firstCells]
      | fs0 a cap =>
        refine ⟨by simp, [], ⟨rfl, fun i x v hx _ => by simp at hx⟩, fun w' => by simp [Builtin.lenOf], fun w' _ m hm => ?_⟩
        obtain rfl : m = 0 := by omega
        simpa using run_firstCells_some w' k 0 a 0 cap [] (by simp) (fun j u hu => by simp at hu)
    · cases h
  | ms l g off len k' =>
    simp only [slcCells] at h
    split at h
    · rename_i o ho
      split at h
      · rename_i hc
        obtain ⟨hg, rfl, hle⟩ := hc
        simp only [Option.some.injEq, Prod.mk.injEq] at h
        obtain ⟨rfl, rfl⟩ := h
        cases hr with
        | ms a _ _ _ _ _ cap p hp hge hl hs hpl =>
          have hgen := hW.gen l o p ho hp
          obtain ⟨ha, hcap⟩ := hpl (by omega)
          obtain ⟨c, t, fz, hc, hfz, hsz, hrel⟩ := hW.obj l o p ho hp
          have hrm := hW.room l o p ho hp
          subst ha
          refine ⟨by simp; omega, (c.toList.drop (p.base + off)).take (len * k'), ⟨by simp; omega, fun i x v hx hv => ?_⟩, fun w' => by simp [Builtin.lenOf], fun w' hw' m hm => ?_⟩
          · have hi : i < len * k' := by have := lt_of_get hx; simp at this; omega
            rw [List.getElem?_take_of_lt hi, List.getElem?_drop] at hx hv
            exact hrel (off + i) x v hx (by rw [← Nat.add_assoc]; simpa using hv)
          · have hmk : m * k' ≤ len * k' := Nat.mul_le_mul_right _ hm
            refine run_firstCells_some w' k' m _ len cap _ (by rw [List.length_take, List.length_take, List.length_drop, Array.length_toList]; omega) (fun j u hu => ?_)
            have hi : j < m * k' := by have := lt_of_get hu; rw [List.length_take] at this; omega
            rw [List.getElem?_take_of_lt hi, List.getElem?_take_of_lt (by omega), List.getElem?_drop] at hu
            rw [Addr.add_lit]
            simp only [World.cell?, hw', hc]
            simpa using hu
      · cases h
    · cases h
  | sc u =>
    cases hr
    unfold slcCells at h
    split at h
    · rename_i e; cases e
    · rename_i e; cases e
    · rename_i e
      cases e
      simp only [Option.some.injEq, Prod.mk.injEq] at h
      obtain ⟨rfl, rfl⟩ := h
      refine ⟨by simp, [], ⟨rfl, fun i x v hx _ => by simp at hx⟩, fun w' => by simp [Builtin.lenOf], fun w' _ m hm => ?_⟩
      simp [Builtin.firstCells]
    · rename_i s e
      cases e
      split at h
      · rename_i hk
        subst hk
        simp only [Option.some.injEq, Prod.mk.injEq] at h
        obtain ⟨rfl, rfl⟩ := h
        refine ⟨by simp [bytesA], s.data.toList.map fun b => .int .u8 b.toNat, ⟨by simp [bytesA], fun i x v hx hv => ?_⟩, fun w' => by simp [Builtin.lenOf], fun w' _ m hm => ?_⟩
        · simp only [bytesA, List.getElem?_map] at hx hv
          cases hb : s.data.toList[i]? with
          | none => rw [hb] at hx; simp at hx
          | some b => rw [hb] at hx hv; simp at hx hv; rw [← hx, ← hv]; exact .sc _
        · simp only [Builtin.firstCells, Nat.mul_one]
          have : (ByteArray.extract s 0 m).data = (s.data.toList.take m).toArray := by
            apply Array.ext'
            simp [ByteArray.data_extract]
          simp
          apply Array.ext'
          simp [← List.map_take]
      · cases h
    · cases h
  | _ => simp [slcCells] at h
end
end Go.Proofs.Ytemijcjgdgdhjaa
