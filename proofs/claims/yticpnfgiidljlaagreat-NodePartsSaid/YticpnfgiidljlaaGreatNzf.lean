/- NodeParts's body: leaves. -/
import Derived.Test.YticpnfgiidljlaaGreatNt
import Derived.Test.YticpnfgiidljlaaGreatLr
import Derived.Test.YticpnfgiidljlaaGreatNx
import Derived.Test.YticpnfgiidljlaaGreatNi
import Derived.Test.YticpnfgiidljlaaGreatNp
import Derived.Test.YticpnfgiidljlaaGreatNr
import Derived.Test.YticpnfgiidljlaaGreatEj
import Derived.Test.YticpnfgiidljlaaGreatLw
namespace Go.Proofs.YticpnfgiidljlaaGreat
open Go.RowKit
set_option linter.unusedSimpArgs false
set_option linter.unusedVariables false
def NodeV.isL : NodeV → Bool
  | .l _ => true
  | .i _ _ _ => false
def NodeV.small : NodeV → Prop
  | .l o => o.length ≤ 90000
  | .i k p m => k.length ≤ 90000 ∧ p.length ≤ 90000 ∧ m.length ≤ 90000
theorem dFits_v (n : NodeV) (h : n.small) : PSpec Tryz.prog 11 [n.av] (.sc (.bool n.fits)) := by
  cases n with
  | l o => exact dFits_l o
  | i k p m => exact dFits_i k p m (by have := h.1; omega)
def sameB : NodeV → NodeV → Bool
  | .l o, .l o' => decide (o = o')
  | .i k p m, .i k' p' m' => decide (k = k') && decide (p = p') && decide (m = m')
  | _, _ => false
theorem dSame_v (n n' : NodeV) (h : n.small) (h' : n'.small) : PSpec Tryz.prog 13 [n.av, n'.av] (.sc (.bool (sameB n n'))) := by
  cases n with
  | l o =>
    cases n' with
    | l o' => exact dSame_ll o o' (by have : o.length ≤ 90000 := h; omega) (by have : o'.length ≤ 90000 := h'; omega)
    | i k p m => exact dSame_li o k p m
  | i k p m =>
    cases n' with
    | l o => exact dSame_il o k p m
    | i k' p' m' =>
      obtain ⟨a, b, c⟩ := h
      obtain ⟨a', b', c'⟩ := h'
      exact dSame_ii k k' p p' m m' (by omega) (by omega) (by omega) (by omega) (by omega) (by omega)
def NodeV.kids : NodeV → List Int
  | .l _ => []
  | .i k _ _ => k
def NodeV.ms : NodeV → List Msg
  | .l _ => []
  | .i _ _ m => m
theorem dBytes_g (n : NodeV) (hg : n.good) (h : n.small) : PSpec Tryz.prog 10 [n.av] (if n.fits = true then .tup [.sc (.string (ofL' n.bytes)), .sc (.int .i64 0)] else .tup [.sc (.string ⟨#[]⟩), .sc (.int .i64 8)]) := by
  refine dBytes_v n ?_
  cases n with
  | l o => trivial
  | i k p m => exact ⟨hg.1, hg.2.2, by have := h.1; omega⟩
end Go.Proofs.YticpnfgiidljlaaGreat
namespace Go.Proofs.YticpnfgiidljlaaGreat
open Go.RowKit
set_option linter.unusedSimpArgs false
set_option linter.unusedVariables false
set_option maxRecDepth 10000
theorem great12_no {o : List Item} {k : List Int} {p : List Str} {m : List Msg} (h : great12 o k p m = false) : o.length ≤ 60 ∧ k.length ≤ 30 ∧ p.length ≤ 30 ∧ m.length ≤ 40 := by
  unfold great12 at h
  simp only [Bool.or_eq_false_iff, decide_eq_false_iff_not] at h
  omega
theorem madeV_good {b : Bool} {o : List Item} {k : List Int} {p : List Str} {m : List Msg} {n : NodeV} (h : madeV b o k p m = some n) : n.good := by
  unfold madeV at h
  split at h
  · exact nodeL_good h
  · exact nodeI_good h
theorem madeV_isL {b : Bool} {o : List Item} {k : List Int} {p : List Str} {m : List Msg} {n : NodeV} (h : madeV b o k p m = some n) : n.isL = b := by
  unfold madeV at h
  cases b with
  | true =>
    rw [if_pos rfl] at h
    unfold nodeL at h
    split at h
    · cases ho : ofL o <;> rw [ho] at h <;> cases h
      rfl
    · cases h
  | false =>
    rw [if_neg (by simp)] at h
    unfold nodeI at h
    split at h
    · cases h; rfl
    · cases h
theorem madeV_small {b : Bool} {o : List Item} {k : List Int} {p : List Str} {m : List Msg} {n : NodeV} (h : madeV b o k p m = some n) (h0 : o.length ≤ 60) (h1 : k.length ≤ 30) (h2 : p.length ≤ 30) (h3 : m.length ≤ 40) : n.small := by
  unfold madeV at h
  cases b with
  | true =>
    rw [if_pos rfl] at h
    unfold nodeL at h
    split at h
    · cases ho : ofL o with
      | none => rw [ho] at h; cases h
      | some q =>
        rw [ho] at h
        cases h
        have := (ofL_some ho).2.length_eq
        show q.length ≤ 90000
        omega
    · cases h
  | false =>
    rw [if_neg (by simp)] at h
    unfold nodeI at h
    split at h
    · rename_i hc
      cases h
      have := (withM_ok m [] (by simp [Rise]) (by simp) (List.all_eq_true.1 hc.1)).2.2
      refine ⟨by omega, by omega, ?_⟩
      simp at this
      omega
    · cases h
end Go.Proofs.YticpnfgiidljlaaGreat
namespace Go.Proofs.YticpnfgiidljlaaGreat
open Go.RowKit
set_option linter.unusedSimpArgs false
end Go.Proofs.YticpnfgiidljlaaGreat
namespace Go.Proofs.YticpnfgiidljlaaGreat
open Go.RowKit
set_option linter.unusedSimpArgs false
set_option linter.unusedVariables false
set_option maxRecDepth 10000
end Go.Proofs.YticpnfgiidljlaaGreat
namespace Go.Proofs.YticpnfgiidljlaaGreat
open Go.RowKit
set_option linter.unusedSimpArgs false
set_option linter.unusedVariables false
set_option maxRecDepth 10000
end Go.Proofs.YticpnfgiidljlaaGreat
namespace Go.Proofs.YticpnfgiidljlaaGreat
open Go.RowKit
set_option linter.unusedSimpArgs false
set_option linter.unusedVariables false
set_option maxRecDepth 10000
theorem fits_small {n : NodeV} (hg : n.good) (hf : n.fits = true) : n.small := by
  cases n with
  | l o =>
    have hw : iwts o ≤ 240 := by simpa [NodeV.fits] using hf
    have hl := iwts_len o
    show o.length ≤ 90000
    omega
  | i k p m =>
    obtain ⟨g1, g2, g3, g4⟩ := goodIn_iff.1 hg.1
    obtain ⟨f1, f2, f3⟩ := fitsIn_iff.1 hf
    have hl := mwts_len m
    exact ⟨by omega, by omega, by omega⟩
theorem sameB_self (n : NodeV) : sameB n n = true := by cases n <;> simp [sameB]
end Go.Proofs.YticpnfgiidljlaaGreat
namespace Go.Proofs.YticpnfgiidljlaaGreat
open Go.RowKit
set_option linter.unusedSimpArgs false
set_option linter.unusedVariables false
set_option maxRecDepth 10000
theorem itemsB_len (o : List Item) : ((o.flatMap itemB).length : Int) = iwts o := by
  induction o with
  | nil => rfl
  | cons x o ih =>
    have h1 : iwts (x :: o) = iwt x + iwts o := by simp [iwts]
    have h2 : iwt x = 2 + (x.key.size : Int) + (x.val.size : Int) := rfl
    rw [h1, h2, ← ih, List.flatMap_cons, List.length_append]
    simp [itemB, textB, strL_len]
    omega
theorem msgsB_len (o : List Msg) : ((o.flatMap msgB).length : Int) = mwts o := by
  induction o with
  | nil => rfl
  | cons x o ih =>
    have h1 : mwts (x :: o) = mwt x + mwts o := by simp [mwts]
    have h2 : mwt x = 3 + (x.key.size : Int) + (x.val.size : Int) := rfl
    rw [h1, h2, ← ih, List.flatMap_cons, List.length_append]
    simp [msgB, textB, strL_len]
    omega
theorem kidsB_len (k : List Int) : (k.flatMap (fun k => numB k.toNat 2)).length = 2 * k.length := by
  induction k with
  | nil => rfl
  | cons x k ih => rw [List.flatMap_cons, List.length_append, ih]; simp [numB]; omega
theorem pivsB_len (p : List Str) (h : ∀ t ∈ p, t.size ≤ 8) : (p.flatMap (fun p => textB (strL p))).length ≤ 9 * p.length := by
  induction p with
  | nil => simp
  | cons x p ih =>
    have h1 := h x List.mem_cons_self
    have h2 := ih fun t ht => h t (List.mem_cons_of_mem _ ht)
    rw [List.flatMap_cons, List.length_append]
    simp [textB, strL_len] at *
    omega
theorem bytes_len {n : NodeV} (hg : n.good) (hf : n.fits = true) : 0 < n.bytes.length ∧ n.bytes.length ≤ 250 := by
  cases n with
  | l o =>
    have hw : iwts o ≤ 240 := by simpa [NodeV.fits] using hf
    have := itemsB_len o
    have e : (NodeV.l o).bytes.length = 2 + (o.flatMap itemB).length := by show (1 :: UInt8.ofNat o.length :: o.flatMap itemB).length = _; rw [List.length_cons, List.length_cons]; omega
    omega
  | i k p m =>
    obtain ⟨g1, g2, g3, g4⟩ := goodIn_iff.1 hg.1
    obtain ⟨f1, f2, f3⟩ := fitsIn_iff.1 hf
    have a1 := msgsB_len m
    have a2 := kidsB_len k
    have a3 := pivsB_len p fun t ht => (isKey_size (riseB_keys g4 t ht)).2
    have e : (NodeV.i k p m).bytes.length = 2 + ((k.flatMap (fun k => numB k.toNat 2)).length + ((p.flatMap (fun p => textB (strL p))).length + (1 + (m.flatMap msgB).length))) := by
      show (2 :: UInt8.ofNat k.length :: (k.flatMap (fun k => numB k.toNat 2) ++ (p.flatMap (fun p => textB (strL p)) ++ UInt8.ofNat m.length :: m.flatMap msgB))).length = _
      rw [List.length_cons, List.length_cons, List.length_append, List.length_append, List.length_cons]
      omega
    omega
set_option maxHeartbeats 4000000 in
theorem nodeBack_spec (b : Bool) (o : List Item) (k : List Int) (p : List Str) (m : List Msg) (h0 : o.length ≤ 9223372036854775807) (h1 : k.length ≤ 9223372036854775807) (h2 : p.length ≤ 9223372036854775807) (h3 : m.length ≤ 9223372036854775807) (s : Str) :
    PSpec Tryz.prog 3 [.agg (cN5 b o k p m), .sc (.string s)] (.sc (.bool true)) := by
  have ha := wAwake_spec
  have g1 := wGreat_spec o k p m h0 h1 h2 h3 b
  clear h0 h1 h2 h3
  cases hg : great12 o k p m with
  | true =>
    rw [hg] at g1
    clear hg
    refine spec_pure (by simp) (by simp) ?_
    refine spec_intro Tryz.func3 good3 rfl (by simp [Tryz.ntmps3]) ?_
    exact go0 [] [] (cns ha (cns g1 (cns Tryz.results3 trivial)))
  | false =>
    rw [hg] at g1
    obtain ⟨b0, b1, b2, b3⟩ := great12_no hg
    clear hg
    by_cases hl : (300 : Int) < s.size
    · clear b0 b1 b2 b3
      refine spec_pure (by simp) (by simp) ?_
      refine spec_intro Tryz.func3 good3 rfl (by simp [Tryz.ntmps3]) ?_
      exact go0 [] [] (cns ha (cns g1 (cns Tryz.results3 trivial)))
    have hm := wMade_spec b o k p m (by omega) (by omega) (by omega) (by omega)
    have first : (PSpec Tryz.prog 9 [.sc (.string s)] (.tup [nP, .sc (.int .i64 5)])) ∨ ∃ cs : List AV, flatL cs = true ∧ PSpec Tryz.prog 9 [.sc (.string s)] (.tup [.fp cs 0, .sc (.int .i64 0)]) ∧ PSpec Tryz.prog 10 [.fp cs 0] (.tup [.sc (.string s), .sc (.int .i64 0)]) ∧ PSpec Tryz.prog 11 [.fp cs 0] (.sc (.bool true)) := by
      have hp := dParse_spec s
      cases hv : parseV s with
      | none => rw [hv] at hp; exact .inl hp
      | some n =>
        rw [hv] at hp
        obtain ⟨q1, q2, q3⟩ := parse_good hv
        have hsm := fits_small q1 q2
        have r1 := dBytes_g n q1 hsm
        have r2 := dFits_v n hsm
        rw [if_pos q2, q3] at r1
        rw [q2] at r2
        have hfl := n.av_flat
        obtain ⟨cs, hav⟩ := n.av_fp
        simp only [nodeR] at hp
        rw [hav] at hp r1 r2 hfl
        exact .inr ⟨cs, by simpa [AV.flat] using hfl, hp, r1, r2⟩
    have second : (PSpec Tryz.prog 12 [.agg (cN5 b o k p m)] nP ∧ PSpec Tryz.prog 11 [nP] (.sc (.bool false))) ∨ ∃ cs : List AV, flatL cs = true ∧ PSpec Tryz.prog 12 [.agg (cN5 b o k p m)] (.fp cs 0) ∧ (PSpec Tryz.prog 11 [.fp cs 0] (.sc (.bool false)) ∨
        ∃ L : List UInt8, 0 < L.length ∧ L.length ≤ 250 ∧ PSpec Tryz.prog 11 [.fp cs 0] (.sc (.bool true)) ∧ PSpec Tryz.prog 10 [.fp cs 0] (.tup [.sc (.string (ofL' L)), .sc (.int .i64 0)]) ∧ PSpec Tryz.prog 9 [.sc (.string (ofL' L))] (.tup [.fp cs 0, .sc (.int .i64 0)]) ∧
          PSpec Tryz.prog 9 [.sc (.string (ofL' (L ++ [0])))] (.tup [nP, .sc (.int .i64 5)]) ∧ PSpec Tryz.prog 9 [.sc (.string (ofL' (L.take (L.length - 1))))] (.tup [nP, .sc (.int .i64 5)]) ∧ PSpec Tryz.prog 13 [.fp cs 0, .fp cs 0] (.sc (.bool true))) := by
      cases hn : madeV b o k p m with
      | none => rw [hn] at hm; exact .inl ⟨hm, dFits_nil⟩
      | some n =>
        have hgd := madeV_good hn
        have hsm := madeV_small hn b0 b1 b2 b3
        rw [hn, show avO (some n) = n.av from rfl] at hm
        have f2 := dFits_v n hsm
        have f5 := dBytes_g n hgd hsm
        have f6 := dSame_v n n hsm hsm
        rw [sameB_self] at f6
        have hfl := n.av_flat
        obtain ⟨cs, hav⟩ := n.av_fp
        cases hF : n.fits with
        | false =>
          rw [hF] at f2
          rw [hav] at hm f2 hfl
          exact .inr ⟨cs, by simpa [AV.flat] using hfl, hm, .inl f2⟩
        | true =>
          have d1 := dParse_spec (ofL' n.bytes)
          rw [parse_of hgd hF] at d1
          simp only [nodeR] at d1
          have d2 := dParse_spec (ofL' (n.bytes ++ [0]))
          rw [parse_more hgd hF] at d2
          have d3 := dParse_spec (ofL' (n.bytes.take (n.bytes.length - 1)))
          rw [parse_less hgd hF] at d3
          obtain ⟨l1, l2⟩ := bytes_len hgd hF
          rw [hF] at f2
          rw [if_pos hF] at f5
          rw [hav] at hm f2 f5 f6 hfl d1
          exact .inr ⟨cs, by simpa [AV.flat] using hfl, hm, .inr ⟨n.bytes, l1, l2, f2, f5, d1, d2, d3, f6⟩⟩
    clear hm b0 b1 b2 b3
    unfold nP at first second
    rcases second with ⟨e1, e2⟩ | ⟨cs, hfl, e1, e2 | ⟨L, l1, l2, e2, e3, e4, e5, e6, e7⟩⟩
    · rcases first with q1 | ⟨cs', hfl', q1, q2, q3⟩
      · skip
        refine spec_pure (by simp) (by simp) ?_
        refine spec_intro Tryz.func3 good3 rfl (by simp [Tryz.ntmps3]) ?_
        exact go0 [] [] (cns ha (cns g1 (cns q1 (cns e1 (cns e2 (cns Tryz.results3 trivial))))))
      · skip
        refine spec_pure (by simp) (by simp) ?_
        refine spec_intro Tryz.func3 good3 rfl (by simp [Tryz.ntmps3]) ?_
        exact go0 [] [] (cns ha (cns g1 (cns q1 (cns q2 (cns q3 (cns e1 (cns e2 (cns Tryz.results3 trivial))))))))
    · rcases first with q1 | ⟨cs', hfl', q1, q2, q3⟩
      · skip
        refine spec_pure (by simp) (by simp) ?_
        refine spec_intro Tryz.func3 good3 rfl (by simp [Tryz.ntmps3]) ?_
        exact go0 [] [] (cns ha (cns g1 (cns q1 (cns e1 (cns e2 (cns Tryz.results3 trivial))))))
      · skip
        refine spec_pure (by simp) (by simp) ?_
        refine spec_intro Tryz.func3 good3 rfl (by simp [Tryz.ntmps3]) ?_
        exact go0 [] [] (cns ha (cns g1 (cns q1 (cns q2 (cns q3 (cns e1 (cns e2 (cns Tryz.results3 trivial))))))))
    · have hsz : (ofL' L).size = L.length := ofL'_len L
      have hone : (⟨#[0]⟩ : ByteArray).size = 1 := rfl
      have hcat : ofL' L ++ (⟨#[0]⟩ : ByteArray) = ofL' (L ++ [0]) := ofL_app L [0]
      rw [← hcat] at e5
      rw [← ext_take L (L.length - 1) (by omega)] at e6
      rcases first with q1 | ⟨cs', hfl', q1, q2, q3⟩
      · skip
        refine spec_pure (by simp) (by simp) ?_
        refine spec_intro Tryz.func3 good3 rfl (by simp [Tryz.ntmps3]) ?_
        exact go0 [] [] (cns ha (cns g1 (cns q1 (cns e1 (cns e2 (cns e3 (cns e4 (cns e5 (cns e6 (cns e7 (cns Tryz.results3 trivial)))))))))))
      · skip
        refine spec_pure (by simp) (by simp) ?_
        refine spec_intro Tryz.func3 good3 rfl (by simp [Tryz.ntmps3]) ?_
        exact go0 [] [] (cns ha (cns g1 (cns q1 (cns q2 (cns q3 (cns e1 (cns e2 (cns e3 (cns e4 (cns e5 (cns e6 (cns e7 (cns Tryz.results3 trivial)))))))))))))
end Go.Proofs.YticpnfgiidljlaaGreat
namespace Go.Proofs.YticpnfgiidljlaaGreat
open Go.RowKit
set_option linter.unusedSimpArgs false
set_option maxRecDepth 10000
theorem parts_all {l : List Item} (hl : Light l) : catI (partsI l) = l ∧ (∀ q ∈ partsI l, iwts q ≤ 240) ∧ (l ≠ [] → ∀ q ∈ partsI l, q ≠ []) ∧ 0 < (partsI l).length ∧ ((partsI l).length = 1 ↔ iwts l ≤ 240) := by
  suffices h : ∀ (n : Nat) (l : List Item), l.length ≤ n → Light l → catI (partsI l) = l ∧ (∀ q ∈ partsI l, iwts q ≤ 240) ∧ (l ≠ [] → ∀ q ∈ partsI l, q ≠ []) ∧ 0 < (partsI l).length ∧ ((partsI l).length = 1 ↔ iwts l ≤ 240) from h _ l (Nat.le_refl _) hl
  intro n
  induction n with
  | zero =>
    intro l hn hl
    have : l = [] := List.length_eq_zero_iff.1 (by omega)
    subst this
    simp [partsI, partsF, catI, iwts]
  | succ n ih =>
    intro l hn hl
    rw [partsI_eq hl]
    by_cases hw : iwts l ≤ 240
    · rw [if_pos hw]
      exact ⟨by simp [catI], fun q hq => by rw [List.mem_singleton.1 hq]; exact hw, fun h q hq => by rw [List.mem_singleton.1 hq]; exact h, by simp, by simp [hw]⟩
    · obtain ⟨h1, h2⟩ := half_in hl hw
      rw [if_neg hw]
      obtain ⟨a1, a2, a3, a4, a5⟩ := ih (l.take (halfI l)) (by rw [List.length_take]; omega) (hl.take _)
      obtain ⟨b1, b2, b3, b4, b5⟩ := ih (l.drop (halfI l)) (by rw [List.length_drop]; omega) (hl.drop _)
      have n1 : l.take (halfI l) ≠ [] := fun e => by have := congrArg List.length e; rw [List.length_take, List.length_nil] at this; omega
      have n2 : l.drop (halfI l) ≠ [] := fun e => by have := congrArg List.length e; rw [List.length_drop, List.length_nil] at this; omega
      refine ⟨?_, fun q hq => (List.mem_append.1 hq).elim (a2 q) (b2 q), fun _ q hq => (List.mem_append.1 hq).elim (a3 n1 q) (b3 n2 q), by rw [List.length_append]; omega, ?_⟩
      · unfold catI at *
        rw [List.flatten_append, a1, b1, List.take_append_drop]
      · rw [List.length_append]
        constructor
        · intro h; omega
        · intro h; exact absurd h hw
theorem cat_split (p : List (List Item)) (j : Nat) : catI p = catI (p.take j) ++ catI (p.drop j) := by unfold catI; rw [← List.flatten_append, List.take_append_drop]
theorem clash_no {a b : List Item} (h : RiseI (a ++ b)) : clashI a b = false := by
  unfold clashI
  cases e : a.getLast? with
  | none => rfl
  | some x =>
    cases b with
    | nil => rfl
    | cons y b =>
      have hx : x ∈ a := List.mem_of_getLast? e
      have := (List.pairwise_append.1 h).2.2 x hx y (by simp)
      simp [this]
theorem rise_take {l : List Item} {p : List (List Item)} (hc : catI p = l) (hr : RiseI l) (j : Nat) : RiseI (catI (p.take j)) := by
  have : l = catI (p.take j) ++ catI (p.drop j) := by rw [← hc]; unfold catI; rw [← List.flatten_append, List.take_append_drop]
  rw [this] at hr
  exact (List.pairwise_append.1 hr).1
theorem leafR_nil : leafR [] = .tup [.fp (cL []) 0, .sc (.int .i64 0)] := rfl
end Go.Proofs.YticpnfgiidljlaaGreat
namespace Go.Proofs.YticpnfgiidljlaaGreat
open Go.RowKit
set_option linter.unusedSimpArgs false
set_option linter.unusedVariables false
set_option maxRecDepth 10000
theorem lParts_nil : PSpec Tryz.prog 26 [nP] (.fs [] 0) := by
  have e1 := lLen_nil
  have : PSpec Tryz.prog 26 [nP] (.sc (.slice none 0 0)) := by
    unfold nP nilP at *
    refine spec_pure (by simp) (by simp) ?_
    refine spec_intro Tryz.func26 good26 rfl (by simp [Tryz.ntmps26]) ?_
    exact go0 [] [] (cns e1 (cns Tryz.results26 trivial))
  exact pspec_wk this .nil
set_option maxHeartbeats 4000000 in
theorem nodeParts_l (b : Bool) (o : List Item) (k : List Int) (p : List Str) (m : List Msg) (l : List Item) (hg : (NodeV.l l).good) (hll : l.length ≤ 90000)
    (ha : PSpec Tryz.prog 7 [] (.sc (.bool true))) (g1 : PSpec Tryz.prog 8 [.agg (cN5 b o k p m)] (.sc (.bool false))) (hm : PSpec Tryz.prog 12 [.agg (cN5 b o k p m)] (.fp (cNl l) 0)) :
    PSpec Tryz.prog 6 [.agg (cN5 b o k p m)] (.sc (.bool true)) := by
  obtain ⟨hr, hlo⟩ := hg
  have hli := ok_light hlo
  have p1 := lParts_pure l (by omega) hli
  obtain ⟨c1, c2, c3, c4, c5⟩ := parts_all hli
  have n1 := (partsI_len hli).1
  have o2 := pspec_args (lOf_spec [] (by simp)) (xs' := [.sc (.slice none 0 0)]) (.cons .nil .nil)
  rw [leafR_nil] at o2
  have hrt := rise_take c1 hr
  have hs := lSame_spec l l (by omega) (by omega)
  rw [decide_eq_true rfl] at hs
  have hsm := hli.small
  have hcl : catI ((partsI l).take (partsI l).length) = l := by rw [List.take_length, c1]
  have hsubq : ∀ q ∈ partsI l, ∀ x ∈ q, x ∈ l := fun q hq x hx => by rw [← c1]; exact List.mem_flatten.2 ⟨q, hq, hx⟩
  have hgq : ∀ (j : Nat) (h : j < (partsI l).length), (NodeV.l (partsI l)[j]).good ∧ (NodeV.l (partsI l)[j]).fits = true := fun j h => by
    refine ⟨⟨?_, fun x hx => hlo x (hsubq _ (List.getElem_mem h) x hx)⟩, by simpa [NodeV.fits] using c2 _ (List.getElem_mem h)⟩
    have h1 := hrt (j + 1)
    rw [catI_succ h] at h1
    exact (List.pairwise_append.1 h1).2.1
  have hjn : ∀ (j : Nat) (h : j < (partsI l).length), PSpec Tryz.prog 28 [.fp (cL (catI ((partsI l).take j))) 0, .fp (cL (partsI l)[j]) 0] (.tup [.fp (cL (catI ((partsI l).take (j + 1)))) 0, .sc (.int .i64 0)]) := fun j h => by
    have e := catI_succ h
    have hle := cat_le (l := partsI l) (j + 1)
    rw [c1] at hle
    have hsub : ∀ x ∈ catI ((partsI l).take (j + 1)), x ∈ l := fun x hx => by
      have h2 := cat_split (partsI l) (j + 1)
      rw [c1] at h2
      rw [h2]; exact List.mem_append_left _ hx
    have hrj := hrt (j + 1)
    rw [e] at hle hsub hrj ⊢
    have hj := lJoin_spec (catI ((partsI l).take j)) (partsI l)[j] (by rw [List.length_append] at hle; omega) fun x hx => hsm x (hsub x hx)
    unfold joinR at hj
    rw [clash_no hrj, if_neg (by simp)] at hj
    exact hj
  have hby : ∀ (j : Nat) (h : j < (partsI l).length), ∃ t : Str, PSpec Tryz.prog 10 [.fp (cNl (partsI l)[j]) 0] (.tup [.sc (.string t), .sc (.int .i64 0)]) ∧ PSpec Tryz.prog 9 [.sc (.string t)] (.tup [.fp (cNl (partsI l)[j]) 0, .sc (.int .i64 0)]) := fun j h => by
    obtain ⟨q1, q2⟩ := hgq j h
    have f5 := dBytes_g _ q1 (fits_small q1 q2)
    rw [if_pos q2] at f5
    have d1 := dParse_spec (ofL' (NodeV.l (partsI l)[j]).bytes)
    rw [parse_of q1 q2] at d1
    exact ⟨_, f5, d1⟩
  have f1 := dLeaf_l l
  have f2 := dIsLeaf_l l
  have hdl := fun (j : Nat) (h : j < (partsI l).length) => dLeaf_l (partsI l)[j]
  have hol := fun (j : Nat) (h : j < (partsI l).length) => dOfLeaf_spec (partsI l)[j]
  replace hby := Lib.hid hby
  replace hjn := Lib.hid hjn
  replace hdl := Lib.hid hdl
  replace hol := Lib.hid hol
  clear hrt hsm c1 c2 c3 c5 hli hlo hr hsubq hgq
  generalize hP : partsI l = P at *
  refine spec_pure (by simp) (by simp) ?_
  refine spec_intro Tryz.func6 good6 rfl (by simp [Tryz.ntmps6]) ?_
  refine go1 [] [] (cns ha (cns g1 (cns hm (cns o2 (cns f1 (cns p1 (cns Tryz.results6 (cns cN5.eq_1 trivial)))))))) ?_
  refine tri_for [3, 6] P.length (fun k_ e σ => σ = [] ∧ e 7 = .sc (.int .i64 k_) ∧ e 4 = .fp (cL (catI (P.take k_))) 0) ?_ (fun j env' σ' hlt hk hI => ?_) (fun env' σ' hk hI => ?_)
  · exact ⟨by simp, by simp, by simp [catI]⟩
  · skip
    (try simp at hk)
    obtain ⟨rfl, h7, h4⟩ := hI
    obtain ⟨t, b1, b2⟩ := hby.out j hlt
    have hj := hjn.out j hlt
    have hd := hdl.out j hlt
    have hq := hol.out j hlt
    generalize catI (P.take (j + 1)) = A1 at *
    generalize catI (P.take j) = A0 at *
    clear hjn hby hdl hol
    refine go1 [] [] (cns hj (cns hd (cns hq (cns b1 (cns b2 (cns Tryz.results6 trivial)))))) ?_
    exact ⟨by simp [*], rfl, by simp, by simp⟩
  · skip
    (try simp at hk)
    obtain ⟨rfl, h7, h4⟩ := hI
    rw [hcl] at h4
    clear hjn hby hdl hol
    exact go0 [] [] (cns hs (cns f1 (cns f2 (cns Tryz.results6 trivial))))
end Go.Proofs.YticpnfgiidljlaaGreat
