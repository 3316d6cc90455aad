/- Inner nodes: piece, Join. -/
import Derived.Test.YticpnfgiidljlaaGreatLw
import Derived.Test.YticpnfgiidljlaaGreatEe
import Derived.Test.YticpnfgiidljlaaGreatNj
import Derived.Test.YticpnfgiidljlaaGreatPnp
import Derived.Test.YticpnfgiidljlaaGreatWt
import Derived.Test.YticpnfgiidljlaaGreatWw
namespace Go.Proofs.YticpnfgiidljlaaGreat
open Go.RowKit Go.Sort
set_option linter.unusedSimpArgs false
set_option maxRecDepth 10000
def cYN (l : List Int) : List AV := [.fs (flatN l) l.length]
def flatYN (l : List (List Int)) : List AV := flatC cYN l
theorem cYN_length (r : List Int) : (cYN r).length = 1 := rfl
theorem cYN_flat (r : List Int) : flatL (cYN r) = true := by simp [cYN, AV.flat, flatL]
theorem cYN_one (r : List Int) : (cYN r).all AV.one = true := rfl
@[simp] theorem flatYN_length (l : List (List Int)) : (flatYN l).length = l.length := by have := flatC_length cYN_length l; rw [Nat.mul_one] at this; exact this
@[simp] theorem flatYN_flat (l : List (List Int)) : flatL (flatYN l) = true := flatC_flat cYN_flat l
@[simp] theorem flatYN_one (l : List (List Int)) : (flatYN l).all AV.one = true := flatC_one' cYN_one l
theorem flatYN_get (l : List (List Int)) (k : Nat) (h : k < l.length) : (flatYN l)[k]? = some (.fs (flatN l[k]) l[k].length) := by have := flatC_get cYN_length l k 0 h (by omega); rw [Nat.mul_one] at this; exact this
@[simp] theorem flatYN_at (l : List (List Int)) (k : Nat) (h : k < (flatYN l).length) : (flatYN l)[k] = .fs (flatN (l[k]'(by simpa using h))) (l[k]'(by simpa using h)).length := by
  have := flatYN_get l k (by simpa using h)
  rw [List.getElem?_eq_getElem h] at this
  exact Option.some.inj this
theorem flatN_app (l m : List Int) : flatN (l ++ m) = flatN l ++ flatN m := flatC_append l m
@[simp] theorem flatN_one2 (l : List Int) : (flatN l).all AV.one = true := flatC_one' (fun _ => rfl) l
def catN (l : List (List Int)) : List Int := l.flatten
theorem catN_succ {l : List (List Int)} {k : Nat} (h : k < l.length) : catN (l.take (k + 1)) = catN (l.take k) ++ l[k] := by
  unfold catN
  rw [List.take_add_one, List.getElem?_eq_getElem h, List.flatten_append]; simp
theorem catN_le {l : List (List Int)} (k : Nat) : (catN (l.take k)).length ≤ (catN l).length := by
  have : catN l = catN (l.take k) ++ (l.drop k).flatten := by unfold catN; rw [← List.flatten_append, List.take_append_drop]
  rw [this]; simp
theorem growN_spec (n : Nat) (hn : n ≤ 1000000) (σ : Sto) : Spec Tryz.prog 120 [.sc (.slice none 0 0), .sc (.int .i64 n)] σ (fun r s => Own 1 s r 0 [] ∧ ∀ (i : Nat) (o : MO), σ[i]? = some o → s[i]? = some o) := by
  refine spec_intro Tryz.func120 good120 rfl (by simp [Tryz.ntmps120]) ?_
  rcases Nat.eq_zero_or_pos n with rfl | hp
  · skip
    refine go1 [22] [] (cns Tryz.results120 trivial) ?_
    exact ⟨.inl ⟨rfl, rfl, rfl⟩, fun i o h => h⟩
  · have hn0 : ¬ n = 0 := by omega
    refine go1 [22] [] (cns Tryz.results120 trivial) ?_
    exact ⟨.inr ⟨σ.length, 0, 0, _, rfl, List.getElem?_concat_length, by simp, by simp⟩, fun i o h => by rw [List.getElem?_append_left (lt_of_get h)]; exact h⟩
set_option maxHeartbeats 1000000 in
theorem concatN_spec (ls : List (List Int)) (hl : (catN ls).length ≤ 1000000) (hn : ls.length ≤ 1000000) : PSpec Tryz.prog 80 [.fs (flatYN ls) ls.length] (.fs (flatN (catN ls)) (catN ls).length) := by
  refine spec_pureFW (by simp) ?_
  refine spec_intro Tryz.func80 good80 rfl (by simp [Tryz.ntmps80]) ?_
  refine go1 [33] [] (cns Tryz.results80 trivial) ?_
  refine tri_for [0, 2, 9, 10] ls.length (fun k e σ => σ = [] ∧ e 11 = .sc (.int .i64 k) ∧ e 3 = .sc (.int .i64 (catN (ls.take k)).length)) ?_ (fun k env' σ' hlt hk hI => ?_) (fun env' σ' hk hI => ?_)
  · exact ⟨by simp, by simp, by simp [catN]⟩
  · skip
    (try simp at hk)
    obtain ⟨rfl, h11, h3⟩ := hI
    have hs := catN_succ hlt
    have h1 := catN_le (l := ls) k
    have h2 := catN_le (l := ls) (k + 1)
    have sg := flatYN_get ls k hlt
    rw [hs] at h2 ⊢
    clear hs
    generalize (catN (ls.take k)) = W at *
    rw [List.length_append] at *
    refine go1 [33] [] (cns Tryz.results80 trivial) ?_
    exact ⟨by simp [*], rfl, by simp, by simp⟩
  · skip
    (try simp at hk)
    obtain ⟨rfl, h11, h3⟩ := hI
    rw [List.take_length] at h3
    have hg := growN_spec (catN ls).length hl []
    refine go1 [33] [] (cns Tryz.results80 trivial) ?_
    refine rwf_ca rfl fun C' hC hP => ?_
    clear hP
    (try simp [*, -List.all_eq_true]); (try (simp (disch := first | assumption | omega) only [wrap_id, wrapu_id, wrapb_id, tmod_nn, tdiv_nn, ite_yes, flatM_seg, flatM_0, flatM_1, flatM_2, flatI_seg, flatI_0, flatI_1, flatS_get]; (try simp [*, -List.all_eq_true])))
    refine hC.out _ _ _ (hg) fun r s hq => ?_
    clear hC C'
    obtain ⟨o1, -⟩ := hq
    clear hg
    refine go1 [33] [] (cns Tryz.results80 trivial) ?_
    refine tri_for [2, 25, 26] ls.length (fun k e σ => e 27 = .sc (.int .i64 k) ∧ ∃ v, e 6 = v ∧ Own 1 σ v (catN (ls.take k)).length (flatN (catN (ls.take k)))) ?_ (fun k env' σ' hlt hk hI => ?_) (fun env' σ' hk hI => ?_)
    · exact ⟨by simp, _, by simp; rfl, by simpa [catN, flatN, flatC] using o1⟩
    · clear o1
      (try simp at hk)
      obtain ⟨h27, v, h6, o1⟩ := hI
      have hs := catN_succ hlt
      have h1 := catN_le (l := ls) k
      have h2 := catN_le (l := ls) (k + 1)
      have sg := flatYN_get ls k hlt
      rw [hs] at h2 ⊢
      clear hs
      generalize (catN (ls.take k)) = W at *
      rw [List.length_append] at *
      refine go1 [33] [] (cns Tryz.results80 trivial) ?_
      refine rwf_app rfl rfl elem23 zero3 rfl bytes3 (by decide) slc23 fun G hG => ?_
      (try simp [*, -List.all_eq_true])
      refine hG.out _ _ _ _ _ (o1) (by simp) (by simp) (by omega) fun v1 σ1 q1 q2 => ?_
      clear hG G
      refine go1 [33] [] (cns Tryz.results80 trivial) ?_
      exact ⟨by simp [*], by simp, v1, by simp, by simpa [flatN_app] using q1⟩
    · clear o1
      (try simp at hk)
      obtain ⟨h27, v, h6, o1⟩ := hI
      rw [List.take_length] at o1
      refine go1 [33] [] (cns Tryz.results80 trivial) ?_
      exact out_own o1 (by simp)
def cYS (l : List Str) : List AV := [.fs (flatS l) l.length]
def flatYS (l : List (List Str)) : List AV := flatC cYS l
theorem cYS_length (r : List Str) : (cYS r).length = 1 := rfl
theorem cYS_flat (r : List Str) : flatL (cYS r) = true := by simp [cYS, AV.flat, flatL]
theorem cYS_one (r : List Str) : (cYS r).all AV.one = true := rfl
@[simp] theorem flatYS_length (l : List (List Str)) : (flatYS l).length = l.length := by have := flatC_length cYS_length l; rw [Nat.mul_one] at this; exact this
@[simp] theorem flatYS_flat (l : List (List Str)) : flatL (flatYS l) = true := flatC_flat cYS_flat l
@[simp] theorem flatYS_one (l : List (List Str)) : (flatYS l).all AV.one = true := flatC_one' cYS_one l
theorem flatYS_get (l : List (List Str)) (k : Nat) (h : k < l.length) : (flatYS l)[k]? = some (.fs (flatS l[k]) l[k].length) := by have := flatC_get cYS_length l k 0 h (by omega); rw [Nat.mul_one] at this; exact this
@[simp] theorem flatYS_at (l : List (List Str)) (k : Nat) (h : k < (flatYS l).length) : (flatYS l)[k] = .fs (flatS (l[k]'(by simpa using h))) (l[k]'(by simpa using h)).length := by
  have := flatYS_get l k (by simpa using h)
  rw [List.getElem?_eq_getElem h] at this
  exact Option.some.inj this
theorem flatS_app (l m : List Str) : flatS (l ++ m) = flatS l ++ flatS m := flatC_append l m
@[simp] theorem flatS_one2 (l : List Str) : (flatS l).all AV.one = true := flatC_one' (fun _ => rfl) l
def catS (l : List (List Str)) : List Str := l.flatten
theorem catS_succ {l : List (List Str)} {k : Nat} (h : k < l.length) : catS (l.take (k + 1)) = catS (l.take k) ++ l[k] := by
  unfold catS
  rw [List.take_add_one, List.getElem?_eq_getElem h, List.flatten_append]; simp
theorem catS_le {l : List (List Str)} (k : Nat) : (catS (l.take k)).length ≤ (catS l).length := by
  have : catS l = catS (l.take k) ++ (l.drop k).flatten := by unfold catS; rw [← List.flatten_append, List.take_append_drop]
  rw [this]; simp
theorem growS_spec (n : Nat) (hn : n ≤ 1000000) (σ : Sto) : Spec Tryz.prog 121 [.sc (.slice none 0 0), .sc (.int .i64 n)] σ (fun r s => Own 1 s r 0 [] ∧ ∀ (i : Nat) (o : MO), σ[i]? = some o → s[i]? = some o) := by
  refine spec_intro Tryz.func121 good121 rfl (by simp [Tryz.ntmps121]) ?_
  rcases Nat.eq_zero_or_pos n with rfl | hp
  · skip
    refine go1 [22] [] (cns Tryz.results121 trivial) ?_
    exact ⟨.inl ⟨rfl, rfl, rfl⟩, fun i o h => h⟩
  · have hn0 : ¬ n = 0 := by omega
    refine go1 [22] [] (cns Tryz.results121 trivial) ?_
    exact ⟨.inr ⟨σ.length, 0, 0, _, rfl, List.getElem?_concat_length, by simp, by simp⟩, fun i o h => by rw [List.getElem?_append_left (lt_of_get h)]; exact h⟩
set_option maxHeartbeats 1000000 in
theorem concatS_spec (ls : List (List Str)) (hl : (catS ls).length ≤ 1000000) (hn : ls.length ≤ 1000000) : PSpec Tryz.prog 81 [.fs (flatYS ls) ls.length] (.fs (flatS (catS ls)) (catS ls).length) := by
  refine spec_pureFW (by simp) ?_
  refine spec_intro Tryz.func81 good81 rfl (by simp [Tryz.ntmps81]) ?_
  refine go1 [33] [] (cns Tryz.results81 trivial) ?_
  refine tri_for [0, 2, 9, 10] ls.length (fun k e σ => σ = [] ∧ e 11 = .sc (.int .i64 k) ∧ e 3 = .sc (.int .i64 (catS (ls.take k)).length)) ?_ (fun k env' σ' hlt hk hI => ?_) (fun env' σ' hk hI => ?_)
  · exact ⟨by simp, by simp, by simp [catS]⟩
  · skip
    (try simp at hk)
    obtain ⟨rfl, h11, h3⟩ := hI
    have hs := catS_succ hlt
    have h1 := catS_le (l := ls) k
    have h2 := catS_le (l := ls) (k + 1)
    have sg := flatYS_get ls k hlt
    rw [hs] at h2 ⊢
    clear hs
    generalize (catS (ls.take k)) = W at *
    rw [List.length_append] at *
    refine go1 [33] [] (cns Tryz.results81 trivial) ?_
    exact ⟨by simp [*], rfl, by simp, by simp⟩
  · skip
    (try simp at hk)
    obtain ⟨rfl, h11, h3⟩ := hI
    rw [List.take_length] at h3
    have hg := growS_spec (catS ls).length hl []
    refine go1 [33] [] (cns Tryz.results81 trivial) ?_
    refine rwf_ca rfl fun C' hC hP => ?_
    clear hP
    (try simp [*, -List.all_eq_true]); (try (simp (disch := first | assumption | omega) only [wrap_id, wrapu_id, wrapb_id, tmod_nn, tdiv_nn, ite_yes, flatM_seg, flatM_0, flatM_1, flatM_2, flatI_seg, flatI_0, flatI_1, flatS_get]; (try simp [*, -List.all_eq_true])))
    refine hC.out _ _ _ (hg) fun r s hq => ?_
    clear hC C'
    obtain ⟨o1, -⟩ := hq
    clear hg
    refine go1 [33] [] (cns Tryz.results81 trivial) ?_
    refine tri_for [2, 25, 26] ls.length (fun k e σ => e 27 = .sc (.int .i64 k) ∧ ∃ v, e 6 = v ∧ Own 1 σ v (catS (ls.take k)).length (flatS (catS (ls.take k)))) ?_ (fun k env' σ' hlt hk hI => ?_) (fun env' σ' hk hI => ?_)
    · exact ⟨by simp, _, by simp; rfl, by simpa [catS, flatS, flatC] using o1⟩
    · clear o1
      (try simp at hk)
      obtain ⟨h27, v, h6, o1⟩ := hI
      have hs := catS_succ hlt
      have h1 := catS_le (l := ls) k
      have h2 := catS_le (l := ls) (k + 1)
      have sg := flatYS_get ls k hlt
      rw [hs] at h2 ⊢
      clear hs
      generalize (catS (ls.take k)) = W at *
      rw [List.length_append] at *
      refine go1 [33] [] (cns Tryz.results81 trivial) ?_
      refine rwf_app rfl rfl elem24 zero9 rfl bytes9 (by decide) slc24 fun G hG => ?_
      (try simp [*, -List.all_eq_true])
      refine hG.out _ _ _ _ _ (o1) (by simp) (by simp) (by omega) fun v1 σ1 q1 q2 => ?_
      clear hG G
      refine go1 [33] [] (cns Tryz.results81 trivial) ?_
      exact ⟨by simp [*], by simp, v1, by simp, by simpa [flatS_app] using q1⟩
    · clear o1
      (try simp at hk)
      obtain ⟨h27, v, h6, o1⟩ := hI
      rw [List.take_length] at o1
      refine go1 [33] [] (cns Tryz.results81 trivial) ?_
      exact out_own o1 (by simp)
end Go.Proofs.YticpnfgiidljlaaGreat
namespace Go.Proofs.YticpnfgiidljlaaGreat
open Go.RowKit
set_option linter.unusedSimpArgs false
set_option linter.unusedVariables false
set_option maxRecDepth 10000
theorem flatN_cut (l : List Int) (a b : Nat) : List.take b (List.drop a (flatN l)) = flatN ((l.drop a).take b) := by
  induction l generalizing a b with
  | nil => simp [flatN, flatC]
  | cons x l ih =>
    cases a with
    | zero =>
      cases b with
      | zero => simp [flatN, flatC]
      | succ b =>
        have := ih 0 b
        simp only [List.drop_zero] at this ⊢
        show List.take (b + 1) (.sc (.int .i64 x) :: flatN l) = _
        rw [List.take_succ_cons, this]
        rfl
    | succ a => exact ih a b
theorem flatS_cut (l : List Str) (a b : Nat) : List.take b (List.drop a (flatS l)) = flatS ((l.drop a).take b) := by
  induction l generalizing a b with
  | nil => simp [flatS, flatC]
  | cons x l ih =>
    cases a with
    | zero =>
      cases b with
      | zero => simp [flatS, flatC]
      | succ b =>
        have := ih 0 b
        simp only [List.drop_zero] at this ⊢
        show List.take (b + 1) (.sc (.string x) :: flatS l) = _
        rw [List.take_succ_cons, this]
        rfl
    | succ a => exact ih a b
set_option maxHeartbeats 2000000 in
theorem nPiece_spec (k : List Int) (p : List Str) (m : List Msg) (hg : goodIn k p = true) (hr : Rise m) (hm : ∀ x ∈ m, isMsg x = true) (hk : k.length ≤ 9000) (hml : m.length ≤ 9000) (f s : Nat) (hs : 1 ≤ s) (hf : f + s ≤ k.length) :
    PSpec Tryz.prog 77 [.fp (cIn k p m) 0, .sc (.int .i64 f), .sc (.int .i64 s)] (.fp (cIn ((k.drop f).take s) ((p.drop f).take (s - 1)) (takeM m (loP p f) (hiP p (f + s)) true)) 0) := by
  obtain ⟨g1, g2, g3, g4⟩ := goodIn_iff.1 hg
  have e1 := nLen_spec k p m
  have e2 := bTake_spec m (by omega) (loP p f) (hiP p (f + s))
  have tl := takeM_len m (loP p f) (hiP p (f + s)) true
  obtain ⟨tr, tm⟩ := takeM_good hr hm (loP p f) (hiP p (f + s)) true
  have e3 := bOf_spec (takeM m (loP p f) (hiP p (f + s)) true) (by omega)
  unfold withR at e3
  rw [if_pos (List.all_eq_true.2 tm), with_self tr] at e3
  have l1 : ((k.drop f).take s).length = s := by simp; omega
  have l2 : ((p.drop f).take (s - 1)).length = s - 1 := by simp; omega
  have e4 := nMade_spec ((k.drop f).take s) ((p.drop f).take (s - 1)) (takeM m (loP p f) (hiP p (f + s)) true) (by omega) (by omega)
  unfold innerR at e4
  rw [if_pos (good_piece hg hs hf), l1, l2, ← flatN_cut, ← flatS_cut] at e4
  generalize takeM m (loP p f) (hiP p (f + s)) true = M at *
  clear tr tm hr hm hg g3 g4 l1 l2
  have hkl := flatN_length k
  have hpl := flatS_length p
  have hx1 : 0 < f → ∃ x, (flatS p)[f - 1]? = some (.sc (.string x)) ∧ loP p f = x := fun h => ⟨p[f - 1]'(by omega), flatS_get p (f - 1) (by omega), by unfold loP; rw [if_pos h, List.getD_eq_getElem?_getD, List.getElem?_eq_getElem (by omega)]; rfl⟩
  have hx2 : f + s ≤ p.length → ∃ x, (flatS p)[f + s - 1]? = some (.sc (.string x)) ∧ hiP p (f + s) = x := fun h => ⟨p[f + s - 1]'(by omega), flatS_get p (f + s - 1) (by omega), by unfold hiP; rw [if_pos h, List.getD_eq_getElem?_getD, List.getElem?_eq_getElem (by omega)]; rfl⟩
  have hx3 : f = 0 → loP p f = ⟨#[]⟩ := fun h => by unfold loP; rw [if_neg (by omega)]
  have hx4 : ¬ f + s ≤ p.length → hiP p (f + s) = ⟨#[]⟩ := fun h => by unfold hiP; rw [if_neg h]
  generalize loP p f = lo at *
  generalize hiP p (f + s) = hi at *
  have hfs : (f : Int) + (s : Int) = ((f + s : Nat) : Int) := by omega
  have hw1 : IntKind.i64.wrap ((f + s : Nat) : Int) = ((f + s : Nat) : Int) := by rw [IntKind.wrap_i64]; omega
  have hci : cIn k p m = [.fs (flatN k) k.length, .fs (flatS p) p.length, .fp (cB m) 0] := rfl
  refine spec_pure (by simp) (by simp) ?_
  refine spec_intro Tryz.func77 good77 rfl (by simp [Tryz.ntmps77]) ?_
  rw [hci] at e1 ⊢
  have hRf := cIn_flat ((k.drop f).take s) ((p.drop f).take (s - 1)) M
  have hNf := flatN_flat k
  have hPf := flatS_flat p
  generalize cIn ((k.drop f).take s) ((p.drop f).take (s - 1)) M = R at *
  clear hci
  generalize flatN k = NC at *
  generalize flatS p = PC at *
  generalize hq : f + s = q at *
  have hsl : q - f = s := by omega
  have hsl2 : q - 1 - f = s - 1 := by omega
  have hw2 : IntKind.i64.wrap ((q : Int) - 1) = ((q - 1 : Nat) : Int) := by rw [IntKind.wrap_i64]; omega
  have hw3 : 0 < f → IntKind.i64.wrap ((f : Int) - 1) = ((f - 1 : Nat) : Int) := fun h => by rw [IntKind.wrap_i64]; omega
  rcases Nat.eq_zero_or_pos f with h0 | h0
  · have := hx3 h0
    subst this h0
    clear hx1 hx3 hw3
    obtain rfl : q = s := by omega
    by_cases h1 : q ≤ p.length
    · obtain ⟨x, c1, rfl⟩ := hx2 h1
      clear hx2 hx4
      have h2 : (q : Int) < k.length := by omega
      exact go0 [7] [] (cns e1 (cns e2 (cns e3 (cns e4 (cns Tryz.results77 trivial)))))
    · have := hx4 h1
      subst this
      clear hx2 hx4
      have h2 : ¬ (q : Int) < k.length := by omega
      exact go0 [7] [] (cns e1 (cns e2 (cns e3 (cns e4 (cns Tryz.results77 trivial)))))
  · obtain ⟨x, c0, rfl⟩ := hx1 h0
    replace hw3 := hw3 h0
    have h3 : (0 : Int) < f := by omega
    clear hx1 hx3
    by_cases h1 : q ≤ p.length
    · obtain ⟨y, c1, rfl⟩ := hx2 h1
      clear hx2 hx4
      have h2 : (q : Int) < k.length := by omega
      exact go0 [7] [] (cns e1 (cns e2 (cns e3 (cns e4 (cns Tryz.results77 trivial)))))
    · have := hx4 h1
      subst this
      clear hx2 hx4
      have h2 : ¬ (q : Int) < k.length := by omega
      exact go0 [7] [] (cns e1 (cns e2 (cns e3 (cns e4 (cns Tryz.results77 trivial)))))
set_option maxHeartbeats 2000000 in
theorem nJoin_spec (k k' : List Int) (p p' : List Str) (m m' : List Msg) (t : Str) (hk : k.length + k'.length ≤ 9000) (hp : p.length + p'.length ≤ 9000) (hml : m.length + m'.length ≤ 9000) (hr : Rise m) (hm : ∀ x ∈ m, isMsg x = true) (hm' : ∀ x ∈ m', isMsg x = true) (hg : goodIn (k ++ k') (p ++ [t] ++ p') = true) :
    PSpec Tryz.prog 33 [.fp (cIn k p m) 0, .sc (.string t), .fp (cIn k' p' m') 0] (.tup [.fp (cIn (k ++ k') (p ++ [t] ++ p') (withM m m')) 0, .sc (.int .i64 0)]) := by
  have e1 := bList_spec m' (by omega)
  have e2 := bWith_spec m m' (by omega) hr hm
  unfold withR at e2
  rw [if_pos (List.all_eq_true.2 hm')] at e2
  have e3 := concatN_spec [k, k'] (by simp [catN]; omega) (by simp)
  have e4 := concatS_spec [p, [t], p'] (by simp [catS]; omega) (by simp)
  have q1 : catN [k, k'] = k ++ k' := by simp [catN]
  have q2 : catS [p, [t], p'] = p ++ [t] ++ p' := by simp [catS]
  rw [q1] at e3
  rw [q2] at e4
  have e5 := nMade_spec (k ++ k') (p ++ [t] ++ p') (withM m m') (by simp; omega) (by simp; omega)
  unfold innerR at e5
  rw [if_pos hg] at e5
  clear q1 q2 hr hm hm' hg
  generalize k ++ k' = K at *
  generalize p ++ [t] ++ p' = PP at *
  generalize withM m m' = M at *
  rw [show flatYN [k, k'] = [.fs (flatN k) k.length, .fs (flatN k') k'.length] from rfl] at e3
  rw [show flatYS [p, [t], p'] = [.fs (flatS p) p.length, .fs [.sc (.string t)] 1, .fs (flatS p') p'.length] from rfl] at e4
  simp only [List.length_cons, List.length_nil, Nat.zero_add, Nat.reduceAdd] at e3 e4
  refine spec_pure (by simp) (by simp) ?_
  refine spec_intro Tryz.func33 good33 rfl (by simp [Tryz.ntmps33]) ?_
  exact go0 [] [(6, [(8, .n), (15, .n), (20, .n)])] (cns e1 (cns e2 (cns e3 (cns e4 (cns e5 (cns Tryz.results33 (cns cIn.eq_1 trivial)))))))
end Go.Proofs.YticpnfgiidljlaaGreat
