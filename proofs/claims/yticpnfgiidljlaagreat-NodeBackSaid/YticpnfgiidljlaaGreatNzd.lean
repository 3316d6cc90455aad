/- NodeBack's body. -/
import Derived.Test.YticpnfgiidljlaaGreatNzb
namespace Go.Proofs.YticpnfgiidljlaaGreat
open Go.RowKit
set_option linter.unusedSimpArgs false
set_option linter.unusedVariables false
set_option maxRecDepth 10000
theorem itemsB_len (o : List Item) : ((o.flatMap itemB).length : Int) = iwts o := by
  induction o with
  | nil => rfl
  | cons x o ih =>
    have h1 : iwts (x :: o) = iwt x + iwts o := by simp [iwts]
    have h2 : iwt x = 2 + (x.key.size : Int) + (x.val.size : Int) := rfl
    rw [h1, h2, ← ih, List.flatMap_cons, List.length_append]
    simp [itemB, textB, strL_len]
    omega
theorem msgsB_len (o : List Msg) : ((o.flatMap msgB).length : Int) = mwts o := by
  induction o with
  | nil => rfl
  | cons x o ih =>
    have h1 : mwts (x :: o) = mwt x + mwts o := by simp [mwts]
    have h2 : mwt x = 3 + (x.key.size : Int) + (x.val.size : Int) := rfl
    rw [h1, h2, ← ih, List.flatMap_cons, List.length_append]
    simp [msgB, textB, strL_len]
    omega
theorem kidsB_len (k : List Int) : (k.flatMap (fun k => numB k.toNat 2)).length = 2 * k.length := by
  induction k with
  | nil => rfl
  | cons x k ih => rw [List.flatMap_cons, List.length_append, ih]; simp [numB]; omega
theorem pivsB_len (p : List Str) (h : ∀ t ∈ p, t.size ≤ 8) : (p.flatMap (fun p => textB (strL p))).length ≤ 9 * p.length := by
  induction p with
  | nil => simp
  | cons x p ih =>
    have h1 := h x List.mem_cons_self
    have h2 := ih fun t ht => h t (List.mem_cons_of_mem _ ht)
    rw [List.flatMap_cons, List.length_append]
    simp [textB, strL_len] at *
    omega
theorem bytes_len {n : NodeV} (hg : n.good) (hf : n.fits = true) : 0 < n.bytes.length ∧ n.bytes.length ≤ 250 := by
  cases n with
  | l o =>
    have hw : iwts o ≤ 240 := by simpa [NodeV.fits] using hf
    have := itemsB_len o
    have e : (NodeV.l o).bytes.length = 2 + (o.flatMap itemB).length := by show (1 :: UInt8.ofNat o.length :: o.flatMap itemB).length = _; rw [List.length_cons, List.length_cons]; omega
    omega
  | i k p m =>
    obtain ⟨g1, g2, g3, g4⟩ := goodIn_iff.1 hg.1
    obtain ⟨f1, f2, f3⟩ := fitsIn_iff.1 hf
    have a1 := msgsB_len m
    have a2 := kidsB_len k
    have a3 := pivsB_len p fun t ht => (isKey_size (riseB_keys g4 t ht)).2
    have e : (NodeV.i k p m).bytes.length = 2 + ((k.flatMap (fun k => numB k.toNat 2)).length + ((p.flatMap (fun p => textB (strL p))).length + (1 + (m.flatMap msgB).length))) := by
      show (2 :: UInt8.ofNat k.length :: (k.flatMap (fun k => numB k.toNat 2) ++ (p.flatMap (fun p => textB (strL p)) ++ UInt8.ofNat m.length :: m.flatMap msgB))).length = _
      rw [List.length_cons, List.length_cons, List.length_append, List.length_append, List.length_cons]
      omega
    omega
set_option maxHeartbeats 4000000 in
theorem nodeBack_spec (b : Bool) (o : List Item) (k : List Int) (p : List Str) (m : List Msg) (h0 : o.length ≤ 9223372036854775807) (h1 : k.length ≤ 9223372036854775807) (h2 : p.length ≤ 9223372036854775807) (h3 : m.length ≤ 9223372036854775807) (s : Str) :
    PSpec Tryz.prog 3 [.agg (cN5 b o k p m), .sc (.string s)] (.sc (.bool true)) := by
  have ha := wAwake_spec
  have g1 := wGreat_spec o k p m h0 h1 h2 h3 b
  clear h0 h1 h2 h3
  cases hg : great12 o k p m with
  | true =>
    rw [hg] at g1
    clear hg
    refine spec_pure (by simp) (by simp) ?_
    refine spec_intro Tryz.func3 good3 rfl (by simp [Tryz.ntmps3]) ?_
    exact go0 [] [] (cns ha (cns g1 (cns Tryz.results3 trivial)))
  | false =>
    rw [hg] at g1
    obtain ⟨b0, b1, b2, b3⟩ := great12_no hg
    clear hg
    by_cases hl : (300 : Int) < s.size
    · clear b0 b1 b2 b3
      refine spec_pure (by simp) (by simp) ?_
      refine spec_intro Tryz.func3 good3 rfl (by simp [Tryz.ntmps3]) ?_
      exact go0 [] [] (cns ha (cns g1 (cns Tryz.results3 trivial)))
    have hm := wMade_spec b o k p m (by omega) (by omega) (by omega) (by omega)
    have first : (PSpec Tryz.prog 9 [.sc (.string s)] (.tup [nP, .sc (.int .i64 5)])) ∨ ∃ cs : List AV, flatL cs = true ∧ PSpec Tryz.prog 9 [.sc (.string s)] (.tup [.fp cs 0, .sc (.int .i64 0)]) ∧ PSpec Tryz.prog 10 [.fp cs 0] (.tup [.sc (.string s), .sc (.int .i64 0)]) ∧ PSpec Tryz.prog 11 [.fp cs 0] (.sc (.bool true)) := by
      have hp := dParse_spec s
      cases hv : parseV s with
      | none => rw [hv] at hp; exact .inl hp
      | some n =>
        rw [hv] at hp
        obtain ⟨q1, q2, q3⟩ := parse_good hv
        have hsm := fits_small q1 q2
        have r1 := dBytes_g n q1 hsm
        have r2 := dFits_v n hsm
        rw [if_pos q2, q3] at r1
        rw [q2] at r2
        have hfl := n.av_flat
        obtain ⟨cs, hav⟩ := n.av_fp
        simp only [nodeR] at hp
        rw [hav] at hp r1 r2 hfl
        exact .inr ⟨cs, by simpa [AV.flat] using hfl, hp, r1, r2⟩
    have second : (PSpec Tryz.prog 12 [.agg (cN5 b o k p m)] nP ∧ PSpec Tryz.prog 11 [nP] (.sc (.bool false))) ∨ ∃ cs : List AV, flatL cs = true ∧ PSpec Tryz.prog 12 [.agg (cN5 b o k p m)] (.fp cs 0) ∧ (PSpec Tryz.prog 11 [.fp cs 0] (.sc (.bool false)) ∨
        ∃ L : List UInt8, 0 < L.length ∧ L.length ≤ 250 ∧ PSpec Tryz.prog 11 [.fp cs 0] (.sc (.bool true)) ∧ PSpec Tryz.prog 10 [.fp cs 0] (.tup [.sc (.string (ofL' L)), .sc (.int .i64 0)]) ∧ PSpec Tryz.prog 9 [.sc (.string (ofL' L))] (.tup [.fp cs 0, .sc (.int .i64 0)]) ∧
          PSpec Tryz.prog 9 [.sc (.string (ofL' (L ++ [0])))] (.tup [nP, .sc (.int .i64 5)]) ∧ PSpec Tryz.prog 9 [.sc (.string (ofL' (L.take (L.length - 1))))] (.tup [nP, .sc (.int .i64 5)]) ∧ PSpec Tryz.prog 13 [.fp cs 0, .fp cs 0] (.sc (.bool true))) := by
      cases hn : madeV b o k p m with
      | none => rw [hn] at hm; exact .inl ⟨hm, dFits_nil⟩
      | some n =>
        have hgd := madeV_good hn
        have hsm := madeV_small hn b0 b1 b2 b3
        rw [hn, show avO (some n) = n.av from rfl] at hm
        have f2 := dFits_v n hsm
        have f5 := dBytes_g n hgd hsm
        have f6 := dSame_v n n hsm hsm
        rw [sameB_self] at f6
        have hfl := n.av_flat
        obtain ⟨cs, hav⟩ := n.av_fp
        cases hF : n.fits with
        | false =>
          rw [hF] at f2
          rw [hav] at hm f2 hfl
          exact .inr ⟨cs, by simpa [AV.flat] using hfl, hm, .inl f2⟩
        | true =>
          have d1 := dParse_spec (ofL' n.bytes)
          rw [parse_of hgd hF] at d1
          simp only [nodeR] at d1
          have d2 := dParse_spec (ofL' (n.bytes ++ [0]))
          rw [parse_more hgd hF] at d2
          have d3 := dParse_spec (ofL' (n.bytes.take (n.bytes.length - 1)))
          rw [parse_less hgd hF] at d3
          obtain ⟨l1, l2⟩ := bytes_len hgd hF
          rw [hF] at f2
          rw [if_pos hF] at f5
          rw [hav] at hm f2 f5 f6 hfl d1
          exact .inr ⟨cs, by simpa [AV.flat] using hfl, hm, .inr ⟨n.bytes, l1, l2, f2, f5, d1, d2, d3, f6⟩⟩
    clear hm b0 b1 b2 b3
    unfold nP at first second
    rcases second with ⟨e1, e2⟩ | ⟨cs, hfl, e1, e2 | ⟨L, l1, l2, e2, e3, e4, e5, e6, e7⟩⟩
    · rcases first with q1 | ⟨cs', hfl', q1, q2, q3⟩
      · skip
        refine spec_pure (by simp) (by simp) ?_
        refine spec_intro Tryz.func3 good3 rfl (by simp [Tryz.ntmps3]) ?_
        exact go0 [] [] (cns ha (cns g1 (cns q1 (cns e1 (cns e2 (cns Tryz.results3 trivial))))))
      · skip
        refine spec_pure (by simp) (by simp) ?_
        refine spec_intro Tryz.func3 good3 rfl (by simp [Tryz.ntmps3]) ?_
        exact go0 [] [] (cns ha (cns g1 (cns q1 (cns q2 (cns q3 (cns e1 (cns e2 (cns Tryz.results3 trivial))))))))
    · rcases first with q1 | ⟨cs', hfl', q1, q2, q3⟩
      · skip
        refine spec_pure (by simp) (by simp) ?_
        refine spec_intro Tryz.func3 good3 rfl (by simp [Tryz.ntmps3]) ?_
        exact go0 [] [] (cns ha (cns g1 (cns q1 (cns e1 (cns e2 (cns Tryz.results3 trivial))))))
      · skip
        refine spec_pure (by simp) (by simp) ?_
        refine spec_intro Tryz.func3 good3 rfl (by simp [Tryz.ntmps3]) ?_
        exact go0 [] [] (cns ha (cns g1 (cns q1 (cns q2 (cns q3 (cns e1 (cns e2 (cns Tryz.results3 trivial))))))))
    · have hsz : (ofL' L).size = L.length := ofL'_len L
      have hone : (⟨#[0]⟩ : ByteArray).size = 1 := rfl
      have hcat : ofL' L ++ (⟨#[0]⟩ : ByteArray) = ofL' (L ++ [0]) := ofL_app L [0]
      rw [← hcat] at e5
      rw [← ext_take L (L.length - 1) (by omega)] at e6
      rcases first with q1 | ⟨cs', hfl', q1, q2, q3⟩
      · skip
        refine spec_pure (by simp) (by simp) ?_
        refine spec_intro Tryz.func3 good3 rfl (by simp [Tryz.ntmps3]) ?_
        exact go0 [] [] (cns ha (cns g1 (cns q1 (cns e1 (cns e2 (cns e3 (cns e4 (cns e5 (cns e6 (cns e7 (cns Tryz.results3 trivial)))))))))))
      · skip
        refine spec_pure (by simp) (by simp) ?_
        refine spec_intro Tryz.func3 good3 rfl (by simp [Tryz.ntmps3]) ?_
        exact go0 [] [] (cns ha (cns g1 (cns q1 (cns q2 (cns q3 (cns e1 (cns e2 (cns e3 (cns e4 (cns e5 (cns e6 (cns e7 (cns Tryz.results3 trivial)))))))))))))
end Go.Proofs.YticpnfgiidljlaaGreat
