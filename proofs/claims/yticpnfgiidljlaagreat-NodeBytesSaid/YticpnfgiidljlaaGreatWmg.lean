/- The reference of layer 9: Of, Same. -/
import Derived.Test.YticpnfgiidljlaaGreatPoi
import Derived.Test.YticpnfgiidljlaaGreatLw
namespace Go.Proofs.YticpnfgiidljlaaGreat
open Go.RowKit
set_option linter.unusedSimpArgs false
set_option maxRecDepth 10000
def zI : Item := ⟨⟨#[]⟩, ⟨#[]⟩⟩
/-- What the reference's Of comes to. -/
def ofR (l : List Item) : AV := if l.all okI = false then .tup [.sc (.slice none 0 0), .sc (.int .i64 1)] else match ofL l with
  | none => .tup [.sc (.slice none 0 0), .sc (.int .i64 11)]
  | some o => .tup [.fs (flatI o) o.length, .sc (.int .i64 0)]
theorem ofL_succ {l : List Item} {k : Nat} (h : k < l.length) : ofL (l.take (k + 1)) = ofO (ofL (l.take k)) l[k] := by
  unfold ofL
  rw [List.take_add_one, List.getElem?_eq_getElem h, List.foldl_append]
  rfl
theorem ofO_none : ∀ (l : List Item), l.foldl ofO none = none
  | [] => rfl
  | _ :: l => ofO_none l
theorem ofL_no {l : List Item} {k : Nat} (h : ofL (l.take k) = none) : ofL l = none := by
  have : l.foldl ofO (some []) = (l.drop k).foldl ofO ((l.take k).foldl ofO (some [])) := by rw [← List.foldl_append, List.take_append_drop]
  unfold ofL at *
  rw [this, h, ofO_none]
theorem gtAt_cons (x : Item) (l : List Item) (k : Str) : gtAt (x :: l) k = if slt k x.key = true then 0 else gtAt l k + 1 := by
  unfold gtAt
  rw [List.findIdx_cons]
  cases slt k x.key <;> rfl
theorem gtAt_drop {o : List Item} {m : Nat} (h : m < o.length) (k : Str) : m + gtAt (o.drop m) k = if slt k o[m].key = true then m else m + 1 + gtAt (o.drop (m + 1)) k := by
  rw [List.drop_eq_getElem_cons h, gtAt_cons]
  split <;> omega
/-- The row while it makes room: what stands at j and behind has gone one further. -/
def shI (o : List Item) (j : Nat) : List Item := (o ++ [zI]).take (j + 1) ++ o.drop j
theorem shI_len {o : List Item} {j : Nat} (h : j ≤ o.length) : (shI o j).length = o.length + 1 := by simp [shI]; omega
theorem shI_full (o : List Item) : shI o o.length = o ++ [zI] := by simp [shI, List.take_of_length_le]
theorem shI_get {o : List Item} {j i : Nat} (hj : j ≤ o.length) (hi : i ≤ j) : (shI o j)[i]? = (o ++ [zI])[i]? := by
  unfold shI
  rw [List.getElem?_append_left (by simp; omega), List.getElem?_take, if_pos (by omega)]
theorem shI_step {o : List Item} {j : Nat} (h : j < o.length) : (shI o (j + 1)).set (j + 1) o[j] = shI o j := by
  apply List.ext_getElem?
  intro i
  rw [List.getElem?_set]
  unfold shI
  rcases Nat.lt_or_ge i (j + 1) with hi | hi
  · rw [if_neg (by omega), List.getElem?_append_left (by simp; omega), List.getElem?_append_left (by simp; omega), List.getElem?_take, List.getElem?_take, if_pos (by omega), if_pos hi]
  · rcases Nat.eq_or_lt_of_le hi with hi | hi
    · subst hi
      rw [if_pos rfl, if_pos (by simp; omega), List.getElem?_append_right (by simp; omega)]
      simp [Nat.min_eq_left (show j + 1 ≤ o.length + 1 by omega), List.getElem?_eq_getElem h]
    · rw [if_neg (by omega), List.getElem?_append_right (by simp; omega), List.getElem?_append_right (by simp; omega)]
      simp [Nat.min_eq_left (show j + 1 ≤ o.length + 1 by omega), Nat.min_eq_left (show j + 1 + 1 ≤ o.length + 1 by omega)]
      congr 1; omega
theorem shI_end {o : List Item} {j : Nat} (h : j ≤ o.length) (x : Item) : (shI o j).set j x = o.take j ++ x :: o.drop j := by
  unfold shI
  have e : (o ++ [zI]).take (j + 1) = o.take j ++ ((o ++ [zI]).drop j).take 1 := by
    rw [List.take_add, List.take_append_of_le_length h]
  have e2 : ∃ y, ((o ++ [zI]).drop j).take 1 = [y] := by
    have : 0 < ((o ++ [zI]).drop j).length := by simp; omega
    match hd : (o ++ [zI]).drop j, this with
    | y :: t, _ => exact ⟨y, rfl⟩
  obtain ⟨y, e2⟩ := e2
  rw [e, e2, List.append_assoc, List.set_append_right _ _ (by simp; omega)]
  simp [Nat.min_eq_left h]
theorem segI {c : List AV} {l : List Item} {off : Nat} (h3 : (c.drop off).take (l.length * 2) = flatI l) (k : Nat) (h : k < l.length) : List.take 2 (List.drop (off + k * 2) c) = cI l[k] := by
  rw [← flatC_seg cI_length l k h, show flatC cI l = flatI l from rfl, ← h3, List.drop_take, List.take_take, List.drop_drop]
  congr 1; omega
theorem segI_at {c : List AV} {l : List Item} {off : Nat} (h3 : (c.drop off).take (l.length * 2) = flatI l) (k : Nat) (h : k < l.length) : c[off + k * 2]? = some (.sc (.string l[k].key)) := by
  have := congrArg (fun x => x[k * 2]?) h3
  rw [flatI_0 l k h] at this
  simp only [List.getElem?_take, List.getElem?_drop] at this
  rwa [if_pos (by omega)] at this
@[simp] theorem flatI_at0 (l : List Item) (k : Nat) (h : k * 2 < (flatI l).length) : (flatI l)[k * 2] = .sc (.string (l[k]'(by simp at h; omega)).key) := by
  have := flatI_0 l k (by simp at h; omega)
  rw [List.getElem?_eq_getElem h] at this
  exact Option.some.inj this
@[simp] theorem flatI_at1 (l : List Item) (k : Nat) (h : k * 2 + 1 < (flatI l).length) : (flatI l)[k * 2 + 1] = .sc (.string (l[k]'(by simp at h; omega)).val) := by
  have := flatI_1 l k (by simp at h; omega)
  rw [List.getElem?_eq_getElem h] at this
  exact Option.some.inj this
set_option maxHeartbeats 4000000 in
theorem rOf09_spec (l : List Item) (hl : l.length ≤ 100000) : PSpec Tryz.prog 56 [.fs (flatI l) l.length] (ofR l) := by
  unfold ofR
  refine spec_pureFW (by simp) ?_
  refine spec_intro Tryz.func56 good56 rfl (by simp [Tryz.ntmps56]) ?_
  refine go1 [32,74] [] (cns Tryz.results56 trivial) ?_
  refine tri_for [0] l.length (fun k e σ => σ = [] ∧ e 4 = .sc (.int .i64 k) ∧ (l.take k).all okI = true) ?_ (fun k env' σ' hlt hk hI => ?_) (fun env' σ' hk hI => ?_)
  · exact ⟨by simp, by simp, by simp⟩
  · skip
    (try simp at hk)
    obtain ⟨rfl, h4, ha⟩ := hI
    have h0 := flatI_0 l k hlt
    have h1 := flatI_1 l k hlt
    have hok := okI_is l[k]
    cases hkk : okI l[k] with
    | true =>
      rw [hkk] at hok
      have hok1 : isKey l[k].key = true ∧ isVal l[k].val = true := by simpa using hok.symm
      obtain ⟨y1, y2⟩ := hok1
      unfold isVal at y2
      rw [decide_eq_true_eq] at y2
      clear hok
      refine go1 [32,74] [] (cns (fun x1 => rKey_spec x1) (cns Tryz.results56 trivial)) ?_
      refine ⟨by simp [*], rfl, by simp, ?_⟩
      rw [List.take_add_one, List.getElem?_eq_getElem hlt, List.all_append, ha]; simp [hkk]
    | false =>
      have hno : l.all okI = false := by
        cases h : l.all okI with
        | false => rfl
        | true => rw [List.all_eq_true.1 h _ (List.getElem_mem hlt)] at hkk; cases hkk
      rw [hkk] at hok
      rw [if_pos hno]
      cases y1 : isKey l[k].key with
      | false =>
        clear hok
        refine go1 [32,74] [] (cns (fun x1 => rKey_spec x1) (cns Tryz.results56 trivial)) ?_
        all_goals exact out_flat (by simp [AV.flat, flatL]) (.refl _)
      | true =>
        have y2 : isVal l[k].val = false := by rw [y1] at hok; simpa using hok.symm
        unfold isVal at y2
        rw [decide_eq_false_iff_not] at y2
        clear hok
        refine go1 [32,74] [] (cns (fun x1 => rKey_spec x1) (cns Tryz.results56 trivial)) ?_
        all_goals exact out_flat (by simp [AV.flat, flatL]) (.refl _)
  · skip
    (try simp at hk)
    obtain ⟨rfl, h4, ha⟩ := hI
    rw [List.take_length] at ha
    rw [if_neg (by rw [ha]; simp)]
    clear ha
    refine go1 [32,74] [] (cns Tryz.results56 trivial) ?_
    refine tri_for [0] l.length (fun k e σ => e 6 = .sc (.int .i64 k) ∧ ∃ i g off c o, e 5 = .ms i g off k 2 ∧ ofL (l.take k) = some o ∧ o.length = k ∧ σ[i]? = some ⟨c, g, false, false⟩ ∧ off + k * 2 ≤ c.length ∧ (c.drop off).take (k * 2) = flatI o) ?_ (fun k env' σ' hlt hk hI => ?_) (fun env' σ' hk hI => ?_)
    · exact ⟨by simp, 0, 0, 0, [], [], by simp, rfl, rfl, rfl, by simp, rfl⟩
    · skip
      (try simp at hk)
      obtain ⟨h6, i, gg, off, c, o, h5, hof, hol, r1, r2, r3⟩ := hI
      have o1 : Own 2 σ' (.ms i gg off k 2) k (flatI o) := .inr ⟨i, gg, off, c, rfl, r1, r2, r3⟩
      replace o1 := Lib.hid o1
      have hfs := ofL_succ hlt
      rw [hof] at hfs
      have hno := ofL_no (l := l) (k := k + 1)
      rw [hfs] at hno
      have hb0 := flatI_0 l k hlt
      have hbs := flatI_seg l k hlt
      have hox : ofO (some o) l[k] = if o.any (fun y => decide (y.key = l[k].key)) = true then none else some (insO o l[k]) := rfl
      generalize hx : l[k] = x at *
      replace hno := Lib.hid hno
      replace hfs := Lib.hid hfs
      replace hox := Lib.hid hox
      replace hof := Lib.hid hof
      refine go1 [32,74] [] (cns Tryz.results56 trivial) ?_
      refine tri_whl [0, 5, 6] k (fun m e σ => σ = σ' ∧ e 8 = .sc (.int .i64 ((m : Int) - 1)) ∧ m ≤ k ∧ e 7 = .sc (.int .i64 (m + gtAt (o.drop m) x.key : Nat)) ∧ ∀ y ∈ o.drop m, y.key ≠ x.key) ?_ (fun m env' σ' hm hk hI => ?_)
      · refine ⟨k, Nat.le_refl _, by simp, by simp, Nat.le_refl _, ?_, fun y hy => ?_⟩
        · rw [List.drop_of_length_le (by omega)]; simp [gtAt]
        · rw [List.drop_of_length_le (by omega)] at hy; simp at hy
      · skip
        (try simp at hk)
        obtain ⟨rfl, h8, hmk, h7, hne⟩ := hI
        have hno2 := Lib.hid hne
        clear hne
        rcases Nat.eq_zero_or_pos m with rfl | hp
        · rw [List.drop_zero, Nat.zero_add] at h7
          have hne : ∀ y ∈ o, y.key ≠ x.key := by simpa using hno2.out
          have hany : o.any (fun y => decide (y.key = x.key)) = false := by
            rw [List.any_eq_false]
            intro y hy
            simpa using hne y hy
          have hox := hox.out
          rw [if_neg (by rw [hany]; simp)] at hox
          have hgl := gtAt_le o x.key
          obtain ⟨g, hg⟩ : ∃ g, g = gtAt o x.key := ⟨_, rfl⟩
          have hins : insO o x = o.take g ++ x :: o.drop g := by rw [hg]; rfl
          rw [← hg] at h7 hgl
          replace hne := Lib.hid hne
          replace hox := Lib.hid hox
          replace hins := Lib.hid hins
          clear hno2 hno hany hg
          refine go1 [32,74] [] (cns Tryz.results56 trivial) ?_
          refine rwf_app rfl rfl elem22 zero71 rfl bytes71 (by decide) slc22 fun G hG => ?_
          (try simp [*, -List.all_eq_true])
          refine hG.out _ _ _ _ _ (o1.out) (by simp) (by simp) (by omega) fun v1 σ1 q1 q2 => ?_
          clear hG G
          have q1' : Own 2 σ1 v1 (k + 1) (flatI (shI o k)) := by
            subst hol
            rw [shI_full]
            simpa [flatI_append, flatI, flatC, cI, zI] using q1
          clear q1 q2 o1 r1 r2 r3 c
          rcases q1' with ⟨_, hn, _⟩ | ⟨i, gg, off, c0, rfl, r1, r2, r3⟩
          · omega
          have hst : ∃ c, σ1[i]? = some ⟨c, gg, false, false⟩ ∧ off + (k + 1) * 2 ≤ c.length ∧ (c.drop off).take ((k + 1) * 2) = flatI (shI o k) := ⟨c0, r1, r2, r3⟩
          replace hst := Lib.hid hst
          refine go1 [32,74] [] (cns Tryz.results56 trivial) ?_
          clear r1 r2 r3 c0
          refine tri_whl [0, 2, 3, 5, 6, 7] k (fun m e σ => g + m ≤ k ∧ e 9 = .sc (.int .i64 (g + m : Nat)) ∧ ∃ c, σ[i]? = some ⟨c, gg, false, false⟩ ∧ off + (k + 1) * 2 ≤ c.length ∧ (c.drop off).take ((k + 1) * 2) = flatI (shI o (g + m))) ?_ (fun m env' σ' hm hk hI => ?_)
          · refine ⟨k - g, by omega, by omega, ?_, ?_⟩
            · simp; omega
            · rw [show g + (k - g) = k by omega]; exact hst.out
          · skip
            (try simp at hk)
            obtain ⟨hgm, h9, c, r1, r2, r3⟩ := hI
            have hsl := shI_len (o := o) (j := g + m) (by omega)
            rw [hol] at hsl
            rcases Nat.eq_zero_or_pos m with rfl | hp
            · rw [Nat.add_zero] at *
              have w1 := wr_setC (c := cI) cI_length x g (by rw [hsl]; omega) (by rw [hsl]; omega) (by rw [hsl]; exact r3)
              rw [shI_end (by omega), hsl, ← hins.out] at w1
              have w2 := wr_length c (off + g * 2) (cI x) (by simp; omega)
              clear r3 hsl
              refine go1 [32,74] [] (cns Tryz.results56 trivial) ?_
              refine ⟨by simp [*], by simp, i, gg, off, _, insO o x, by simp [*], by rw [hfs.out, hox.out], by rw [insO_len]; omega, by simp [r1], by rw [w2]; omega, w1⟩
            · obtain ⟨n, rfl⟩ : ∃ n, m = n + 1 := ⟨m - 1, by omega⟩
              have hlt2 : g + n < o.length := by omega
              have hgt := shI_get (o := o) (j := g + (n + 1)) (i := g + n) (by omega) (by omega)
              rw [List.getElem?_append_left hlt2, List.getElem?_eq_getElem hlt2] at hgt
              obtain ⟨hlt3, hgt⟩ := List.getElem?_eq_some_iff.1 hgt
              have hsg := segI (l := shI o (g + (n + 1))) (by rw [hsl]; exact r3) (g + n) hlt3
              rw [hgt] at hsg
              have w1 := wr_setC (c := cI) cI_length o[g + n] (g + n + 1) (by rw [hsl]; omega) (by rw [hsl]; omega) (by rw [hsl]; exact r3)
              rw [← Nat.add_assoc, shI_step hlt2, Nat.add_assoc, hsl] at w1
              have w2 := wr_length c (off + (g + n + 1) * 2) (cI o[g + n]) (by simp; omega)
              have e1 : ((g + (n + 1) : Nat) : Int) - 1 = (g + n : Nat) := by omega
              generalize o[g + n] = y at *
              clear r3 hsl hgt hlt3 hlt2
              simp only [← Nat.add_assoc] at h9 hgm e1 w1 w2 hsg
              generalize hga : g + n = a at *
              refine go1 [32,74] [] (cns Tryz.results56 trivial) ?_
              refine ⟨by simp [*], n, by omega, by omega, by simp; omega, _, by simp [r1]; rfl, by rw [w2]; omega, by rw [hga]; exact w1⟩
        · obtain ⟨n, rfl⟩ : ∃ n, m = n + 1 := ⟨m - 1, by omega⟩
          have hno3 : n < o.length := by omega
          rw [← hol] at r3
          have hsg := segI_at r3 n hno3
          have hgd := gtAt_drop hno3 x.key
          have e1 : ((n + 1 : Nat) : Int) - 1 = (n : Nat) := by omega
          rw [e1] at h8
          have hdr : ∀ y ∈ o.drop n, y = o[n] ∨ y ∈ o.drop (n + 1) := fun y hy => by
            rw [List.drop_eq_getElem_cons hno3] at hy
            exact List.mem_cons.1 hy
          have hmem : o[n] ∈ o := List.getElem_mem _
          generalize o[n] = y at *
          replace hdr := Lib.hid hdr
          replace r3 := Lib.hid r3
          by_cases hyx : y.key = x.key
          · have hany : o.any (fun y => decide (y.key = x.key)) = true := List.any_eq_true.2 ⟨y, hmem, by simpa using hyx⟩
            have hox := hox.out
            rw [if_pos hany] at hox
            have hno := hno.out hox
            rw [hno]
            clear hmem hany hox hgd
            refine go1 [32,74] [] (cns Tryz.results56 trivial) ?_
            all_goals exact out_flat (by simp [AV.flat, flatL]) (.refl _)
          · have hfin : ∀ z ∈ o.drop n, z.key ≠ x.key := fun z hz => by
              rcases hdr.out z hz with rfl | h
              · exact hyx
              · exact hno2.out z h
            replace hfin := Lib.hid hfin
            clear hmem
            cases hS : slt x.key y.key with
            | true =>
              rw [if_pos hS] at hgd
              refine go1 [32,74] [] (cns Tryz.results56 trivial) ?_
              refine ⟨by simp [*], n, by omega, rfl, by simp, by omega, by simp [hgd], hfin.out⟩
            | false =>
              rw [if_neg (by rw [hS]; simp)] at hgd
              refine go1 [32,74] [] (cns Tryz.results56 trivial) ?_
              refine ⟨by simp [*], n, by omega, rfl, by simp, by omega, by simp [*], hfin.out⟩
    · skip
      (try simp at hk)
      obtain ⟨h6, i, g, off, c, o, h5, hof, hol, r1, r2, r3⟩ := hI
      rw [List.take_length] at hof
      rw [hof]
      have o1 : Own 2 σ' (.ms i g off l.length 2) l.length (flatI o) := .inr ⟨i, g, off, c, rfl, r1, r2, r3⟩
      clear r1 r2 r3
      refine go1 [32,74] [] (cns Tryz.results56 trivial) ?_
      rw [← hol] at o1
      rw [← hol]
      exact out_own1 o1 (by simp)
end Go.Proofs.YticpnfgiidljlaaGreat
