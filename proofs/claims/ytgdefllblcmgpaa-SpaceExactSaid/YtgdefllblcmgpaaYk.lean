/- The document's spaces: Row, Best, Text. -/
import Derived.Test.YtgdefllblcmgpaaYj
namespace Go.Proofs.Ytgdefllblcmgpaa
open Go.RowKit
set_option linter.unusedSimpArgs false
set_option maxRecDepth 10000
theorem rowB_len {l : List Bool} {k : Nat} (h : k ≤ l.length) : (rowB l k).length ≤ k := by
  have := norm_len (rowB_ok l k h).1 (by omega)
  omega
theorem rowB_no {l : List Bool} {k : Nat} (h : k < l.length) (hb : l[k] = false) : rowB l (k + 1) = rowB l k := by
  rw [rowB, if_neg (by rw [List.getElem?_eq_getElem h, hb]; simp)]
theorem rowB_new {l : List Bool} {k : Nat} (h : k < l.length) (hb : l[k] = true) (hp : ¬ (0 < k ∧ l[k - 1]? = some true)) : rowB l (k + 1) = rowB l k ++ [⟨k, 1⟩] := by
  rw [rowB, if_pos (by rw [List.getElem?_eq_getElem h, hb]), if_neg hp]
theorem rowB_grow {l : List Bool} {k : Nat} (h : k < l.length) (hb : l[k] = true) (hp : 0 < k ∧ l[k - 1]? = some true) : ∃ h : (rowB l k).length - 1 < (rowB l k).length, rowB l (k + 1) = (rowB l k).set ((rowB l k).length - 1) ⟨(rowB l k)[(rowB l k).length - 1].lo, (rowB l k)[(rowB l k).length - 1].sz + 1⟩ ∧ 0 ≤ (rowB l k)[(rowB l k).length - 1].sz ∧ (rowB l k)[(rowB l k).length - 1].sz ≤ k := by
  obtain ⟨o1, o2, o3, o4⟩ := rowB_ok l k (by omega)
  obtain ⟨x, hx, hxe⟩ := o3 hp.1 hp.2
  rw [rowB, if_pos (by rw [List.getElem?_eq_getElem h, hb]), if_pos hp, hx]
  dsimp only
  have hne : rowB l k ≠ [] := fun q => by rw [q] at hx; cases hx
  have hlen : (rowB l k).length - 1 < (rowB l k).length := by have := List.length_pos_iff.2 hne; omega
  have hgx : (rowB l k)[(rowB l k).length - 1] = x := by
    rw [List.getLast?_eq_getElem?, List.getElem?_eq_getElem hlen] at hx
    exact Option.some.inj hx
  refine ⟨hlen, ?_, ?_, ?_⟩
  · rw [hgx, List.set_eq_take_append_cons_drop, if_pos hlen, List.dropLast_eq_take, show (rowB l k).length - 1 + 1 = (rowB l k).length by omega, List.drop_length]
  · rw [hgx]
    have := o1.2 x (List.mem_of_getLast? hx)
    omega
  · rw [hgx]
    have := o1.2 x (List.mem_of_getLast? hx)
    unfold xe at this hxe
    omega
set_option maxHeartbeats 1000000 in
theorem rRow_spec (l : List Bool) (hn : l.length ≤ 512) : PSpec Try.prog 19 [.fs (flatB l) l.length] (.fs (flatE (rowB l l.length)) (rowB l l.length).length) := by
  refine spec_pureFW (by simp) ?_
  refine spec_intro Try.func19 good19 rfl (by simp [Try.ntmps19]) ?_
  refine go1 [5,40] [] (cns Try.results19 trivial) ?_
  refine tri_for [0, 2] l.length (fun k_ e σ => e 4 = .sc (.int .i64 k_) ∧ ∃ v, e 3 = v ∧ Own 2 σ v (rowB l k_).length (flatE (rowB l k_))) ?_ (fun j env' σ' hlt hk hI => ?_) (fun env' σ' hk hI => ?_)
  · exact ⟨by simp, _, rfl, by simpa [rowB, flatE, flatC] using Own.new 2 []⟩
  · skip
    (try simp at hk)
    obtain ⟨h4, v, h3, o1⟩ := hI
    have hle := rowB_len (l := l) (k := j) (by omega)
    have hb := flatB_get l j hlt
    cases hbj : l[j] with
    | false =>
      rw [rowB_no hlt hbj]
      clear hle hb
      replace o1 := Lib.hid o1
      refine go1 [5,40] [] (cns Try.results19 trivial) ?_
      exact ⟨by simp [*], by simp, _, by simp [*], o1.out⟩
    | true =>
      by_cases hp : 0 < j ∧ l[j - 1]? = some true
      · obtain ⟨hr0, hr1, hr2, hr3⟩ := rowB_grow hlt hbj hp
        rw [hr1, List.length_set]
        obtain ⟨j0, rfl⟩ : ∃ j0, j = j0 + 1 := ⟨j - 1, by omega⟩
        have hlj : j0 < l.length := by omega
        have hp2 : l[j0] = true := by
          have := hp.2
          rw [show j0 + 1 - 1 = j0 from rfl, List.getElem?_eq_getElem hlj] at this
          exact Option.some.inj this
        rcases o1 with ⟨_, q, _⟩ | ⟨i, g, off, c, rfl, q2, q3, q4⟩
        · omega
        obtain ⟨m, hm⟩ : ∃ m, (rowB l (j0 + 1)).length = m + 1 := ⟨(rowB l (j0 + 1)).length - 1, by omega⟩
        have a1 := segE_at1 q4 m (by omega)
        have hset := row_set1 (k := m) (by omega) q3 q4 ((rowB l (j0 + 1))[m].sz + 1)
        simp only [hm, Nat.add_sub_cancel] at hr2 hr3 hset h3 ⊢
        clear hr1 hp hb
        generalize flatE ((rowB l (j0 + 1)).set m _) = R at *
        generalize (rowB l (j0 + 1))[m] = y at *
        replace hset := Lib.hid hset
        have hm2 : ((m + 1 : Nat) : Int) - 1 = (m : Nat) := by omega
        have hsz : -9223372036854775808 ≤ y.sz + 1 ∧ y.sz + 1 ≤ 9223372036854775807 := by omega
        have hmb : m ≤ 512 := by omega
        clear hle q4
        refine go1 [5,40] [] (cns Try.results19 trivial) ?_
        exact ⟨by simp [*], by simp, _, by simp [*], .inr ⟨i, g, off, _, rfl, List.getElem?_set_self (lt_of_get q2), by simp; omega, hset.out⟩⟩
      · rw [rowB_new hlt hbj hp, List.length_append, flatE_append]
        have hp2 : ∀ j0 : Nat, j = j0 + 1 → ∀ h : j0 < l.length, l[j0] = false := fun j0 h1 h2 => by
          cases q : l[j0] with
          | false => rfl
          | true => exact absurd ⟨by omega, by rw [h1, show j0 + 1 - 1 = j0 from rfl, List.getElem?_eq_getElem h2, q]⟩ hp
        have h1 : flatE [(⟨j, 1⟩ : Ext)] = [.sc (.int .i64 j), .sc (.int .i64 1)] := by simp [flatE, flatC, cE]
        rw [h1]
        replace o1 := Lib.hid o1
        clear hp
        rcases Nat.eq_zero_or_pos j with rfl | hpos
        · clear hp2
          refine go1 [5,40] [] (cns Try.results19 trivial) ?_
          refine rwf_app rfl rfl elem33 zero31 rfl bytes31 (by decide) slc33 fun G hG => ?_
          (try simp [*, -List.all_eq_true])
          refine hG.out _ _ _ _ _ (o1.out) (by simp) (by simp) (by omega) fun v1 σ1 q1 q2 => ?_
          clear hG G
          clear q2
          replace q1 := Lib.hid q1
          refine go1 [5,40] [] (cns Try.results19 trivial) ?_
          exact ⟨by simp [*], by simp, _, by simp, q1.out⟩
        · obtain ⟨j0, rfl⟩ : ∃ j0, j = j0 + 1 := ⟨j - 1, by omega⟩
          have hl0 : j0 < l.length := by omega
          have hp3 := hp2 j0 rfl hl0
          clear hp2
          refine go1 [5,40] [] (cns Try.results19 trivial) ?_
          refine rwf_app rfl rfl elem33 zero31 rfl bytes31 (by decide) slc33 fun G hG => ?_
          (try simp [*, -List.all_eq_true])
          refine hG.out _ _ _ _ _ (o1.out) (by simp) (by simp) (by omega) fun v1 σ1 q1 q2 => ?_
          clear hG G
          clear q2
          replace q1 := Lib.hid q1
          refine go1 [5,40] [] (cns Try.results19 trivial) ?_
          exact ⟨by simp [*], by simp, _, by simp, q1.out⟩
  · skip
    (try simp at hk)
    obtain ⟨h4, v, h3, o1⟩ := hI
    replace o1 := Lib.hid o1
    refine go1 [5,40] [] (cns Try.results19 trivial) ?_
    exact out_own o1.out (by simp)
/-- What the document's Best tells. -/
def bestR (e : List Ext) (k : Int) : Ext × Bool := if (bestX e k).sz = 0 then (⟨0, 0⟩, false) else (⟨(bestX e k).lo, k⟩, true)
set_option maxHeartbeats 1000000 in
theorem rBest_spec (l : List Bool) (hn : l.length ≤ 512) (k : Int) : PSpec Try.prog 16 [.fs (flatB l) l.length, .sc (.int .i64 k)] (.tup [.agg (cE (bestR (rowB l l.length) k).1), .sc (.bool (bestR (rowB l l.length) k).2)]) := by
  have hr := rRow_spec l hn
  have hle := rowB_len (l := l) (Nat.le_refl _)
  have hsz : ∀ x ∈ rowB l l.length, 1 ≤ x.sz := fun x hx => ((rowB_ok l l.length (Nat.le_refl _)).1.2 x hx).2.1
  unfold bestR
  generalize rowB l l.length = es at *
  replace hsz := Lib.hid hsz
  refine spec_pure (by simp) (by simp) ?_
  refine spec_intro Try.func16 good16 rfl (by simp [Try.ntmps16]) ?_
  refine go1 [4] [] (cns hr (cns Try.results16 trivial)) ?_
  refine tri_for [1, 4, 5, 6] es.length (fun k_ e σ => σ = [⟨cE ⟨0, 0⟩, 0, false, false⟩] ∧ e 8 = .sc (.int .i64 k_) ∧ ((e 7 = .sc (.int .i64 (-1)) ∧ (bestX (es.take k_) k).sz = 0) ∨ ∃ (a : Nat) (h : a < es.length), e 7 = .sc (.int .i64 a) ∧ es[a] = bestX (es.take k_) k)) ?_ (fun j env' σ' hlt hk hI => ?_) (fun env' σ' hk hI => ?_)
  · exact ⟨rfl, by simp, .inl ⟨by simp, rfl⟩⟩
  · skip
    (try simp at hk)
    obtain ⟨rfl, h8, hc⟩ := hI
    have a1 := flatE_1 es j hlt
    have hs1 := hsz.out _ (List.getElem_mem hlt)
    rw [bestX_succ k hlt]
    unfold bestS
    rcases hc with ⟨h7, ho⟩ | ⟨a, ha, h7, ho⟩
    · generalize bestX (es.take j) k = o at *
      by_cases c1 : k ≤ es[j].sz
      · rw [if_pos ⟨c1, .inl ho⟩]
        refine go1 [4] [] (cns Try.results16 trivial) ?_
        exact ⟨by simp [*], by simp, by simp, .inr ⟨j, hlt, by simp, rfl⟩⟩
      · rw [if_neg fun q => c1 q.1]
        refine go1 [4] [] (cns Try.results16 trivial) ?_
        exact ⟨by simp [*], by simp, by simp, .inl ⟨by simp [*], ho⟩⟩
    · have ho1 : 1 ≤ (bestX (es.take j) k).sz := by rw [← ho]; exact hsz.out _ (List.getElem_mem ha)
      have b1 := flatE_1 es a ha
      rw [ho] at b1
      generalize bestX (es.take j) k = o at *
      have hn0 : ¬ o.sz = 0 := by omega
      by_cases c1 : k ≤ es[j].sz
      · by_cases c3 : es[j].sz < o.sz
        · rw [if_pos ⟨c1, .inr c3⟩]
          refine go1 [4] [] (cns Try.results16 trivial) ?_
          exact ⟨by simp [*], by simp, by simp, .inr ⟨j, hlt, by simp, rfl⟩⟩
        · rw [if_neg fun q => q.2.elim hn0 c3]
          refine go1 [4] [] (cns Try.results16 trivial) ?_
          exact ⟨by simp [*], by simp, by simp, .inr ⟨a, ha, by simp [*], ho⟩⟩
      · rw [if_neg fun q => c1 q.1]
        refine go1 [4] [] (cns Try.results16 trivial) ?_
        exact ⟨by simp [*], by simp, by simp, .inr ⟨a, ha, by simp [*], ho⟩⟩
  · skip
    (try simp at hk)
    obtain ⟨rfl, h8, hc⟩ := hI
    rw [List.take_length] at hc
    rcases hc with ⟨h7, ho⟩ | ⟨a, ha, h7, ho⟩
    · rw [if_pos ho]
      exact go0 [4] [] (cns Try.results16 trivial)
    · rw [if_neg (by rw [← ho]; have := hsz.out _ (List.getElem_mem ha); omega)]
      have b0 := flatE_0 es a ha
      rw [ho] at b0
      generalize bestX es k = o at *
      exact go0 [4] [] (cns Try.results16 trivial)
/-- The bools that are told, midway. -/
def upTo (l : List Bool) (k i : Nat) : Bool := decide (i < k) && l[i]?.getD false
theorem upTo_yes {l : List Bool} {k : Nat} (h : k < l.length) (hb : l[k] = true) : setF (upTo l k) k = upTo l (k + 1) := by
  funext i
  unfold setF upTo
  by_cases e : i = k
  · subst e
    simp [h, hb]
  · have : (i < k + 1) ↔ i < k := by omega
    simp [this, e]
theorem upTo_no {l : List Bool} {k : Nat} (h : k < l.length) (hb : l[k] = false) : upTo l (k + 1) = upTo l k := by
  funext i
  unfold upTo
  by_cases e : i = k
  · subst e
    simp [h, hb]
  · have : (i < k + 1) ↔ i < k := by omega
    simp [this]
set_option maxHeartbeats 1000000 in
theorem rText_spec (l : List Bool) (hn : l.length ≤ 512) (m : Nat) (hm : (l.length + 7) / 8 = m) : PSpec Try.prog 23 [.fs (flatB l) l.length] (.sc (.string ⟨(textF (fun i => l[i]?.getD false) m).toArray⟩)) := by
  have hall : textF (upTo l l.length) m = textF (fun i => l[i]?.getD false) m := textF_congr fun i _ => by
    unfold upTo
    rcases Nat.lt_or_ge i l.length with q | q
    · simp [q]
    · rw [List.getElem?_eq_none q]; simp
  rw [← hall]
  have hm2 : ((l.length : Int) + 7).tdiv 8 = m := by rw [Int.tdiv_eq_ediv_of_nonneg (by omega)]; omega
  clear hall
  refine spec_pure (by simp) (by simp) ?_
  refine spec_intro Try.func23 good23 rfl (by simp [Try.ntmps23]) ?_
  refine go1 [9] [] (cns Try.results23 trivial) ?_
  refine tri_for [0, 2, 3] l.length (fun k_ e σ => e 4 = .sc (.int .i64 k_) ∧ σ = [⟨bytesA ⟨(textF (upTo l k_) m).toArray⟩, 0, false, false⟩]) ?_ (fun j env' σ' hlt hk hI => ?_) (fun env' σ' hk hI => ?_)
  · refine ⟨by simp, ?_⟩
    have : textF (upTo l 0) m = List.replicate m 0 := by
      apply List.ext_getElem (by simp [textF_length])
      intro i h1 h2
      simp [textF, upTo]
      decide
    rw [this]
    simp [bytesA]
  · skip
    (try simp at hk)
    obtain ⟨h4, rfl⟩ := hI
    have hb := flatB_get l j hlt
    cases hbj : l[j] with
    | false =>
      rw [upTo_no hlt hbj]
      refine go1 [9] [] (cns Try.results23 trivial) ?_
      exact ⟨by simp [*], by simp, rfl⟩
    | true =>
      rw [← upTo_yes hlt hbj]
      have hfj : upTo l j j = false := by simp [upTo]
      have hmb : m ≤ 64 := by omega
      clear hm
      have hat : j / 8 < m := by rw [Int.tdiv_eq_ediv_of_nonneg (by omega)] at hm2; omega
      generalize upTo l j = f at *
      have hr8 : j % 8 < 8 := Nat.mod_lt _ (by omega)
      have hset := textF_set f m j
      have hor := byteF_add (fun i => f (8 * (j / 8) + i)) (j % 8) hr8 (by show f (8 * (j / 8) + j % 8) = false; rw [Nat.div_add_mod]; exact hfj)
      have hc := bytes_get f m (j / 8) hat
      have hbl : (bytesA ⟨(textF f m).toArray⟩).length = m := by simp [bytesA, textF_length]
      have hdiv : (j : Int).tdiv 8 = ((j / 8 : Nat) : Int) := by rw [Int.tdiv_eq_ediv_of_nonneg (by omega)]; omega
      have hmod : (j : Int).tmod 8 = ((j % 8 : Nat) : Int) := by rw [Int.tmod_eq_emod_of_nonneg (by omega)]; omega
      generalize j / 8 = d at *
      generalize j % 8 = r at *
      have hshr := shr_bit r hr8
      have hlb := byteF_lt fun i => f (8 * d + i)
      have hlb2 := byteF_lt (setF (fun i => f (8 * d + i)) r)
      rw [← hset]
      generalize byteF (setF (fun i => f (8 * d + i)) r) = B2 at *
      generalize (byteF fun i => f (8 * d + i)) = B at *
      generalize 2 ^ (7 - r) = R at *
      have hor2 : (B : Int) + (R : Int) = (B2 : Nat) := by omega
      clear hset hor hr8 hfj
      generalize textF f m = F at *
      have hc : ∀ h, (bytesA ⟨F.toArray⟩)[d]'h = .sc (.int .u8 B) := fun h => by rw [List.getElem?_eq_getElem h] at hc; exact Option.some.inj hc
      have hfin := bytesA_set F d (UInt8.ofNat B2)
      rw [UInt8.toNat_ofNat', Nat.mod_eq_of_lt (by simpa using hlb2)] at hfin
      refine go1 [9] [] (cns Try.results23 trivial) ?_
      exact ⟨by simp [*], by simp, rfl⟩
  · skip
    (try simp at hk)
    obtain ⟨h4, rfl⟩ := hI
    have hbl : (bytesA ⟨(textF (upTo l l.length) m).toArray⟩).length = m := by simp [bytesA, textF_length]
    have hub := unbytes_bytes (textF (upTo l l.length) m)
    generalize textF (upTo l l.length) m = F at *
    have htk : List.take m (bytesA ⟨F.toArray⟩) = bytesA ⟨F.toArray⟩ := List.take_of_length_le (by rw [hbl]; omega)
    exact go0 [9] [] (cns Try.results23 trivial)
end Go.Proofs.Ytgdefllblcmgpaa
