/- The document's spaces: Row, Best, Text. -/
import Derived.Test.YtgdefllblcmgpaaYj
namespace Go.Proofs.Ytgdefllblcmgpaa
open Go.RowKit
set_option linter.unusedSimpArgs false
set_option maxRecDepth 10000
theorem rowB_len {l : List Bool} {k : Nat} (h : k ≤ l.length) : (rowB l k).length ≤ k := by
  have := norm_len (rowB_ok l k h).1 (by omega)
  omega
theorem rowB_no {l : List Bool} {k : Nat} (h : k < l.length) (hb : l[k] = false) : rowB l (k + 1) = rowB l k := by
  rw [rowB, if_neg (by rw [List.getElem?_eq_getElem h, hb]; simp)]
theorem rowB_new {l : List Bool} {k : Nat} (h : k < l.length) (hb : l[k] = true) (hp : ¬ (0 < k ∧ l[k - 1]? = some true)) : rowB l (k + 1) = rowB l k ++ [⟨k, 1⟩] := by
  rw [rowB, if_pos (by rw [List.getElem?_eq_getElem h, hb]), if_neg hp]
theorem rowB_grow {l : List Bool} {k : Nat} (h : k < l.length) (hb : l[k] = true) (hp : 0 < k ∧ l[k - 1]? = some true) : ∃ h : (rowB l k).length - 1 < (rowB l k).length, rowB l (k + 1) = (rowB l k).set ((rowB l k).length - 1) ⟨(rowB l k)[(rowB l k).length - 1].lo, (rowB l k)[(rowB l k).length - 1].sz + 1⟩ ∧ 0 ≤ (rowB l k)[(rowB l k).length - 1].sz ∧ (rowB l k)[(rowB l k).length - 1].sz ≤ k := by
  obtain ⟨o1, o2, o3, o4⟩ := rowB_ok l k (by omega)
  obtain ⟨x, hx, hxe⟩ := o3 hp.1 hp.2
  rw [rowB, if_pos (by rw [List.getElem?_eq_getElem h, hb]), if_pos hp, hx]
  dsimp only
  have hne : rowB l k ≠ [] := fun q => by rw [q] at hx; cases hx
  have hlen : (rowB l k).length - 1 < (rowB l k).length := by have := List.length_pos_iff.2 hne; omega
  have hgx : (rowB l k)[(rowB l k).length - 1] = x := by
    rw [List.getLast?_eq_getElem?, List.getElem?_eq_getElem hlen] at hx
    exact Option.some.inj hx
  refine ⟨hlen, ?_, ?_, ?_⟩
  · rw [hgx, List.set_eq_take_append_cons_drop, if_pos hlen, List.dropLast_eq_take, show (rowB l k).length - 1 + 1 = (rowB l k).length by omega, List.drop_length]
  · rw [hgx]
    have := o1.2 x (List.mem_of_getLast? hx)
    omega
  · rw [hgx]
    have := o1.2 x (List.mem_of_getLast? hx)
    unfold xe at this hxe
    omega
set_option maxHeartbeats 1000000 in
theorem rRow_spec (l : List Bool) (hn : l.length ≤ 512) : PSpec Try.prog 19 [.fs (flatB l) l.length] (.fs (flatE (rowB l l.length)) (rowB l l.length).length) := by
  refine spec_pureFW (by simp) ?_
  refine spec_intro Try.func19 good19 rfl (by simp [Try.ntmps19]) ?_
  refine go1 [5,40] [] (cns Try.results19 trivial) ?_
  refine tri_for [0, 2] l.length (fun k_ e σ => e 4 = .sc (.int .i64 k_) ∧ ∃ v, e 3 = v ∧ Own 2 σ v (rowB l k_).length (flatE (rowB l k_))) ?_ (fun j env' σ' hlt hk hI => ?_) (fun env' σ' hk hI => ?_)
  · exact ⟨by simp, _, rfl, by simpa [rowB, flatE, flatC] using Own.new 2 []⟩
  · skip
    (try simp at hk)
    obtain ⟨h4, v, h3, o1⟩ := hI
    have hle := rowB_len (l := l) (k := j) (by omega)
    have hb := flatB_get l j hlt
    cases hbj : l[j] with
    | false =>
      rw [rowB_no hlt hbj]
      clear hle hb
      replace o1 := Lib.hid o1
      refine go1 [5,40] [] (cns Try.results19 trivial) ?_
      exact ⟨by simp [*], by simp, _, by simp [*], o1.out⟩
    | true =>
      by_cases hp : 0 < j ∧ l[j - 1]? = some true
      · obtain ⟨hr0, hr1, hr2, hr3⟩ := rowB_grow hlt hbj hp
        rw [hr1, List.length_set]
        obtain ⟨j0, rfl⟩ : ∃ j0, j = j0 + 1 := ⟨j - 1, by omega⟩
        have hlj : j0 < l.length := by omega
        have hp2 : l[j0] = true := by
          have := hp.2
          rw [show j0 + 1 - 1 = j0 from rfl, List.getElem?_eq_getElem hlj] at this
          exact Option.some.inj this
        rcases o1 with ⟨_, q, _⟩ | ⟨i, g, off, c, rfl, q2, q3, q4⟩
        · omega
        obtain ⟨m, hm⟩ : ∃ m, (rowB l (j0 + 1)).length = m + 1 := ⟨(rowB l (j0 + 1)).length - 1, by omega⟩
        have a1 := segE_at1 q4 m (by omega)
        have hset := row_set1 (k := m) (by omega) q3 q4 ((rowB l (j0 + 1))[m].sz + 1)
        simp only [hm, Nat.add_sub_cancel] at hr2 hr3 hset h3 ⊢
        clear hr1 hp hb
        generalize flatE ((rowB l (j0 + 1)).set m _) = R at *
        generalize (rowB l (j0 + 1))[m] = y at *
        replace hset := Lib.hid hset
        have hm2 : ((m + 1 : Nat) : Int) - 1 = (m : Nat) := by omega
        have hsz : -9223372036854775808 ≤ y.sz + 1 ∧ y.sz + 1 ≤ 9223372036854775807 := by omega
        have hmb : m ≤ 512 := by omega
        clear hle q4
        refine go1 [5,40] [] (cns Try.results19 trivial) ?_
        exact ⟨by simp [*], by simp, _, by simp [*], .inr ⟨i, g, off, _, rfl, List.getElem?_set_self (lt_of_get q2), by simp; omega, hset.out⟩⟩
      · rw [rowB_new hlt hbj hp, List.length_append, flatE_append]
        have hp2 : ∀ j0 : Nat, j = j0 + 1 → ∀ h : j0 < l.length, l[j0] = false := fun j0 h1 h2 => by
          cases q : l[j0] with
          | false => rfl
          | true => exact absurd ⟨by omega, by rw [h1, show j0 + 1 - 1 = j0 from rfl, List.getElem?_eq_getElem h2, q]⟩ hp
        have h1 : flatE [(⟨j, 1⟩ : Ext)] = [.sc (.int .i64 j), .sc (.int .i64 1)] := by simp [flatE, flatC, cE]
        rw [h1]
        replace o1 := Lib.hid o1
        clear hp
        rcases Nat.eq_zero_or_pos j with rfl | hpos
        · clear hp2
          refine go1 [5,40] [] (cns Try.results19 trivial) ?_
          refine rwf_app rfl rfl elem33 zero31 rfl bytes31 (by decide) slc33 fun G hG => ?_
          (try simp [*, -List.all_eq_true])
          refine hG.out _ _ _ _ _ (o1.out) (by simp) (by simp) (by omega) fun v1 σ1 q1 q2 => ?_
          clear hG G
          clear q2
          replace q1 := Lib.hid q1
          refine go1 [5,40] [] (cns Try.results19 trivial) ?_
          exact ⟨by simp [*], by simp, _, by simp, q1.out⟩
        · obtain ⟨j0, rfl⟩ : ∃ j0, j = j0 + 1 := ⟨j - 1, by omega⟩
          have hl0 : j0 < l.length := by omega
          have hp3 := hp2 j0 rfl hl0
          clear hp2
          refine go1 [5,40] [] (cns Try.results19 trivial) ?_
          refine rwf_app rfl rfl elem33 zero31 rfl bytes31 (by decide) slc33 fun G hG => ?_
          (try simp [*, -List.all_eq_true])
          refine hG.out _ _ _ _ _ (o1.out) (by simp) (by simp) (by omega) fun v1 σ1 q1 q2 => ?_
          clear hG G
          clear q2
          replace q1 := Lib.hid q1
          refine go1 [5,40] [] (cns Try.results19 trivial) ?_
          exact ⟨by simp [*], by simp, _, by simp, q1.out⟩
  · skip
    (try simp at hk)
    obtain ⟨h4, v, h3, o1⟩ := hI
    replace o1 := Lib.hid o1
    refine go1 [5,40] [] (cns Try.results19 trivial) ?_
    exact out_own o1.out (by simp)
end Go.Proofs.Ytgdefllblcmgpaa
