/- The document's spaces: In, Set. -/
import Derived.Test.YtgdefllblcmgpaaYi
namespace Go.Proofs.Ytgdefllblcmgpaa
open Go.RowKit
set_option linter.unusedSimpArgs false
set_option maxRecDepth 10000
def cB (b : Bool) : AV := .sc (.bool b)
def flatB (l : List Bool) : List AV := l.map cB
@[simp] theorem flatB_length (l : List Bool) : (flatB l).length = l.length := by simp [flatB]
@[simp] theorem flatB_flat (l : List Bool) : flatL (flatB l) = true := by
  rw [flatL_iff]
  intro x hx
  obtain ⟨b, _, rfl⟩ := List.mem_map.1 hx
  rfl
@[simp] theorem flatB_one (l : List Bool) : (flatB l).all AV.one = true := by
  rw [List.all_eq_true]
  intro x hx
  obtain ⟨b, _, rfl⟩ := List.mem_map.1 hx
  rfl
theorem flatB_get (l : List Bool) (k : Nat) (h : k < l.length) : (flatB l)[k]? = some (.sc (.bool l[k])) := by
  unfold flatB
  rw [List.getElem?_map, List.getElem?_eq_getElem h]
  rfl
@[simp] theorem flatB_at (l : List Bool) (k : Nat) (h : k < (flatB l).length) : (flatB l)[k] = .sc (.bool (l[k]'(by simpa using h))) := by
  have h' : k < l.length := by simpa using h
  have := flatB_get l k h'
  rw [List.getElem?_eq_getElem h] at this
  exact Option.some.inj this
theorem flatB_set (l : List Bool) (k : Nat) (b : Bool) : (flatB l).set k (.sc (.bool b)) = flatB (l.set k b) := by
  unfold flatB
  rw [List.map_set]
  rfl
theorem seg_set {c cs : List AV} {off n i : Nat} (h : (c.drop off).take n = cs) (x : AV) : ((c.set (off + i) x).drop off).take n = cs.set i x := by
  rw [List.drop_set, if_neg (by omega), List.take_set, h, Nat.add_sub_cancel_left]
theorem seg_get {c cs : List AV} {off n i : Nat} (h : (c.drop off).take n = cs) (hi : i < n) : c[off + i]? = cs[i]? := by
  rw [← h, List.getElem?_take, if_pos hi, List.getElem?_drop]
theorem rIn_spec (n : Int) (x : Ext) (h0 : 0 ≤ n) (hn : n ≤ 512) : PSpec Try.prog 33 [.sc (.int .i64 n), .agg (cE x)] (.sc (.bool (isInX n x))) := by
  unfold isInX
  refine spec_pure (by simp) (by simp) ?_
  refine spec_intro Try.func33 good33 rfl (by simp [Try.ntmps33]) ?_
  by_cases h1 : 0 ≤ x.lo
  · by_cases h2 : 1 ≤ x.sz
    · by_cases h3 : x.lo < n
      · by_cases h4 : x.sz ≤ n - x.lo
        · skip
          refine go1 [] [] (cns Try.results33 (cns cE.eq_1 trivial)) ?_
          simp [*]
        · skip
          refine go1 [] [] (cns Try.results33 (cns cE.eq_1 trivial)) ?_
          simp [*]
      · skip
        refine go1 [] [] (cns Try.results33 (cns cE.eq_1 trivial)) ?_
        simp [*]
    · by_cases h3 : x.lo < n
      · skip
        refine go1 [] [] (cns Try.results33 (cns cE.eq_1 trivial)) ?_
        simp [*]
      · skip
        refine go1 [] [] (cns Try.results33 (cns cE.eq_1 trivial)) ?_
        simp [*]
  · skip
    refine go1 [] [] (cns Try.results33 (cns cE.eq_1 trivial)) ?_
    simp [*]
/-- What the document's Set tells. -/
def setB (l : List Bool) (list : List Ext) (is : Bool) : List Bool × Int := if list.all (isInX l.length) = true then (match runB is (blks list) l with
  | some o => (o, 0)
  | none => (l, 11)) else (l, 3)
theorem runB_len (is : Bool) : ∀ (bs : List Nat) (l o : List Bool), runB is bs l = some o → o.length = l.length
  | [], l, o, h => by cases h; rfl
  | b :: bs, l, o, h => by
    unfold runB at h
    split at h
    · cases h
    · rw [runB_len is bs _ o h, List.length_set]
theorem setB_len (l : List Bool) (list : List Ext) (is : Bool) : (setB l list is).1.length = l.length := by
  unfold setB
  split
  · cases h : runB is (blks list) l with
    | some o => exact runB_len is _ l o h
    | none => rfl
  · rfl
theorem blks_take (list : List Ext) (k : Nat) (h : k < list.length) : blks (list.take (k + 1)) = blks (list.take k) ++ blk list[k] := by
  unfold blks
  rw [List.take_add_one, List.getElem?_eq_getElem h, List.flatMap_append]
  simp
theorem blks_split (list : List Ext) (k : Nat) (h : k < list.length) : blks list = blks (list.take k) ++ blk list[k] ++ blks (list.drop (k + 1)) := by
  unfold blks
  conv => lhs; rw [take_get_drop h]
  rw [List.flatMap_append, List.flatMap_cons, List.append_assoc]
theorem runB_none {is : Bool} {a b c : List Nat} {l o : List Bool} {x : Nat} (h : runB is (a ++ b) l = some o) (hx : o[x]? = some is) : runB is (a ++ (b ++ x :: c)) l = none := by
  rw [← List.append_assoc, runB_app, h]
  show runB is (x :: c) o = none
  unfold runB
  rw [if_pos hx]
def OwB (i g off n : Nat) (o : List Bool) (σ : Sto) : Prop := ∃ c, σ[i]? = some ⟨c, g, false, false⟩ ∧ off + n ≤ c.length ∧ (c.drop off).take n = flatB o ∧ o.length = n
theorem OwB.get {i g off n : Nat} {o : List Bool} {σ : Sto} (h : OwB i g off n o σ) {b : Nat} (hb : b < n) : ∃ c, σ[i]? = some ⟨c, g, false, false⟩ ∧ off + n ≤ c.length ∧ off + b < c.length ∧ ∀ h', c[off + b]'h' = .sc (.bool (o[b]?.getD false)) := by
  obtain ⟨c, h1, h2, h3, h4⟩ := h
  refine ⟨c, h1, h2, by omega, fun h' => ?_⟩
  have := seg_get h3 hb
  rw [List.getElem?_eq_getElem h', flatB_get o b (by omega)] at this
  rw [List.getElem?_eq_getElem (by omega)]
  exact Option.some.inj this
theorem OwB.set {i g off n : Nat} {o : List Bool} {σ : Sto} (h : OwB i g off n o σ) {c : List AV} (hc : σ[i]? = some ⟨c, g, false, false⟩) (b : Nat) (x : Bool) : OwB i g off n (o.set b x) (σ.set i ⟨c.set (off + b) (.sc (.bool x)), g, false, false⟩) := by
  obtain ⟨c', h1, h2, h3, h4⟩ := h
  rw [hc] at h1
  cases h1
  exact ⟨_, List.getElem?_set_self (lt_of_get hc), by simpa using h2, by rw [seg_set h3, flatB_set], by simpa using h4⟩
set_option maxHeartbeats 1000000 in
theorem rSet_spec (l : List Bool) (list : List Ext) (is : Bool) (h1 : 1 ≤ l.length) (hn : l.length ≤ 512) (hl : list.length ≤ 1000000) :
    PSpec Try.prog 17 [.fs (flatB l) l.length, .fs (flatE list) list.length, .sc (.bool is)] (.tup [.fs (flatB (setB l list is).1) l.length, .sc (.int .i64 (setB l list is).2)]) := by
  have hin := fun x => rIn_spec l.length x (by omega) (by omega)
  refine spec_pureFW (by simp) ?_
  refine spec_intro Try.func17 good17 rfl (by simp [Try.ntmps17]) ?_
  refine go1 [27,29] [] (cns Try.results17 trivial) ?_
  refine tri_for [0, 1, 2] list.length (fun k_ e σ => σ = [] ∧ e 8 = .sc (.int .i64 k_) ∧ ∀ x ∈ list.take k_, isInX l.length x = true) ?_ (fun j env' σ' hlt hk hI => ?_) (fun env' σ' hk hI => ?_)
  · exact ⟨rfl, by simp, by simp⟩
  · skip
    (try simp at hk)
    obtain ⟨rfl, h8, ha⟩ := hI
    have sg := flatE_seg list j hlt
    replace ha := Lib.hid ha
    cases hi : isInX l.length list[j] with
    | true =>
      have hc := hin list[j]
      rw [hi] at hc
      have hall : ∀ x ∈ list.take (j + 1), isInX l.length x = true := fun x hx => by
        rw [List.take_add_one, List.getElem?_eq_getElem hlt] at hx
        rcases List.mem_append.1 hx with q | q
        · exact ha.out x q
        · rw [List.mem_singleton.1 q]; exact hi
      replace hall := Lib.hid hall
      clear hi ha hin
      refine go1 [27,29] [] (cns hc (cns Try.results17 trivial)) ?_
      exact ⟨by simp [*], rfl, by simp, hall.out⟩
    | false =>
      have hc := hin list[j]
      rw [hi] at hc
      have hR : setB l list is = (l, 3) := by
        unfold setB
        rw [if_neg fun q => by rw [List.all_eq_true.1 q _ (List.getElem_mem hlt)] at hi; cases hi]
      rw [hR]
      clear hi ha hin hR
      refine go1 [27,29] [] (cns hc (cns Try.results17 trivial)) ?_
      exact out_flat (by simp [AV.flat, flatL]) (.refl _)
  · skip
    (try simp at hk)
    obtain ⟨rfl, h8, ha⟩ := hI
    rw [List.take_length] at ha
    have hR : setB l list is = (match runB is (blks list) l with
      | some o => (o, 0)
      | none => (l, 11)) := by unfold setB; rw [if_pos (List.all_eq_true.2 ha)]
    rw [hR]
    replace ha := Lib.hid ha
    clear hR hin
    refine go1 [27,29] [] (cns Try.results17 trivial) ?_
    refine rwf_app rfl rfl elem23 zero4 rfl bytes4 (by decide) slc23 fun G hG => ?_
    (try simp [*, -List.all_eq_true])
    refine hG.out _ _ _ _ _ (Own.new 1 []) (by simp) (by simp) (by omega) fun v1 σ1 q1 q2 => ?_
    clear hG G
    clear q2
    simp only [Nat.zero_add, List.nil_append] at q1
    rcases q1 with ⟨_, q, _⟩ | ⟨i, g, off, c, rfl, q2, q3, q4⟩
    · omega
    have hO : OwB i g off l.length l σ1 := ⟨c, q2, by simpa using q3, by simpa using q4, rfl⟩
    clear q2 q3 q4 c
    refine go1 [27,29] [] (cns Try.results17 trivial) ?_
    refine tri_for [0, 1, 2, 9] list.length (fun k_ e σ => e 10 = .sc (.int .i64 k_) ∧ ∃ o, OwB i g off l.length o σ ∧ runB is (blks (list.take k_)) l = some o) ?_ (fun j env' σ' hlt hk hI => ?_) (fun env' σ' hk hI => ?_)
    · exact ⟨by simp, l, hO, by simp [blks, runB]⟩
    · skip
      (try simp at hk)
      obtain ⟨h10, o, hO2, hr⟩ := hI
      clear hO
      have sg := flatE_seg list j hlt
      have a0 := flatE_0 list j hlt
      have a1 := flatE_1 list j hlt
      have hx := isInX_iff.1 (ha.out _ (List.getElem_mem hlt))
      obtain ⟨a, haa⟩ := Int.eq_ofNat_of_zero_le hx.1
      obtain ⟨z, hz⟩ := Int.eq_ofNat_of_zero_le (show 0 ≤ list[j].sz by omega)
      have hblk : blk list[j] = List.range' a z := by unfold blk; rw [haa, hz]; rfl
      have hsucc := blks_take list j hlt
      have hsplit := blks_split list j hlt
      rw [hblk] at hsucc hsplit
      have hb : a + z ≤ l.length := by unfold xe at hx; omega
      rw [haa] at a0
      rw [hz] at a1
      clear hx hblk
      rw [hsucc]
      have hend : ((a + z : Nat) : Int) = (a : Int) + (z : Int) := by omega
      refine go1 [27,29] [] (cns Try.results17 trivial) ?_
      refine tri_for [0, 1, 2, 9, 10] z (fun k e σ => e 11 = .sc (.int .i64 (a + k : Nat)) ∧ ∃ o, OwB i g off l.length o σ ∧ runB is (blks (list.take j) ++ List.range' a k) l = some o) ?_ (fun k env' σ' hlt hk hI => ?_) (fun env' σ' hk hI => ?_)
      · exact ⟨by simp, o, hO2, by simpa using hr⟩
      · skip
        (try simp at hk)
        obtain ⟨h11, o2, hO3, hr3⟩ := hI
        clear hO2 hr ha
        have hat : a + k < l.length := by omega
        obtain ⟨c, c1, c2, c3, c4⟩ := hO3.get hat
        have hnx := hO3.set c1 (a + k) is
        have hlt2 : ((a + k : Nat) : Int) < (a : Int) + (z : Int) := by omega
        have hqn : ((a + k : Nat) : Int) + 1 = ((a + (k + 1) : Nat) : Int) := by omega
        have hadd : off + (a + k) < c.length := c3
        rw [List.range'_1_concat]
        have hno : o2[a + k]? = some is → runB is (blks list) l = none := fun q => by
          rw [hsplit, show List.range' a z = List.range' a k ++ (a + k) :: List.range' (a + k + 1) (z - k - 1) by
            rw [show z = k + (z - k - 1 + 1) by omega, ← List.range'_append_1, List.range'_succ]
            simp, List.append_assoc, List.append_assoc]
          exact runB_none hr3 q
        have hyes : o2[a + k]? ≠ some is → runB is (blks (list.take j) ++ (List.range' a k ++ [a + k])) l = some (o2.set (a + k) is) := fun q => by
          rw [← List.append_assoc, runB_app, hr3]
          show runB is [a + k] o2 = _
          unfold runB
          rw [if_neg q]
          rfl
        have hlo2 : a + k < o2.length := by
          obtain ⟨_, _, _, _, q⟩ := hO3
          omega
        have hget : o2[a + k]? = some (o2[a + k]?.getD false) := by rw [List.getElem?_eq_getElem hlo2]; rfl
        rw [hget] at hno hyes
        generalize o2[a + k]?.getD false = ob at *
        clear hget hr3 hO3 hsplit hsucc
        replace hnx := Lib.hid hnx
        generalize a + (k + 1) = q1 at *
        generalize a + k = q at *
        by_cases hob : ob = is
        · have hno := hno (by rw [hob])
          rw [hno]
          subst hob
          clear hyes hnx
          refine go1 [27,29] [] (cns Try.results17 trivial) ?_
          exact out_flat (by simp [AV.flat, flatL]) (.refl _)
        · have hyes := Lib.hid (hyes (fun q => hob (Option.some.inj q)))
          clear hno
          refine go1 [27,29] [] (cns Try.results17 trivial) ?_
          exact ⟨by simp [*], by simp, _, hnx.out, hyes.out⟩
      · skip
        (try simp at hk)
        obtain ⟨h11, o2, hO3, hr3⟩ := hI
        clear hO2 hr ha hsplit hsucc
        refine go1 [27,29] [] (cns Try.results17 trivial) ?_
        exact ⟨by simp [*], by simp, o2, hO3, hr3⟩
    · skip
      (try simp at hk)
      obtain ⟨h10, o, hO2, hr⟩ := hI
      rw [List.take_length] at hr
      rw [hr]
      obtain ⟨c, k1, k2, k3, k4⟩ := hO2
      clear hO
      refine go1 [27,29] [] (cns Try.results17 trivial) ?_
      exact out_own1 (.inr ⟨i, g, off, c, rfl, k1, by simpa using k2, by simpa using k3⟩) (by simp)
end Go.Proofs.Ytgdefllblcmgpaa
