/- Merging: Msgs. -/
import Derived.Test.YtemijcjgdgdhjabGreatWm4
namespace Go.Proofs.YtemijcjgdgdhjabGreat
open Go.RowKit
set_option linter.unusedSimpArgs false
set_option maxRecDepth 10000
def OkU (l : List Run) : Prop := l.length ≤ 500000 ∧ ∀ r ∈ l, 0 < r.1.length ∧ r.1.length ≤ 500000
theorem gatherU_ok : ∀ (f : Nat) (x : Msg) (l : List Run), OkU l → OkU (gatherU f x l).2 ∧ countU (gatherU f x l).2 ≤ countU l
  | 0, x, l, h => ⟨h, Nat.le_refl _⟩
  | f + 1, x, l, h => by
    unfold gatherU
    split
    · rename_i hc
      have hp : 0 < l.length := List.length_pos_iff.2 hc.1
      have h2 := popU_ok hp h.1 h.2
      have h3 := countU_pop hp (fun r hr => (h.2 r hr).1)
      obtain ⟨q1, q2⟩ := gatherU_ok f (combM x (headM (at_ l 0))) (popU l) h2
      exact ⟨q1, by omega⟩
    · exact ⟨h, Nat.le_refl _⟩
theorem nextU_ok {l : List Run} (h : OkU l) (h0 : 0 < l.length) : OkU (nextU l).2 ∧ countU (nextU l).2 + 1 ≤ countU l := by
  have h2 := popU_ok h0 h.1 h.2
  have h3 := countU_pop h0 (fun r hr => (h.2 r hr).1)
  obtain ⟨q1, q2⟩ := gatherU_ok (countU (popU l) + 1) (headM (at_ l 0)) (popU l) h2
  exact ⟨q1, by unfold nextU; omega⟩
def iterU : Nat → List Run → List Run
  | 0, l => l
  | k + 1, l => iterU k (nextU l).2
theorem iterU_succ : ∀ (k : Nat) (l : List Run), iterU (k + 1) l = (nextU (iterU k l)).2
  | 0, l => rfl
  | k + 1, l => iterU_succ k (nextU l).2
/-- All that Next tells. -/
def tellU : Nat → List Run → List Msg
  | 0, _ => []
  | f + 1, l => if l = [] then [] else (nextU l).1 :: tellU f (nextU l).2
theorem tellU_spec : ∀ (f : Nat) (l : List Run), OkU l → countU l ≤ f → iterU (tellU f l).length l = [] ∧ (∀ (k : Nat) (h : k < (tellU f l).length), 0 < (iterU k l).length ∧ (tellU f l)[k] = (nextU (iterU k l)).1) ∧ ∀ k, k ≤ (tellU f l).length → OkU (iterU k l)
  | 0, l, h, hc => by
    have : l = [] := by
      cases l with
      | nil => rfl
      | cons r l => have h1 := (h.2 r (by simp)).1; have h2 : countU (r :: l) = r.1.length + countU l := by { simp [countU] }; omega
    subst this
    refine ⟨rfl, fun k h => by simp [tellU] at h, fun k hk => ?_⟩
    simp [tellU] at hk; subst hk; exact h
  | f + 1, l, h, hc => by
    unfold tellU
    split
    · rename_i e; subst e
      refine ⟨rfl, fun k h => by simp at h, fun k hk => ?_⟩
      simp at hk; subst hk; exact h
    · rename_i e
      have hp : 0 < l.length := List.length_pos_iff.2 e
      obtain ⟨n1, n2⟩ := nextU_ok h hp
      obtain ⟨q1, q2, q3⟩ := tellU_spec f (nextU l).2 n1 (by omega)
      refine ⟨q1, fun k hk => ?_, fun k hk => ?_⟩
      · cases k with
        | zero => exact ⟨hp, rfl⟩
        | succ k => exact q2 k (by simpa using hk)
      · cases k with
        | zero => exact h
        | succ k => exact q3 k (by simpa using hk)
theorem tellU_len : ∀ (f : Nat) (l : List Run), (tellU f l).length ≤ f
  | 0, l => by simp [tellU]
  | f + 1, l => by unfold tellU; split; simp; simp; exact tellU_len f _
theorem HeadsQ.stay {p q : Nat} {l : List Run} {σ s : Sto} (h : HeadsQ p q [] l σ) (hp : s[p]? = σ[p]?) (hq : s[q]? = σ[q]?) : HeadsQ p q [] l s := by
  obtain ⟨h0, _, _, v, fu, h1, h2⟩ := h
  refine ⟨h0, fun i o _ _ ho => by simp at ho, by simp, v, fu, by rw [hp]; exact h1, ?_⟩
  rcases h2 with h2 | ⟨g, off, c, h3, h4, h5, h6, h7⟩
  · exact .inl h2
  · exact .inr ⟨g, off, c, h3, h4, by rw [hq]; exact h5, h6, h7⟩
theorem own_stay {k : Nat} {σ s : Sto} {v : AV} {n : Nat} {cs : List AV} (h : Own k σ v n cs) (hs : ∀ j, isH j v → s[j]? = σ[j]?) : Own k s v n cs := by
  rcases h with h | ⟨i, g, off, c, rfl, h2, h3, h4⟩
  · exact .inl h
  · exact .inr ⟨i, g, off, c, rfl, by rw [hs i ⟨_, _, _, _, rfl⟩]; exact h2, h3, h4⟩
theorem some_of_lt {σ : Sto} {i : Nat} (h : i < σ.length) : ∃ o, σ[i]? = some o := ⟨_, List.getElem?_eq_getElem h⟩
/-- A merger at p and q, and a row of messages at o. -/
def MsgsJ (p q o : Nat) (l : List Run) (n : Nat) (cs : List AV) (D : List Nat) (σ : Sto) : Prop :=
  q < σ.length ∧ HeadsQ p q [] l σ ∧ o ≠ p ∧ o ≠ q ∧ (p ∈ D ∧ q ∈ D ∧ o ∈ D) ∧ (∀ i ∈ D, i < σ.length) ∧ ∃ v fu, σ[o]? = some ⟨[v], 0, false, fu⟩ ∧ Own 3 σ v n cs ∧ ¬ isH o v ∧ ¬ isH p v ∧ ¬ isH q v ∧ ∀ j, isH j v → j ∈ D
theorem MsgsJ.stay {p q o : Nat} {l : List Run} {n : Nat} {cs : List AV} {D : List Nat} {σ s : Sto} (h : MsgsJ p q o l n cs D σ) (hs : ∀ i ∈ D, s[i]? = σ[i]?) : MsgsJ p q o l n cs D s := by
  obtain ⟨h1, h2, h3, h4, ⟨d1, d2, d3⟩, h6, v, fu, h7, h8, h9, ha, hb, hc⟩ := h
  have hlt : ∀ i ∈ D, i < s.length := fun i hi => by
    obtain ⟨o, ho⟩ := some_of_lt (h6 i hi)
    rw [← hs i hi] at ho
    exact lt_of_get ho
  exact ⟨hlt q d2, h2.stay (hs p d1) (hs q d2), h3, h4, ⟨d1, d2, d3⟩, hlt, v, fu, by rw [hs o d3]; exact h7, own_stay h8 fun j hj => hs j (hc j hj), h9, ha, hb, hc⟩
theorem msgs_each (p q o : Nat) (l : List Run) (hok : OkU l) (hcu : countU l ≤ 40000000) : EachM Tryz.prog (.fn (.func 16) [.mp p 0 0] []) (.fn (.func 40) [] [.mp o 0 0]) (tellU (countU l) l) (fun k D σ => MsgsJ p q o (iterU k l) k (flatM ((tellU (countU l) l).take k)) D σ) (fun k D σ => MsgsJ p q o (iterU (k + 1) l) k (flatM ((tellU (countU l) l).take k)) D σ) := by
  obtain ⟨t1, t2, t3⟩ := tellU_spec (countU l) l hok (Nat.le_refl _)
  have t4 := tellU_len (countU l) l
  generalize tellU (countU l) l = M at *
  refine ⟨fun k D σ σ' h hs => h.stay hs, fun k D σ σ' h hs => h.stay hs, fun k D σ h => h.2.2.2.2.2.1, fun k D σ h => h.2.2.2.2.2.1, fun k D σ hk h => ?_, fun D σ h => ?_, fun k D σ hk h => ?_⟩
  · obtain ⟨h1, h2, h3, h4, ⟨d1, d2, d3⟩, h6, v, fu, h7, h8, h9, ha, hb, hc⟩ := h
    obtain ⟨u1, u2⟩ := t2 k hk
    refine ⟨16, [.mp p 0 0], rfl, (mNext_spec p q σ _ σ h2.self u1).mono fun r s ⟨e1, e2⟩ => ⟨by rw [e1, u2], ⟨D, ?_, fun i hi => .inl hi⟩, fun i ob hi ho => e2.2.1 i ob (fun e => hi (e ▸ d1)) (fun e => hi (e ▸ d2)) ho⟩⟩
    have keep : ∀ i, i ≠ p → i ≠ q → i < σ.length → s[i]? = σ[i]? := fun i hp hq hi => by
      obtain ⟨ob, ho⟩ := some_of_lt hi
      rw [ho]; exact e2.2.1 i ob hp hq ho
    rw [iterU_succ]
    refine ⟨Nat.lt_of_lt_of_le h1 e2.2.2.1, ⟨e2.1, fun i o _ _ ho => by simp at ho, by simp, e2.2.2.2⟩, h3, h4, ⟨d1, d2, d3⟩, fun i hi => Nat.lt_of_lt_of_le (h6 i hi) e2.2.2.1, v, fu, by rw [keep o h3 h4 (h6 o d3)]; exact h7, own_stay h8 fun j hj => keep j (fun e => ha (e ▸ hj)) (fun e => hb (e ▸ hj)) (h6 j (hc j hj)), h9, ha, hb, hc⟩
  · obtain ⟨h1, h2, h3, h4, ⟨d1, d2, d3⟩, h6, v, fu, h7, h8, h9, ha, hb, hc⟩ := h
    rw [t1] at h2
    refine ⟨16, [.mp p 0 0], rfl, (mNext_nil p q σ σ h2.self).mono fun r s ⟨e1, e2⟩ => ⟨e1, ⟨D, ?_, fun i hi => .inl hi⟩, fun i ob hi ho => e2.2.1 i ob (fun e => hi (e ▸ d1)) (fun e => hi (e ▸ d2)) ho⟩⟩
    have keep : ∀ i, i ≠ p → i ≠ q → i < σ.length → s[i]? = σ[i]? := fun i hp hq hi => by
      obtain ⟨ob, ho⟩ := some_of_lt hi
      rw [ho]; exact e2.2.1 i ob hp hq ho
    rw [t1]
    exact ⟨Nat.lt_of_lt_of_le h1 e2.2.2.1, ⟨e2.1, fun i o _ _ ho => by simp at ho, by simp, e2.2.2.2⟩, h3, h4, ⟨d1, d2, d3⟩, fun i hi => Nat.lt_of_lt_of_le (h6 i hi) e2.2.2.1, v, fu, by rw [keep o h3 h4 (h6 o d3)]; exact h7, own_stay h8 fun j hj => keep j (fun e => ha (e ▸ hj)) (fun e => hb (e ▸ hj)) (h6 j (hc j hj)), h9, ha, hb, hc⟩
  · obtain ⟨h1, h2, h3, h4, ⟨d1, d2, d3⟩, h6, v, fu, h7, h8, h9, ha, hb, hc⟩ := h
    refine ⟨40, [.agg (cM M[k]), .mp o 0 0], rfl, (mMsgs1_spec M[k] o k v fu _ (by omega) σ h7 h8 h9).mono fun r s ⟨e1, v', e2, e3, e4, e5, e6, e7⟩ => ⟨e1, ?_, fun i ob hi ho => e6 i ob (fun e => hi (e ▸ d3)) (fun hh => hi (hc i hh)) ho⟩⟩
    have keep : ∀ i, i ≠ o → ¬ isH i v → i < σ.length → s[i]? = σ[i]? := fun i h1 h2 hi => by
      obtain ⟨ob, ho⟩ := some_of_lt hi
      rw [ho]; exact e6 i ob h1 h2 ho
    have hcs : flatM (M.take k) ++ cM M[k] = flatM (M.take (k + 1)) := by rw [List.take_add_one, List.getElem?_eq_getElem hk, flatM_append]; simp [flatM, flatC]
    rw [hcs] at e3
    rcases e3 with ⟨_, h, _⟩ | ⟨i1, g1, off1, c1, rfl, r1, r2, r3⟩
    · omega
    have hno : ∀ i, i < σ.length → ¬ isH i v → ¬ isH i (.ms i1 g1 off1 (k + 1) 3) := fun i hi hv hh => by
      rcases e5 i hh with h | h
      · exact hv h
      · omega
    have hp1 : p < σ.length := h6 p d1
    have hsl : ∀ i, i < σ.length → i < s.length := fun i hi => Nat.lt_of_lt_of_le hi e7
    refine ⟨i1 :: D, ⟨hsl q h1, h2.stay (keep p h3.symm ha hp1) (keep q h4.symm hb h1), h3, h4, ⟨by simp [d1], by simp [d2], by simp [d3]⟩, fun i hi => ?_, _, false, e2, .inr ⟨i1, g1, off1, c1, rfl, r1, r2, r3⟩, e4, hno p hp1 ha, hno q h1 hb, fun j hj => ?_⟩, fun i hi => ?_⟩
    · rcases List.mem_cons.1 hi with rfl | hi
      · exact lt_of_get r1
      · exact hsl i (h6 i hi)
    · rw [isH_ms hj]; simp
    · rcases List.mem_cons.1 hi with rfl | hi
      · rcases e5 i ⟨_, _, _, _, rfl⟩ with h | h
        · exact .inl (hc i h)
        · exact .inr h
      · exact .inl hi
theorem countU_bd {B : Nat} : ∀ {l : List Run}, (∀ r ∈ l, r.1.length ≤ B) → countU l ≤ B * l.length
  | [], _ => by simp [countU]
  | r :: l, h => by
    have h1 := h r (by simp)
    have h2 := countU_bd (l := l) (B := B) fun x hx => h x (by simp [hx])
    have h3 : countU (r :: l) = r.1.length + countU l := by { simp [countU] }
    rw [h3, List.length_cons, Nat.mul_succ]
    omega
theorem runsU_mem {rs : List (List Msg)} {r : Run} (h : r ∈ runsU rs) : r.1 ∈ rs ∧ 0 < r.1.length := by
  unfold runsU at h
  simp at h
  obtain ⟨a, b, ⟨h1, h2⟩, rfl⟩ := h
  refine ⟨?_, h2⟩
  obtain ⟨_, _, h⟩ := List.mem_zipIdx h1
  simp only
  rw [h]; exact List.getElem_mem _
/-- What all runs come to, as one row. -/
def mergedU (rs : List (List Msg)) : List Msg := tellU (countU (heapInit lessU (runsU rs))) (heapInit lessU (runsU rs))
theorem heapInit_ok {l : List Run} (h : OkU l) : OkU (heapInit lessU l) ∧ countU (heapInit lessU l) = countU l := by
  obtain ⟨p1, _⟩ := heapInit_spec lessU_ahead l
  exact ⟨⟨by rw [p1.length_eq]; exact h.1, fun r hr => h.2 r (p1.mem_iff.1 hr)⟩, countU_perm p1⟩
/-- What Msgs comes to. -/
def msgsR (rs : List (List Msg)) : AV := if errU rs = 0 then .tup [.fs (flatM (mergedU rs)) (mergedU rs).length, .sc (.int .i64 0)] else .tup [.sc (.slice none 0 0), .sc (.int .i64 (errU rs))]
set_option maxHeartbeats 4000000 in
theorem mMsgs_spec (rs : List (List Msg)) (hl : rs.length ≤ 1000) (hn : ∀ l ∈ rs, l.length ≤ 10000) : PSpec Tryz.prog 17 [.fs (flatX rs) rs.length] (msgsR rs) := by
  have hok : OkU (runsU rs) := ⟨by have := runsU_len rs; omega, runsU_ok fun l hl => by have := hn l hl; omega⟩
  obtain ⟨k1, k2⟩ := heapInit_ok hok
  have hc : countU (runsU rs) ≤ 40000000 := by
    have h1 := countU_bd (l := runsU rs) (B := 10000) fun r hr => hn _ (runsU_mem hr).1
    have h2 := runsU_len rs
    have h3 : 10000 * (runsU rs).length ≤ 10000 * 1000 := Nat.mul_le_mul_left _ (by omega)
    omega
  have hnew := fun σ => mNew_spec rs (by omega) (fun l hl => by have := hn l hl; omega) σ
  unfold msgsR
  by_cases he : errU rs = 0
  · rw [if_pos he]
    refine spec_pureFW (by simp) ?_
    refine spec_intro Tryz.func17 good17 rfl (by simp [Tryz.ntmps17]) ?_
    repeat' (first
     | (with_reducible first | refine Stp.pf ?_ | refine block_x (by decide) ?_ | refine ret_n ?_)
     | refine tri_reg [] ?_ | refine tri_regc [] [] mixed (by decide +kernel) ?_
     | (refine rwf_nilt rfl (by decide +kernel) fun B hB => ?_; (try simp [*]); refine hB.out _ fun b => ?_; clear hB B)
     | (refine Rul.pf ⟨rfl, rfl⟩ fun B C hB => ?_; (try simp [*, -List.all_eq_true, Tryz.results17]); (try (simp (disch := first | assumption | omega) only [wc, ite_yes]; (try simp [*, -List.all_eq_true, Tryz.results17]))); first | (first | refine hB.out.1 _ (fun hb => ?_) fun hb => ⟨rfl, ?_⟩ | refine hB.out.1 _ (fun hb => ?_) fun hb => ?_) <;> clear hB C B <;> (try simp only [Bool.not_true, Bool.not_false] at hb) <;> (first | (exfalso; simp at hb; done) | (exfalso; simp at hb; omega) | (rw [hb]; (try simp at hb)) | (try simp at hb)) | ((first | refine hB.out.1 _ _ ?_ | refine hB.out.1 _ ?_ | refine hB.out.2 ⟨rfl, ?_⟩); clear hB C B) | (refine hB.out.2 _ ?_; clear hB C B; (try rfl)))
     | refine rwf_o ?_ | refine rwc_o .n rfl ?_ | refine rwc_o .z rfl ?_ | refine rwc_o .w rfl ?_ | refine rwc_o .b rfl ?_ | refine rwc_o _ rfl ?_)
    refine rwf_ca rfl fun C' hC hP => ?_
    clear hP
    (try simp [*, -List.all_eq_true]); (try (simp (disch := first | assumption | omega) only [wrap_id, wrapu_id, wrapb_id, tmod_nn, tdiv_nn, ite_yes, flatM_seg, flatM_0, flatM_1, flatM_2, flatI_seg, flatI_0, flatI_1, flatS_get]; (try simp [*, -List.all_eq_true])))
    refine hC.out _ _ _ (hnew _) fun r s hq => ?_
    clear hC C'
    obtain hq := hq
    obtain ⟨hq, _⟩ := hq
    obtain ⟨p, q, _, _, hql, rfl, hH⟩ := hq he
    have hpl : p < s.length := by obtain ⟨_, _, _, v, fu, h1, _⟩ := hH; exact lt_of_get h1
    have hE := msgs_each p q s.length (heapInit lessU (runsU rs)) k1 (by omega)
    have hJ : MsgsJ p q s.length (iterU 0 (heapInit lessU (runsU rs))) 0 (flatM ((tellU (countU (heapInit lessU (runsU rs))) (heapInit lessU (runsU rs))).take 0)) [p, q, s.length] (s ++ [⟨[.sc (.slice none 0 0)], 0, false, false⟩]) := by
      refine ⟨by simp; omega, hH.append _, by omega, by omega, by simp, fun i hi => ?_, _, false, List.getElem?_concat_length, by simpa [flatM, flatC] using Own.nil _ _, isH_nil _, isH_nil _, isH_nil _, fun j h => absurd h (isH_nil j)⟩
      simp at hi ⊢
      rcases hi with rfl | rfl | rfl <;> omega
    repeat' (first
     | (with_reducible first | refine Stp.pf ?_ | refine block_x (by decide) ?_ | refine ret_n ?_)
     | refine tri_reg [6] ?_ | refine tri_regc [6] [] mixed (by decide +kernel) ?_
     | (refine rwf_nilt rfl (by decide +kernel) fun B hB => ?_; (try simp [*]); refine hB.out _ fun b => ?_; clear hB B)
     | (refine Rul.pf ⟨rfl, rfl⟩ fun B C hB => ?_; (try simp [*, -List.all_eq_true, Tryz.results17]); (try (simp (disch := first | assumption | omega) only [wc, ite_yes]; (try simp [*, -List.all_eq_true, Tryz.results17]))); first | (first | refine hB.out.1 _ (fun hb => ?_) fun hb => ⟨rfl, ?_⟩ | refine hB.out.1 _ (fun hb => ?_) fun hb => ?_) <;> clear hB C B <;> (try simp only [Bool.not_true, Bool.not_false] at hb) <;> (first | (exfalso; simp at hb; done) | (exfalso; simp at hb; omega) | (rw [hb]; (try simp at hb)) | (try simp at hb)) | ((first | refine hB.out.1 _ _ ?_ | refine hB.out.1 _ ?_ | refine hB.out.2 ⟨rfl, ?_⟩); clear hB C B) | (refine hB.out.2 _ ?_; clear hB C B; (try rfl)))
     | refine rwf_o ?_ | refine rwc_o .n rfl ?_ | refine rwc_o .z rfl ?_ | refine rwc_o .w rfl ?_ | refine rwc_o .b rfl ?_ | refine rwc_o _ rfl ?_)
    refine rwf_ca rfl fun C' hC hP => ?_
    clear hP
    (try simp [*, -List.all_eq_true]); (try (simp (disch := first | assumption | omega) only [wrap_id, wrapu_id, wrapb_id, tmod_nn, tdiv_nn, ite_yes, flatM_seg, flatM_0, flatM_1, flatM_2, flatI_seg, flatI_0, flatI_1, flatS_get]; (try simp [*, -List.all_eq_true])))
    refine hC.out _ _ _ (mEach_spec hE _ _ hJ) fun r s2 hq => ?_
    clear hC C'
    obtain ⟨rfl, D2, hz⟩ := hq
    obtain ⟨-, -, -, -, -, -, v, fu, g1, g2, -⟩ := hz
    rw [List.take_length] at g2
    repeat' (first
     | (with_reducible first | refine Stp.pf ?_ | refine block_x (by decide) ?_ | refine ret_n ?_)
     | refine tri_reg [6] ?_ | refine tri_regc [6] [] mixed (by decide +kernel) ?_
     | (refine rwf_nilt rfl (by decide +kernel) fun B hB => ?_; (try simp [*]); refine hB.out _ fun b => ?_; clear hB B)
     | (refine Rul.pf ⟨rfl, rfl⟩ fun B C hB => ?_; (try simp [*, -List.all_eq_true, Tryz.results17]); (try (simp (disch := first | assumption | omega) only [wc, ite_yes]; (try simp [*, -List.all_eq_true, Tryz.results17]))); first | (first | refine hB.out.1 _ (fun hb => ?_) fun hb => ⟨rfl, ?_⟩ | refine hB.out.1 _ (fun hb => ?_) fun hb => ?_) <;> clear hB C B <;> (try simp only [Bool.not_true, Bool.not_false] at hb) <;> (first | (exfalso; simp at hb; done) | (exfalso; simp at hb; omega) | (rw [hb]; (try simp at hb)) | (try simp at hb)) | ((first | refine hB.out.1 _ _ ?_ | refine hB.out.1 _ ?_ | refine hB.out.2 ⟨rfl, ?_⟩); clear hB C B) | (refine hB.out.2 _ ?_; clear hB C B; (try rfl)))
     | refine rwf_o ?_ | refine rwc_o .n rfl ?_ | refine rwc_o .z rfl ?_ | refine rwc_o .w rfl ?_ | refine rwc_o .b rfl ?_ | refine rwc_o _ rfl ?_)
    exact out_own1 g2 (by simp)
  · rw [if_neg he]
    refine spec_pureFW (by simp) ?_
    refine spec_intro Tryz.func17 good17 rfl (by simp [Tryz.ntmps17]) ?_
    repeat' (first
     | (with_reducible first | refine Stp.pf ?_ | refine block_x (by decide) ?_ | refine ret_n ?_)
     | refine tri_reg [] ?_ | refine tri_regc [] [] mixed (by decide +kernel) ?_
     | (refine rwf_nilt rfl (by decide +kernel) fun B hB => ?_; (try simp [*]); refine hB.out _ fun b => ?_; clear hB B)
     | (refine Rul.pf ⟨rfl, rfl⟩ fun B C hB => ?_; (try simp [*, -List.all_eq_true, Tryz.results17]); (try (simp (disch := first | assumption | omega) only [wc, ite_yes]; (try simp [*, -List.all_eq_true, Tryz.results17]))); first | (first | refine hB.out.1 _ (fun hb => ?_) fun hb => ⟨rfl, ?_⟩ | refine hB.out.1 _ (fun hb => ?_) fun hb => ?_) <;> clear hB C B <;> (try simp only [Bool.not_true, Bool.not_false] at hb) <;> (first | (exfalso; simp at hb; done) | (exfalso; simp at hb; omega) | (rw [hb]; (try simp at hb)) | (try simp at hb)) | ((first | refine hB.out.1 _ _ ?_ | refine hB.out.1 _ ?_ | refine hB.out.2 ⟨rfl, ?_⟩); clear hB C B) | (refine hB.out.2 _ ?_; clear hB C B; (try rfl)))
     | refine rwf_o ?_ | refine rwc_o .n rfl ?_ | refine rwc_o .z rfl ?_ | refine rwc_o .w rfl ?_ | refine rwc_o .b rfl ?_ | refine rwc_o _ rfl ?_)
    refine rwf_ca rfl fun C' hC hP => ?_
    clear hP
    (try simp [*, -List.all_eq_true]); (try (simp (disch := first | assumption | omega) only [wrap_id, wrapu_id, wrapb_id, tmod_nn, tdiv_nn, ite_yes, flatM_seg, flatM_0, flatM_1, flatM_2, flatI_seg, flatI_0, flatI_1, flatS_get]; (try simp [*, -List.all_eq_true])))
    refine hC.out _ _ _ (hnew _) fun r s hq => ?_
    clear hC C'
    obtain hq := hq
    obtain ⟨_, hq⟩ := hq
    obtain ⟨rfl, _⟩ := hq he
    repeat' (first
     | (with_reducible first | refine Stp.pf ?_ | refine block_x (by decide) ?_ | refine ret_n ?_)
     | refine tri_reg [] ?_ | refine tri_regc [] [] mixed (by decide +kernel) ?_
     | (refine rwf_nilt rfl (by decide +kernel) fun B hB => ?_; (try simp [*]); refine hB.out _ fun b => ?_; clear hB B)
     | (refine Rul.pf ⟨rfl, rfl⟩ fun B C hB => ?_; (try simp [*, -List.all_eq_true, Tryz.results17]); (try (simp (disch := first | assumption | omega) only [wc, ite_yes]; (try simp [*, -List.all_eq_true, Tryz.results17]))); first | (first | refine hB.out.1 _ (fun hb => ?_) fun hb => ⟨rfl, ?_⟩ | refine hB.out.1 _ (fun hb => ?_) fun hb => ?_) <;> clear hB C B <;> (try simp only [Bool.not_true, Bool.not_false] at hb) <;> (first | (exfalso; simp at hb; done) | (exfalso; simp at hb; omega) | (rw [hb]; (try simp at hb)) | (try simp at hb)) | ((first | refine hB.out.1 _ _ ?_ | refine hB.out.1 _ ?_ | refine hB.out.2 ⟨rfl, ?_⟩); clear hB C B) | (refine hB.out.2 _ ?_; clear hB C B; (try rfl)))
     | refine rwf_o ?_ | refine rwc_o .n rfl ?_ | refine rwc_o .z rfl ?_ | refine rwc_o .w rfl ?_ | refine rwc_o .b rfl ?_ | refine rwc_o _ rfl ?_)
    exact out_flat (by simp [AV.flat, flatL]) (.refl _)
end Go.Proofs.YtemijcjgdgdhjabGreat
