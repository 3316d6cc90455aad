/- The references of pen and msg: what reads, what writes. -/
import Derived.Test.YticpnfgiidljlaaGreatNh
namespace Go.Proofs.YticpnfgiidljlaaGreat
open Go.RowKit
set_option linter.unusedSimpArgs false
set_option linter.unusedVariables false
set_option maxRecDepth 10000
theorem rInRaw_spec {l : Nat} {st : RdS} {σ : Sto} (n : Int) (h : σ[l]? = some (inO st)) : Spec Tryz.prog 98 [.mp l 0 0, .sc (.int .i64 n)] σ fun r σ' => r = .sc (.string (ofL' (rawL n st).1)) ∧ σ' = σ.set l (inO (rawL n st).2) := by
  unfold inO at h
  obtain ⟨t, b⟩ := st
  by_cases hc : b = false ∧ 0 ≤ n ∧ n ≤ t.length
  · obtain ⟨rfl, h0, h1⟩ := hc
    obtain ⟨m, rfl⟩ := Int.eq_ofNat_of_zero_le h0
    have hm : m ≤ t.length := by omega
    have hR : rawL m (t, false) = (t.take m, (t.drop m, false)) := by
      unfold rawL
      rw [if_pos ⟨rfl, h0, h1⟩]
      rfl
    rw [hR]
    have hsz : (ofL' t).size = t.length := by simp [ofL', ByteArray.size]
    clear hR h0 h1
    refine spec_intro Tryz.func98 good98 rfl (by simp [Tryz.ntmps98]) ?_
    refine go1 [] [] (cns Tryz.results98 trivial) ?_
    exact ⟨by rw [ext_take _ _ hm], by rw [ext_drop]; rfl⟩
  · have hR : rawL n (t, b) = ([], ([], true)) := by unfold rawL; rw [if_neg hc]
    rw [hR]
    clear hR
    refine spec_intro Tryz.func98 good98 rfl (by simp [Tryz.ntmps98]) ?_
    cases b with
    | true =>
      clear hc
      refine go1 [] [] (cns Tryz.results98 trivial) ?_
      exact ⟨by simp [ofL'], by simp [inO, ofL']⟩
    | false =>
      have hsz : (ofL' t).size = t.length := by simp [ofL', ByteArray.size]
      rcases (by omega : n < 0 ∨ 0 ≤ n) with h0 | h0
      · clear hc
        refine go1 [] [] (cns Tryz.results98 trivial) ?_
        exact ⟨by simp [ofL'], by simp [inO, ofL']⟩
      · have h1 : (t.length : Int) < n := by
          rcases (by omega : (t.length : Int) < n ∨ n ≤ t.length) with h | h
          · exact h
          · exact absurd ⟨rfl, h0, h⟩ hc
        clear hc
        refine go1 [] [] (cns Tryz.results98 trivial) ?_
        exact ⟨by simp [ofL'], by simp [inO, ofL']⟩
theorem rInNum_spec {l : Nat} {st : RdS} {σ : Sto} (n : Nat) (hn : n = 1 ∨ n = 2) (h : σ[l]? = some (inO st)) : Spec Tryz.prog 47 [.mp l 0 0, .sc (.int .i64 n)] σ fun r σ' => r = .sc (.int .i64 (numL n st).1) ∧ σ' = σ.set l (inO (numL n st).2) := by
  have hr := rInRaw_spec n h
  have hlen : (rawL n st).1.length ≤ 2 := by
    unfold rawL
    split
    · rcases hn with rfl | rfl <;> simp <;> omega
    · simp
  unfold numL
  obtain ⟨⟨t, st'⟩, hR⟩ : ∃ q, q = rawL n st := ⟨_, rfl⟩
  rw [← hR] at hr hlen ⊢
  simp only at hr hlen ⊢
  clear hR h
  have hsz : (ofL' t).size = t.length := by simp [ofL', ByteArray.size]
  have hgt : ∀ j, (h : j < t.length) → ∀ h', (ofL' t)[j]'h' = t[j] := fun j h h' => by simp [ofL']; rfl
  generalize List.set σ l (inO st') = S2 at hr ⊢
  refine spec_intro Tryz.func47 good47 rfl (by simp [Tryz.ntmps47]) ?_
  have h2 : (n : Int) = 1 ∨ (n : Int) = 2 := by omega
  generalize (n : Int) = w at hr h2 ⊢
  clear hn
  rcases h2 with rfl | rfl
  all_goals
    refine go1 [] [] (cns Tryz.results47 trivial) ?_
    refine rwf_ca rfl fun C' hC hP => ?_
    clear hP
    (try simp [*, -List.all_eq_true]); (try (simp (disch := first | assumption | omega) only [wrap_id, wrapu_id, wrapb_id, tmod_nn, tdiv_nn, ite_yes, flatM_seg, flatM_0, flatM_1, flatM_2, flatI_seg, flatI_0, flatI_1, flatS_get]; (try simp [*, -List.all_eq_true])))
    refine hC.out _ _ _ (hr) fun r S1 hq => ?_
    clear hC C'
    obtain ⟨rfl, rfl⟩ := hq
    clear hr
    refine go1 [] [] (cns Tryz.results47 trivial) ?_
    refine tri_for [0, 5] t.length (fun k_ e σ => σ = S1 ∧ e 7 = .sc (.int .i64 k_) ∧ e 6 = .sc (.int .i64 (beN (t.take k_)))) ?_ (fun j env' σ' hlt hk hI => ?_) (fun env' σ' hk hI => ?_)
    · exact ⟨rfl, by simp, by simp [beN]⟩
    · skip
      (try simp at hk)
      obtain ⟨rfl, h7, h6⟩ := hI
      have hg := t[j].toNat_lt
      have hcl := hgt j hlt
      have hx : beN (t.take (j + 1)) = beN (t.take j) * 256 + t[j].toNat := by
        rw [List.take_succ_eq_append_getElem hlt, beN, List.foldl_append]; rfl
      have hb : beN (t.take j) < 256 := by
        rcases (by omega : j = 0 ∨ j = 1) with rfl | rfl
        · simp [beN]
        · match t, hlt with
          | a :: _, _ => simp [beN]; exact a.toNat_lt
      generalize beN (t.take (j + 1)) = y at hx ⊢
      subst hx
      generalize beN (t.take j) = x at hb h6 ⊢
      have hw3 : IntKind.i64.wrap (t[j].toNat : Int) = t[j].toNat := by rw [IntKind.wrap_i64]; omega
      clear hgt
      have hw1 : IntKind.i64.wrap ((x : Int) * 256) = (x : Int) * 256 := by rw [IntKind.wrap_i64]; omega
      have hw2 : IntKind.i64.wrap ((x : Int) * 256 + t[j].toNat) = (x : Int) * 256 + t[j].toNat := by rw [IntKind.wrap_i64]; omega
      refine go1 [] [] (cns Tryz.results47 trivial) ?_
      exact ⟨by simp [*], rfl, by simp, by simp; rfl⟩
    · skip
      (try simp at hk)
      obtain ⟨rfl, h7, h6⟩ := hI
      rw [List.take_length] at h6
      generalize beN t = x at h6 ⊢
      clear hgt
      refine go1 [] [] (cns Tryz.results47 trivial) ?_
      exact ⟨rfl, rfl⟩
theorem rInText_spec {l : Nat} {st : RdS} {σ : Sto} (most : Nat) (hm : most < 256) (h : σ[l]? = some (inO st)) : Spec Tryz.prog 48 [.mp l 0 0, .sc (.int .i64 most)] σ fun r σ' => r = .sc (.string (ofL' (textL most st).1)) ∧ σ' = σ.set l (inO (textL most st).2) := by
  have hn := rInNum_spec 1 (.inl rfl) h
  have hr := rInRaw_spec (σ := σ.set l (inO (numL 1 st).2)) (if most < (numL 1 st).1 then -1 else ((numL 1 st).1 : Int)) (List.getElem?_set_self (lt_of_get h))
  have hb : (numL 1 st).2.2 = true → (numL 1 st).1 = 0 := by
    unfold numL rawL
    split <;> simp [beN]
  have h1 : (σ.set l (inO (numL 1 st).2))[l]? = some (inO (numL 1 st).2) := List.getElem?_set_self (lt_of_get h)
  rw [List.set_set] at hr
  unfold textL
  generalize rawL (if most < (numL 1 st).1 then -1 else ((numL 1 st).1 : Int)) (numL 1 st).2 = q at hr ⊢
  generalize List.set σ l (inO (numL 1 st).2) = S1 at hn hr h1
  generalize List.set σ l (inO q.2) = S2 at hr ⊢
  generalize (numL 1 st).1 = z at hn hr hb
  generalize (numL 1 st).2 = st1 at hb h1
  generalize ofL' q.1 = t at hr ⊢
  clear h
  obtain ⟨t1, b1⟩ := st1
  unfold inO at h1
  refine spec_intro Tryz.func48 good48 rfl (by simp [Tryz.ntmps48]) ?_
  refine go1 [] [] (cns Tryz.results48 trivial) ?_
  refine rwf_ca rfl fun C' hC hP => ?_
  clear hP
  (try simp [*, -List.all_eq_true]); (try (simp (disch := first | assumption | omega) only [wrap_id, wrapu_id, wrapb_id, tmod_nn, tdiv_nn, ite_yes, flatM_seg, flatM_0, flatM_1, flatM_2, flatI_seg, flatI_0, flatI_1, flatS_get]; (try simp [*, -List.all_eq_true])))
  refine hC.out _ _ _ (hn) fun r S3 hq => ?_
  clear hC C'
  obtain ⟨rfl, rfl⟩ := hq
  clear hn
  cases b1 with
  | true =>
    obtain rfl := hb rfl
    rw [if_neg (by omega)] at hr
    clear hb
    refine go1 [] [] (cns Tryz.results48 trivial) ?_
    refine rwf_ca rfl fun C' hC hP => ?_
    clear hP
    (try simp [*, -List.all_eq_true]); (try (simp (disch := first | assumption | omega) only [wrap_id, wrapu_id, wrapb_id, tmod_nn, tdiv_nn, ite_yes, flatM_seg, flatM_0, flatM_1, flatM_2, flatI_seg, flatI_0, flatI_1, flatS_get]; (try simp [*, -List.all_eq_true])))
    refine hC.out _ _ _ (hr) fun r S4 hq => ?_
    clear hC C'
    obtain ⟨rfl, rfl⟩ := hq
    refine go1 [] [] (cns Tryz.results48 trivial) ?_
    exact ⟨rfl, rfl⟩
  | false =>
    clear hb
    by_cases hz : most < z
    · rw [if_pos hz] at hr
      refine go1 [] [] (cns Tryz.results48 trivial) ?_
      refine rwf_ca rfl fun C' hC hP => ?_
      clear hP
      (try simp [*, -List.all_eq_true]); (try (simp (disch := first | assumption | omega) only [wrap_id, wrapu_id, wrapb_id, tmod_nn, tdiv_nn, ite_yes, flatM_seg, flatM_0, flatM_1, flatM_2, flatI_seg, flatI_0, flatI_1, flatS_get]; (try simp [*, -List.all_eq_true])))
      refine hC.out _ _ _ (hr) fun r S4 hq => ?_
      clear hC C'
      obtain ⟨rfl, rfl⟩ := hq
      refine go1 [] [] (cns Tryz.results48 trivial) ?_
      exact ⟨rfl, rfl⟩
    · rw [if_neg hz] at hr
      refine go1 [] [] (cns Tryz.results48 trivial) ?_
      refine rwf_ca rfl fun C' hC hP => ?_
      clear hP
      (try simp [*, -List.all_eq_true]); (try (simp (disch := first | assumption | omega) only [wrap_id, wrapu_id, wrapb_id, tmod_nn, tdiv_nn, ite_yes, flatM_seg, flatM_0, flatM_1, flatM_2, flatI_seg, flatI_0, flatI_1, flatS_get]; (try simp [*, -List.all_eq_true])))
      refine hC.out _ _ _ (hr) fun r S4 hq => ?_
      clear hC C'
      obtain ⟨rfl, rfl⟩ := hq
      refine go1 [] [] (cns Tryz.results48 trivial) ?_
      exact ⟨rfl, rfl⟩
theorem nil_size (s : Str) : (s = ByteArray.empty) ↔ s.size = 0 := ByteArray.size_eq_zero_iff.symm
theorem rMsgIs_spec (m : Msg) : PSpec Tryz.prog 99 [.agg (cM m)] (.sc (.bool (isMsg m))) := by
  obtain ⟨q, k, v⟩ := m
  have hM : isMsg ⟨q, k, v⟩ = true ↔ (1 ≤ k.size ∧ k.size ≤ 8) ∧ ((q = 1 ∧ v.size ≤ 16) ∨ (q = 2 ∧ v.size = 0) ∨ (q = 3 ∧ v.size = 8)) := by
    simp [isMsg, isKey, isVal]
    (try rw [nil_size])
    (try omega)
  replace hM := Lib.hid hM
  generalize isMsg ⟨q, k, v⟩ = b at *
  simp only [cM]
  refine spec_pure (by simp) (by simp) ?_
  refine spec_intro Tryz.func99 good99 rfl (by simp [Tryz.ntmps99]) ?_
  repeat' (first
   | (with_reducible first | refine Stp.pf ?_ | refine block_x (by decide) ?_ | refine ret_n ?_)
   | refine tri_reg [] ?_ | refine tri_regc [] [] mixed (by decide +kernel) ?_
   | (refine rwf_nilt rfl (by decide +kernel) fun B hB => ?_; (try simp [*]); refine hB.out _ fun b => ?_; clear hB B)
   | (refine Rul.pf ⟨rfl, rfl⟩ fun B C hB => ?_; (try simp [*, -List.all_eq_true, Tryz.results99]); (try (simp (disch := first | assumption | omega) only [wc, ite_yes]; (try simp [*, -List.all_eq_true, Tryz.results99]))); first | (first | refine hB.out.1 _ (fun hb => ?_) fun hb => ⟨rfl, ?_⟩ | refine hB.out.1 _ (fun hb => ?_) fun hb => ?_) <;> clear hB C B <;> (try simp only [Bool.not_true, Bool.not_false] at hb) <;> (first | (exfalso; simp at hb; done) | (exfalso; simp at hb; omega) | (rw [hb]; (try simp at hb)) | (try simp at hb)) | ((first | refine hB.out.1 _ _ ?_ | refine hB.out.1 _ ?_ | refine hB.out.2 ⟨rfl, ?_⟩); clear hB C B) | (refine hB.out.2 _ ?_; clear hB C B; (try rfl)))
   | refine rwf_o ?_ | refine rwc_o .n rfl ?_ | refine rwc_o .z rfl ?_ | refine rwc_o .w rfl ?_ | refine rwc_o .b rfl ?_ | refine rwc_o _ rfl ?_)
  all_goals
    rw [AV.sc.injEq, Value.bool.injEq, Bool.eq_iff_iff, hM.out]
    clear hM
    simp only [nil_size, decide_eq_true_eq] at *
    simp
    (try simp only [nil_size])
    (try omega)
theorem rRead08_spec {l : Nat} {st : RdS} {σ : Sto} (h : σ[l]? = some (inO st)) : Spec Tryz.prog 49 [.mp l 0 0] σ fun r σ' => r = .agg (cM (decMsg st).1) ∧ ∃ X, σ' = σ.set l (inO (decMsg st).2) ++ X := by
  have hll := lt_of_get h
  have h0 : ∀ Y, (σ ++ Y)[l]? = some (inO st) := fun Y => by rw [List.getElem?_append_left hll]; exact h
  have n1 : ∀ Y, Spec Tryz.prog 47 [.mp l 0 0, .sc (.int .i64 1)] (σ ++ Y) fun r σ' => r = .sc (.int .i64 (numL 1 st).1) ∧ σ' = σ.set l (inO (numL 1 st).2) ++ Y := fun Y => by
    have := rInNum_spec 1 (.inl rfl) (h0 Y)
    rw [List.set_append_left _ _ hll] at this; exact this
  have n2 : ∀ Y, Spec Tryz.prog 48 [.mp l 0 0, .sc (.int .i64 8)] (σ.set l (inO (numL 1 st).2) ++ Y) fun r σ' => r = .sc (.string (ofL' (textL 8 (numL 1 st).2).1)) ∧ σ' = σ.set l (inO (textL 8 (numL 1 st).2).2) ++ Y := fun Y => by
    have := rInText_spec (σ := σ.set l (inO (numL 1 st).2) ++ Y) 8 (by omega) (by rw [List.getElem?_append_left (by simpa using hll), List.getElem?_set_self hll])
    rw [List.set_append_left _ _ (by simpa using hll), List.set_set] at this; exact this
  have n3 : ∀ Y, Spec Tryz.prog 48 [.mp l 0 0, .sc (.int .i64 16)] (σ.set l (inO (textL 8 (numL 1 st).2).2) ++ Y) fun r σ' => r = .sc (.string (ofL' (textL 16 (textL 8 (numL 1 st).2).2).1)) ∧ σ' = σ.set l (inO (textL 16 (textL 8 (numL 1 st).2).2).2) ++ Y := fun Y => by
    have := rInText_spec (σ := σ.set l (inO (textL 8 (numL 1 st).2).2) ++ Y) 16 (by omega) (by rw [List.getElem?_append_left (by simpa using hll), List.getElem?_set_self hll])
    rw [List.set_append_left _ _ (by simpa using hll), List.set_set] at this; exact this
  have n4 : ∀ Y, Spec Tryz.prog 98 [.mp l 0 0, .sc (.int .i64 (-1))] (σ.set l (inO (rawMsg st).2) ++ Y) fun r σ' => r = .sc (.string ⟨#[]⟩) ∧ σ' = σ.set l (inO ([], true)) ++ Y := fun Y => by
    have := rInRaw_spec (σ := σ.set l (inO (rawMsg st).2) ++ Y) (st := (rawMsg st).2) (-1) (by rw [List.getElem?_append_left (by simpa using hll), List.getElem?_set_self hll])
    rw [List.set_append_left _ _ (by simpa using hll), List.set_set, show rawL (-1) (rawMsg st).2 = ([], ([], true)) from by unfold rawL; rw [if_neg (by omega)]] at this
    exact this
  have hi := rMsgIs_spec (rawMsg st).1
  have hd : decMsg st = if isMsg (rawMsg st).1 = true then rawMsg st else (noMsg, ([], true)) := rfl
  rw [hd]
  have hr : rawMsg st = (⟨(numL 1 st).1, ofL' (textL 8 (numL 1 st).2).1, ofL' (textL 16 (textL 8 (numL 1 st).2).2).1⟩, (textL 16 (textL 8 (numL 1 st).2).2).2) := rfl
  rw [hr] at n4 hi ⊢
  clear hr hd h0 h
  have len1 : (σ.set l (inO (numL 1 st).2)).length = σ.length := by simp
  have len2 : (σ.set l (inO (textL 8 (numL 1 st).2).2)).length = σ.length := by simp
  have len3 : (σ.set l (inO (textL 16 (textL 8 (numL 1 st).2).2).2)).length = σ.length := by simp
  have len4 : (σ.set l (inO ([], true))).length = σ.length := by simp
  generalize σ.set l (inO (numL 1 st).2) = S1 at *
  generalize (numL 1 st).1 = q at *
  generalize σ.set l (inO (textL 8 (numL 1 st).2).2) = S2 at *
  generalize ofL' (textL 8 (numL 1 st).2).1 = k at *
  simp only at n4 hi ⊢
  generalize ofL' (textL 16 (textL 8 (numL 1 st).2).2).1 = v at *
  generalize (textL 16 (textL 8 (numL 1 st).2).2).2 = st3 at *
  generalize hS3 : σ.set l (inO st3) = S3 at *
  generalize hS4 : σ.set l (inO ([], true)) = S4 at *
  clear hll
  refine spec_intro Tryz.func49 good49 rfl (by simp [Tryz.ntmps49]) ?_
  refine go1 [2,3] [] (cns Tryz.results49 trivial) ?_
  refine rwf_ca rfl fun C' hC hP => ?_
  clear hP
  (try simp [*, -List.all_eq_true]); (try (simp (disch := first | assumption | omega) only [wrap_id, wrapu_id, wrapb_id, tmod_nn, tdiv_nn, ite_yes, flatM_seg, flatM_0, flatM_1, flatM_2, flatI_seg, flatI_0, flatI_1, flatS_get]; (try simp [*, -List.all_eq_true])))
  refine hC.out _ _ _ (n1 _) fun r T1 hq => ?_
  clear hC C'
  obtain ⟨rfl, rfl⟩ := hq
  refine go1 [2,3] [] (cns Tryz.results49 trivial) ?_
  refine rwf_ca rfl fun C' hC hP => ?_
  clear hP
  (try simp [*, -List.all_eq_true]); (try (simp (disch := first | assumption | omega) only [wrap_id, wrapu_id, wrapb_id, tmod_nn, tdiv_nn, ite_yes, flatM_seg, flatM_0, flatM_1, flatM_2, flatI_seg, flatI_0, flatI_1, flatS_get]; (try simp [*, -List.all_eq_true])))
  refine hC.out _ _ _ (n2 _) fun r T2 hq => ?_
  clear hC C'
  obtain ⟨rfl, rfl⟩ := hq
  refine go1 [2,3] [] (cns Tryz.results49 trivial) ?_
  refine rwf_ca rfl fun C' hC hP => ?_
  clear hP
  (try simp [*, -List.all_eq_true]); (try (simp (disch := first | assumption | omega) only [wrap_id, wrapu_id, wrapb_id, tmod_nn, tdiv_nn, ite_yes, flatM_seg, flatM_0, flatM_1, flatM_2, flatI_seg, flatI_0, flatI_1, flatS_get]; (try simp [*, -List.all_eq_true])))
  refine hC.out _ _ _ (n3 _) fun r T3 hq => ?_
  clear hC C'
  obtain ⟨rfl, rfl⟩ := hq
  clear n1 n2 n3
  simp only [cM] at hi
  cases hm : isMsg ⟨q, k, v⟩ with
  | true =>
    rw [hm] at hi
    clear n4
    refine go1 [2,3] [] (cns hi (cns Tryz.results49 trivial)) ?_
    exact ⟨rfl, _, by rw [if_pos rfl, hS3]⟩
  | false =>
    rw [hm] at hi
    refine go1 [2,3] [] (cns hi (cns Tryz.results49 trivial)) ?_
    refine rwf_ca rfl fun C' hC hP => ?_
    clear hP
    (try simp [*, -List.all_eq_true]); (try (simp (disch := first | assumption | omega) only [wrap_id, wrapu_id, wrapb_id, tmod_nn, tdiv_nn, ite_yes, flatM_seg, flatM_0, flatM_1, flatM_2, flatI_seg, flatI_0, flatI_1, flatS_get]; (try simp [*, -List.all_eq_true])))
    refine hC.out _ _ _ (n4 _) fun r T4 hq => ?_
    clear hC C'
    obtain ⟨rfl, rfl⟩ := hq
    refine go1 [2,3] [] (cns Tryz.results49 trivial) ?_
    exact ⟨rfl, _, by rw [if_neg (by simp), hS4]⟩
end Go.Proofs.YticpnfgiidljlaaGreat
