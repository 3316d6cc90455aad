/- msg.Read. -/
import Derived.Test.YticpnfgiidljlaaGreatNc
import Derived.Test.YticpnfgiidljlaaGreatWk
namespace Go.Proofs.YticpnfgiidljlaaGreat
open Go.RowKit
set_option linter.unusedSimpArgs false
set_option linter.unusedVariables false
set_option maxRecDepth 10000
theorem mRead_spec {l : Nat} {st : RdS} {σ : Sto} (h : σ[l]? = some (inO st)) : Spec Tryz.prog 124 [.mp l 0 0] σ fun r σ' => r = .agg (cM (decMsg st).1) ∧ ∃ X, σ' = σ.set l (inO (decMsg st).2) ++ X := by
  have hll := lt_of_get h
  have h0 : ∀ o, (σ ++ [o])[l]? = some (inO st) := fun o => by rw [List.getElem?_append_left hll]; exact h
  have hset : ∀ o x, (σ ++ [o]).set l x = σ.set l x ++ [o] := fun o x => List.set_append_left _ _ hll
  have n1 : ∀ o, Spec Tryz.prog 37 [.mp l 0 0, .sc (.int .i64 1)] (σ ++ [o]) fun r σ' => r = .sc (.int .i64 (numL 1 st).1) ∧ σ' = σ.set l (inO (numL 1 st).2) ++ [o] := fun o => by
    have := inNum_spec 1 (.inl rfl) (h0 o)
    rw [hset] at this; exact this
  have n2 : ∀ o, Spec Tryz.prog 123 [.mp l 0 0, .sc (.int .i64 8)] (σ.set l (inO (numL 1 st).2) ++ [o]) fun r σ' => r = .sc (.string (ofL' (textL 8 (numL 1 st).2).1)) ∧ σ' = σ.set l (inO (textL 8 (numL 1 st).2).2) ++ [o] := fun o => by
    have := inText_spec (σ := σ.set l (inO (numL 1 st).2) ++ [o]) 8 (by omega) (by rw [List.getElem?_append_left (by simpa using hll), List.getElem?_set_self hll])
    rw [List.set_append_left _ _ (by simpa using hll), List.set_set] at this; exact this
  have n3 : ∀ o, Spec Tryz.prog 123 [.mp l 0 0, .sc (.int .i64 16)] (σ.set l (inO (textL 8 (numL 1 st).2).2) ++ [o]) fun r σ' => r = .sc (.string (ofL' (textL 16 (textL 8 (numL 1 st).2).2).1)) ∧ σ' = σ.set l (inO (textL 16 (textL 8 (numL 1 st).2).2).2) ++ [o] := fun o => by
    have := inText_spec (σ := σ.set l (inO (textL 8 (numL 1 st).2).2) ++ [o]) 16 (by omega) (by rw [List.getElem?_append_left (by simpa using hll), List.getElem?_set_self hll])
    rw [List.set_append_left _ _ (by simpa using hll), List.set_set] at this; exact this
  have n4 : ∀ o, Spec Tryz.prog 88 [.mp l 0 0, .sc (.int .i64 (-1))] (σ.set l (inO (rawMsg st).2) ++ [o]) fun r σ' => r = .sc (.string ⟨#[]⟩) ∧ σ' = σ.set l (inO ([], true)) ++ [o] := fun o => by
    have := inRaw_spec (σ := σ.set l (inO (rawMsg st).2) ++ [o]) (st := (rawMsg st).2) (-1) (by rw [List.getElem?_append_left (by simpa using hll), List.getElem?_set_self hll])
    rw [List.set_append_left _ _ (by simpa using hll), List.set_set, show rawL (-1) (rawMsg st).2 = ([], ([], true)) from by unfold rawL; rw [if_neg (by omega)]] at this
    exact this
  have hi := isNot_spec (rawMsg st).1
  have hd : decMsg st = if isMsg (rawMsg st).1 = true then rawMsg st else (noMsg, ([], true)) := rfl
  rw [hd]
  have hr : rawMsg st = (⟨(numL 1 st).1, ofL' (textL 8 (numL 1 st).2).1, ofL' (textL 16 (textL 8 (numL 1 st).2).2).1⟩, (textL 16 (textL 8 (numL 1 st).2).2).2) := rfl
  rw [hr] at n4 hi ⊢
  clear hr hd h0 hset h
  have len1 : (σ.set l (inO (numL 1 st).2)).length = σ.length := by simp
  have len2 : (σ.set l (inO (textL 8 (numL 1 st).2).2)).length = σ.length := by simp
  have len3 : (σ.set l (inO (textL 16 (textL 8 (numL 1 st).2).2).2)).length = σ.length := by simp
  have len4 : (σ.set l (inO ([], true))).length = σ.length := by simp
  generalize σ.set l (inO (numL 1 st).2) = S1 at *
  generalize (numL 1 st).1 = q at *
  generalize σ.set l (inO (textL 8 (numL 1 st).2).2) = S2 at *
  generalize ofL' (textL 8 (numL 1 st).2).1 = k at *
  simp only at n4 hi ⊢
  generalize ofL' (textL 16 (textL 8 (numL 1 st).2).2).1 = v at *
  generalize (textL 16 (textL 8 (numL 1 st).2).2).2 = st3 at *
  generalize hS3 : σ.set l (inO st3) = S3 at *
  generalize hS4 : σ.set l (inO ([], true)) = S4 at *
  clear hll
  refine spec_intro Tryz.func124 good124 rfl (by simp [Tryz.ntmps124]) ?_
  refine go1 [2] [] (cns Tryz.results124 trivial) ?_
  refine rwf_ca rfl fun C' hC hP => ?_
  clear hP
  (try simp [*, -List.all_eq_true]); (try (simp (disch := first | assumption | omega) only [wrap_id, wrapu_id, wrapb_id, tmod_nn, tdiv_nn, ite_yes, flatM_seg, flatM_0, flatM_1, flatM_2, flatI_seg, flatI_0, flatI_1, flatS_get]; (try simp [*, -List.all_eq_true])))
  refine hC.out _ _ _ (n1 _) fun r T1 hq => ?_
  clear hC C'
  obtain ⟨rfl, rfl⟩ := hq
  refine go1 [2] [] (cns Tryz.results124 trivial) ?_
  refine rwf_ca rfl fun C' hC hP => ?_
  clear hP
  (try simp [*, -List.all_eq_true]); (try (simp (disch := first | assumption | omega) only [wrap_id, wrapu_id, wrapb_id, tmod_nn, tdiv_nn, ite_yes, flatM_seg, flatM_0, flatM_1, flatM_2, flatI_seg, flatI_0, flatI_1, flatS_get]; (try simp [*, -List.all_eq_true])))
  refine hC.out _ _ _ (n2 _) fun r T2 hq => ?_
  clear hC C'
  obtain ⟨rfl, rfl⟩ := hq
  refine go1 [2] [] (cns Tryz.results124 trivial) ?_
  refine rwf_ca rfl fun C' hC hP => ?_
  clear hP
  (try simp [*, -List.all_eq_true]); (try (simp (disch := first | assumption | omega) only [wrap_id, wrapu_id, wrapb_id, tmod_nn, tdiv_nn, ite_yes, flatM_seg, flatM_0, flatM_1, flatM_2, flatI_seg, flatI_0, flatI_1, flatS_get]; (try simp [*, -List.all_eq_true])))
  refine hC.out _ _ _ (n3 _) fun r T3 hq => ?_
  clear hC C'
  obtain ⟨rfl, rfl⟩ := hq
  clear n1 n2 n3
  simp only [cM] at hi
  cases hm : isMsg ⟨q, k, v⟩ with
  | true =>
    rw [hm, Bool.not_true] at hi
    clear n4
    refine go1 [2] [] (cns hi (cns Tryz.results124 trivial)) ?_
    exact ⟨rfl, _, by rw [if_pos rfl, hS3]⟩
  | false =>
    rw [hm, Bool.not_false] at hi
    refine go1 [2] [] (cns hi (cns Tryz.results124 trivial)) ?_
    refine rwf_ca rfl fun C' hC hP => ?_
    clear hP
    (try simp [*, -List.all_eq_true]); (try (simp (disch := first | assumption | omega) only [wrap_id, wrapu_id, wrapb_id, tmod_nn, tdiv_nn, ite_yes, flatM_seg, flatM_0, flatM_1, flatM_2, flatI_seg, flatI_0, flatI_1, flatS_get]; (try simp [*, -List.all_eq_true])))
    refine hC.out _ _ _ (n4 _) fun r T4 hq => ?_
    clear hC C'
    obtain ⟨rfl, rfl⟩ := hq
    refine go1 [2] [] (cns Tryz.results124 trivial) ?_
    exact ⟨rfl, _, by rw [if_neg (by simp), hS4]⟩
end Go.Proofs.YticpnfgiidljlaaGreat
