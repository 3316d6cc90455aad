/- Maps, plainly: what a key has behind a store, behind a delete; what a walk has told. No program. -/
import Derived.Test.YtejgopcicenbeaaGreatLc
namespace Go.Proofs.YtejgopcicenbeaaGreat
open Go.RowKit
set_option linter.unusedSimpArgs false
set_option linter.unusedVariables false
/-- Keys and stamps are each one entry's; stamps lie below the clock. -/
structure WfE (es : List Ent) (clock : Nat) : Prop where
  keys : (es.map (·.1)).Nodup
  born : (es.map (·.2.2)).Nodup
  lt : ∀ e ∈ es, e.2.2 < clock
theorem WfE.nil : WfE [] 0 := ⟨by simp, by simp, fun e he => by simp at he⟩
theorem findE_none {es : List Ent} {z : Int} : findE es z = none ↔ ∀ e ∈ es, e.1 ≠ z := by
  unfold findE
  rw [List.findIdx?_eq_none_iff]
  simp
theorem modify_keys (es : List Ent) (i : Nat) (v : AV) : (es.modify i fun e => (e.1, v, e.2.2)).map (·.1) = es.map (·.1) ∧ (es.modify i fun e => (e.1, v, e.2.2)).map (·.2.2) = es.map (·.2.2) := by
  constructor
  · apply List.ext_getElem?
    intro j
    rw [List.getElem?_map, List.getElem?_map, List.getElem?_modify]
    cases es[j]? with
    | none => simp
    | some e => by_cases h : i = j <;> simp [h]
  · apply List.ext_getElem?
    intro j
    rw [List.getElem?_map, List.getElem?_map, List.getElem?_modify]
    cases es[j]? with
    | none => simp
    | some e => by_cases h : i = j <;> simp [h]
theorem WfE.put {es : List Ent} {clock : Nat} (hw : WfE es clock) (z : Int) (v : AV) : WfE (putE es clock z v).1 (putE es clock z v).2 := by
  unfold putE
  cases hf : findE es z with
  | some i =>
    obtain ⟨k1, k2⟩ := modify_keys es i v
    refine ⟨by simpa [k1] using hw.keys, by simpa [k2] using hw.born, fun e he => ?_⟩
    have : e.2.2 ∈ es.map (·.2.2) := by rw [← k2]; exact List.mem_map_of_mem he
    obtain ⟨e', h1, h2⟩ := List.mem_map.1 this
    show e.2.2 < clock
    rw [← h2]
    exact hw.lt e' h1
  | none =>
    have hn := findE_none.1 hf
    refine ⟨?_, ?_, fun e he => ?_⟩
    · simp only [List.map_append, List.map_cons, List.map_nil]
      rw [List.nodup_append]
      refine ⟨hw.keys, by simp, fun a ha b hb => ?_⟩
      obtain ⟨e, h1, rfl⟩ := List.mem_map.1 ha
      rw [List.mem_singleton.1 hb]
      exact hn e h1
    · simp only [List.map_append, List.map_cons, List.map_nil]
      rw [List.nodup_append]
      refine ⟨hw.born, by simp, fun a ha b hb => ?_⟩
      obtain ⟨e, h1, rfl⟩ := List.mem_map.1 ha
      rw [List.mem_singleton.1 hb]
      have := hw.lt e h1
      omega
    · show e.2.2 < clock + 1
      rcases List.mem_append.1 he with q | q
      · have := hw.lt e q; omega
      · rw [List.mem_singleton.1 q]; exact Nat.lt_succ_self _
end Go.Proofs.YtejgopcicenbeaaGreat
