/- The references of layers 9 and 13: Same, With, Over. -/
import Derived.Test.YtemijcjgdgdhjaaGreatWmg
namespace Go.Proofs.YtemijcjgdgdhjaaGreat
open Go.RowKit
set_option linter.unusedSimpArgs false
set_option maxRecDepth 10000
theorem item_ext {a b : Item} (h1 : a.key = b.key) (h2 : a.val = b.val) : a = b := by cases a; cases b; simp_all
set_option maxHeartbeats 1000000 in
theorem rSame09_spec (l l' : List Item) (hl : l.length ≤ 900000) (hl' : l'.length ≤ 900000) : PSpec Tryz.prog 14 [.fs (flatI l) l.length, .fs (flatI l') l'.length] (.sc (.bool (decide (l = l')))) := by
  refine spec_pure (by simp) (by simp) ?_
  refine spec_intro Tryz.func14 good14 rfl (by simp [Tryz.ntmps14]) ?_
  by_cases hne : l.length = l'.length
  · skip
    repeat' (first
     | (with_reducible first | refine Stp.pf ?_ | refine block_x (by decide) ?_ | refine ret_n ?_)
     | refine tri_reg [] ?_ | refine tri_regc [] [] mixed (by decide +kernel) ?_
     | (refine rwf_nilt rfl (by decide +kernel) fun B hB => ?_; (try simp [*]); refine hB.out _ fun b => ?_; clear hB B)
     | (refine Rul.pf ⟨rfl, rfl⟩ fun B C hB => ?_; (try simp [*, -List.all_eq_true, Tryz.results14]); (try (simp (disch := first | assumption | omega) only [wc, ite_yes]; (try simp [*, -List.all_eq_true, Tryz.results14]))); first | (first | refine hB.out.1 _ (fun hb => ?_) fun hb => ⟨rfl, ?_⟩ | refine hB.out.1 _ (fun hb => ?_) fun hb => ?_) <;> clear hB C B <;> (try simp only [Bool.not_true, Bool.not_false] at hb) <;> (first | (exfalso; simp at hb; done) | (exfalso; simp at hb; omega) | (rw [hb]; (try simp at hb)) | (try simp at hb)) | ((first | refine hB.out.1 _ _ ?_ | refine hB.out.1 _ ?_ | refine hB.out.2 ⟨rfl, ?_⟩); clear hB C B) | (refine hB.out.2 _ ?_; clear hB C B; (try rfl)))
     | refine rwf_o ?_ | refine rwc_o .n rfl ?_ | refine rwc_o .z rfl ?_ | refine rwc_o .w rfl ?_ | refine rwc_o .b rfl ?_ | refine rwc_o _ rfl ?_)
    refine tri_for [0, 1] l.length (fun k e σ => σ = [] ∧ e 5 = .sc (.int .i64 k) ∧ l.take k = l'.take k) ?_ (fun k env' σ' hlt hk hI => ?_) (fun env' σ' hk hI => ?_)
    · exact ⟨by simp, by simp, by simp⟩
    · skip
      (try simp at hk)
      obtain ⟨rfl, h5, heq⟩ := hI
      have hlt' : k < l'.length := by omega
      by_cases hx : l[k] = l'[k]
      · skip
        repeat' (first
         | (with_reducible first | refine Stp.pf ?_ | refine block_x (by decide) ?_ | refine ret_n ?_)
         | refine tri_reg [] ?_ | refine tri_regc [] [] mixed (by decide +kernel) ?_
         | (refine rwf_nilt rfl (by decide +kernel) fun B hB => ?_; (try simp [*]); refine hB.out _ fun b => ?_; clear hB B)
         | (refine Rul.pf ⟨rfl, rfl⟩ fun B C hB => ?_; (try simp [*, -List.all_eq_true, cI, Tryz.results14]); (try (simp (disch := first | assumption | omega) only [wc, ite_yes]; (try simp [*, -List.all_eq_true, cI, Tryz.results14]))); first | (first | refine hB.out.1 _ (fun hb => ?_) fun hb => ⟨rfl, ?_⟩ | refine hB.out.1 _ (fun hb => ?_) fun hb => ?_) <;> clear hB C B <;> (try simp only [Bool.not_true, Bool.not_false] at hb) <;> (first | (exfalso; simp at hb; done) | (exfalso; simp at hb; omega) | (rw [hb]; (try simp at hb)) | (try simp at hb)) | ((first | refine hB.out.1 _ _ ?_ | refine hB.out.1 _ ?_ | refine hB.out.2 ⟨rfl, ?_⟩); clear hB C B) | (refine hB.out.2 _ ?_; clear hB C B; (try rfl)))
         | refine rwf_o ?_ | refine rwc_o .n rfl ?_ | refine rwc_o .z rfl ?_ | refine rwc_o .w rfl ?_ | refine rwc_o .b rfl ?_ | refine rwc_o _ rfl ?_)
        exact ⟨by simp [*], rfl, by simp, by rw [List.take_add_one, List.take_add_one, List.getElem?_eq_getElem hlt, List.getElem?_eq_getElem hlt', heq, hx]⟩
      · have hll : ¬ l = l' := fun e => hx (by subst e; rfl)
        repeat' (first
         | (with_reducible first | refine Stp.pf ?_ | refine block_x (by decide) ?_ | refine ret_n ?_)
         | refine tri_reg [] ?_ | refine tri_regc [] [] mixed (by decide +kernel) ?_
         | (refine rwf_nilt rfl (by decide +kernel) fun B hB => ?_; (try simp [*]); refine hB.out _ fun b => ?_; clear hB B)
         | (refine Rul.pf ⟨rfl, rfl⟩ fun B C hB => ?_; (try simp [*, -List.all_eq_true, cI, Tryz.results14]); (try (simp (disch := first | assumption | omega) only [wc, ite_yes]; (try simp [*, -List.all_eq_true, cI, Tryz.results14]))); first | (first | refine hB.out.1 _ (fun hb => ?_) fun hb => ⟨rfl, ?_⟩ | refine hB.out.1 _ (fun hb => ?_) fun hb => ?_) <;> clear hB C B <;> (try simp only [Bool.not_true, Bool.not_false] at hb) <;> (first | (exfalso; simp at hb; done) | (exfalso; simp at hb; omega) | (rw [hb]; (try simp at hb)) | (try simp at hb)) | ((first | refine hB.out.1 _ _ ?_ | refine hB.out.1 _ ?_ | refine hB.out.2 ⟨rfl, ?_⟩); clear hB C B) | (refine hB.out.2 _ ?_; clear hB C B; (try rfl)))
         | refine rwf_o ?_ | refine rwc_o .n rfl ?_ | refine rwc_o .z rfl ?_ | refine rwc_o .w rfl ?_ | refine rwc_o .b rfl ?_ | refine rwc_o _ rfl ?_)
        · simp [hll]
        · exact absurd (item_ext hb.1 hb.2) hx
    · skip
      (try simp at hk)
      obtain ⟨rfl, h5, heq⟩ := hI
      rw [List.take_of_length_le (by omega), List.take_of_length_le (by omega)] at heq
      repeat' (first
       | (with_reducible first | refine Stp.pf ?_ | refine block_x (by decide) ?_ | refine ret_n ?_)
       | refine tri_reg [] ?_ | refine tri_regc [] [] mixed (by decide +kernel) ?_
       | (refine rwf_nilt rfl (by decide +kernel) fun B hB => ?_; (try simp [*]); refine hB.out _ fun b => ?_; clear hB B)
       | (refine Rul.pf ⟨rfl, rfl⟩ fun B C hB => ?_; (try simp [*, -List.all_eq_true, Tryz.results14]); (try (simp (disch := first | assumption | omega) only [wc, ite_yes]; (try simp [*, -List.all_eq_true, Tryz.results14]))); first | (first | refine hB.out.1 _ (fun hb => ?_) fun hb => ⟨rfl, ?_⟩ | refine hB.out.1 _ (fun hb => ?_) fun hb => ?_) <;> clear hB C B <;> (try simp only [Bool.not_true, Bool.not_false] at hb) <;> (first | (exfalso; simp at hb; done) | (exfalso; simp at hb; omega) | (rw [hb]; (try simp at hb)) | (try simp at hb)) | ((first | refine hB.out.1 _ _ ?_ | refine hB.out.1 _ ?_ | refine hB.out.2 ⟨rfl, ?_⟩); clear hB C B) | (refine hB.out.2 _ ?_; clear hB C B; (try rfl)))
       | refine rwf_o ?_ | refine rwc_o .n rfl ?_ | refine rwc_o .z rfl ?_ | refine rwc_o .w rfl ?_ | refine rwc_o .b rfl ?_ | refine rwc_o _ rfl ?_)
      simp [heq]
  · have hll : ¬ l = l' := fun e => hne (by rw [e])
    repeat' (first
     | (with_reducible first | refine Stp.pf ?_ | refine block_x (by decide) ?_ | refine ret_n ?_)
     | refine tri_reg [] ?_ | refine tri_regc [] [] mixed (by decide +kernel) ?_
     | (refine rwf_nilt rfl (by decide +kernel) fun B hB => ?_; (try simp [*]); refine hB.out _ fun b => ?_; clear hB B)
     | (refine Rul.pf ⟨rfl, rfl⟩ fun B C hB => ?_; (try simp [*, -List.all_eq_true, Tryz.results14]); (try (simp (disch := first | assumption | omega) only [wc, ite_yes]; (try simp [*, -List.all_eq_true, Tryz.results14]))); first | (first | refine hB.out.1 _ (fun hb => ?_) fun hb => ⟨rfl, ?_⟩ | refine hB.out.1 _ (fun hb => ?_) fun hb => ?_) <;> clear hB C B <;> (try simp only [Bool.not_true, Bool.not_false] at hb) <;> (first | (exfalso; simp at hb; done) | (exfalso; simp at hb; omega) | (rw [hb]; (try simp at hb)) | (try simp at hb)) | ((first | refine hB.out.1 _ _ ?_ | refine hB.out.1 _ ?_ | refine hB.out.2 ⟨rfl, ?_⟩); clear hB C B) | (refine hB.out.2 _ ?_; clear hB C B; (try rfl)))
     | refine rwf_o ?_ | refine rwc_o .n rfl ?_ | refine rwc_o .z rfl ?_ | refine rwc_o .w rfl ?_ | refine rwc_o .b rfl ?_ | refine rwc_o _ rfl ?_)
    simp [hll]
def rstI (l : List Item) (m : Msg) : List Item := restI m.key l ++ match actM (lookI m.key l) m with
  | some v => [⟨m.key, v⟩]
  | none => []
theorem rstI_of {l : List Item} {m : Msg} (hr : RiseI l) : ofL (rstI l m) = some (stepI l m) := by
  have h := stepI_is (m := m) hr
  unfold rstI
  cases e : actM (lookI m.key l) m with
  | none =>
    rw [e] at h
    dsimp only at h ⊢
    rw [List.append_nil, ofL_rise (restI_rise hr), h]
  | some v =>
    rw [e] at h
    dsimp only at h ⊢
    rw [ofL_last (x := ⟨m.key, v⟩) (restI_rise hr) fun y hy => (restI_mem hy).2, h]
theorem rstI_ok {l : List Item} {m : Msg} (hr : RiseI l) (ho : ∀ x ∈ l, okI x = true) (hm : isMsg m = true) : (rstI l m).all okI = true ∧ (rstI l m).length ≤ l.length + 1 := by
  have h := stepI_is (m := m) hr
  have hs := (stepI_ok hr ho hm).2.1
  have hlen : (restI m.key l).length ≤ l.length := List.length_filter_le _ _
  unfold rstI
  cases e : actM (lookI m.key l) m with
  | none =>
    rw [e] at h
    dsimp only at h ⊢
    rw [List.append_nil]
    exact ⟨List.all_eq_true.2 fun x hx => ho x (restI_mem hx).1, by omega⟩
  | some v =>
    rw [e] at h
    dsimp only at h ⊢
    refine ⟨List.all_eq_true.2 fun x hx => ?_, by simp; omega⟩
    rcases List.mem_append.1 hx with hx | hx
    · exact ho x (restI_mem hx).1
    · refine hs x ?_
      rw [h]
      rw [List.mem_singleton] at hx
      subst hx
      unfold insO
      simp
theorem restI_succ {l : List Item} {k : Nat} (key : Str) (h : k < l.length) : restI key (l.take (k + 1)) = if l[k].key = key then restI key (l.take k) else restI key (l.take k) ++ [l[k]] := by
  unfold restI
  rw [List.take_add_one, List.getElem?_eq_getElem h, List.filter_append]
  by_cases e : l[k].key = key <;> simp [e]
theorem lookI_succ {l : List Item} {k : Nat} (key : Str) (h : k < l.length) : lookI key (l.take (k + 1)) = if l[k].key = key then some l[k].val else lookI key (l.take k) := by
  rw [List.take_add_one, List.getElem?_eq_getElem h]
  show lookI key (l.take k ++ [l[k]]) = _
  rw [lookI_app]
  by_cases e : l[k].key = key
  · simp [lookI, e]
  · simp [lookI, e]
theorem withI_succ (l : List Item) (ms : List Msg) (k : Nat) (h : k < ms.length) : withI l (ms.take (k + 1)) = stepI (withI l (ms.take k)) ms[k] := by
  unfold withI
  rw [List.take_add_one, List.getElem?_eq_getElem h, List.foldl_append]
  rfl
/-- What the reference's With comes to. -/
def rwithI (l : List Item) (ms : List Msg) : AV := if ms.all isMsg = true then .tup [.fs (flatI (withI l ms)) (withI l ms).length, .sc (.bool true)] else .tup [.sc (.slice none 0 0), .sc (.bool false)]
set_option maxHeartbeats 4000000 in
theorem rWith09_spec (l : List Item) (ms : List Msg) (hl : l.length + ms.length ≤ 90000) (hr : RiseI l) (ho : ∀ x ∈ l, okI x = true) : PSpec Tryz.prog 22 [.fs (flatI l) l.length, .fs (flatM ms) ms.length] (rwithI l ms) := by
  unfold rwithI
  refine spec_pureFW (by simp) ?_
  refine spec_intro Tryz.func22 good22 rfl (by simp [Tryz.ntmps22]) ?_
  repeat' (first
   | (with_reducible first | refine Stp.pf ?_ | refine block_x (by decide) ?_ | refine ret_n ?_)
   | refine tri_reg [30,59,80] ?_ | refine tri_regc [30,59,80] [] mixed (by decide +kernel) ?_
   | (refine rwf_nilt rfl (by decide +kernel) fun B hB => ?_; (try simp [*]); refine hB.out _ fun b => ?_; clear hB B)
   | (refine Rul.pf ⟨rfl, rfl⟩ fun B C hB => ?_; (try simp [*, -List.all_eq_true, Tryz.results22]); (try (simp (disch := first | assumption | omega) only [wc, ite_yes]; (try simp [*, -List.all_eq_true, Tryz.results22]))); first | (first | refine hB.out.1 _ (fun hb => ?_) fun hb => ⟨rfl, ?_⟩ | refine hB.out.1 _ (fun hb => ?_) fun hb => ?_) <;> clear hB C B <;> (try simp only [Bool.not_true, Bool.not_false] at hb) <;> (first | (exfalso; simp at hb; done) | (exfalso; simp at hb; omega) | (rw [hb]; (try simp at hb)) | (try simp at hb)) | ((first | refine hB.out.1 _ _ ?_ | refine hB.out.1 _ ?_ | refine hB.out.2 ⟨rfl, ?_⟩); clear hB C B) | (refine hB.out.2 _ ?_; clear hB C B; (try rfl)))
   | refine rwf_o ?_ | refine rwc_o .n rfl ?_ | refine rwc_o .z rfl ?_ | refine rwc_o .w rfl ?_ | refine rwc_o .b rfl ?_ | refine rwc_o _ rfl ?_)
  refine tri_for [0, 1] ms.length (fun k e σ => σ = [] ∧ e 6 = .sc (.int .i64 k) ∧ (ms.take k).all isMsg = true) ?_ (fun k env' σ' hlt hk hI => ?_) (fun env' σ' hk hI => ?_)
  · exact ⟨by simp, by simp, by simp⟩
  · skip
    (try simp at hk)
    obtain ⟨rfl, h6, ha⟩ := hI
    cases hM : isMsg ms[k] with
    | true =>
      repeat' (first
       | (with_reducible first | refine Stp.pf ?_ | refine block_x (by decide) ?_ | refine ret_n ?_)
       | refine tri_reg [30,59,80] ?_ | refine tri_regc [30,59,80] [] mixed (by decide +kernel) ?_
       | (refine rwf_nilt rfl (by decide +kernel) fun B hB => ?_; (try simp [*]); refine hB.out _ fun b => ?_; clear hB B)
       | (refine Rul.pf ⟨rfl, rfl⟩ fun B C hB => ?_; (try simp [*, -List.all_eq_true, Tryz.results22]); (try (simp (disch := first | assumption | omega) only [wc, ite_yes]; (try simp [*, -List.all_eq_true, Tryz.results22]))); first | (first | refine hB.out.1 _ (fun hb => ?_) fun hb => ⟨rfl, ?_⟩ | refine hB.out.1 _ (fun hb => ?_) fun hb => ?_) <;> clear hB C B <;> (try simp only [Bool.not_true, Bool.not_false] at hb) <;> (first | (exfalso; simp at hb; done) | (exfalso; simp at hb; omega) | (rw [hb]; (try simp at hb)) | (try simp at hb)) | ((first | refine hB.out.1 _ _ ?_ | refine hB.out.1 _ ?_ | refine hB.out.2.1 _ _ _ (rIs_spec _) ?_ | refine hB.out.2.2 _ _ _ (rIs_spec _) ?_ | refine hB.out.2 ⟨rfl, ?_⟩); clear hB C B) | (refine hB.out.2 _ ?_; clear hB C B; (try rfl)))
       | refine rwf_o ?_ | refine rwc_o .n rfl ?_ | refine rwc_o .z rfl ?_ | refine rwc_o .w rfl ?_ | refine rwc_o .b rfl ?_ | refine rwc_o _ rfl ?_)
      exact ⟨by simp [*], rfl, by simp, by rw [List.take_add_one, List.getElem?_eq_getElem hlt, List.all_append, ha]; simp [hM]⟩
    | false =>
      have hno : ms.all isMsg = false := by
        cases h : ms.all isMsg with
        | false => rfl
        | true => rw [List.all_eq_true.1 h _ (List.getElem_mem hlt)] at hM; cases hM
      rw [if_neg (by rw [hno]; simp)]
      clear hno
      repeat' (first
       | (with_reducible first | refine Stp.pf ?_ | refine block_x (by decide) ?_ | refine ret_n ?_)
       | refine tri_reg [30,59,80] ?_ | refine tri_regc [30,59,80] [] mixed (by decide +kernel) ?_
       | (refine rwf_nilt rfl (by decide +kernel) fun B hB => ?_; (try simp [*]); refine hB.out _ fun b => ?_; clear hB B)
       | (refine Rul.pf ⟨rfl, rfl⟩ fun B C hB => ?_; (try simp [*, -List.all_eq_true, Tryz.results22]); (try (simp (disch := first | assumption | omega) only [wc, ite_yes]; (try simp [*, -List.all_eq_true, Tryz.results22]))); first | (first | refine hB.out.1 _ (fun hb => ?_) fun hb => ⟨rfl, ?_⟩ | refine hB.out.1 _ (fun hb => ?_) fun hb => ?_) <;> clear hB C B <;> (try simp only [Bool.not_true, Bool.not_false] at hb) <;> (first | (exfalso; simp at hb; done) | (exfalso; simp at hb; omega) | (rw [hb]; (try simp at hb)) | (try simp at hb)) | ((first | refine hB.out.1 _ _ ?_ | refine hB.out.1 _ ?_ | refine hB.out.2.1 _ _ _ (rIs_spec _) ?_ | refine hB.out.2.2 _ _ _ (rIs_spec _) ?_ | refine hB.out.2 ⟨rfl, ?_⟩); clear hB C B) | (refine hB.out.2 _ ?_; clear hB C B; (try rfl)))
       | refine rwf_o ?_ | refine rwc_o .n rfl ?_ | refine rwc_o .z rfl ?_ | refine rwc_o .w rfl ?_ | refine rwc_o .b rfl ?_ | refine rwc_o _ rfl ?_)
      all_goals exact out_flat (by simp [AV.flat, flatL]) (.refl _)
  · skip
    (try simp at hk)
    obtain ⟨rfl, h6, ha⟩ := hI
    rw [List.take_length] at ha
    rw [if_pos ha]
    have hv : ∀ x ∈ ms, isMsg x = true := List.all_eq_true.1 ha
    clear ha
    replace hv := Lib.hid hv
    repeat' (first
     | (with_reducible first | refine Stp.pf ?_ | refine block_x (by decide) ?_ | refine ret_n ?_)
     | refine tri_reg [30,59,80] ?_ | refine tri_regc [30,59,80] [] mixed (by decide +kernel) ?_
     | (refine rwf_nilt rfl (by decide +kernel) fun B hB => ?_; (try simp [*]); refine hB.out _ fun b => ?_; clear hB B)
     | (refine Rul.pf ⟨rfl, rfl⟩ fun B C hB => ?_; (try simp [*, -List.all_eq_true, Tryz.results22]); (try (simp (disch := first | assumption | omega) only [wc, ite_yes]; (try simp [*, -List.all_eq_true, Tryz.results22]))); first | (first | refine hB.out.1 _ (fun hb => ?_) fun hb => ⟨rfl, ?_⟩ | refine hB.out.1 _ (fun hb => ?_) fun hb => ?_) <;> clear hB C B <;> (try simp only [Bool.not_true, Bool.not_false] at hb) <;> (first | (exfalso; simp at hb; done) | (exfalso; simp at hb; omega) | (rw [hb]; (try simp at hb)) | (try simp at hb)) | ((first | refine hB.out.1 _ _ ?_ | refine hB.out.1 _ ?_ | refine hB.out.2 ⟨rfl, ?_⟩); clear hB C B) | (refine hB.out.2 _ ?_; clear hB C B; (try rfl)))
     | refine rwf_o ?_ | refine rwc_o .n rfl ?_ | refine rwc_o .z rfl ?_ | refine rwc_o .w rfl ?_ | refine rwc_o .b rfl ?_ | refine rwc_o _ rfl ?_)
    refine tri_for [1, 4, 5] ms.length (fun k e σ => e 7 = .sc (.int .i64 k) ∧ e 0 = .fs (flatI (withI l (ms.take k))) (withI l (ms.take k)).length) ?_ (fun k env' σ' hlt hk hI => ?_) (fun env' σ' hk hI => ?_)
    · exact ⟨by simp, by simp [withI, *]⟩
    · skip
      (try simp at hk)
      obtain ⟨h7, h0⟩ := hI
      have hmk := hv.out _ (List.getElem_mem hlt)
      obtain ⟨w1, w2, w3, -⟩ := withI_ok (ms.take k) l hr ho fun x hx => hv.out x (List.mem_of_mem_take hx)
      have hs := withI_succ l ms k hlt
      have ht : (ms.take k).length ≤ ms.length := by simp; omega
      have hof := rstI_of (m := ms[k]) w1
      obtain ⟨hok, hrl⟩ := rstI_ok w1 w2 hmk
      rw [hs]
      clear hs hmk w1 w2
      generalize withI l (ms.take k) = L at *
      have hLl : L.length ≤ 90000 := by omega
      have hm1 := flatM_1 ms k hlt
      repeat' (first
       | (with_reducible first | refine Stp.pf ?_ | refine block_x (by decide) ?_ | refine ret_n ?_)
       | refine tri_reg [30,59,80] ?_ | refine tri_regc [30,59,80] [] mixed (by decide +kernel) ?_
       | (refine rwf_nilt rfl (by decide +kernel) fun B hB => ?_; (try simp [*]); refine hB.out _ fun b => ?_; clear hB B)
       | (refine Rul.pf ⟨rfl, rfl⟩ fun B C hB => ?_; (try simp [*, -List.all_eq_true, Tryz.results22]); (try (simp (disch := first | assumption | omega) only [wc, ite_yes]; (try simp [*, -List.all_eq_true, Tryz.results22]))); first | (first | refine hB.out.1 _ (fun hb => ?_) fun hb => ⟨rfl, ?_⟩ | refine hB.out.1 _ (fun hb => ?_) fun hb => ?_) <;> clear hB C B <;> (try simp only [Bool.not_true, Bool.not_false] at hb) <;> (first | (exfalso; simp at hb; done) | (exfalso; simp at hb; omega) | (rw [hb]; (try simp at hb)) | (try simp at hb)) | ((first | refine hB.out.1 _ _ ?_ | refine hB.out.1 _ ?_ | refine hB.out.2 ⟨rfl, ?_⟩); clear hB C B) | (refine hB.out.2 _ ?_; clear hB C B; (try rfl)))
       | refine rwf_o ?_ | refine rwc_o .n rfl ?_ | refine rwc_o .z rfl ?_ | refine rwc_o .w rfl ?_ | refine rwc_o .b rfl ?_ | refine rwc_o _ rfl ?_)
      refine tri_for [0, 1, 4, 5, 7] L.length (fun k_ e σ => e 11 = .sc (.int .i64 k_) ∧ e 9 = .sc (.string ((lookI ms[k].key (L.take k_)).getD ⟨#[]⟩)) ∧ e 10 = .sc (.bool (lookI ms[k].key (L.take k_)).isSome) ∧ ∃ v, e 8 = v ∧ Own 2 σ v (restI ms[k].key (L.take k_)).length (flatI (restI ms[k].key (L.take k_)))) ?_ (fun j env' σ' hlt hk hI => ?_) (fun env' σ' hk hI => ?_)
      · exact ⟨by simp, by simp [lookI], by simp [lookI], _, by simp; rfl, by simpa [restI, flatI, flatC] using Own.new 2 σ'⟩
      · skip
        (try simp at hk)
        obtain ⟨h11, h9, h10, v, h8, o1⟩ := hI
        have hr1 := restI_succ ms[k].key hlt
        have hl1 := lookI_succ ms[k].key hlt
        have hrl2 : (restI ms[k].key (L.take j)).length ≤ (L.take j).length := List.length_filter_le _ _
        have hrl3 : (L.take j).length ≤ L.length := by simp; omega
        have hkl : k < ms.length := by assumption
        by_cases hkey : L[j].key = ms[k].key
        · rw [if_pos hkey] at hr1 hl1
          rw [hr1, hl1]
          clear hr1 hl1
          repeat' (first
           | (with_reducible first | refine Stp.pf ?_ | refine block_x (by decide) ?_ | refine ret_n ?_)
           | refine tri_reg [30,59,80] ?_ | refine tri_regc [30,59,80] [] mixed (by decide +kernel) ?_
           | (refine rwf_nilt rfl (by decide +kernel) fun B hB => ?_; (try simp [*]); refine hB.out _ fun b => ?_; clear hB B)
           | (refine Rul.pf ⟨rfl, rfl⟩ fun B C hB => ?_; (try simp [*, -List.all_eq_true, Tryz.results22]); (try (simp (disch := first | assumption | omega) only [wc, ite_yes]; (try simp [*, -List.all_eq_true, Tryz.results22]))); first | (first | refine hB.out.1 _ (fun hb => ?_) fun hb => ⟨rfl, ?_⟩ | refine hB.out.1 _ (fun hb => ?_) fun hb => ?_) <;> clear hB C B <;> (try simp only [Bool.not_true, Bool.not_false] at hb) <;> (first | (exfalso; simp at hb; done) | (exfalso; simp at hb; omega) | (rw [hb]; (try simp at hb)) | (try simp at hb)) | ((first | refine hB.out.1 _ _ ?_ | refine hB.out.1 _ ?_ | refine hB.out.2 ⟨rfl, ?_⟩); clear hB C B) | (refine hB.out.2 _ ?_; clear hB C B; (try rfl)))
           | refine rwf_o ?_ | refine rwc_o .n rfl ?_ | refine rwc_o .z rfl ?_ | refine rwc_o .w rfl ?_ | refine rwc_o .b rfl ?_ | refine rwc_o _ rfl ?_)
          exact ⟨by simp [*], by simp, by simp, by simp, v, by simp [*], o1⟩
        · rw [if_neg hkey] at hr1 hl1
          rw [hr1, hl1]
          clear hr1 hl1
          repeat' (first
           | (with_reducible first | refine Stp.pf ?_ | refine block_x (by decide) ?_ | refine ret_n ?_)
           | refine tri_reg [30,59,80] ?_ | refine tri_regc [30,59,80] [] mixed (by decide +kernel) ?_
           | (refine rwf_nilt rfl (by decide +kernel) fun B hB => ?_; (try simp [*]); refine hB.out _ fun b => ?_; clear hB B)
           | (refine Rul.pf ⟨rfl, rfl⟩ fun B C hB => ?_; (try simp [*, -List.all_eq_true, Tryz.results22]); (try (simp (disch := first | assumption | omega) only [wc, ite_yes]; (try simp [*, -List.all_eq_true, Tryz.results22]))); first | (first | refine hB.out.1 _ (fun hb => ?_) fun hb => ⟨rfl, ?_⟩ | refine hB.out.1 _ (fun hb => ?_) fun hb => ?_) <;> clear hB C B <;> (try simp only [Bool.not_true, Bool.not_false] at hb) <;> (first | (exfalso; simp at hb; done) | (exfalso; simp at hb; omega) | (rw [hb]; (try simp at hb)) | (try simp at hb)) | ((first | refine hB.out.1 _ _ ?_ | refine hB.out.1 _ ?_ | refine hB.out.2 ⟨rfl, ?_⟩); clear hB C B) | (refine hB.out.2 _ ?_; clear hB C B; (try rfl)))
           | refine rwf_o ?_ | refine rwc_o .n rfl ?_ | refine rwc_o .z rfl ?_ | refine rwc_o .w rfl ?_ | refine rwc_o .b rfl ?_ | refine rwc_o _ rfl ?_)
          refine rwf_app rfl rfl elem22 zero46 rfl bytes46 (by decide) slc22 fun G hG => ?_
          (try simp [*, -List.all_eq_true])
          refine hG.out _ _ _ _ _ (o1) (by simp) (by simp) (by omega) fun v1 σ1 q1 q2 => ?_
          clear hG G
          repeat' (first
           | (with_reducible first | refine Stp.pf ?_ | refine block_x (by decide) ?_ | refine ret_n ?_)
           | refine tri_reg [30,59,80] ?_ | refine tri_regc [30,59,80] [] mixed (by decide +kernel) ?_
           | (refine rwf_nilt rfl (by decide +kernel) fun B hB => ?_; (try simp [*]); refine hB.out _ fun b => ?_; clear hB B)
           | (refine Rul.pf ⟨rfl, rfl⟩ fun B C hB => ?_; (try simp [*, -List.all_eq_true, Tryz.results22]); (try (simp (disch := first | assumption | omega) only [wc, ite_yes]; (try simp [*, -List.all_eq_true, Tryz.results22]))); first | (first | refine hB.out.1 _ (fun hb => ?_) fun hb => ⟨rfl, ?_⟩ | refine hB.out.1 _ (fun hb => ?_) fun hb => ?_) <;> clear hB C B <;> (try simp only [Bool.not_true, Bool.not_false] at hb) <;> (first | (exfalso; simp at hb; done) | (exfalso; simp at hb; omega) | (rw [hb]; (try simp at hb)) | (try simp at hb)) | ((first | refine hB.out.1 _ _ ?_ | refine hB.out.1 _ ?_ | refine hB.out.2 ⟨rfl, ?_⟩); clear hB C B) | (refine hB.out.2 _ ?_; clear hB C B; (try rfl)))
           | refine rwf_o ?_ | refine rwc_o .n rfl ?_ | refine rwc_o .z rfl ?_ | refine rwc_o .w rfl ?_ | refine rwc_o .b rfl ?_ | refine rwc_o _ rfl ?_)
          exact ⟨by simp [*], by simp, by simp [*], by simp [*], v1, by simp, by simpa [flatI_append, flatI, flatC, cI] using q1⟩
      · skip
        (try simp at hk)
        obtain ⟨h11, h9, h10, v, h8, o1⟩ := hI
        rw [List.take_length] at h9 h10 o1
        have hap : actM (lookI ms[k].key L) ms[k] = if (applyM ms[k] ((lookI ms[k].key L).getD ⟨#[]⟩) (lookI ms[k].key L).isSome).2 = true then some (applyM ms[k] ((lookI ms[k].key L).getD ⟨#[]⟩) (lookI ms[k].key L).isSome).1 else none := rfl
        have hra := rApply_spec ms[k] ((lookI ms[k].key L).getD ⟨#[]⟩) (lookI ms[k].key L).isSome
        have hrst : rstI L ms[k] = restI ms[k].key L ++ match actM (lookI ms[k].key L) ms[k] with
          | some v => [⟨ms[k].key, v⟩]
          | none => [] := rfl
        have hro := rOf09_spec (rstI L ms[k]) (by omega)
        unfold ofR at hro
        rw [if_neg (by rw [hok]; simp), hof] at hro
        dsimp only at hro
        have hrl2 : (restI ms[k].key L).length ≤ L.length := List.length_filter_le _ _
        rw [hap] at hrst
        generalize (lookI ms[k].key L).getD ⟨#[]⟩ = X at *
        generalize (lookI ms[k].key L).isSome = Y at *
        generalize hA : applyM ms[k] X Y = A at *
        obtain ⟨a1, a2⟩ := A
        generalize stepI L ms[k] = L2 at *
        clear hof hok hap hrl
        cases a2 with
        | true =>
          simp only [if_true] at hrst
          rw [hrst] at hro
          clear hrst
          repeat' (first
           | (with_reducible first | refine Stp.pf ?_ | refine block_x (by decide) ?_ | refine ret_n ?_)
           | refine tri_reg [30,59,80] ?_ | refine tri_regc [30,59,80] [] mixed (by decide +kernel) ?_
           | (refine rwf_nilt rfl (by decide +kernel) fun B hB => ?_; (try simp [*]); refine hB.out _ fun b => ?_; clear hB B)
           | (refine Rul.pf ⟨rfl, rfl⟩ fun B C hB => ?_; (try simp [*, -List.all_eq_true, Tryz.results22]); (try (simp (disch := first | assumption | omega) only [wc, ite_yes]; (try simp [*, -List.all_eq_true, Tryz.results22]))); first | (first | refine hB.out.1 _ (fun hb => ?_) fun hb => ⟨rfl, ?_⟩ | refine hB.out.1 _ (fun hb => ?_) fun hb => ?_) <;> clear hB C B <;> (try simp only [Bool.not_true, Bool.not_false] at hb) <;> (first | (exfalso; simp at hb; done) | (exfalso; simp at hb; omega) | (rw [hb]; (try simp at hb)) | (try simp at hb)) | ((first | refine hB.out.1 _ _ ?_ | refine hB.out.1 _ ?_ | refine hB.out.2.1 _ _ _ (hra) ?_ | refine hB.out.2.2 _ _ _ (hra) ?_ | refine hB.out.2 ⟨rfl, ?_⟩); clear hB C B) | (refine hB.out.2 _ ?_; clear hB C B; (try rfl)))
           | refine rwf_o ?_ | refine rwc_o .n rfl ?_ | refine rwc_o .z rfl ?_ | refine rwc_o .w rfl ?_ | refine rwc_o .b rfl ?_ | refine rwc_o _ rfl ?_)
          refine rwf_app rfl rfl elem22 zero46 rfl bytes46 (by decide) slc22 fun G hG => ?_
          (try simp [*, -List.all_eq_true])
          refine hG.out _ _ _ _ _ (o1) (by simp) (by simp) (by omega) fun v1 σ1 q1 q2 => ?_
          clear hG G
          have q1' : Own 2 σ1 v1 (restI ms[k].key L ++ [(⟨ms[k].key, a1⟩ : Item)]).length (flatI (restI ms[k].key L ++ [(⟨ms[k].key, a1⟩ : Item)])) := by simpa [flatI_append, flatI, flatC, cI] using q1
          clear q1 q2 o1
          have hro1 := spec_own1 q1' (by simp) (hro _)
          clear hro q1'
          repeat' (first
           | (with_reducible first | refine Stp.pf ?_ | refine block_x (by decide) ?_ | refine ret_n ?_)
           | refine tri_reg [30,59,80] ?_ | refine tri_regc [30,59,80] [] mixed (by decide +kernel) ?_
           | (refine rwf_nilt rfl (by decide +kernel) fun B hB => ?_; (try simp [*]); refine hB.out _ fun b => ?_; clear hB B)
           | (refine Rul.pf ⟨rfl, rfl⟩ fun B C hB => ?_; (try simp [*, -List.all_eq_true, Tryz.results22]); (try (simp (disch := first | assumption | omega) only [wc, ite_yes]; (try simp [*, -List.all_eq_true, Tryz.results22]))); first | (first | refine hB.out.1 _ (fun hb => ?_) fun hb => ⟨rfl, ?_⟩ | refine hB.out.1 _ (fun hb => ?_) fun hb => ?_) <;> clear hB C B <;> (try simp only [Bool.not_true, Bool.not_false] at hb) <;> (first | (exfalso; simp at hb; done) | (exfalso; simp at hb; omega) | (rw [hb]; (try simp at hb)) | (try simp at hb)) | ((first | refine hB.out.1 _ _ ?_ | refine hB.out.1 _ ?_ | refine hB.out.2 ⟨rfl, ?_⟩); clear hB C B) | (refine hB.out.2 _ ?_; clear hB C B; (try rfl)))
           | refine rwf_o ?_ | refine rwc_o .n rfl ?_ | refine rwc_o .z rfl ?_ | refine rwc_o .w rfl ?_ | refine rwc_o .b rfl ?_ | refine rwc_o _ rfl ?_)
          refine rwf_ca rfl fun C' hC hP => ?_
          clear hP
          (try simp [*, -List.all_eq_true]); (try (simp (disch := first | assumption | omega) only [wrap_id, wrapu_id, wrapb_id, tmod_nn, tdiv_nn, ite_yes, flatM_seg, flatM_0, flatM_1, flatM_2, flatI_seg, flatI_0, flatI_1, flatS_get]; (try simp [*, -List.all_eq_true])))
          refine hC.out _ _ _ (hro1) fun r s hq => ?_
          clear hC C'
          obtain ⟨rfl, rfl⟩ := hq
          clear hro1
          generalize freezeL σ1 (List.range σ1.length) = S at *
          repeat' (first
           | (with_reducible first | refine Stp.pf ?_ | refine block_x (by decide) ?_ | refine ret_n ?_)
           | refine tri_reg [30,59,80] ?_ | refine tri_regc [30,59,80] [] mixed (by decide +kernel) ?_
           | (refine rwf_nilt rfl (by decide +kernel) fun B hB => ?_; (try simp [*]); refine hB.out _ fun b => ?_; clear hB B)
           | (refine Rul.pf ⟨rfl, rfl⟩ fun B C hB => ?_; (try simp [*, -List.all_eq_true, Tryz.results22]); (try (simp (disch := first | assumption | omega) only [wc, ite_yes]; (try simp [*, -List.all_eq_true, Tryz.results22]))); first | (first | refine hB.out.1 _ (fun hb => ?_) fun hb => ⟨rfl, ?_⟩ | refine hB.out.1 _ (fun hb => ?_) fun hb => ?_) <;> clear hB C B <;> (try simp only [Bool.not_true, Bool.not_false] at hb) <;> (first | (exfalso; simp at hb; done) | (exfalso; simp at hb; omega) | (rw [hb]; (try simp at hb)) | (try simp at hb)) | ((first | refine hB.out.1 _ _ ?_ | refine hB.out.1 _ ?_ | refine hB.out.2 ⟨rfl, ?_⟩); clear hB C B) | (refine hB.out.2 _ ?_; clear hB C B; (try rfl)))
           | refine rwf_o ?_ | refine rwc_o .n rfl ?_ | refine rwc_o .z rfl ?_ | refine rwc_o .w rfl ?_ | refine rwc_o .b rfl ?_ | refine rwc_o _ rfl ?_)
          exact ⟨by simp [*], by simp, by simp⟩
        | false =>
          simp only [Bool.false_eq_true, if_false, List.append_nil] at hrst
          rw [hrst] at hro
          clear hrst
          have hro1 := spec_own1 o1 (by simp) (hro _)
          clear hro o1
          repeat' (first
           | (with_reducible first | refine Stp.pf ?_ | refine block_x (by decide) ?_ | refine ret_n ?_)
           | refine tri_reg [30,59,80] ?_ | refine tri_regc [30,59,80] [] mixed (by decide +kernel) ?_
           | (refine rwf_nilt rfl (by decide +kernel) fun B hB => ?_; (try simp [*]); refine hB.out _ fun b => ?_; clear hB B)
           | (refine Rul.pf ⟨rfl, rfl⟩ fun B C hB => ?_; (try simp [*, -List.all_eq_true, Tryz.results22]); (try (simp (disch := first | assumption | omega) only [wc, ite_yes]; (try simp [*, -List.all_eq_true, Tryz.results22]))); first | (first | refine hB.out.1 _ (fun hb => ?_) fun hb => ⟨rfl, ?_⟩ | refine hB.out.1 _ (fun hb => ?_) fun hb => ?_) <;> clear hB C B <;> (try simp only [Bool.not_true, Bool.not_false] at hb) <;> (first | (exfalso; simp at hb; done) | (exfalso; simp at hb; omega) | (rw [hb]; (try simp at hb)) | (try simp at hb)) | ((first | refine hB.out.1 _ _ ?_ | refine hB.out.1 _ ?_ | refine hB.out.2.1 _ _ _ (hra) ?_ | refine hB.out.2.2 _ _ _ (hra) ?_ | refine hB.out.2 ⟨rfl, ?_⟩); clear hB C B) | (refine hB.out.2 _ ?_; clear hB C B; (try rfl)))
           | refine rwf_o ?_ | refine rwc_o .n rfl ?_ | refine rwc_o .z rfl ?_ | refine rwc_o .w rfl ?_ | refine rwc_o .b rfl ?_ | refine rwc_o _ rfl ?_)
          refine rwf_ca rfl fun C' hC hP => ?_
          clear hP
          (try simp [*, -List.all_eq_true]); (try (simp (disch := first | assumption | omega) only [wrap_id, wrapu_id, wrapb_id, tmod_nn, tdiv_nn, ite_yes, flatM_seg, flatM_0, flatM_1, flatM_2, flatI_seg, flatI_0, flatI_1, flatS_get]; (try simp [*, -List.all_eq_true])))
          refine hC.out _ _ _ (hro1) fun r s hq => ?_
          clear hC C'
          obtain ⟨rfl, rfl⟩ := hq
          clear hro1
          generalize freezeL σ' (List.range σ'.length) = S at *
          repeat' (first
           | (with_reducible first | refine Stp.pf ?_ | refine block_x (by decide) ?_ | refine ret_n ?_)
           | refine tri_reg [30,59,80] ?_ | refine tri_regc [30,59,80] [] mixed (by decide +kernel) ?_
           | (refine rwf_nilt rfl (by decide +kernel) fun B hB => ?_; (try simp [*]); refine hB.out _ fun b => ?_; clear hB B)
           | (refine Rul.pf ⟨rfl, rfl⟩ fun B C hB => ?_; (try simp [*, -List.all_eq_true, Tryz.results22]); (try (simp (disch := first | assumption | omega) only [wc, ite_yes]; (try simp [*, -List.all_eq_true, Tryz.results22]))); first | (first | refine hB.out.1 _ (fun hb => ?_) fun hb => ⟨rfl, ?_⟩ | refine hB.out.1 _ (fun hb => ?_) fun hb => ?_) <;> clear hB C B <;> (try simp only [Bool.not_true, Bool.not_false] at hb) <;> (first | (exfalso; simp at hb; done) | (exfalso; simp at hb; omega) | (rw [hb]; (try simp at hb)) | (try simp at hb)) | ((first | refine hB.out.1 _ _ ?_ | refine hB.out.1 _ ?_ | refine hB.out.2 ⟨rfl, ?_⟩); clear hB C B) | (refine hB.out.2 _ ?_; clear hB C B; (try rfl)))
           | refine rwf_o ?_ | refine rwc_o .n rfl ?_ | refine rwc_o .z rfl ?_ | refine rwc_o .w rfl ?_ | refine rwc_o .b rfl ?_ | refine rwc_o _ rfl ?_)
          exact ⟨by simp [*], by simp, by simp⟩
    · skip
      (try simp at hk)
      obtain ⟨h7, h0⟩ := hI
      rw [List.take_length] at h0
      repeat' (first
       | (with_reducible first | refine Stp.pf ?_ | refine block_x (by decide) ?_ | refine ret_n ?_)
       | refine tri_reg [30,59,80] ?_ | refine tri_regc [30,59,80] [] mixed (by decide +kernel) ?_
       | (refine rwf_nilt rfl (by decide +kernel) fun B hB => ?_; (try simp [*]); refine hB.out _ fun b => ?_; clear hB B)
       | (refine Rul.pf ⟨rfl, rfl⟩ fun B C hB => ?_; (try simp [*, -List.all_eq_true, Tryz.results22]); (try (simp (disch := first | assumption | omega) only [wc, ite_yes]; (try simp [*, -List.all_eq_true, Tryz.results22]))); first | (first | refine hB.out.1 _ (fun hb => ?_) fun hb => ⟨rfl, ?_⟩ | refine hB.out.1 _ (fun hb => ?_) fun hb => ?_) <;> clear hB C B <;> (try simp only [Bool.not_true, Bool.not_false] at hb) <;> (first | (exfalso; simp at hb; done) | (exfalso; simp at hb; omega) | (rw [hb]; (try simp at hb)) | (try simp at hb)) | ((first | refine hB.out.1 _ _ ?_ | refine hB.out.1 _ ?_ | refine hB.out.2 ⟨rfl, ?_⟩); clear hB C B) | (refine hB.out.2 _ ?_; clear hB C B; (try rfl)))
       | refine rwf_o ?_ | refine rwc_o .n rfl ?_ | refine rwc_o .z rfl ?_ | refine rwc_o .w rfl ?_ | refine rwc_o .b rfl ?_ | refine rwc_o _ rfl ?_)
      exact out_flat (by simp [AV.flat, flatL]) (.refl _)
end Go.Proofs.YtemijcjgdgdhjaaGreat
