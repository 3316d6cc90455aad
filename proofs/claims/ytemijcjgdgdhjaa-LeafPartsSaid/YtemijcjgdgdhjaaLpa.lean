/- The reference of layer 9: Weight, Parts. -/
import Derived.Test.YtemijcjgdgdhjaaEj
namespace Go.Proofs.Ytemijcjgdgdhjaa
open Go.RowKit
set_option linter.unusedSimpArgs false
set_option maxRecDepth 10000
section
variable {P : Program} {nt : Nat} {mu : List Nat} {ds : List (Option Nat)} {ov : List (Nat × Cls)} {K : Env → Sto → Prop} {d : Nat} {t : TypeId} {pos : String} {after : Array Edge} {l : List Oper} {env : Env} {σ : Sto} {i : Nat}
theorem rwc_app2 {s x : Operand} {t0 t1 e k by_ : Nat} {z : List AV} (hd : dOk nt (some d) = true) (hmu : mu.contains d = true) (he : elemOfT P t0 = some (e, k)) (hz : zeroA P e = some z) (hzk : z.length = k) (hb : bytesT P e = some by_) (hb1 : by_ ≤ 1000) (h1 : notIntT P t1 = true)
    (h : ∀ G : AV → AV → Prop, Hid (∀ v n cs y new m, Own k σ v n cs → Own k σ y m new → new.all AV.one = true → n + m ≤ 100000000 → (∀ v' σ', Own k σ' v' (n + m) (cs ++ new) → Frame σ v σ' v' → rwc P mu ds nt ov K (i + 1) l (env.put (some d) v') σ') → G v y) → G (evA env s) (evA env x)) :
    rco P mu ds nt ov K i .w ⟨some d, .call ⟨.builtin .append, #[s, x], #[t0, t1]⟩, t, pos, after, none⟩ l env σ := by
  have := h (fun v y => evA env s = v → evA env x = y → rco P mu ds nt ov K i .w ⟨some d, .call ⟨.builtin .append, #[s, x], #[t0, t1]⟩, t, pos, after, none⟩ l env σ) fun v n cs y new m q1 q2 q3 q4 q5 e1 e2 => ?_
  · exact this rfl rfl
  · obtain ⟨v', σ', r1, r2, r3⟩ := app_own2 he hz hzk hb hb1 h1 q1 q2 q3 q4
    refine ⟨hd, .inl ⟨v', σ', ?_, q5 v' σ' r2 r3⟩⟩
    show appendA P (mu.contains d) σ t0 t1 (evA env s) (evA env x) = some (v', σ')
    rw [hmu, e1, e2]; exact r1
end
theorem parts_there (p : List (List Item)) (σ : Sto) : ∃ r s, Own 1 s r p.length (flatY p) ∧ (∀ (i : Nat) (o : MO), σ[i]? = some o → s[i]? = some o) ∧ ∀ j, isH j r → σ.length ≤ j :=
  ⟨.ms σ.length 0 0 p.length 1, σ ++ [⟨flatY p, 0, false, false⟩], .inr ⟨σ.length, 0, 0, flatY p, rfl, List.getElem?_concat_length, by simp, List.take_of_length_le (by simp)⟩, fun i o h => by rw [List.getElem?_append_left (lt_of_get h)]; exact h, fun j hj => by rw [isH_ms hj]; omega⟩
theorem rW09_spec (l : List Item) (hl : l.length ≤ 900000) (hs : ISmall l) : PSpec Try.prog 107 [.fs (flatI l) l.length] (.sc (.int .i64 (iwts l))) := by
  have hw : ∀ k, 0 ≤ iwts (l.take k) ∧ iwts (l.take k) ≤ 2000002 * l.length := fun k => by
    have := iwts_bd (l.take k) fun x hx => hs x (List.mem_of_mem_take hx)
    have h2 : (l.take k).length ≤ l.length := by simp; omega
    omega
  replace hs := Lib.hid hs
  replace hw := Lib.hid hw
  refine spec_pure (by simp) (by simp) ?_
  refine spec_intro Try.func107 good107 rfl (by simp [Try.ntmps107]) ?_
  repeat' (first
   | (with_reducible first | refine Stp.pf ?_ | refine block_x (by decide) ?_ | refine ret_n ?_)
   | refine tri_reg [] ?_ | refine tri_regc [] [] mixed (by decide +kernel) ?_
   | (refine rwf_nilt rfl (by decide +kernel) fun B hB => ?_; (try simp [*]); refine hB.out _ fun b => ?_; clear hB B)
   | (refine Rul.pf ⟨rfl, rfl⟩ fun B C hB => ?_; (try simp [*, -List.all_eq_true, Try.results107]); (try (simp (disch := first | assumption | omega) only [wc, ite_yes]; (try simp [*, -List.all_eq_true, Try.results107]))); first | (first | refine hB.out.1 _ (fun hb => ?_) fun hb => ⟨rfl, ?_⟩ | refine hB.out.1 _ (fun hb => ?_) fun hb => ?_) <;> clear hB C B <;> (try simp only [Bool.not_true, Bool.not_false] at hb) <;> (first | (exfalso; simp at hb; done) | (exfalso; simp at hb; omega) | (rw [hb]; (try simp at hb)) | (try simp at hb)) | ((first | refine hB.out.1 _ _ ?_ | refine hB.out.1 _ ?_ | refine hB.out.2 ⟨rfl, ?_⟩); clear hB C B) | (refine hB.out.2 _ ?_; clear hB C B; (try rfl)))
   | refine rwf_o ?_ | refine rwc_o .n rfl ?_ | refine rwc_o .z rfl ?_ | refine rwc_o .w rfl ?_ | refine rwc_o .b rfl ?_ | refine rwc_o _ rfl ?_)
  refine tri_for [0, 2] l.length (fun k e σ => σ = [] ∧ e 4 = .sc (.int .i64 k) ∧ e 3 = .sc (.int .i64 (iwts (l.take k)))) ?_ (fun k env' σ' hlt hk hI => ?_) (fun env' σ' hk hI => ?_)
  · exact ⟨by simp, by simp, by simp [iwts]⟩
  · skip
    (try simp at hk)
    obtain ⟨rfl, h4, h3⟩ := hI
    have hm := hs.out l[k] (List.getElem_mem hlt)
    have h0 := hw.out k
    have h2 := iwts_take l k l[k] (List.getElem?_eq_getElem hlt)
    have h5 : iwt l[k] = 2 + (l[k].key.size : Int) + (l[k].val.size : Int) := rfl
    rw [h2, h5]
    generalize iwts (l.take k) = W0 at *
    repeat' (first
     | (with_reducible first | refine Stp.pf ?_ | refine block_x (by decide) ?_ | refine ret_n ?_)
     | refine tri_reg [] ?_ | refine tri_regc [] [] mixed (by decide +kernel) ?_
     | (refine rwf_nilt rfl (by decide +kernel) fun B hB => ?_; (try simp [*]); refine hB.out _ fun b => ?_; clear hB B)
     | (refine Rul.pf ⟨rfl, rfl⟩ fun B C hB => ?_; (try simp [*, -List.all_eq_true, Try.results107]); (try (simp (disch := first | assumption | omega) only [wc, ite_yes]; (try simp [*, -List.all_eq_true, Try.results107]))); first | (first | refine hB.out.1 _ (fun hb => ?_) fun hb => ⟨rfl, ?_⟩ | refine hB.out.1 _ (fun hb => ?_) fun hb => ?_) <;> clear hB C B <;> (try simp only [Bool.not_true, Bool.not_false] at hb) <;> (first | (exfalso; simp at hb; done) | (exfalso; simp at hb; omega) | (rw [hb]; (try simp at hb)) | (try simp at hb)) | ((first | refine hB.out.1 _ _ ?_ | refine hB.out.1 _ ?_ | refine hB.out.2 ⟨rfl, ?_⟩); clear hB C B) | (refine hB.out.2 _ ?_; clear hB C B; (try rfl)))
     | refine rwf_o ?_ | refine rwc_o .n rfl ?_ | refine rwc_o .z rfl ?_ | refine rwc_o .w rfl ?_ | refine rwc_o .b rfl ?_ | refine rwc_o _ rfl ?_)
    exact ⟨by simp [*], rfl, by simp, by simp; omega⟩
  · skip
    (try simp at hk)
    obtain ⟨rfl, h4, h3⟩ := hI
    repeat' (first
     | (with_reducible first | refine Stp.pf ?_ | refine block_x (by decide) ?_ | refine ret_n ?_)
     | refine tri_reg [] ?_ | refine tri_regc [] [] mixed (by decide +kernel) ?_
     | (refine rwf_nilt rfl (by decide +kernel) fun B hB => ?_; (try simp [*]); refine hB.out _ fun b => ?_; clear hB B)
     | (refine Rul.pf ⟨rfl, rfl⟩ fun B C hB => ?_; (try simp [*, -List.all_eq_true, Try.results107]); (try (simp (disch := first | assumption | omega) only [wc, ite_yes]; (try simp [*, -List.all_eq_true, Try.results107]))); first | (first | refine hB.out.1 _ (fun hb => ?_) fun hb => ⟨rfl, ?_⟩ | refine hB.out.1 _ (fun hb => ?_) fun hb => ?_) <;> clear hB C B <;> (try simp only [Bool.not_true, Bool.not_false] at hb) <;> (first | (exfalso; simp at hb; done) | (exfalso; simp at hb; omega) | (rw [hb]; (try simp at hb)) | (try simp at hb)) | ((first | refine hB.out.1 _ _ ?_ | refine hB.out.1 _ ?_ | refine hB.out.2 ⟨rfl, ?_⟩); clear hB C B) | (refine hB.out.2 _ ?_; clear hB C B; (try rfl)))
     | refine rwf_o ?_ | refine rwc_o .n rfl ?_ | refine rwc_o .z rfl ?_ | refine rwc_o .w rfl ?_ | refine rwc_o .b rfl ?_ | refine rwc_o _ rfl ?_)
set_option maxHeartbeats 1000000 in
theorem rParts09_spec : ∀ (n : Nat) (l : List Item), l.length ≤ n → l.length ≤ 900000 → Light l → ∀ σ : Sto, Spec Try.prog 56 [.fs (flatI l) l.length] σ (fun r s => Own 1 s r (partsI l).length (flatY (partsI l)) ∧ (∀ (i : Nat) (o : MO), σ[i]? = some o → s[i]? = some o) ∧ ∀ j, isH j r → σ.length ≤ j) := by
  intro n
  induction n with
  | zero =>
    intro l hn hl900 hl σ
    have : l = [] := List.length_eq_zero_iff.1 (by omega)
    subst this
    have hw0 := rW09_spec [] (by simp) hl.small
    have hw : iwts ([] : List Item) = 0 := rfl
    refine spec_intro Try.func56 good56 rfl (by simp [Try.ntmps56]) ?_
    repeat' (first
     | (with_reducible first | refine Stp.pf ?_ | refine block_x (by decide) ?_ | refine ret_n ?_)
     | refine tri_reg [10,32] ?_ | refine tri_regc [10,32] [] mixed (by decide +kernel) ?_
     | (refine rwf_nilt rfl (by decide +kernel) fun B hB => ?_; (try simp [*]); refine hB.out _ fun b => ?_; clear hB B)
     | (refine Rul.pf ⟨rfl, rfl⟩ fun B C hB => ?_; (try simp [*, -List.all_eq_true, Try.results56]); (try (simp (disch := first | assumption | omega) only [wc, ite_yes]; (try simp [*, -List.all_eq_true, Try.results56]))); first | (first | refine hB.out.1 _ (fun hb => ?_) fun hb => ⟨rfl, ?_⟩ | refine hB.out.1 _ (fun hb => ?_) fun hb => ?_) <;> clear hB C B <;> (try simp only [Bool.not_true, Bool.not_false] at hb) <;> (first | (exfalso; simp at hb; done) | (exfalso; simp at hb; omega) | (rw [hb]; (try simp at hb)) | (try simp at hb)) | ((first | refine hB.out.1 _ _ ?_ | refine hB.out.1 _ ?_ | refine hB.out.2.1 _ _ _ (hw0) ?_ | refine hB.out.2.2 _ _ _ (hw0) ?_ | refine hB.out.2 ⟨rfl, ?_⟩); clear hB C B) | (refine hB.out.2 _ ?_; clear hB C B; (try rfl)))
     | refine rwf_o ?_ | refine rwc_o .n rfl ?_ | refine rwc_o .z rfl ?_ | refine rwc_o .w rfl ?_ | refine rwc_o .b rfl ?_ | refine rwc_o _ rfl ?_)
    exact ⟨.inr ⟨σ.length, 0, 0, _, rfl, List.getElem?_concat_length, by simp [partsI, partsF], rfl⟩, fun i o h => by rw [List.getElem?_append_left (lt_of_get h)]; exact h, fun j hj => by rw [isH_ms hj]; omega⟩
  | succ n ih =>
    intro l hn hl900 hl σ
    have hpe := partsI_eq hl
    have hw0 := rW09_spec l hl900 hl.small
    by_cases hw : iwts l ≤ 240
    · rw [if_pos hw] at hpe
      rw [hpe]
      refine spec_intro Try.func56 good56 rfl (by simp [Try.ntmps56]) ?_
      clear hpe ih
      repeat' (first
       | (with_reducible first | refine Stp.pf ?_ | refine block_x (by decide) ?_ | refine ret_n ?_)
       | refine tri_reg [10,32] ?_ | refine tri_regc [10,32] [] mixed (by decide +kernel) ?_
       | (refine rwf_nilt rfl (by decide +kernel) fun B hB => ?_; (try simp [*]); refine hB.out _ fun b => ?_; clear hB B)
       | (refine Rul.pf ⟨rfl, rfl⟩ fun B C hB => ?_; (try simp [*, -List.all_eq_true, Try.results56]); (try (simp (disch := first | assumption | omega) only [wc, ite_yes]; (try simp [*, -List.all_eq_true, Try.results56]))); first | (first | refine hB.out.1 _ (fun hb => ?_) fun hb => ⟨rfl, ?_⟩ | refine hB.out.1 _ (fun hb => ?_) fun hb => ?_) <;> clear hB C B <;> (try simp only [Bool.not_true, Bool.not_false] at hb) <;> (first | (exfalso; simp at hb; done) | (exfalso; simp at hb; omega) | (rw [hb]; (try simp at hb)) | (try simp at hb)) | ((first | refine hB.out.1 _ _ ?_ | refine hB.out.1 _ ?_ | refine hB.out.2.1 _ _ _ (hw0) ?_ | refine hB.out.2.2 _ _ _ (hw0) ?_ | refine hB.out.2 ⟨rfl, ?_⟩); clear hB C B) | (refine hB.out.2 _ ?_; clear hB C B; (try rfl)))
       | refine rwf_o ?_ | refine rwc_o .n rfl ?_ | refine rwc_o .z rfl ?_ | refine rwc_o .w rfl ?_ | refine rwc_o .b rfl ?_ | refine rwc_o _ rfl ?_)
      exact ⟨.inr ⟨σ.length, 0, 0, _, rfl, List.getElem?_concat_length, by simp, rfl⟩, fun i o h => by rw [List.getElem?_append_left (lt_of_get h)]; exact h, fun j hj => by rw [isH_ms hj]; omega⟩
    · rw [if_neg hw] at hpe
      rw [hpe]
      obtain ⟨h1, h2⟩ := half_in hl hw
      obtain ⟨g1, g2, g3⟩ := halfI_spec l (by have := (iwts_bd l hl.small).1; omega)
      have l1 : (l.take (halfI l)).length = halfI l := by simp; omega
      have l2 : (l.drop (halfI l)).length = l.length - halfI l := by simp
      have p1 := ih (l.take (halfI l)) (by omega) (by omega) (hl.take _)
      have p2 := ih (l.drop (halfI l)) (by omega) (by omega) (hl.drop _)
      have n1 := (partsI_len (hl.take (halfI l))).1
      have n2 := (partsI_len (hl.drop (halfI l))).1
      have t2 := flatI_drop l (halfI l)
      have t3 : List.take ((l.length - halfI l) * 2) (flatI (l.drop (halfI l))) = flatI (l.drop (halfI l)) := List.take_of_length_le (by rw [flatI_length, l2]; omega)
      have t1 := flatI_take l (halfI l)
      have hwj : ∀ j, j ≤ l.length → PSpec Try.prog 107 [.fs (List.take (j * 2) (flatI l)) j] (.sc (.int .i64 (iwts (l.take j)))) ∧ 0 ≤ iwts (l.take j) ∧ iwts (l.take j) ≤ 2000002 * j := fun j hj => by
        have q := rW09_spec (l.take j) (by rw [List.length_take]; omega) (hl.take j).small
        have q2 := iwts_bd (l.take j) (hl.take j).small
        rw [List.length_take, Nat.min_eq_left hj, ← flatI_take] at q
        rw [List.length_take, Nat.min_eq_left hj] at q2
        exact ⟨q, q2⟩
      rw [l1] at p1
      rw [l2] at p2
      replace hwj := Lib.hid hwj
      replace p1 := Lib.hid p1
      replace p2 := Lib.hid p2
      replace g3 := Lib.hid g3
      clear hpe ih
      replace hl := Lib.hid hl
      refine spec_intro Try.func56 good56 rfl (by simp [Try.ntmps56]) ?_
      generalize hS : σ = S at *
      repeat' (first
       | (with_reducible first | refine Stp.pf ?_ | refine block_x (by decide) ?_ | refine ret_n ?_)
       | refine tri_reg [10,32] ?_ | refine tri_regc [10,32] [] mixed (by decide +kernel) ?_
       | (refine rwf_nilt rfl (by decide +kernel) fun B hB => ?_; (try simp [*]); refine hB.out _ fun b => ?_; clear hB B)
       | (refine Rul.pf ⟨rfl, rfl⟩ fun B C hB => ?_; (try simp [*, -List.all_eq_true, Try.results56]); (try (simp (disch := first | assumption | omega) only [wc, ite_yes]; (try simp [*, -List.all_eq_true, Try.results56]))); first | (first | refine hB.out.1 _ (fun hb => ?_) fun hb => ⟨rfl, ?_⟩ | refine hB.out.1 _ (fun hb => ?_) fun hb => ?_) <;> clear hB C B <;> (try simp only [Bool.not_true, Bool.not_false] at hb) <;> (first | (exfalso; simp at hb; done) | (exfalso; simp at hb; omega) | (rw [hb]; (try simp at hb)) | (try simp at hb)) | ((first | refine hB.out.1 _ _ ?_ | refine hB.out.1 _ ?_ | refine hB.out.2.1 _ _ _ (hw0) ?_ | refine hB.out.2.2 _ _ _ (hw0) ?_ | refine hB.out.2 ⟨rfl, ?_⟩); clear hB C B) | (refine hB.out.2 _ ?_; clear hB C B; (try rfl)))
       | refine rwf_o ?_ | refine rwc_o .n rfl ?_ | refine rwc_o .z rfl ?_ | refine rwc_o .w rfl ?_ | refine rwc_o .b rfl ?_ | refine rwc_o _ rfl ?_)
      refine tri_whl [0, 3] (halfI l) (fun m e σ => σ = S ∧ ∃ j : Nat, j ≤ halfI l ∧ m = halfI l - j ∧ e 4 = .sc (.int .i64 j)) ?_ (fun m env' σ' hm hk hI => ?_)
      · exact ⟨halfI l, by omega, rfl, 0, by omega, by omega, by simp⟩
      · skip
        (try simp at hk)
        obtain ⟨rfl, j, hj, hmj, h4⟩ := hI
        obtain ⟨wj, b1, b2⟩ := hwj.out j (by omega)
        have hjl : j ≤ l.length := by omega
        rcases Nat.lt_or_ge j (halfI l) with hlt | hge
        · have hno := g3.out j hlt
          repeat' (first
           | (with_reducible first | refine Stp.pf ?_ | refine block_x (by decide) ?_ | refine ret_n ?_)
           | refine tri_reg [10,32] ?_ | refine tri_regc [10,32] [] mixed (by decide +kernel) ?_
           | (refine rwf_nilt rfl (by decide +kernel) fun B hB => ?_; (try simp [*]); refine hB.out _ fun b => ?_; clear hB B)
           | (refine Rul.pf ⟨rfl, rfl⟩ fun B C hB => ?_; (try simp [*, -List.all_eq_true, Try.results56]); (try (simp (disch := first | assumption | omega) only [wc, ite_yes]; (try simp [*, -List.all_eq_true, Try.results56]))); first | (first | refine hB.out.1 _ (fun hb => ?_) fun hb => ⟨rfl, ?_⟩ | refine hB.out.1 _ (fun hb => ?_) fun hb => ?_) <;> clear hB C B <;> (try simp only [Bool.not_true, Bool.not_false] at hb) <;> (first | (exfalso; simp at hb; done) | (exfalso; simp at hb; omega) | (rw [hb]; (try simp at hb)) | (try simp at hb)) | ((first | refine hB.out.1 _ _ ?_ | refine hB.out.1 _ ?_ | refine hB.out.2.1 _ _ _ (wj) ?_ | refine hB.out.2.2 _ _ _ (wj) ?_ | refine hB.out.2 ⟨rfl, ?_⟩); clear hB C B) | (refine hB.out.2 _ ?_; clear hB C B; (try rfl)))
           | refine rwf_o ?_ | refine rwc_o .n rfl ?_ | refine rwc_o .z rfl ?_ | refine rwc_o .w rfl ?_ | refine rwc_o .b rfl ?_ | refine rwc_o _ rfl ?_)
          exact ⟨by simp [*], halfI l - (j + 1), by omega, rfl, j + 1, by omega, rfl, by simp⟩
        · obtain rfl : j = halfI l := by omega
          rw [t1] at wj
          repeat' (first
           | (with_reducible first | refine Stp.pf ?_ | refine block_x (by decide) ?_ | refine ret_n ?_)
           | refine tri_reg [10,32] ?_ | refine tri_regc (id := 8) [10,32] [(3, .w), (6, .n), (7, .w)] mixed (by decide +kernel) ?_ | refine tri_regc [10,32] [] mixed (by decide +kernel) ?_
           | (refine rwf_nilt rfl (by decide +kernel) fun B hB => ?_; (try simp [*]); refine hB.out _ fun b => ?_; clear hB B)
           | (refine Rul.pf ⟨rfl, rfl⟩ fun B C hB => ?_; (try simp [*, -List.all_eq_true, Try.results56]); (try (simp (disch := first | assumption | omega) only [wc, ite_yes]; (try simp [*, -List.all_eq_true, Try.results56]))); first | (first | refine hB.out.1 _ (fun hb => ?_) fun hb => ⟨rfl, ?_⟩ | refine hB.out.1 _ (fun hb => ?_) fun hb => ?_) <;> clear hB C B <;> (try simp only [Bool.not_true, Bool.not_false] at hb) <;> (first | (exfalso; simp at hb; done) | (exfalso; simp at hb; omega) | (rw [hb]; (try simp at hb)) | (try simp at hb)) | ((first | refine hB.out.1 _ _ ?_ | refine hB.out.1 _ ?_ | refine hB.out.2.1 _ _ _ (wj) ?_ | refine hB.out.2.2 _ _ _ (wj) ?_ | refine hB.out.2 ⟨rfl, ?_⟩); clear hB C B) | (refine hB.out.2 _ ?_; clear hB C B; (try rfl)))
           | refine rwf_o ?_ | refine rwc_o .n rfl ?_ | refine rwc_o .z rfl ?_ | refine rwc_o .w rfl ?_ | refine rwc_o .b rfl ?_ | refine rwc_o _ rfl ?_)
          refine rwc_cw rfl fun C' hC => ?_
          (try simp [*, -List.all_eq_true]); (try (simp (disch := first | assumption | omega) only [wrap_id, wrapu_id, wrapb_id, tmod_nn, tdiv_nn, ite_yes, flatM_seg, flatM_0, flatM_1, flatM_2, flatI_seg, flatI_0, flatI_1, flatS_get]; (try simp [*, -List.all_eq_true])))
          refine hC.out _ _ _ (p1.out _) ?_ fun r s hq => ?_
          · exact parts_there _ _
          obtain ⟨o1, f1, k1⟩ := hq
          repeat' (first
           | (with_reducible first | refine Stp.pf ?_ | refine block_x (by decide) ?_ | refine ret_n ?_)
           | refine tri_reg [10,32] ?_ | refine tri_regc (id := 8) [10,32] [(3, .w), (6, .n), (7, .w)] mixed (by decide +kernel) ?_ | refine tri_regc [10,32] [] mixed (by decide +kernel) ?_
           | (refine rwf_nilt rfl (by decide +kernel) fun B hB => ?_; (try simp [*]); refine hB.out _ fun b => ?_; clear hB B)
           | (refine Rul.pf ⟨rfl, rfl⟩ fun B C hB => ?_; (try simp [*, -List.all_eq_true, Try.results56]); (try (simp (disch := first | assumption | omega) only [wc, ite_yes]; (try simp [*, -List.all_eq_true, Try.results56]))); first | (first | refine hB.out.1 _ (fun hb => ?_) fun hb => ⟨rfl, ?_⟩ | refine hB.out.1 _ (fun hb => ?_) fun hb => ?_) <;> clear hB C B <;> (try simp only [Bool.not_true, Bool.not_false] at hb) <;> (first | (exfalso; simp at hb; done) | (exfalso; simp at hb; omega) | (rw [hb]; (try simp at hb)) | (try simp at hb)) | ((first | refine hB.out.1 _ _ ?_ | refine hB.out.1 _ ?_ | refine hB.out.2 ⟨rfl, ?_⟩); clear hB C B) | (refine hB.out.2 _ ?_; clear hB C B; (try rfl)))
           | refine rwf_o ?_ | refine rwc_o .n rfl ?_ | refine rwc_o .z rfl ?_ | refine rwc_o .w rfl ?_ | refine rwc_o .b rfl ?_ | refine rwc_o _ rfl ?_)
          refine rwc_cw rfl fun C' hC => ?_
          (try simp [*, -List.all_eq_true]); (try (simp (disch := first | assumption | omega) only [wrap_id, wrapu_id, wrapb_id, tmod_nn, tdiv_nn, ite_yes, flatM_seg, flatM_0, flatM_1, flatM_2, flatI_seg, flatI_0, flatI_1, flatS_get]; (try simp [*, -List.all_eq_true])))
          refine hC.out _ _ _ (p2.out _) ?_ fun r s2 hq => ?_
          · exact parts_there _ _
          obtain ⟨o2, f2, k2⟩ := hq
          have o3 := own_keep o1 f2
          have z1 := len_keep f1
          have z2 := len_keep f2
          replace f1 := Lib.hid f1
          replace f2 := Lib.hid f2
          replace k1 := Lib.hid k1
          replace k2 := Lib.hid k2
          clear o1 p1 p2
          rename_i r1 r2
          repeat' (first
           | (with_reducible first | refine Stp.pf ?_ | refine block_x (by decide) ?_ | refine ret_n ?_)
           | refine tri_reg [10,32] ?_ | refine tri_regc [10,32] [] mixed (by decide +kernel) ?_
           | (refine rwf_nilt rfl (by decide +kernel) fun B hB => ?_; (try simp [*]); refine hB.out _ fun b => ?_; clear hB B)
           | (refine Rul.pf ⟨rfl, rfl⟩ fun B C hB => ?_; (try simp [*, -List.all_eq_true, Try.results56]); (try (simp (disch := first | assumption | omega) only [wc, ite_yes]; (try simp [*, -List.all_eq_true, Try.results56]))); first | (first | refine hB.out.1 _ (fun hb => ?_) fun hb => ⟨rfl, ?_⟩ | refine hB.out.1 _ (fun hb => ?_) fun hb => ?_) <;> clear hB C B <;> (try simp only [Bool.not_true, Bool.not_false] at hb) <;> (first | (exfalso; simp at hb; done) | (exfalso; simp at hb; omega) | (rw [hb]; (try simp at hb)) | (try simp at hb)) | ((first | refine hB.out.1 _ _ ?_ | refine hB.out.1 _ ?_ | refine hB.out.2 ⟨rfl, ?_⟩); clear hB C B) | (refine hB.out.2 _ ?_; clear hB C B; (try rfl)))
           | refine rwf_o ?_ | refine rwc_o .n rfl ?_ | refine rwc_o .z rfl ?_ | refine rwc_o .w rfl ?_ | refine rwc_o .b rfl ?_ | refine rwc_o _ rfl ?_)
          refine rwc_app2 rfl rfl elem91 zero66 rfl bytes66 (by decide) slc91 fun G hG => ?_
          (try simp [*, -List.all_eq_true])
          refine hG.out _ _ _ _ _ _ o3 o2 (by simp) (by omega) fun v' σ' q1 q2 => ?_
          clear hG G
          replace z1 := Lib.hid z1
          replace z2 := Lib.hid z2
          repeat' (first
           | (with_reducible first | refine Stp.pf ?_ | refine block_x (by decide) ?_ | refine ret_n ?_)
           | refine tri_reg [10,32] ?_ | refine tri_regc [10,32] [] mixed (by decide +kernel) ?_
           | (refine rwf_nilt rfl (by decide +kernel) fun B hB => ?_; (try simp [*]); refine hB.out _ fun b => ?_; clear hB B)
           | (refine Rul.pf ⟨rfl, rfl⟩ fun B C hB => ?_; (try simp [*, -List.all_eq_true, Try.results56]); (try (simp (disch := first | assumption | omega) only [wc, ite_yes]; (try simp [*, -List.all_eq_true, Try.results56]))); first | (first | refine hB.out.1 _ (fun hb => ?_) fun hb => ⟨rfl, ?_⟩ | refine hB.out.1 _ (fun hb => ?_) fun hb => ?_) <;> clear hB C B <;> (try simp only [Bool.not_true, Bool.not_false] at hb) <;> (first | (exfalso; simp at hb; done) | (exfalso; simp at hb; omega) | (rw [hb]; (try simp at hb)) | (try simp at hb)) | ((first | refine hB.out.1 _ _ ?_ | refine hB.out.1 _ ?_ | refine hB.out.2 ⟨rfl, ?_⟩); clear hB C B) | (refine hB.out.2 _ ?_; clear hB C B; (try rfl)))
           | refine rwf_o ?_ | refine rwc_o .n rfl ?_ | refine rwc_o .z rfl ?_ | refine rwc_o .w rfl ?_ | refine rwc_o .b rfl ?_ | refine rwc_o _ rfl ?_)
          refine ⟨by simpa [flatY_append] using q1, fun i o h => q2.1 i o (f2.out i o (f1.out i o h)) (fun hh => ?_), fun j hj => ?_⟩
          · have := k1.out i hh
            have := lt_of_get h
            omega
          · rcases q2.2.1 j hj with h | h
            · exact k1.out j h
            · have := z1.out
              have := z2.out
              omega
end Go.Proofs.Ytemijcjgdgdhjaa
