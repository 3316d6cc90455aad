/- strings.Builder at the head of a pen.Out, in the store. -/
import Derived.Test.YticpnfgiidljlaaGreatOd
import Derived.Test.YticpnfgiidljlaaGreatLw
import Derived.Test.YticpnfgiidljlaaGreatLr
import Derived.Test.YticpnfgiidljlaaGreatFacts
namespace Go.Proofs.YticpnfgiidljlaaGreat
open Go.RowKit
set_option linter.unusedSimpArgs false
theorem holdsOut : Old.Holds2 84 := ⟨by kernel_rfl, by decide⟩
theorem copyCheck_spec {l g : Nat} {p v : AV} {σ : Sto} (hl : σ[l]? = some ⟨[p, v], g, false, .ty 84⟩) (hp : p = .sc (.pointer none) ∨ p = .mp l g 0) :
    Spec Tryz.prog 143 [.mp l g 0] σ fun r σ' => r = .tup [] ∧ σ' = σ.set l ⟨[.mp l g 0, v], g, false, .ty 84⟩ := by
  refine ⟨good143, fun w Im T vs hW hR => ?_⟩
  obtain ⟨u, hu, hr⟩ := hR.get (i := 0) (x := .mp l g 0) rfl
  obtain ⟨a, rfl⟩ : ∃ a, u = .pointer (some a) := by cases hr; exact ⟨_, rfl⟩
  obtain ⟨q, c, t, fz, hq, rfl, hc, hfz, hs, hrm, hrel⟩ := mp_cell hW hr hl rfl (by simp)
  obtain rfl := hfz rfl
  obtain ⟨hb0, c', fz', hc', hsz⟩ := (hW.full l _ q hl hq).2 84 (.inl rfl)
  replace hsz := hsz rfl
  rw [hc] at hc'
  cases hc'
  have hvs : vs = #[.pointer (some ⟨q.blk, q.base + 0, none⟩)] := by
    have h1 := hR.1
    simp at h1
    apply Array.ext'
    match hv : vs.toList, hu with
    | [x], hu => simp at hu; subst hu; simp
    | [], hu => simp at hu
    | _ :: _ :: _, _ => rw [← Array.length_toList, hv] at h1; simp at h1
  subst hvs
  rw [hb0] at hrel hr ⊢
  obtain ⟨x0, x1, rfl⟩ : ∃ x0 x1, c = #[x0, x1] := by
    have : c.toList.length = 2 := by simpa using hsz.symm
    match hcl : c.toList, this with
    | [x0, x1], _ => exact ⟨x0, x1, by apply Array.ext'; simpa using hcl⟩
  have r0 := hrel 0 p x0 rfl rfl
  have r1 := hrel 1 v x1 rfl rfl
  have hx0 : x0 = .pointer none ∨ x0 = .pointer (some ⟨q.blk, 0, none⟩) := by
    rcases hp with rfl | rfl
    · cases r0; exact .inl rfl
    · obtain ⟨a, rfl⟩ : ∃ a, x0 = .pointer (some a) := by cases r0; exact ⟨_, rfl⟩
      obtain ⟨q', _, _, _, hq', e, _⟩ := mp_cell hW r0 hl rfl (by simp)
      rw [hq] at hq'; cases hq'
      rw [e, hb0]
      exact .inr rfl
  refine (Old.copyCheck_calls holdsOut q.blk x0 x1 w hx0 hc).mono ?_
  rintro e w' ⟨rfl, h1, h2⟩
  have hgen : q.gen = g := hW.gen l _ q hl hq
  have key := hW.change (w' := w') (o' := ⟨[.mp l g 0, v], g, false, .ty 84⟩) (p' := q) hl hq rfl h2.os h2.tape h2.output h2.size (fun b hb hne => h2.block b hb hne (.inl hb)) (.inl rfl) (Nat.le_refl _) (fun _ => rfl) hgen.symm rfl hrm (fun h => by cases h) h1
    (by simpa [hb0] using hs) (by
      intro i x y hx hy
      rw [hb0] at hy
      match i, hx, hy with
      | 0, hx, hy =>
        simp at hx hy
        subst hx; subst hy
        exact .mp _ _ _ _ q hq (by omega) (fun _ => by rw [hb0])
      | 1, hx, hy =>
        simp at hx hy
        subst hx; subst hy
        exact r1) (fun t' ht => by rcases ht with ht | ht <;> cases ht; exact ⟨hb0, rfl, fun _ => rfl⟩)
  exact ⟨_, _, _, _, _, rfl, .tup #[] [] rfl (fun i x v hx _ => by simp at hx), key.1, key.2, rfl, rfl⟩
/-- Bytes as cells. -/
def bytesL (l : List UInt8) : List AV := l.map fun b => .sc (.int .u8 b.toNat)
@[simp] theorem bytesL_length (l : List UInt8) : (bytesL l).length = l.length := by simp [bytesL]
@[simp] theorem bytesL_append (a b : List UInt8) : bytesL (a ++ b) = bytesL a ++ bytesL b := by simp [bytesL]
@[simp] theorem bytesL_flat (l : List UInt8) : flatL (bytesL l) = true := by
  induction l with
  | nil => rfl
  | cons a l ih => simpa [bytesL, flatL, AV.flat] using ih
@[simp] theorem bytesL_one (l : List UInt8) : (bytesL l).all AV.one = true := by simp [bytesL, AV.one, Value.oneCell']
/-- A row of one's own, from its block's head on, whose block's element type is known. -/
def OwnT (e k : Nat) (σ : Sto) (v : AV) (n : Nat) (cs : List AV) : Prop :=
  (v = .sc (.slice none 0 0) ∧ n = 0 ∧ cs = []) ∨ ∃ i g c, v = .ms i g 0 n k ∧ σ[i]? = some ⟨c, g, false, .el e⟩ ∧ n * k ≤ c.length ∧ c.take (n * k) = cs
theorem app_ownT {P : Program} {σ : Sto} {t0 t1 e k by_ : Nat} {z : List AV} {v x : AV} {n m : Nat} {cs new : List AV} (he : elemOfT P t0 = some (e, k)) (hz : zeroA P e = some z) (hzk : z.length = k) (hb : bytesT P e = some by_) (hb1 : by_ ≤ 1000)
    (hv : OwnT e k σ v n cs) (hsrc : srcA P σ t1 x z k by_ = some (m, new)) (hn1 : new.all AV.one = true) (hn2 : new.length = m * k) (hn3 : n + m ≤ 100000000) :
    ∃ v' σ', appendA P true true σ t0 t1 v x = some (v', σ') ∧ OwnT e k σ' v' (n + m) (cs ++ new) ∧ Frame σ v σ' v' := by
  have hby : (n + m) * by_ ≤ 140737488355328 := Nat.le_trans (Nat.mul_le_mul hn3 hb1) (by omega)
  have hby' : m * by_ ≤ 140737488355328 := Nat.le_trans (Nat.mul_le_mul_right _ (by omega)) hby
  unfold appendA
  simp only [he, hz, hb, hsrc, hn1, hzk, and_self, if_true]
  rcases hv with ⟨rfl, rfl, rfl⟩ | ⟨i, g, c, rfl, h2, h3, h4⟩
  · by_cases hm : m = 0
    · subst hm
      have : new = [] := List.length_eq_zero_iff.1 (by simpa using hn2)
      subst this
      refine ⟨_, _, by simp, .inl ⟨rfl, rfl, rfl⟩, fun l o ho _ => ho, fun l hl => .inl hl, Nat.le_refl _⟩
    · refine ⟨_, _, by simp [hm, hby']; exact ⟨by omega, rfl, rfl⟩, ?_, ?_⟩
      · exact .inr ⟨σ.length, 0, new, by simp, by simp, by simp [hn2], by simp [List.take_of_length_le, hn2]⟩
      · refine ⟨fun l o ho _ => get_app ho, fun l hl => .inr ?_, by simp⟩
        have := isH_ms hl; omega
  · have hil := lt_of_get h2
    have hadd : (n + m) * k = n * k + m * k := Nat.add_mul _ _ _
    simp only [h2]
    rw [if_pos (by simp [h3, hby]; omega)]
    by_cases hin : 0 < k ∧ 0 + (n + m) * k ≤ c.length
    · rw [if_pos hin]
      refine ⟨_, _, rfl, .inr ⟨i, g, _, rfl, List.getElem?_set_self hil, ?_, ?_⟩, fun l o ho hl => ?_, fun l hl => .inl ⟨g, 0, n, k, by rw [isH_ms hl]⟩, by simp⟩
      · rw [wr_length _ _ _ (by omega)]; omega
      · rw [wr_eq _ _ _ (by omega), List.append_assoc, Nat.zero_add, h4, ← List.append_assoc]
        refine List.take_left' ?_
        rw [List.length_append, ← h4]; simp; omega
      · have hli : i ≠ l := fun e => hl ⟨g, 0, n, k, by rw [e]⟩
        rw [List.getElem?_set_ne hli]; exact ho
    · rw [if_neg hin, if_neg (by simp)]
      refine ⟨_, _, rfl, .inr ⟨i, g + 1, _, rfl, by rw [List.getElem?_set_self hil, regFl_el], ?_, ?_⟩, fun l o ho hl => ?_, fun l hl => .inl ⟨g, 0, n, k, by rw [isH_ms hl]⟩, by simp⟩
      · simp; omega
      · rw [List.drop_zero, h4]
        exact List.take_of_length_le (by rw [List.length_append, ← h4]; simp; omega)
      · have hli : i ≠ l := fun e => hl ⟨g, 0, n, k, by rw [e]⟩
        rw [List.getElem?_set_ne hli]; exact ho
section
variable {P : Program} {nt : Nat} {mu : List Nat} {ds : List (Option Nat)} {K : Env → Sto → Prop} {d : Nat} {t : TypeId} {pos : String} {after : Array Edge} {l : List Oper} {env : Env} {σ : Sto}
/-- append to a row whose block's element type is known. -/
theorem rwf_appT {s x : Operand} {t0 t1 e k by_ : Nat} {z : List AV} (hd : dOk nt (some d) = true) (hmu : (mu.contains d && mu.contains (d + 1000000)) = true) (he : elemOfT P t0 = some (e, k)) (hz : zeroA P e = some z) (hzk : z.length = k) (hb : bytesT P e = some by_) (hb1 : by_ ≤ 1000)
    (h : ∀ G : AV → AV → Prop, Hid (∀ v n cs x new m, OwnT e k σ v n cs → srcA P σ t1 x z k by_ = some (m, new) → new.all AV.one = true → new.length = m * k → n + m ≤ 100000000 → (∀ v' σ', OwnT e k σ' v' (n + m) (cs ++ new) → Frame σ v σ' v' → rwf P mu ds nt .a K l (env.put (some d) v') σ') → G v x) → G (evA env s) (evA env x)) :
    rwo P mu ds nt .a K ⟨some d, .call ⟨.builtin .append, #[s, x], #[t0, t1]⟩, t, pos, after, none⟩ l env σ := by
  have := h (fun v y => evA env s = v → evA env x = y → rwo P mu ds nt .a K ⟨some d, .call ⟨.builtin .append, #[s, x], #[t0, t1]⟩, t, pos, after, none⟩ l env σ) fun v n cs x new m q1 q2 q3 q4 q5 q6 e1 e2 => ?_
  · exact this rfl rfl
  · obtain ⟨v', σ', r1, r2, r3⟩ := app_ownT he hz hzk hb hb1 q1 q2 q3 q4 q5
    refine ⟨hd, .inl ⟨v', σ', ?_, q6 v' σ' r2 r3⟩⟩
    show appendA P (mu.contains d) (mu.contains (d + 1000000)) σ t0 t1 (evA env s) (evA env _) = some (v', σ')
    rw [Bool.and_eq_true] at hmu
    rw [hmu.1, hmu.2, e1, e2]; exact r1
end
theorem OwnT.keep {e k : Nat} {σ σ' : Sto} {v : AV} {n : Nat} {cs : List AV} (h : OwnT e k σ v n cs) (hk : ∀ i o, isH i v → σ[i]? = some o → σ'[i]? = some o) : OwnT e k σ' v n cs := by
  rcases h with h | ⟨i, g, c, rfl, q1, q2⟩
  · exact .inl h
  · exact .inr ⟨i, g, c, rfl, hk i _ ⟨_, _, _, _, rfl⟩ q1, q2⟩
/-- Object l is a pen.Out that holds bs. -/
def OutAt (l : Nat) (bs : List UInt8) (σ : Sto) : Prop := ∃ p v, (p = .sc (.pointer none) ∨ p = .mp l 0 0) ∧ σ[l]? = some ⟨[p, v], 0, false, .ty 84⟩ ∧ OwnT 5 1 σ v bs.length (bytesL bs) ∧ ¬ isH l v
theorem OutAt.checked {l : Nat} {bs : List UInt8} {σ : Sto} (h : OutAt l bs σ) : ∃ v S, Spec Tryz.prog 143 [.mp l 0 0] σ (fun r σ' => r = .tup [] ∧ σ' = S) ∧ S[l]? = some ⟨[.mp l 0 0, v], 0, false, .ty 84⟩ ∧ OwnT 5 1 S v bs.length (bytesL bs) ∧ ¬ isH l v := by
  obtain ⟨p, v, hp, hl, o1, hne⟩ := h
  refine ⟨v, _, copyCheck_spec hl hp, List.getElem?_set_self (lt_of_get hl), o1.keep fun i o hi ho => ?_, hne⟩
  rw [List.getElem?_set_ne (fun e => hne (by rw [e]; exact hi))]; exact ho
theorem OutAt.wrote {l : Nat} {bs : List UInt8} {S1 : Sto} {v v1 : AV} (hl : S1[l]? = some ⟨[.mp l 0 0, v], 0, false, .ty 84⟩) (o : OwnT 5 1 S1 v1 bs.length (bytesL bs)) (hne : ¬ isH l v1) : OutAt l bs (S1.set l ⟨[.mp l 0 0, v1], 0, false, .ty 84⟩) :=
  ⟨_, _, .inr rfl, List.getElem?_set_self (lt_of_get hl), o.keep fun i o hi ho => by rw [List.getElem?_set_ne (fun e => hne (by rw [e]; exact hi))]; exact ho, hne⟩
theorem writeByte_spec {l : Nat} {bs : List UInt8} {σ : Sto} (b : UInt8) (h : OutAt l bs σ) (hn : bs.length < 10000000) :
    Spec Tryz.prog 127 [.mp l 0 0, .sc (.int .u8 b.toNat)] σ fun r σ' => r = .sc .nilIface ∧ OutAt l (bs ++ [b]) σ' := by
  obtain ⟨v, S, hc, hl2, o2, hne⟩ := h.checked
  clear h
  refine spec_intro Tryz.func127 good127 rfl (by simp [Tryz.ntmps127]) ?_
  refine go1 [14] [] (cns Tryz.results127 trivial) ?_
  refine rwf_ca rfl fun C' hC hP => ?_
  clear hP
  (try simp [*, -List.all_eq_true]); (try (simp (disch := first | assumption | omega) only [wrap_id, wrapu_id, wrapb_id, tmod_nn, tdiv_nn, ite_yes, flatM_seg, flatM_0, flatM_1, flatM_2, flatI_seg, flatI_0, flatI_1, flatS_get]; (try simp [*, -List.all_eq_true])))
  refine hC.out _ _ _ (hc) fun r S0 hq => ?_
  clear hC C'
  obtain ⟨rfl, rfl⟩ := hq
  refine go1 [14,1000014] [] (cns Tryz.results127 trivial) ?_
  refine rwf_appT rfl rfl elem80 zero5 rfl bytes5 (by decide) fun G hG => ?_
  (try simp [*, -List.all_eq_true])
  refine hG.out _ _ _ _ (bytesL [b]) 1 o2 (by simp [srcA, slcCells, bytesL]) (by simp [bytesL, AV.one, Value.oneCell']) (by simp) (by omega) fun v1 S1 q1 q2 => ?_
  clear hG G
  have hl3 := q2.1 l _ hl2 hne
  have hll := lt_of_get hl2
  have hne1 : ¬ isH l v1 := fun h => by
    rcases q2.2.1 l h with h1 | h1
    · exact hne h1
    · omega
  clear o2 q2 hll
  have hO := OutAt.wrote (bs := bs ++ [b]) hl3 (by simpa using q1) hne1
  replace hO := Lib.hid hO
  rcases q1 with ⟨rfl, _⟩ | ⟨i, g, c, rfl, _⟩
  all_goals
    refine go1 [14,1000014] [] (cns Tryz.results127 trivial) ?_
    exact ⟨rfl, hO.out⟩
theorem bytesA_is (s : Str) : bytesA s = bytesL s.data.toList := rfl
theorem writeString_spec {l : Nat} {bs : List UInt8} {σ : Sto} (s : Str) (h : OutAt l bs σ) (hn : bs.length + s.size < 10000000) :
    Spec Tryz.prog 130 [.mp l 0 0, .sc (.string s)] σ fun r σ' => r = .tup [.sc (.int .i64 s.size), .sc .nilIface] ∧ OutAt l (bs ++ s.data.toList) σ' := by
  obtain ⟨v, S, hc, hl2, o2, hne⟩ := h.checked
  clear h
  refine spec_intro Tryz.func130 good130 rfl (by simp [Tryz.ntmps130]) ?_
  refine go1 [14] [] (cns Tryz.results130 trivial) ?_
  refine rwf_ca rfl fun C' hC hP => ?_
  clear hP
  (try simp [*, -List.all_eq_true]); (try (simp (disch := first | assumption | omega) only [wrap_id, wrapu_id, wrapb_id, tmod_nn, tdiv_nn, ite_yes, flatM_seg, flatM_0, flatM_1, flatM_2, flatI_seg, flatI_0, flatI_1, flatS_get]; (try simp [*, -List.all_eq_true])))
  refine hC.out _ _ _ (hc) fun r S0 hq => ?_
  clear hC C'
  obtain ⟨rfl, rfl⟩ := hq
  refine go1 [14,1000014] [] (cns Tryz.results130 trivial) ?_
  refine rwf_appT rfl rfl elem80 zero5 rfl bytes5 (by decide) fun G hG => ?_
  (try simp [*, -List.all_eq_true])
  refine hG.out _ _ _ _ (bytesA s) s.size o2 (by simp [srcA, slcCells]) (by rw [bytesA_is]; exact bytesL_one _) (by simp [bytesA]) (by omega) fun v1 S1 q1 q2 => ?_
  clear hG G
  have hl3 := q2.1 l _ hl2 hne
  have hll := lt_of_get hl2
  have hne1 : ¬ isH l v1 := fun h => by
    rcases q2.2.1 l h with h1 | h1
    · exact hne h1
    · omega
  clear o2 q2 hll
  have hO := OutAt.wrote (bs := bs ++ s.data.toList) hl3 (by rw [bytesA_is] at q1; simpa using q1) hne1
  replace hO := Lib.hid hO
  rcases q1 with ⟨rfl, _⟩ | ⟨i, g, c, rfl, _⟩
  all_goals
    refine go1 [14,1000014] [] (cns Tryz.results130 trivial) ?_
    exact ⟨by simp, hO.out⟩
/-- String, over worlds: the buffer's block is marked, no cell turns. -/
theorem bString_at {T : TypeId} (b g cap : Nat) (l : List UInt8) (w : World) (p : Value) (cur : Array Value) (hbk : w.heap[b]? = some (.cells #[p, .slice (some ⟨g, 0, none⟩) l.length cap] T (0, 0))) (hg : w.heap[g]? = some (.cells cur 5 (0, 0)))
    (hc : ∀ (j : Nat) (x : UInt8), l[j]? = some x → cur[j]? = some (Value.int .u8 x.toNat)) (h0 : l ≠ []) (hn : l.length < 10000000) (hlc : l.length ≤ cap) :
    Calls Tryz.prog 94 #[.pointer (some ⟨b, 0, none⟩)] w fun e w' => e = .returned (.string ⟨l.toArray⟩) ∧ w'.os = w.os ∧ w'.tape = w.tape ∧ w'.output = w.output ∧ w'.heap.size = w.heap.size ∧ (∀ k, k ≠ g → w'.heap[k]? = w.heap[k]?) ∧ ∃ fz, w'.heap[g]? = some (.cells cur 5 fz) := by
  have hl0 : l.length ≠ 0 := by simpa using h0
  have hls : l.length ≤ cur.size := by
    rcases Nat.lt_or_ge cur.size l.length with h | h
    · have := hc cur.size _ (List.getElem?_eq_getElem h)
      simp at this
    · exact h
  have c1 : w.drew.cell? ⟨b, 1, none⟩ = some (.slice (some ⟨g, 0, none⟩) l.length cap) := by
    have : w.drew.heap[b]? = some (.cells #[p, .slice (some ⟨g, 0, none⟩) l.length cap] T (0, 0)) := hbk
    rw [Lib.cell_of_heap this]; rfl
  have hSD : (Builtin.unsafeSliceData_ #[80] 181 #[.slice (some ⟨g, 0, none⟩) l.length cap]).run Tryz.prog w.drew = .ok (.pointer (some ⟨g, 0, none⟩)) w.drew :=
    Lib.run_unsafeSliceData_row _ _ _ _ _ _ (by omega)
  have hUS : (Builtin.unsafeString_ #[181, 3] 9 #[.pointer (some ⟨g, 0, none⟩), .int .i64 l.length]).run Tryz.prog w.drew = .ok (.string ⟨l.toArray⟩) (w.drew.freeze ⟨g, 0, none⟩ l.length) := by
    refine Lib.run_unsafeString_row w.drew 181 3 9 5 Tryz.underlying181 (by kernel_rfl) g cur.size (by have hg' : w.drew.heap[g]? = some (.cells cur 5 (0, 0)) := hg; simp [World.shape?, hg']) l h0 (by omega) (by omega) ?_
    intro j x hx
    have hg' : w.drew.heap[g]? = some (.cells cur 5 (0, 0)) := hg
    have := hc j x hx
    rw [Addr.add_lit]
    simp [World.cell?, hg', this]
  clear hbk
  go_enter Tryz.func94, Tryz.ntmps94
  go_wp2
  go_region
  all_goals (go_wp2; go_ret; refine ⟨rfl, ?_, ?_, ?_, ?_, ?_, ?_⟩)
  all_goals (try unfold World.freeze)
  all_goals (try rw [if_neg hl0])
  all_goals first
    | rfl
    | (simp; done)
    | (intro k hk
       simp only [Array.getElem?_modify]
       rw [if_neg (fun e => hk e.symm)]
       rfl)
    | (refine ⟨(0, 0 + l.length), ?_⟩
       have hg' : w.drew.heap[g]? = some (.cells cur 5 (0, 0)) := hg
       simp [Array.getElem?_modify, hg'])
theorem Rel.cellwise {w w' : World} {Im : Nat → Prop} {T : Tab} {v : Value} {x : AV} (h : Rel w Im T v x) (hw : ∀ b o, w'.cell? ⟨b, o, none⟩ = w.cell? ⟨b, o, none⟩) : Rel w' Im T v x := by
  induction h with
  | top v => exact .top v
  | sc v => exact .sc v
  | fp b o off cs vs h1 h2 ih => exact .fp b o off cs vs (fun i c hc => ⟨(h1 i c hc).1, by rw [hw]; exact (h1 i c hc).2⟩) ih
  | fs b o len cap cs vs hl h1 h2 ih => exact .fs b o len cap cs vs hl (fun i c hc => ⟨(h1 i c hc).1, by rw [hw]; exact (h1 i c hc).2⟩) ih
  | fn0 => exact .fn0
  | fs0 a cap => exact .fs0 a cap
  | mp a l g off p hp hg h => exact .mp a l g off p hp hg h
  | ms a l g off len k cap p hp hg hl hs h => exact .ms a l g off len k cap p hp hg hl hs h
  | iface t v x h ih => exact .iface t v x ih
  | fn f A B xs ys hA hB h1 h2 ih1 ih2 => exact .fn f A B xs ys hA hB ih1 ih2
  | agg A xs hA h1 ih => exact .agg A xs hA ih
  | tup A xs hA h1 ih => exact .tup A xs hA ih
  | mm b l p hp h => exact .mm b l p hp h
/-- A block that nobody writes is marked. -/
theorem WRel.marked {w w' : World} {Im : Nat → Prop} {σ : Sto} {T : Tab} (h : WRel w Im σ T) {g : Nat} {c : Array Value} {t : TypeId} {fz fz' : Nat × Nat} (hs : w'.heap.size = w.heap.size) (hk : ∀ k, k ≠ g → w'.heap[k]? = w.heap[k]?)
    (hg : w.heap[g]? = some (.cells c t fz)) (hg' : w'.heap[g]? = some (.cells c t fz')) (hm : ¬ Mut σ T g) : WRel w' Im σ T := by
  have hcell : ∀ b o, w'.cell? ⟨b, o, none⟩ = w.cell? ⟨b, o, none⟩ := fun b o => by
    by_cases e : b = g
    · subst e; simp [World.cell?, hg, hg']
    · exact cell_of_block (hk b e)
  exact {
    len := h.len
    gen := h.gen
    im := fun b hb => by rw [hs]; exact h.im b hb
    room := h.room
    obj := fun l o p ho hp => by
      have hk' := h.obj l o p ho hp
      refine ⟨fun hn => ?_, fun s hs => ⟨(hk'.sp s hs).1, (hk'.sp s hs).2.1, ?_⟩⟩
      · obtain ⟨c1, t1, fz1, h1, h2, h3, h4⟩ := hk'.cells hn
        by_cases e : p.blk = g
        · rw [e, hg] at h1
          cases h1
          exact ⟨c, t, fz', by rw [e]; exact hg', fun hf => absurd ⟨l, o, p, ho, hp, hf, e⟩ hm, h3, fun i x v hx hv => (h4 i x v hx hv).cellwise hcell⟩
        · exact ⟨c1, t1, fz1, by rw [hk _ e]; exact h1, h2, h3, fun i x v hx hv => (h4 i x v hx hv).cellwise hcell⟩
      · have q := (hk'.sp s hs).2.2
        cases s with
        | map k es clock =>
          obtain ⟨A, h1, h2, h3⟩ := q
          have e : p.blk ≠ g := fun e => by rw [e, hg] at h1; cases h1
          exact ⟨A, by rw [hk _ e]; exact h1, h2, fun i e x he hx => ⟨(h3 i e x he hx).1, (h3 i e x he hx).2.1.cellwise hcell, (h3 i e x he hx).2.2⟩⟩
        | iter m since seen last =>
          obtain ⟨bm, h1, h2⟩ := q
          have e : p.blk ≠ g := fun e => by rw [e, hg] at h1; cases h1
          refine ⟨bm, by rw [hk _ e]; exact h1, ?_⟩
          rcases h2 with h2 | ⟨l, c, q1, q2, q3⟩
          · exact .inl h2
          · exact .inr ⟨l, c, q1, q2, q3.cellwise hcell⟩
    sep := h.sep
    fix := h.fix
    inj := h.inj
    full := fun l o p ho hp => by
      obtain ⟨f1, f2⟩ := h.full l o p ho hp
      refine ⟨f1, fun q hq => ?_⟩
      obtain ⟨e1, c1, fz1, e2, e3⟩ := f2 q hq
      by_cases e : p.blk = g
      · rw [e, hg] at e2
        cases e2
        exact ⟨e1, c, fz', by rw [e]; exact hg', e3⟩
      · exact ⟨e1, c1, fz1, by rw [hk _ e]; exact e2, e3⟩ }
theorem bString_spec {l : Nat} {bs : List UInt8} {σ : Sto} (h : OutAt l bs σ) (h0 : bs ≠ []) (hn : bs.length < 10000000) :
    Spec Tryz.prog 94 [.mp l 0 0] σ fun r σ' => r = .sc (.string ⟨bs.toArray⟩) := by
  obtain ⟨p, v, hp, hl, o1, hne⟩ := h
  rcases o1 with ⟨_, q, _⟩ | ⟨i, g, cc, rfl, hi, hic, hit⟩
  · exact absurd (List.length_eq_zero_iff.1 q) h0
  refine ⟨good94, fun w Im T vs hW hR => ?_⟩
  obtain ⟨u, hu, hr⟩ := hR.get (i := 0) (x := .mp l 0 0) rfl
  obtain ⟨a, rfl⟩ : ∃ a, u = .pointer (some a) := by cases hr; exact ⟨_, rfl⟩
  obtain ⟨q, c, t, fz, hq, rfl, hc, hfz, hs, hrm, hrel⟩ := mp_cell hW hr hl rfl (by simp)
  obtain rfl := hfz rfl
  obtain ⟨hb0, c', fz', hc', hsz⟩ := (hW.full l _ q hl hq).2 84 (.inl rfl)
  replace hsz := hsz rfl
  rw [hc] at hc'
  cases hc'
  have hvs : vs = #[.pointer (some ⟨q.blk, q.base + 0, none⟩)] := by
    have h1 := hR.1
    simp at h1
    apply Array.ext'
    match hv : vs.toList, hu with
    | [x], hu => simp at hu; subst hu; simp
    | [], hu => simp at hu
    | _ :: _ :: _, _ => rw [← Array.length_toList, hv] at h1; simp at h1
  subst hvs
  rw [hb0] at hrel hr ⊢
  obtain ⟨x0, x1, rfl⟩ : ∃ x0 x1, c = #[x0, x1] := by
    have : c.toList.length = 2 := by simpa using hsz.symm
    match hcl : c.toList, this with
    | [x0, x1], _ => exact ⟨x0, x1, by apply Array.ext'; simpa using hcl⟩
  have r1 := hrel 1 _ x1 rfl rfl
  cases r1 with
  | ms ad _ _ _ _ _ cap pi hpi hgi hlc hsp hpl =>
    have hgen : pi.gen = g := hW.gen i _ pi hi hpi
    obtain ⟨rfl, hcap⟩ := hpl hgen.symm
    obtain ⟨b1, ci, fzi, hci, _⟩ := (hW.full i _ pi hi hpi).2 5 (.inr rfl)
    obtain ⟨ci', ti, fzi', hci', hfi, hsi, hreli⟩ := (hW.obj i _ pi hi hpi).cells rfl
    rw [hci] at hci'
    cases hci'
    obtain rfl := hfi rfl
    have hrmi := hW.room i _ pi hi hpi
    rw [b1] at hc hreli hsi
    refine (bString_at q.blk pi.blk cap bs w x0 ci hc hci (fun j x hx => ?_) h0 hn hlc).mono ?_
    · have hj := lt_of_get hx
      have hcj : cc[j]? = some (.sc (.int .u8 x.toNat)) := by
        have : (cc.take (bs.length * 1))[j]? = (bytesL bs)[j]? := by rw [hit]
        rw [List.getElem?_take_of_lt (by omega)] at this
        rw [this]
        simp [bytesL, hx]
      have hjs : j < ci.size := by
        have := lt_of_get hcj
        simp at hrmi
        omega
      have := hreli j _ ci[j] hcj (by simp)
      generalize hcv : ci[j] = cv at this
      cases this
      rw [Array.getElem?_eq_getElem hjs, hcv]
    rintro e w' ⟨rfl, h1, h2, h3, h4, h5, fz2, h6⟩
    obtain ⟨Im', hW1, hF1, _⟩ := hW.freeze i
    have hm : ¬ Mut (σ.freeze i) T pi.blk := by
      rintro ⟨l', o', p', ho', hp', hf', hb'⟩
      have hl' : l' ≠ i := by
        rintro rfl
        rw [freeze_get, hi] at ho'
        simp at ho'
        rw [← ho'] at hf'
        cases hf'
      rw [freeze_get] at ho'
      obtain ⟨o2, ho2, e⟩ := Option.map_eq_some_iff.1 ho'
      rw [if_neg (fun e => hl' e.symm)] at e
      subst e
      exact hW.inj l' i o2 _ p' pi ho2 hp' hi hpi hl' hf' rfl hb'
    refine ⟨_, _, σ.freeze i, Im', T, rfl, .sc _, hW1.marked h4 h5 hci h6 hm, ⟨h1, h2, h3, by omega, fun b hb hnm => h5 b (fun e => hnm ⟨i, _, pi, hi, hpi, rfl, e.symm⟩), hF1.muts, hF1.im1, hF1.im2, hF1.tab⟩, rfl⟩
end Go.Proofs.YticpnfgiidljlaaGreat
