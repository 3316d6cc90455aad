/- Rows of one's own that grow by append. No program. -/
import Derived.Test.YtemijcjgdgdhjaaLogR
namespace Go.Proofs.Ytemijcjgdgdhjaa
open Go.RowKit

def isH (l : Nat) (v : AV) : Prop := ∃ g off n k, v = .ms l g off n k
/-- A row of one's own: nil, or an object's. -/
def Own (k : Nat) (σ : Sto) (v : AV) (n : Nat) (cs : List AV) : Prop :=
  (v = .sc (.slice none 0 0) ∧ n = 0 ∧ cs = []) ∨ ∃ i g off c, v = .ms i g off n k ∧ σ[i]? = some ⟨c, g, false, false⟩ ∧ off + n * k ≤ c.length ∧ (c.drop off).take (n * k) = cs
/-- What is not v's stays, and what is new is nobody's. -/
def Frame (σ : Sto) (v : AV) (σ' : Sto) (v' : AV) : Prop :=
  (∀ l o, σ[l]? = some o → ¬ isH l v → σ'[l]? = some o) ∧ (∀ l, isH l v' → isH l v ∨ σ.length ≤ l) ∧ σ.length ≤ σ'.length
theorem Own.lt {k : Nat} {σ : Sto} {v : AV} {n : Nat} {cs : List AV} (h : Own k σ v n cs) {l : Nat} (hl : isH l v) : l < σ.length := by
  obtain ⟨g, off, n', k', rfl⟩ := hl
  rcases h with ⟨h, _⟩ | ⟨i, g', off', c, e, h1, _⟩
  · cases h
  · cases e; exact lt_of_get h1
theorem Own.frame {k : Nat} {σ σ' : Sto} {u v v' : AV} {n : Nat} {cs : List AV} (h : Own k σ u n cs) (hd : ∀ l, isH l u → ¬ isH l v) (hF : Frame σ v σ' v') : Own k σ' u n cs ∧ ∀ l, isH l u → ¬ isH l v' := by
  refine ⟨?_, fun l hl hl' => ?_⟩
  · rcases h with h | ⟨i, g, off, c, rfl, h1, h2⟩
    · exact .inl h
    · exact .inr ⟨i, g, off, c, rfl, hF.1 i _ h1 (hd i ⟨g, off, n, k, rfl⟩), h2⟩
  · rcases hF.2.1 l hl' with h2 | h2
    · exact hd l hl h2
    · have := h.lt hl; omega
theorem isH_nil (l : Nat) : ¬ isH l (.sc (.slice none 0 0)) := by rintro ⟨g, off, n, k, h⟩; cases h
theorem isH_ms {l i g off n k : Nat} (h : isH l (.ms i g off n k)) : l = i := by obtain ⟨g', off', n', k', e⟩ := h; cases e; rfl
theorem app_own {P : Program} {σ : Sto} {t0 t1 e k by_ : Nat} {z : List AV} {v : AV} {n m : Nat} {cs new : List AV} (he : elemOfT P t0 = some (e, k)) (hz : zeroA P e = some z) (hzk : z.length = k) (hb : bytesT P e = some by_) (hb1 : by_ ≤ 1000)
    (h1 : notIntT P t1 = true) (hv : Own k σ v n cs) (hn1 : new.all AV.one = true) (hn2 : new.length = m * k) (hn3 : n + m ≤ 100000000) :
    ∃ v' σ', appendA P true σ t0 t1 v (.fs new m) = some (v', σ') ∧ Own k σ' v' (n + m) (cs ++ new) ∧ Frame σ v σ' v' := by
  have hby : (n + m) * by_ ≤ 140737488355328 := Nat.le_trans (Nat.mul_le_mul hn3 hb1) (by omega)
  have hby' : m * by_ ≤ 140737488355328 := Nat.le_trans (Nat.mul_le_mul_right _ (by omega)) hby
  have hsrc : srcA P σ t1 (.fs new m) z k by_ = some (m, new) := by simp [srcA, h1, slcCells, hn2]
  unfold appendA
  simp only [he, hz, hb, hsrc, hn1, hzk, and_self, if_true]
  rcases hv with ⟨rfl, rfl, rfl⟩ | ⟨i, g, off, c, rfl, h2, h3, h4⟩
  · by_cases hm : m = 0
    · subst hm
      have : new = [] := List.length_eq_zero_iff.1 (by simpa using hn2)
      subst this
      refine ⟨_, _, by simp, .inl ⟨rfl, rfl, rfl⟩, fun l o ho _ => ho, fun l hl => .inl hl, Nat.le_refl _⟩
    · refine ⟨_, _, by simp [hm, hby']; exact ⟨by omega, rfl, rfl⟩, ?_, ?_⟩
      · exact .inr ⟨σ.length, 0, 0, new, by simp, by simp, by simp [hn2], by simp [List.take_of_length_le, hn2]⟩
      · refine ⟨fun l o ho _ => get_app ho, fun l hl => .inr ?_, by simp⟩
        have := isH_ms hl; omega
  · have hil := lt_of_get h2
    have hadd : (n + m) * k = n * k + m * k := Nat.add_mul _ _ _
    simp only [h2]
    rw [if_pos (by simp [h3, hby]; omega)]
    by_cases hin : 0 < k ∧ off + (n + m) * k ≤ c.length
    · rw [if_pos hin]
      refine ⟨_, _, rfl, .inr ⟨i, g, off, _, rfl, List.getElem?_set_self hil, ?_, ?_⟩, fun l o ho hl => ?_, fun l hl => .inl ⟨g, off, n, k, by rw [isH_ms hl]⟩, by simp⟩
      · rw [wr_length _ _ _ (by omega)]; exact hin.2
      · rw [wr_eq _ _ _ (by omega), List.append_assoc, List.drop_append_of_le_length (by simp; omega), List.drop_take, show off + n * k - off = n * k by omega, h4, ← List.append_assoc]
        refine List.take_left' ?_
        rw [List.length_append, ← h4]; simp; omega
      · have hli : i ≠ l := fun e => hl ⟨g, off, n, k, by rw [e]⟩
        rw [List.getElem?_set_ne hli]; exact ho
    · rw [if_neg hin, if_neg (by simp)]
      refine ⟨_, _, rfl, .inr ⟨i, g + 1, 0, _, rfl, List.getElem?_set_self hil, ?_, ?_⟩, fun l o ho hl => ?_, fun l hl => .inl ⟨g, off, n, k, by rw [isH_ms hl]⟩, by simp⟩
      · simp; omega
      · rw [List.drop_zero, h4]
        exact List.take_of_length_le (by rw [List.length_append, ← h4]; simp; omega)
      · have hli : i ≠ l := fun e => hl ⟨g, off, n, k, by rw [e]⟩
        rw [List.getElem?_set_ne hli]; exact ho
theorem frz_flat1 {σ : Sto} {ls : List Nat} {x : AV} (h : x.flat = true) (n : Nat) : frz σ ls n x = some x := by cases n <;> simp [frz, h]
theorem frz_own {k : Nat} {σ : Sto} {v : AV} {n : Nat} {cs : List AV} (h : Own k σ v n cs) (hf : flatL cs = true) (f : Nat) : ∃ u, frz σ (List.range σ.length) (f + 2) v = some u ∧ Wk u (.fs cs n) := by
  rcases h with ⟨rfl, rfl, rfl⟩ | ⟨i, g, off, c, rfl, h1, h2, h3⟩
  · exact ⟨_, frz_flat1 rfl _, .nil⟩
  · refine ⟨.fs cs n, ?_, .refl _⟩
    have hi : (List.range σ.length).contains i = true := by simpa using lt_of_get h1
    generalize List.range σ.length = ls at hi ⊢
    simp [frz, frzL, AV.flat, h1, List.contains_iff_mem.1 hi, h2, h3, hf]
theorem out_own {k : Nat} {σ : Sto} {v : AV} {n : Nat} {cs : List AV} (h : Own k σ v n cs) (hf : flatL cs = true) : ∃ m u, frz σ (List.range σ.length) m v = some u ∧ Wk u (.fs cs n) := ⟨2, frz_own h hf 0⟩
theorem frzL_2 {σ : Sto} {ls : List Nat} {a b u v : AV} (n : Nat) (ha : frz σ ls (n + 1) a = some u) (hb : frz σ ls n b = some v) : frzL σ ls (n + 2) [a, b] = some [u, v] ∨ frzL σ ls (n + 2) [a, b] = some [a, b] ∧ u = a ∧ v = b := by
  by_cases h : flatL [a, b] = true
  · right
    simp [flatL] at h
    rw [frz_flat1 h.1] at ha
    rw [frz_flat1 h.2] at hb
    cases ha; cases hb
    exact ⟨by simp [frzL, flatL, h], rfl, rfl⟩
  · left
    rw [frzL, if_neg h]
    simp only [ha]
    by_cases h2 : flatL [b] = true
    · simp [flatL] at h2
      rw [frz_flat1 h2] at hb; cases hb
      simp [frzL, flatL, h2]
    · rw [frzL, if_neg h2]
      simp only [hb]
      cases n <;> simp [frzL, flatL]
theorem out_own2 {k k' : Nat} {σ : Sto} {v v' : AV} {n n' : Nat} {cs cs' : List AV} (h : Own k σ v n cs) (hf : flatL cs = true) (h' : Own k' σ v' n' cs') (hf' : flatL cs' = true) : ∃ m u, frz σ (List.range σ.length) m (.tup [v, v']) = some u ∧ Wk u (.tup [.fs cs n, .fs cs' n']) := by
  obtain ⟨u, hu, wu⟩ := frz_own h hf 1
  obtain ⟨u', hu', wu'⟩ := frz_own h' hf' 0
  have hw : Wk (.tup [u, u']) (.tup [.fs cs n, .fs cs' n']) := .tupL (.cons wu (.cons wu' .nil))
  refine ⟨5, .tup [u, u'], ?_, hw⟩
  rw [frz]
  split
  · rename_i hfl
    simp [AV.flat, flatL] at hfl
    rw [frz_flat1 hfl.1] at hu
    rw [frz_flat1 hfl.2] at hu'
    cases hu; cases hu'; rfl
  · show (frzL σ (List.range σ.length) 4 [v, v']).map AV.tup = _
    rcases frzL_2 2 hu hu' with e | ⟨e, rfl, rfl⟩ <;> (rw [e]; rfl)
section
variable {P : Program} {nt : Nat} {mu : List Nat} {ds : List (Option Nat)} {K : Env → Sto → Prop} {d : Nat} {t : TypeId} {pos : String} {after : Array Edge} {l : List Oper} {env : Env} {σ : Sto}
/-- append, to a row of one's own. -/
theorem rwf_app {s x : Operand} {t0 t1 e k by_ : Nat} {z : List AV} (hd : dOk nt (some d) = true) (hmu : mu.contains d = true) (he : elemOfT P t0 = some (e, k)) (hz : zeroA P e = some z) (hzk : z.length = k) (hb : bytesT P e = some by_) (hb1 : by_ ≤ 1000) (h1 : notIntT P t1 = true)
    (h : ∀ G : AV → AV → Prop, Hid (∀ v n cs new m, Own k σ v n cs → new.all AV.one = true → new.length = m * k → n + m ≤ 100000000 → (∀ v' σ', Own k σ' v' (n + m) (cs ++ new) → Frame σ v σ' v' → rwf P mu ds nt .a K l (env.put (some d) v') σ') → G v (.fs new m)) → G (evA env s) (evA env x)) :
    rwo P mu ds nt .a K ⟨some d, .call ⟨.builtin .append, #[s, x], #[t0, t1]⟩, t, pos, after, none⟩ l env σ := by
  have := h (fun v y => evA env s = v → evA env x = y → rwo P mu ds nt .a K ⟨some d, .call ⟨.builtin .append, #[s, x], #[t0, t1]⟩, t, pos, after, none⟩ l env σ) fun v n cs new m q1 q2 q3 q4 q5 e1 e2 => ?_
  · exact this rfl rfl
  · obtain ⟨v', σ', r1, r2, r3⟩ := app_own he hz hzk hb hb1 h1 q1 q2 q3 q4
    refine ⟨hd, .inl ⟨v', σ', ?_, q5 v' σ' r2 r3⟩⟩
    show appendA P (mu.contains d) σ t0 t1 (evA env s) (evA env x) = some (v', σ')
    rw [hmu, e1, e2]; exact r1
end
end Go.Proofs.Ytemijcjgdgdhjaa
