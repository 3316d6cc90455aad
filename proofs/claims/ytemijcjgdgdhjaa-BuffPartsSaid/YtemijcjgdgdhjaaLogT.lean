/- Loops that count. No program. -/
import Derived.Test.YtemijcjgdgdhjaaLogS
namespace Go.Proofs.Ytemijcjgdgdhjaa
open Go.RowKit

theorem Own.append {k : Nat} {σ : Sto} {v : AV} {n : Nat} {cs : List AV} (h : Own k σ v n cs) (X : Sto) : Own k (σ ++ X) v n cs := by
  rcases h with h | ⟨i, g, off, c, h1, h2, h3, h4⟩
  · exact .inl h
  · exact .inr ⟨i, g, off, c, h1, get_app h2, h3, h4⟩
theorem Own.new (k : Nat) (σ : Sto) : Own k (σ ++ [⟨[], 0, false, false⟩]) (.ms σ.length 0 0 0 k) 0 [] := .inr ⟨σ.length, 0, 0, [], rfl, by simp, by simp, by simp⟩
theorem Own.nil (k : Nat) (σ : Sto) : Own k σ (.sc (.slice none 0 0)) 0 [] := .inl ⟨rfl, rfl, rfl⟩
section
variable {P : Program} {nt : Nat} {Q : Exit → Env → Sto → Prop} {env : Env} {σ : Sto}
@[simp] theorem wr_zeros (z : List AV) (n : Nat) (ys : List AV) (h : (ys.length == n) = true) : wr (zerosA z n) 0 ys = ys := by
  simp at h
  rw [wr_eq _ _ _ (by simp; omega)]
  simp [List.drop_eq_nil_of_le, h]
@[simp high] theorem sto_set_get (σ : Sto) (q : Nat) (x : MO) : (List.set σ q x)[q]? = (σ[q]?).map fun _ => x := by
  cases h : σ[q]? with
  | none => simp at h; simp [h]
  | some o => simp [lt_of_get h]
/-- A slot may be told less. -/
theorem tri_wk {c : Code} (t : Nat) {x : AV} (hw : Wk (env t) x) (h : Tri P nt c (env.put (some t) x) σ Q) : Tri P nt c env σ Q := by
  intro w0 Im0 σ0 T0 a w hs
  refine h w0 Im0 σ0 T0 a w ?_
  obtain ⟨Im, T, hW, hE, h1⟩ := hs
  refine ⟨Im, T, hW, fun t' => ?_, h1⟩
  simp only [put_some]
  split
  · rename_i e; subst e; exact Rel.wk hw (hE _)
  · exact hE t'
/-- A loop of N rounds at most: behind round k holds I k. -/
theorem tri_for {c : Code} (keep : List Nat) (N : Nat) (I : Nat → Env → Sto → Prop) (h0 : I 0 env σ)
    (step : ∀ (k : Nat) (env' : Env) (σ' : Sto), k < N → (∀ t ∈ keep, env' t = env t) → I k env' σ' → Tri P nt c env' σ' (thenA (fun e s => (∀ t ∈ keep, e t = env t) ∧ I (k + 1) e s) Q))
    (last : ∀ (env' : Env) (σ' : Sto), (∀ t ∈ keep, env' t = env t) → I N env' σ' → Tri P nt c env' σ' (thenA (fun _ _ => False) Q)) : Tri P nt (.loop c) env σ Q := by
  refine tri_loopk keep (fun m e s => ∃ k, k + m = N ∧ I k e s) N ⟨0, by omega, h0⟩ ?_
  rintro m e s hk ⟨k, hkm, hI⟩
  rcases Nat.lt_or_ge k N with h | h
  · refine tri_mono (step k e s h hk hI) fun x e' s' hq => ?_
    cases x with
    | normal => exact ⟨hq.1, m - 1, by omega, k + 1, by omega, hq.2⟩
    | _ => exact hq
  · obtain rfl : k = N := by omega
    refine tri_mono (last e s hk hI) fun x e' s' hq => ?_
    cases x with
    | normal => exact hq.elim
    | _ => exact hq
/-- A loop: what each round keeps and lowers; the slots of keep stay. -/
theorem tri_whl {c : Code} (keep : List Nat) (n : Nat) (I : Nat → Env → Sto → Prop) (h0 : ∃ m, m ≤ n ∧ I m env σ)
    (round : ∀ (m : Nat) (env' : Env) (σ' : Sto), m ≤ n → (∀ t ∈ keep, env' t = env t) → I m env' σ' → Tri P nt c env' σ' (thenA (fun e s => (∀ t ∈ keep, e t = env t) ∧ ∃ m', m' < m ∧ I m' e s) Q)) : Tri P nt (.loop c) env σ Q := by
  obtain ⟨m0, hm, h0⟩ := h0
  refine tri_loopk keep (fun m e s => m ≤ n ∧ I m e s) m0 ⟨hm, h0⟩ ?_
  rintro m e s hk ⟨hm, hI⟩
  refine tri_mono (round m e s hm hk hI) fun x e' s' hq => ?_
  cases x with
  | normal =>
    obtain ⟨h1, m', h2, h3⟩ := hq
    exact ⟨h1, m', h2, by omega, h3⟩
  | _ => exact hq
end
section
variable {P : Program} {nt : Nat} {mu : List Nat} {ds : List (Option Nat)} {ov : List (Nat × Cls)} {K : Env → Sto → Prop} {d : Nat} {t : TypeId} {pos : String} {after : Array Edge} {l : List Oper} {env : Env} {σ : Sto} {i : Nat}
/-- append, to a row of one's own, in a region that draws. -/
theorem rwc_app {s x : Operand} {t0 t1 e k by_ : Nat} {z : List AV} (hd : dOk nt (some d) = true) (hmu : mu.contains d = true) (he : elemOfT P t0 = some (e, k)) (hz : zeroA P e = some z) (hzk : z.length = k) (hb : bytesT P e = some by_) (hb1 : by_ ≤ 1000) (h1 : notIntT P t1 = true)
    (h : ∀ G : AV → AV → Prop, Hid (∀ v n cs new m, Own k σ v n cs → new.all AV.one = true → new.length = m * k → n + m ≤ 100000000 → (∀ v' σ', Own k σ' v' (n + m) (cs ++ new) → Frame σ v σ' v' → rwc P mu ds nt ov K (i + 1) l (env.put (some d) v') σ') → G v (.fs new m)) → G (evA env s) (evA env x)) :
    rco P mu ds nt ov K i .w ⟨some d, .call ⟨.builtin .append, #[s, x], #[t0, t1]⟩, t, pos, after, none⟩ l env σ := by
  have := h (fun v y => evA env s = v → evA env x = y → rco P mu ds nt ov K i .w ⟨some d, .call ⟨.builtin .append, #[s, x], #[t0, t1]⟩, t, pos, after, none⟩ l env σ) fun v n cs new m q1 q2 q3 q4 q5 e1 e2 => ?_
  · exact this rfl rfl
  · obtain ⟨v', σ', r1, r2, r3⟩ := app_own he hz hzk hb hb1 h1 q1 q2 q3 q4
    refine ⟨hd, .inl ⟨v', σ', ?_, q5 v' σ' r2 r3⟩⟩
    show appendA P (mu.contains d) σ t0 t1 (evA env s) (evA env x) = some (v', σ')
    rw [hmu, e1, e2]; exact r1
end
end Go.Proofs.Ytemijcjgdgdhjaa
