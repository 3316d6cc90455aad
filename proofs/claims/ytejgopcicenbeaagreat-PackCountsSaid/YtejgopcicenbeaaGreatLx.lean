/- A loop that is left by its block's exit alone (tri_why: tri_whx of Sa, under a name of its own). No program. -/
import Derived.Test.YtejgopcicenbeaaGreatLc
namespace Go.Proofs.YtejgopcicenbeaaGreat
open Go.RowKit
/-- A loop that is left by its block's exit alone: what holds then, told once. -/
theorem tri_why {P : Program} {nt : Nat} {Q : Exit → Env → Sto → Prop} {env : Env} {σ : Sto} {c : Code} {x : Nat} (keep : List Nat) (n : Nat) (I : Nat → Env → Sto → Prop) (R : Env → Sto → Prop) (h0 : ∃ m, m ≤ n ∧ I m env σ)
    (round : ∀ (m : Nat) (env' : Env) (σ' : Sto), m ≤ n → (∀ t ∈ keep, env' t = env t) → I m env' σ' → Tri P nt c env' σ' (thenA (fun e s => (∀ t ∈ keep, e t = env t) ∧ ∃ m', m' < m ∧ I m' e s) (fun y e s => y = .exit x ∧ (∀ t ∈ keep, e t = env t) ∧ R e s)))
    (rest : ∀ (env' : Env) (σ' : Sto), (∀ t ∈ keep, env' t = env t) → R env' σ' → Q .normal env' σ') : Tri P nt (.loop c) env σ (blockA x Q) :=
  tri_mono (tri_whl keep n I h0 round) fun y e s ⟨h1, h2, h3⟩ => by subst h1; exact block_e (rest e s h2 h3)
end Go.Proofs.YtejgopcicenbeaaGreat
