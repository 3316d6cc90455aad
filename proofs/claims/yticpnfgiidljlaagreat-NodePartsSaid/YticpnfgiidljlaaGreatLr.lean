/- A call's answer that lies in new objects is laid to rest; the new objects are forgotten. No program. -/
import Derived.Test.YticpnfgiidljlaaGreatLc
namespace Go.Proofs.YticpnfgiidljlaaGreat
open Go.RowKit
set_option linter.unusedSimpArgs false
/-- Some objects are laid to rest in the midst of a function. -/
theorem tri_frzL {P : Program} {nt : Nat} {env : Env} {σ : Sto} {Q : Exit → Env → Sto → Prop} {c : Code} (ls : List Nat) (t n : Nat) {u : AV} (hf : frz σ ls n (env t) = some u) (h : Tri P nt c (env.put (some t) u) (freezeL σ ls) Q) : Tri P nt c env σ Q := by
  intro w0 Im0 σ0 T0 a w hs
  obtain ⟨Im, T, hW, hE, h1, h2, hF⟩ := hs
  obtain ⟨Im', hW', hF2, hb⟩ := hW.freezeL ls
  refine h w0 Im0 σ0 T0 a w ⟨Im', T, hW', fun t' => ?_, h1, h2, hF.trans hF2⟩
  simp only [put_some]
  split
  · rename_i e; subst e; exact (frz_rel hW hb hF2.im1 n).1 _ _ _ (hE _) hf
  · exact hF2.rel hW (hE t')
end Go.Proofs.YticpnfgiidljlaaGreat
