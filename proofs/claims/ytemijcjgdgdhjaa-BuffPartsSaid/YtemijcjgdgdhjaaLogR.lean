/- What a call only reads may be written elsewhere: arguments lent. No program. -/
import Derived.Test.YtemijcjgdgdhjaaLogQ
namespace Go.Proofs.Ytemijcjgdgdhjaa
open Go.RowKit

mutual
/-- It speaks of no memory. -/
def AV.bare : AV → Bool
  | .top => true
  | .sc _ => true
  | .iface _ x => x.bare
  | .agg xs => bareL xs
  | .tup xs => bareL xs
  | _ => false
def bareL : List AV → Bool
  | [] => true
  | x :: xs => x.bare && bareL xs
end
theorem bareL_iff (xs : List AV) : bareL xs = true ↔ ∀ x ∈ xs, x.bare = true := by
  induction xs with
  | nil => simp [bareL]
  | cons x xs ih => simp [bareL, ih]
theorem bare_at {xs : List AV} (h : bareL xs = true) {i : Nat} {x : AV} (hx : xs[i]? = some x) : x.bare = true := (bareL_iff xs).1 h x (List.mem_of_getElem? hx)
theorem Rel.bare {w : World} {Im : Nat → Prop} {T : Tab} {v : Value} {x : AV} (h : Rel w Im T v x) (hf : x.bare = true) (w' : World) (Im' : Nat → Prop) (T' : Tab) : Rel w' Im' T' v x := by
  induction h with
  | top v => exact .top v
  | sc v => exact .sc v
  | iface t v x h ih => simp only [AV.bare] at hf; exact .iface t v x (ih hf)
  | agg A xs hA h1 ih => simp only [AV.bare] at hf; exact .agg A xs hA (fun i x v hx hv => ih i x v hx hv (bare_at hf hx))
  | tup A xs hA h1 ih => simp only [AV.bare] at hf; exact .tup A xs hA (fun i x v hx hv => ih i x v hx hv (bare_at hf hx))
  | _ => simp [AV.bare] at hf
attribute [simp] AV.bare bareL
/-- What is lent comes back. -/
theorem lend {P : Program} {f : FuncId} {xs xs' : List AV} {v : AV} {σ : Sto} (ls : List Nat) (n : Nat) (hfz : frzL σ ls n xs = some xs') (hv : v.bare = true) (h : PSpec P f xs' v) : Spec P f xs σ (fun r s => r = v ∧ s = σ) := by
  refine ⟨(h []).1, fun w Im T vs hW hR => ?_⟩
  obtain ⟨I1, hW1, hF1, hb1⟩ := hW.freezeL ls
  obtain ⟨q1, q2⟩ := (frz_rel hW hb1 hF1.im1 n).2 xs xs' hfz
  have hR1 : RelL w I1 T vs.toList xs' := ⟨by rw [hR.1, q1], fun i y u hy hu => by
    have hlt : i < xs.length := by rw [← q1]; exact lt_of_get hy
    exact q2 i _ y u (List.getElem?_eq_getElem hlt) hy (hR.2 i _ u (List.getElem?_eq_getElem hlt) hu)⟩
  have hfl : flatL xs' = true := (frz_flat n).2 _ _ hfz
  have hW0 : WRel w I1 [] [] := ⟨rfl, fun l o p ho _ => by simp at ho, hW1.im, fun l o p ho _ => by simp at ho, fun l o p ho _ => by simp at ho, fun l o p ho _ => by simp at ho, fun l o p ho _ => by simp at ho, fun l l' o o' p p' ho _ => by simp at ho, fun l o p ho _ => by simp at ho⟩
  refine ((h []).2 w I1 [] vs hW0 (hR1.flat hfl [])).mono ?_
  rintro e w' ⟨u, r, σ', Im', T', rfl, hr, hW', hF', rfl, rfl⟩
  have hm : ∀ b, ¬ Mut ([] : Sto) [] b := by rintro b ⟨l, o, p, ho, _⟩; simp at ho
  have hk : ∀ b, b < w.heap.size → w'.heap[b]? = w.heap[b]? := fun b hb => hF'.keep b hb (hm b)
  exact ⟨u, r, σ, Im, T, rfl, hr.bare hv _ _ _, hW.world hF'.size hk (fun _ h => h) (fun _ h => .inl h), .world hF'.os hF'.tape hF'.output hF'.size hk (fun _ h => h) (fun _ h => .inl h), rfl, rfl⟩
end Go.Proofs.Ytemijcjgdgdhjaa
