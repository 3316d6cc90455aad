/- Spaces in the store: New, check. -/
import Derived.Test.YtgdefllblcmgpaaYb
import Derived.Test.YtgdefllblcmgpaaZg
namespace Go.Proofs.Ytgdefllblcmgpaa
open Go.RowKit
set_option linter.unusedSimpArgs false
set_option maxRecDepth 10000
/-- A space in the store. -/
def SpAt (p : Nat) (n : Int) (e : List Ext) (σ : Sto) : Prop := ∃ v, σ[p]? = some ⟨[.sc (.int .i64 n), v], 0, false, false⟩ ∧ RowAt 2 p σ v e.length (flatE e)
theorem lendS1 {f : FuncId} {p : Nat} {n : Int} {e : List Ext} {σ : Sto} {y v : AV} (h : SpAt p n e σ) (hy : y.flat = true) (hv : v.bare = true) (hs : PSpec Try.prog f [.fp (cSp n e) 0, y] v) : Spec Try.prog f [.mp p 0 0, y] σ (fun r s => r = v ∧ s = σ) := by
  obtain ⟨v0, hσ, hr⟩ := h
  rcases hr with ⟨rfl, h1, h2⟩ | ⟨i, g, off, c, rfl, h1, h2, h3, h4⟩
  · obtain rfl : e = [] := List.length_eq_zero_iff.1 h1
    refine lend [p] 9 (xs' := [.fp [.sc (.int .i64 n), .sc (.slice none 0 0)] 0, y]) (by simp [frz, frzL, hσ, AV.flat, flatL, hy]) hv ?_
    exact pspec_args hs (.cons (.fpL (.cons (.refl _) (.cons .nil .nil))) (.cons (.refl _) .nil))
  · exact lend [p, i] 9 (xs' := [.fp (cSp n e) 0, y]) (by simp [frz, frzL, hσ, h2, h3, h4, AV.flat, flatL, hy, cSp]) hv hs
theorem lendS0 {f : FuncId} {p : Nat} {n : Int} {e : List Ext} {σ : Sto} {v : AV} (h : SpAt p n e σ) (hv : v.bare = true) (hs : PSpec Try.prog f [.fp (cSp n e) 0] v) : Spec Try.prog f [.mp p 0 0] σ (fun r s => r = v ∧ s = σ) := by
  obtain ⟨v0, hσ, hr⟩ := h
  rcases hr with ⟨rfl, h1, h2⟩ | ⟨i, g, off, c, rfl, h1, h2, h3, h4⟩
  · obtain rfl : e = [] := List.length_eq_zero_iff.1 h1
    refine lend [p] 9 (xs' := [.fp [.sc (.int .i64 n), .sc (.slice none 0 0)] 0]) (by simp [frz, frzL, hσ, AV.flat, flatL]) hv ?_
    exact pspec_args hs (.cons (.fpL (.cons (.refl _) (.cons .nil .nil))) .nil)
  · exact lend [p, i] 9 (xs' := [.fp (cSp n e) 0]) (by simp [frz, frzL, hσ, h2, h3, h4, AV.flat, flatL, cSp]) hv hs
theorem sNew_spec (n : Int) (σ : Sto) : Spec Try.prog 8 [.sc (.int .i64 n)] σ (fun r s => (n < 1 ∨ 512 < n) ∧ r = .sc (.pointer none) ∧ s = σ ∨ (1 ≤ n ∧ n ≤ 512) ∧ r = .mp σ.length 0 0 ∧ s = σ ++ [⟨[.sc (.int .i64 n), .sc (.slice none 0 0)], 0, false, false⟩]) := by
  refine spec_intro Try.func8 good8 rfl (by simp [Try.ntmps8]) ?_
  by_cases h1 : n < 1
  · skip
    refine go1 [11] [] (cns Try.results8 trivial) ?_
    exact .inl ⟨.inl h1, rfl, rfl⟩
  · by_cases h2 : 512 < n
    · skip
      refine go1 [11] [] (cns Try.results8 trivial) ?_
      exact .inl ⟨.inr h2, rfl, rfl⟩
    · skip
      refine go1 [11] [] (cns Try.results8 trivial) ?_
      exact .inr ⟨⟨by omega, by omega⟩, rfl, rfl⟩
/-- What check tells. -/
def chkR (n : Int) (list : List Ext) (f : Ext → Bool) : Int := if list.all (isInX n) = false then 3 else if list.all f = false then 11 else if apartX list = false then 11 else 0
set_option maxHeartbeats 1000000 in
theorem sCheck_spec (p : Nat) (n : Int) (e list : List Ext) (σ : Sto) (g : FuncId) (A B : List AV) (f : Ext → Bool) (h : SpAt p n e σ) (hn : 0 ≤ n ∧ n ≤ 512) (hl : list.length ≤ 1000000)
    (hf : ∀ x ∈ list, isInX n x = true → Spec Try.prog g (A ++ [.agg (cE x)] ++ B) σ (fun r s => r = .sc (.bool (f x)) ∧ s = σ)) :
    Spec Try.prog 26 [.mp p 0 0, .fs (flatE list) list.length, .fn (.func g) A B] σ (fun r s => r = .sc (.int .i64 (chkR n list f)) ∧ s = σ) := by
  refine spec_intro Try.func26 good26 rfl (by simp [Try.ntmps26]) ?_
  have hin : ∀ x : Ext, Spec Try.prog 37 [.mp p 0 0, .agg (cE x)] σ (fun r s => r = .sc (.bool (isInX n x)) ∧ s = σ) := fun x => lendS1 h (by simp [AV.flat]) rfl (sIsIn_spec n e x hn.1 hn.2)
  replace hin := Lib.hid hin
  replace hf := Lib.hid hf
  clear h
  obtain ⟨S, hS⟩ : ∃ S, σ = S := ⟨_, rfl⟩
  rw [hS] at hin hf ⊢
  clear hS σ
  have tk : ∀ (f : Ext → Bool) (j : Nat) (h : j < list.length), (∀ x ∈ list.take j, f x = true) → f list[j] = true → ∀ x ∈ list.take (j + 1), f x = true := fun f j h h1 h2 x hx => by
    rw [List.take_add_one, List.getElem?_eq_getElem h] at hx
    rcases List.mem_append.1 hx with q | q
    · exact h1 x q
    · rw [List.mem_singleton.1 q]; exact h2
  have no : ∀ (f : Ext → Bool) (j : Nat) (h : j < list.length), f list[j] = false → list.all f = false := fun f j h h2 => by
    cases q : list.all f with
    | false => rfl
    | true => rw [List.all_eq_true.1 q _ (List.getElem_mem h)] at h2; cases h2
  replace tk := Lib.hid tk
  replace no := Lib.hid no
  refine go1 [] [] (cns Try.results26 trivial) ?_
  refine tri_for [0, 1, 2, 13, 14] list.length (fun k_ e σ => σ = S ∧ e 15 = .sc (.int .i64 k_) ∧ ∀ x ∈ list.take k_, isInX n x = true) ?_ (fun j env' σ' hlt hk hI => ?_) (fun env' σ' hk hI => ?_)
  · exact ⟨rfl, by simp, by simp⟩
  · skip
    (try simp at hk)
    obtain ⟨rfl, h15, ha⟩ := hI
    have sg := flatE_seg list j hlt
    have hc := hin.out list[j]
    replace ha := Lib.hid ha
    cases hi : isInX n list[j] with
    | true =>
      rw [hi] at hc
      have tk := tk.out (isInX n) j hlt ha.out hi
      clear hi
      replace tk := Lib.hid tk
      refine go1 [] [] (cns Try.results26 trivial) ?_
      exact ⟨by simp [*], rfl, by simp, tk.out⟩
    | false =>
      rw [hi] at hc
      have no := no.out (isInX n) j hlt hi
      clear hi
      have hR : chkR n list f = 3 := by unfold chkR; rw [if_pos no]
      rw [hR]
      clear no hR
      refine go1 [] [] (cns Try.results26 trivial) ?_
      exact ⟨rfl, rfl⟩
  · skip
    (try simp at hk)
    obtain ⟨rfl, h15, ha⟩ := hI
    rw [List.take_length] at ha
    have hall : list.all (isInX n) = true := List.all_eq_true.2 ha
    have hA := sApart_spec list hl (fun x hx => (isInX_iff.1 (ha x hx)).2.1) fun x hx => by
      have := isInX_iff.1 (ha x hx)
      unfold xe at *
      omega
    have hf2 : ∀ (j : Nat) (h : j < list.length), Spec Try.prog g (A ++ [.agg (cE list[j])] ++ B) σ' (fun r s => r = .sc (.bool (f list[j])) ∧ s = σ') := fun j h => hf.out _ (List.getElem_mem h) (ha _ (List.getElem_mem h))
    replace hf2 := Lib.hid hf2
    replace hall := Lib.hid hall
    clear ha hf hin
    obtain ⟨S, hS⟩ : ∃ S, σ' = S := ⟨_, rfl⟩
    rw [hS] at hf2 ⊢
    clear hS σ'
    refine go1 [] [] (cns Try.results26 trivial) ?_
    refine tri_for [1, 2, 24, 25] list.length (fun k_ e σ => σ = S ∧ e 26 = .sc (.int .i64 k_) ∧ ∀ x ∈ list.take k_, f x = true) ?_ (fun j env' σ' hlt hk hI => ?_) (fun env' σ' hk hI => ?_)
    · exact ⟨rfl, by simp, by simp⟩
    · skip
      (try simp at hk)
      obtain ⟨rfl, h26, ha⟩ := hI
      have sg := flatE_seg list j hlt
      have hc := hf2.out j hlt
      replace ha := Lib.hid ha
      rw [List.append_assoc] at hc
      cases hi : f list[j] with
      | true =>
        rw [hi] at hc
        have tk := tk.out f j hlt ha.out hi
        clear hi
        replace tk := Lib.hid tk
        refine go1 [] [] (cns Try.results26 trivial) ?_
        exact ⟨by simp [*], rfl, by simp, tk.out⟩
      | false =>
        rw [hi] at hc
        have no := no.out f j hlt hi
        clear hi
        have hR : chkR n list f = 11 := by unfold chkR; rw [if_neg (by rw [hall.out]; simp), if_pos no]
        rw [hR]
        clear no hR
        refine go1 [] [] (cns Try.results26 trivial) ?_
        exact ⟨rfl, rfl⟩
    · skip
      (try simp at hk)
      obtain ⟨rfl, h26, ha⟩ := hI
      rw [List.take_length] at ha
      have hall2 : list.all f = true := List.all_eq_true.2 ha
      have hR : chkR n list f = if apartX list = false then 11 else 0 := by unfold chkR; rw [if_neg (by rw [hall.out]; simp), if_neg (by rw [hall2]; simp)]
      rw [hR]
      clear hR ha hall2 tk no
      cases hap : apartX list with
      | true =>
        rw [hap] at hA
        clear hap
        refine go1 [] [] (cns hA (cns Try.results26 trivial)) ?_
        exact ⟨rfl, rfl⟩
      | false =>
        rw [hap] at hA
        clear hap
        refine go1 [] [] (cns hA (cns Try.results26 trivial)) ?_
        exact ⟨rfl, rfl⟩
end Go.Proofs.Ytgdefllblcmgpaa
