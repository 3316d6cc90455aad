/- Go's sort of items: the row in place; insertion sort, heap sort, reversing. -/
import Derived.Test.YtejgopcicenbeaaGreatWap
import Derived.Test.YtejgopcicenbeaaGreatLw
import Derived.Sort.AssemblyPlain
namespace Go.Proofs.YtejgopcicenbeaaGreat
open Go.RowKit Go.Sort
set_option linter.unusedSimpArgs false
set_option maxRecDepth 10000
/-- A loop that is left by its block's exit alone: what holds then, told once. -/
theorem tri_whx {P : Program} {nt : Nat} {Q : Exit → Env → Sto → Prop} {env : Env} {σ : Sto} {c : Code} {x : Nat} (keep : List Nat) (n : Nat) (I : Nat → Env → Sto → Prop) (R : Env → Sto → Prop) (h0 : ∃ m, m ≤ n ∧ I m env σ)
    (round : ∀ (m : Nat) (env' : Env) (σ' : Sto), m ≤ n → (∀ t ∈ keep, env' t = env t) → I m env' σ' → Tri P nt c env' σ' (thenA (fun e s => (∀ t ∈ keep, e t = env t) ∧ ∃ m', m' < m ∧ I m' e s) (fun y e s => y = .exit x ∧ (∀ t ∈ keep, e t = env t) ∧ R e s)))
    (rest : ∀ (env' : Env) (σ' : Sto), (∀ t ∈ keep, env' t = env t) → R env' σ' → Q .normal env' σ') : Tri P nt (.loop c) env σ (blockA x Q) :=
  tri_mono (tri_whl keep n I h0 round) fun y e s ⟨h1, h2, h3⟩ => by subst h1; exact block_e (rest e s h2 h3)
instance : Inhabited Item := ⟨⟨⟨#[]⟩, ⟨#[]⟩⟩⟩
def ltI (x y : Item) : Bool := slt x.key y.key
def cmpI (x y : Item) : Int := scmp x.key y.key
def fCmp : AV := .fn (.func 54) [] []
theorem cmpI_lt (x y : Item) : decide (cmpI x y < 0) = ltI x y := scmp_neg
theorem cmpI_yes {x y : Item} (h : ltI x y = true) : cmpI x y < 0 := by have := cmpI_lt x y; rw [h] at this; simpa using this
theorem cmpI_no {x y : Item} (h : ltI x y = false) : ¬ cmpI x y < 0 := by have := cmpI_lt x y; rw [h] at this; simpa using this
theorem ltI_swo : SWO ltI where
  irrefl x := slt_irrefl _
  trans x y z h1 h2 := slt_trans h1 h2
  ntrans x y z h1 h2 := by
    unfold ltI at *
    cases h : slt x.key z.key with
    | false => rfl
    | true =>
      cases h3 : slt y.key x.key with
      | true => have := slt_trans h3 h; rw [h2] at this; cases this
      | false =>
        have := slt_tri h1 h3
        rw [this, h2] at h; cases h
theorem keyCmp_spec (x y : Item) : PSpec Tryz.prog 54 [.agg (cI x), .agg (cI y)] (.sc (.int .i64 (cmpI x y))) := by
  unfold cmpI
  refine spec_pure (by simp) (by simp) ?_
  refine spec_intro Tryz.func54 good54 rfl (by simp [Tryz.ntmps54]) ?_
  exact go0 [] [] (cns (fun x1 x2 => cmpS_spec x1 x2) (cns Tryz.results54 (cns cI.eq_1 trivial)))
/-- The row d stands in object i of the store, from cell off on; the rest of the store is as in σ0. -/
def AtD (σ0 : Sto) (i g off N : Nat) (d : Array Item) (σ : Sto) : Prop := i < σ0.length ∧ ∃ c : List AV, σ = σ0.set i ⟨c, g, false, false⟩ ∧ c.length = N ∧ off + d.size * 2 ≤ N ∧ (c.drop off).take (d.size * 2) = flatI d.toList
theorem AtD.len {σ0 : Sto} {i g off N : Nat} {d : Array Item} {σ : Sto} (h : AtD σ0 i g off N d σ) : σ.length = σ0.length := by
  obtain ⟨_, c, rfl, _⟩ := h; simp
theorem AtD.get {σ0 : Sto} {i g off N : Nat} {d : Array Item} {σ : Sto} (h : AtD σ0 i g off N d σ) : ∃ c : List AV, σ[i]? = some ⟨c, g, false, false⟩ ∧ off + d.size * 2 ≤ c.length ∧ (∀ k, k < d.size → List.take 2 (List.drop (off + k * 2) c) = cI d[k]!) ∧
    ∀ (a b : Nat) (x y : Item), a < d.size → b < d.size → x = d[a]! → y = d[b]! → AtD σ0 i g off N (swp d a b) (List.set σ i ⟨wr (wr c (off + a * 2) (cI y)) (off + b * 2) (cI x), g, false, false⟩) := by
  obtain ⟨h0, c, rfl, h1, h2, h3⟩ := h
  have hsz : d.toList.length = d.size := by simp
  have hseg : ∀ k, k < d.size → List.take 2 (List.drop (off + k * 2) c) = cI d[k]! := fun k hk => by
    have hk' : k < d.toList.length := by omega
    rw [getElem!_pos d k hk, ← Array.getElem_toList, ← flatC_seg cI_length d.toList k hk', show flatC cI d.toList = flatI d.toList from rfl, ← h3, List.drop_take, List.take_take, List.drop_drop]
    congr 1; omega
  refine ⟨c, by simp [h0], by omega, hseg, ?_⟩
  rintro a b x y ha hb rfl rfl
  have w0 := wr_length c (off + a * 2) (cI d[b]!) (by simp; omega)
  have w1 := wr_setC (c := cI) (cells := c) (l := d.toList) (off := off) cI_length d[b]! a (by rw [hsz]; exact ha) (by rw [hsz]; omega) (by rw [hsz]; exact h3)
  rw [hsz] at w1
  have w2 := wr_setC (c := cI) (cells := wr c (off + a * 2) (cI d[b]!)) (off := off) (l := d.toList.set a d[b]!) cI_length d[a]! b (by simpa using hb) (by rw [w0]; simp; omega) (by simpa using w1)
  have w3 := wr_length (wr c (off + a * 2) (cI d[b]!)) (off + b * 2) (cI d[a]!) (by rw [w0]; simp; omega)
  refine ⟨h0, wr (wr c (off + a * 2) (cI d[b]!)) (off + b * 2) (cI d[a]!), by simp, by rw [w3, w0, h1], by rw [size_swp]; exact h2, ?_⟩
  have e : (swp d a b).toList = (d.toList.set a d[b]!).set b d[a]! := by simp [swp]
  rw [size_swp, e]
  simpa [flatI] using w2
theorem insOuter_step (lt : Item → Item → Bool) (a b i : Nat) (d : Array Item) (h : i < b) : insOuter lt a b i d = insOuter lt a b (i + 1) (insInner lt a i d) := by rw [insOuter, if_pos h]
theorem insOuter_stop (lt : Item → Item → Bool) (a b i : Nat) (d : Array Item) (h : ¬ i < b) : insOuter lt a b i d = d := by rw [insOuter, if_neg h]
set_option maxHeartbeats 4000000 in
theorem sIns_spec (σ0 : Sto) (i g off N : Nat) (d : Array Item) (hN : N ≤ 100000000) (a b : Nat) (hab : a ≤ b) (hbd : b ≤ d.size) (σ : Sto) (h : AtD σ0 i g off N d σ) :
    Spec Tryz.prog 117 [.ms i g off d.size 2, .sc (.int .i64 a), .sc (.int .i64 b), fCmp] σ (fun r s => r = .tup [] ∧ AtD σ0 i g off N (insertionSort ltI d a b) s) := by
  have hdN : d.size ≤ N := by obtain ⟨_, _, _, _, h2, _⟩ := h; omega
  unfold fCmp
  refine spec_intro Tryz.func117 good117 rfl (by simp [Tryz.ntmps117]) ?_
  refine go1 [] [] (cns Tryz.results117 trivial) ?_
  refine tri_whl [0, 1, 2, 3] b (fun m e σ => ∃ (j : Nat) (d1 : Array Item), a + 1 ≤ j ∧ m = b - j ∧ e 8 = .sc (.int .i64 j) ∧ d1.size = d.size ∧ insOuter ltI a b j d1 = insertionSort ltI d a b ∧ AtD σ0 i g off N d1 σ) ?_ (fun m env' σ' hm hk hI => ?_)
  · exact ⟨b - (a + 1), by omega, a + 1, d, by omega, rfl, by simp, rfl, rfl, h⟩
  · skip
    (try simp at hk)
    obtain ⟨j, d1, haj, hmj, h8, hs1, hins, hA⟩ := hI
    clear h
    by_cases hj : j < b
    · rw [insOuter_step _ _ _ _ _ hj] at hins
      replace hins := Lib.hid hins
      refine go1 [] [] (cns Tryz.results117 trivial) ?_
      refine tri_whl [0, 1, 2, 3, 8] j (fun m e σ => ∃ d2 : Array Item, e 9 = .sc (.int .i64 m) ∧ d2.size = d.size ∧ insInner ltI a m d2 = insInner ltI a j d1 ∧ AtD σ0 i g off N d2 σ) ?_ (fun m env' σ' hm hk hI => ?_)
      · exact ⟨j, Nat.le_refl _, d1, by simp, hs1, rfl, hA⟩
      · skip
        (try simp at hk)
        obtain ⟨d2, h9, hs2, hin, hA2⟩ := hI
        clear hA
        obtain ⟨c, c1, c2, c3, c4⟩ := hA2.get
        by_cases hma : a < m
        · obtain ⟨m, rfl⟩ : ∃ n, m = n + 1 := ⟨m - 1, by omega⟩
          have s1 := c3 (m + 1) (by omega)
          have s0 := c3 m (by omega)
          have sw := fun x y => c4 (m + 1) m x y (by omega) (by omega)
          have e1 : ((m + 1 : Nat) : Int) - 1 = (m : Nat) := by omega
          rw [insInner] at hin
          generalize hx : d2[m + 1]! = x at *
          generalize hy : d2[m]! = y at *
          have hc := keyCmp_spec x y
          have sw := sw x y rfl rfl
          replace sw := Lib.hid sw
          replace hA2 := Lib.hid hA2
          clear c3 c4 hx hy
          cases hl : ltI x y with
          | true =>
            have hc0 := cmpI_yes hl
            rw [hl, if_pos (by simp; omega)] at hin
            replace hin := Lib.hid hin
            clear hl
            generalize cmpI x y = z at *
            have hw := wr_length c (off + (m + 1) * 2) (cI y) (by simp; omega)
            generalize hkm : m + 1 = k at *
            refine go1 [] [] (cns hc (cns Tryz.results117 trivial)) ?_
            have sw := sw.out
            refine ⟨by simp [*], m, by omega, _, by simp, by rw [size_swp]; exact hs2, hin.out, ?_⟩
            first | exact sw | simpa [*] using sw
          | false =>
            have hc0 := cmpI_no hl
            rw [hl, if_neg (by simp)] at hin
            subst hin
            clear hl
            generalize cmpI x y = z at *
            have hw := wr_length c (off + (m + 1) * 2) (cI y) (by simp; omega)
            generalize hkm : m + 1 = k at *
            refine go1 [] [] (cns hc (cns Tryz.results117 trivial)) ?_
            refine ⟨by simp [*], b - (j + 1), by omega, j + 1, _, by omega, rfl, by simp, hs2, hins.out, hA2.out⟩
        · have hin2 : insInner ltI a m d2 = d2 := by
            cases m with
            | zero => rfl
            | succ m => rw [insInner, if_neg (by simp; omega)]
          rw [hin2] at hin
          subst hin
          clear c3 c4 hin2
          refine go1 [] [] (cns Tryz.results117 trivial) ?_
          refine ⟨by simp [*], b - (j + 1), by omega, j + 1, _, by omega, rfl, by simp, hs2, hins.out, hA2⟩
    · rw [insOuter_stop _ _ _ _ _ hj] at hins
      subst hins
      refine go1 [] [] (cns Tryz.results117 trivial) ?_
      exact ⟨rfl, hA⟩
end Go.Proofs.YtejgopcicenbeaaGreat
