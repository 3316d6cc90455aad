/- Go's sort of places: the row in place; insertion sort. -/
import Derived.Test.YtgdefllblcmgpaaZb
import Derived.Sort.AssemblyPlain
namespace Go.Proofs.Ytgdefllblcmgpaa
open Go.RowKit Go.Sort
set_option linter.unusedSimpArgs false
set_option maxRecDepth 10000
/-- A loop that is left by its block's exit alone: what holds then, told once. -/
theorem tri_whx {P : Program} {nt : Nat} {Q : Exit → Env → Sto → Prop} {env : Env} {σ : Sto} {c : Code} {x : Nat} (keep : List Nat) (n : Nat) (I : Nat → Env → Sto → Prop) (R : Env → Sto → Prop) (h0 : ∃ m, m ≤ n ∧ I m env σ)
    (round : ∀ (m : Nat) (env' : Env) (σ' : Sto), m ≤ n → (∀ t ∈ keep, env' t = env t) → I m env' σ' → Tri P nt c env' σ' (thenA (fun e s => (∀ t ∈ keep, e t = env t) ∧ ∃ m', m' < m ∧ I m' e s) (fun y e s => y = .exit x ∧ (∀ t ∈ keep, e t = env t) ∧ R e s)))
    (rest : ∀ (env' : Env) (σ' : Sto), (∀ t ∈ keep, env' t = env t) → R env' σ' → Q .normal env' σ') : Tri P nt (.loop c) env σ (blockA x Q) :=
  tri_mono (tri_whl keep n I h0 round) fun y e s ⟨h1, h2, h3⟩ => by subst h1; exact block_e (rest e s h2 h3)
instance : Inhabited Ext := ⟨⟨0, 0⟩⟩
def ltE (x y : Ext) : Bool := decide (x.lo < y.lo)
def cmpE (x y : Ext) : Int := if x.lo < y.lo then -1 else if y.lo < x.lo then 1 else 0
def fCmp : AV := .fn (.func 48) [] []
theorem cmpE_lt (x y : Ext) : decide (cmpE x y < 0) = ltE x y := by
  unfold cmpE ltE
  split
  · simp [*]
  · split <;> simp [*]
theorem cmpE_yes {x y : Ext} (h : ltE x y = true) : cmpE x y < 0 := by have := cmpE_lt x y; rw [h] at this; simpa using this
theorem cmpE_no {x y : Ext} (h : ltE x y = false) : ¬ cmpE x y < 0 := by have := cmpE_lt x y; rw [h] at this; simpa using this
theorem cmpE_zero (x y : Ext) : decide (cmpE x y = 0) = decide (x.lo = y.lo) := by
  unfold cmpE
  split
  · have : ¬ x.lo = y.lo := by omega
    simp [this]
  · split
    · have : ¬ x.lo = y.lo := by omega
      simp [this]
    · have : x.lo = y.lo := by omega
      simp [this]
theorem ltE_swo : SWO ltE where
  irrefl x := by simp [ltE]
  trans x y z h1 h2 := by simp [ltE] at *; omega
  ntrans x y z h1 h2 := by simp [ltE] at *; omega
theorem isNaNI_spec (k : Int) : PSpec Try.prog 49 [.sc (.int .i64 k)] (.sc (.bool false)) := by
  refine spec_pure (by simp) (by simp) ?_
  refine spec_intro Try.func49 good49 rfl (by simp [Try.ntmps49]) ?_
  repeat' (first
   | (with_reducible first | refine Stp.pf ?_ | refine block_x (by decide) ?_ | refine ret_n ?_)
   | refine tri_reg [] ?_ | refine tri_regc [] [] mixed (by decide +kernel) ?_
   | (refine rwf_nilt rfl (by decide +kernel) fun B hB => ?_; (try simp [*]); refine hB.out _ fun b => ?_; clear hB B)
   | (refine Rul.pf ⟨rfl, rfl⟩ fun B C hB => ?_; (try simp [*, -List.all_eq_true, Try.results49]); (try (simp (disch := first | assumption | omega) only [wc, ite_yes]; (try simp [*, -List.all_eq_true, Try.results49]))); first | (first | refine hB.out.1 _ (fun hb => ?_) fun hb => ⟨rfl, ?_⟩ | refine hB.out.1 _ (fun hb => ?_) fun hb => ?_) <;> clear hB C B <;> (try simp only [Bool.not_true, Bool.not_false] at hb) <;> (first | (exfalso; simp at hb; done) | (exfalso; simp at hb; omega) | (rw [hb]; (try simp at hb)) | (try simp at hb)) | ((first | refine hB.out.1 _ _ ?_ | refine hB.out.1 _ ?_ | refine hB.out.2 ⟨rfl, ?_⟩); clear hB C B) | (refine hB.out.2 _ ?_; clear hB C B; (try rfl)))
   | refine rwf_o ?_ | refine rwc_o .n rfl ?_ | refine rwc_o .z rfl ?_ | refine rwc_o .w rfl ?_ | refine rwc_o .b rfl ?_ | refine rwc_o _ rfl ?_)
def icmp (a b : Int) : Int := if a < b then -1 else if b < a then 1 else 0
theorem cmpInt_spec (a b : Int) : PSpec Try.prog 41 [.sc (.int .i64 a), .sc (.int .i64 b)] (.sc (.int .i64 (icmp a b))) := by
  have h := isNaNI_spec
  unfold icmp
  refine spec_pure (by simp) (by simp) ?_
  refine spec_intro Try.func41 good41 rfl (by simp [Try.ntmps41]) ?_
  by_cases h1 : a < b
  · skip
    repeat' (first
     | (with_reducible first | refine Stp.pf ?_ | refine block_x (by decide) ?_ | refine ret_n ?_)
     | refine tri_reg [] ?_ | refine tri_regc [] [] mixed (by decide +kernel) ?_
     | (refine rwf_nilt rfl (by decide +kernel) fun B hB => ?_; (try simp [*]); refine hB.out _ fun b => ?_; clear hB B)
     | (refine Rul.pf ⟨rfl, rfl⟩ fun B C hB => ?_; (try simp [*, -List.all_eq_true, Try.results41]); (try (simp (disch := first | assumption | omega) only [wc, ite_yes]; (try simp [*, -List.all_eq_true, Try.results41]))); first | (first | refine hB.out.1 _ (fun hb => ?_) fun hb => ⟨rfl, ?_⟩ | refine hB.out.1 _ (fun hb => ?_) fun hb => ?_) <;> clear hB C B <;> (try simp only [Bool.not_true, Bool.not_false] at hb) <;> (first | (exfalso; simp at hb; done) | (exfalso; simp at hb; omega) | (rw [hb]; (try simp at hb)) | (try simp at hb)) | ((first | refine hB.out.1 _ _ ?_ | refine hB.out.1 _ ?_ | refine hB.out.2.1 _ _ _ (h _) ?_ | refine hB.out.2.2 _ _ _ (h _) ?_ | refine hB.out.2 ⟨rfl, ?_⟩); clear hB C B) | (refine hB.out.2 _ ?_; clear hB C B; (try rfl)))
     | refine rwf_o ?_ | refine rwc_o .n rfl ?_ | refine rwc_o .z rfl ?_ | refine rwc_o .w rfl ?_ | refine rwc_o .b rfl ?_ | refine rwc_o _ rfl ?_)
    simp [h1]
  · by_cases h2 : b < a
    · skip
      repeat' (first
       | (with_reducible first | refine Stp.pf ?_ | refine block_x (by decide) ?_ | refine ret_n ?_)
       | refine tri_reg [] ?_ | refine tri_regc [] [] mixed (by decide +kernel) ?_
       | (refine rwf_nilt rfl (by decide +kernel) fun B hB => ?_; (try simp [*]); refine hB.out _ fun b => ?_; clear hB B)
       | (refine Rul.pf ⟨rfl, rfl⟩ fun B C hB => ?_; (try simp [*, -List.all_eq_true, Try.results41]); (try (simp (disch := first | assumption | omega) only [wc, ite_yes]; (try simp [*, -List.all_eq_true, Try.results41]))); first | (first | refine hB.out.1 _ (fun hb => ?_) fun hb => ⟨rfl, ?_⟩ | refine hB.out.1 _ (fun hb => ?_) fun hb => ?_) <;> clear hB C B <;> (try simp only [Bool.not_true, Bool.not_false] at hb) <;> (first | (exfalso; simp at hb; done) | (exfalso; simp at hb; omega) | (rw [hb]; (try simp at hb)) | (try simp at hb)) | ((first | refine hB.out.1 _ _ ?_ | refine hB.out.1 _ ?_ | refine hB.out.2.1 _ _ _ (h _) ?_ | refine hB.out.2.2 _ _ _ (h _) ?_ | refine hB.out.2 ⟨rfl, ?_⟩); clear hB C B) | (refine hB.out.2 _ ?_; clear hB C B; (try rfl)))
       | refine rwf_o ?_ | refine rwc_o .n rfl ?_ | refine rwc_o .z rfl ?_ | refine rwc_o .w rfl ?_ | refine rwc_o .b rfl ?_ | refine rwc_o _ rfl ?_)
      simp [h1, h2]
    · skip
      repeat' (first
       | (with_reducible first | refine Stp.pf ?_ | refine block_x (by decide) ?_ | refine ret_n ?_)
       | refine tri_reg [] ?_ | refine tri_regc [] [] mixed (by decide +kernel) ?_
       | (refine rwf_nilt rfl (by decide +kernel) fun B hB => ?_; (try simp [*]); refine hB.out _ fun b => ?_; clear hB B)
       | (refine Rul.pf ⟨rfl, rfl⟩ fun B C hB => ?_; (try simp [*, -List.all_eq_true, Try.results41]); (try (simp (disch := first | assumption | omega) only [wc, ite_yes]; (try simp [*, -List.all_eq_true, Try.results41]))); first | (first | refine hB.out.1 _ (fun hb => ?_) fun hb => ⟨rfl, ?_⟩ | refine hB.out.1 _ (fun hb => ?_) fun hb => ?_) <;> clear hB C B <;> (try simp only [Bool.not_true, Bool.not_false] at hb) <;> (first | (exfalso; simp at hb; done) | (exfalso; simp at hb; omega) | (rw [hb]; (try simp at hb)) | (try simp at hb)) | ((first | refine hB.out.1 _ _ ?_ | refine hB.out.1 _ ?_ | refine hB.out.2.1 _ _ _ (h _) ?_ | refine hB.out.2.2 _ _ _ (h _) ?_ | refine hB.out.2 ⟨rfl, ?_⟩); clear hB C B) | (refine hB.out.2 _ ?_; clear hB C B; (try rfl)))
       | refine rwf_o ?_ | refine rwc_o .n rfl ?_ | refine rwc_o .z rfl ?_ | refine rwc_o .w rfl ?_ | refine rwc_o .b rfl ?_ | refine rwc_o _ rfl ?_)
      simp [h1, h2]
theorem keyCmp_spec (x y : Ext) : PSpec Try.prog 48 [.agg (cE x), .agg (cE y)] (.sc (.int .i64 (cmpE x y))) := by
  have h := cmpInt_spec x.lo y.lo
  unfold cmpE
  unfold icmp at h
  refine spec_pure (by simp) (by simp) ?_
  refine spec_intro Try.func48 good48 rfl (by simp [Try.ntmps48]) ?_
  repeat' (first
   | (with_reducible first | refine Stp.pf ?_ | refine block_x (by decide) ?_ | refine ret_n ?_)
   | refine tri_reg [] ?_ | refine tri_regc [] [] mixed (by decide +kernel) ?_
   | (refine rwf_nilt rfl (by decide +kernel) fun B hB => ?_; (try simp [*]); refine hB.out _ fun b => ?_; clear hB B)
   | (refine Rul.pf ⟨rfl, rfl⟩ fun B C hB => ?_; (try simp [*, -List.all_eq_true, cE, Try.results48]); (try (simp (disch := first | assumption | omega) only [wc, ite_yes]; (try simp [*, -List.all_eq_true, cE, Try.results48]))); first | (first | refine hB.out.1 _ (fun hb => ?_) fun hb => ⟨rfl, ?_⟩ | refine hB.out.1 _ (fun hb => ?_) fun hb => ?_) <;> clear hB C B <;> (try simp only [Bool.not_true, Bool.not_false] at hb) <;> (first | (exfalso; simp at hb; done) | (exfalso; simp at hb; omega) | (rw [hb]; (try simp at hb)) | (try simp at hb)) | ((first | refine hB.out.1 _ _ ?_ | refine hB.out.1 _ ?_ | refine hB.out.2.1 _ _ _ (h) ?_ | refine hB.out.2.2 _ _ _ (h) ?_ | refine hB.out.2 ⟨rfl, ?_⟩); clear hB C B) | (refine hB.out.2 _ ?_; clear hB C B; (try rfl)))
   | refine rwf_o ?_ | refine rwc_o .n rfl ?_ | refine rwc_o .z rfl ?_ | refine rwc_o .w rfl ?_ | refine rwc_o .b rfl ?_ | refine rwc_o _ rfl ?_)
/-- The row d stands in object i of the store, from cell off on; the rest of the store is as in σ0. -/
def AtD (σ0 : Sto) (i g off N : Nat) (d : Array Ext) (σ : Sto) : Prop := i < σ0.length ∧ ∃ c : List AV, σ = σ0.set i ⟨c, g, false, false⟩ ∧ c.length = N ∧ off + d.size * 2 ≤ N ∧ (c.drop off).take (d.size * 2) = flatE d.toList
theorem AtD.len {σ0 : Sto} {i g off N : Nat} {d : Array Ext} {σ : Sto} (h : AtD σ0 i g off N d σ) : σ.length = σ0.length := by
  obtain ⟨_, c, rfl, _⟩ := h; simp
theorem AtD.get {σ0 : Sto} {i g off N : Nat} {d : Array Ext} {σ : Sto} (h : AtD σ0 i g off N d σ) : ∃ c : List AV, σ[i]? = some ⟨c, g, false, false⟩ ∧ off + d.size * 2 ≤ c.length ∧ (∀ k, k < d.size → List.take 2 (List.drop (off + k * 2) c) = cE d[k]!) ∧
    ∀ (a b : Nat) (x y : Ext), a < d.size → b < d.size → x = d[a]! → y = d[b]! → AtD σ0 i g off N (swp d a b) (List.set σ i ⟨wr (wr c (off + a * 2) (cE y)) (off + b * 2) (cE x), g, false, false⟩) := by
  obtain ⟨h0, c, rfl, h1, h2, h3⟩ := h
  have hsz : d.toList.length = d.size := by simp
  have hseg : ∀ k, k < d.size → List.take 2 (List.drop (off + k * 2) c) = cE d[k]! := fun k hk => by
    have hk' : k < d.toList.length := by omega
    rw [getElem!_pos d k hk, ← Array.getElem_toList, ← flatC_seg cE_length d.toList k hk', show flatC cE d.toList = flatE d.toList from rfl, ← h3, List.drop_take, List.take_take, List.drop_drop]
    congr 1; omega
  refine ⟨c, by simp [h0], by omega, hseg, ?_⟩
  rintro a b x y ha hb rfl rfl
  have w0 := wr_length c (off + a * 2) (cE d[b]!) (by simp; omega)
  have w1 := wr_setC (c := cE) (cells := c) (l := d.toList) (off := off) cE_length d[b]! a (by rw [hsz]; exact ha) (by rw [hsz]; omega) (by rw [hsz]; exact h3)
  rw [hsz] at w1
  have w2 := wr_setC (c := cE) (cells := wr c (off + a * 2) (cE d[b]!)) (off := off) (l := d.toList.set a d[b]!) cE_length d[a]! b (by simpa using hb) (by rw [w0]; simp; omega) (by simpa using w1)
  have w3 := wr_length (wr c (off + a * 2) (cE d[b]!)) (off + b * 2) (cE d[a]!) (by rw [w0]; simp; omega)
  refine ⟨h0, wr (wr c (off + a * 2) (cE d[b]!)) (off + b * 2) (cE d[a]!), by simp, by rw [w3, w0, h1], by rw [size_swp]; exact h2, ?_⟩
  have e : (swp d a b).toList = (d.toList.set a d[b]!).set b d[a]! := by simp [swp]
  rw [size_swp, e]
  simpa [flatE] using w2
theorem insOuter_step (lt : Ext → Ext → Bool) (a b i : Nat) (d : Array Ext) (h : i < b) : insOuter lt a b i d = insOuter lt a b (i + 1) (insInner lt a i d) := by rw [insOuter, if_pos h]
theorem insOuter_stop (lt : Ext → Ext → Bool) (a b i : Nat) (d : Array Ext) (h : ¬ i < b) : insOuter lt a b i d = d := by rw [insOuter, if_neg h]
set_option maxHeartbeats 4000000 in
theorem sIns_spec (σ0 : Sto) (i g off N : Nat) (d : Array Ext) (hN : N ≤ 100000000) (a b : Nat) (hab : a ≤ b) (hbd : b ≤ d.size) (σ : Sto) (h : AtD σ0 i g off N d σ) :
    Spec Try.prog 60 [.ms i g off d.size 2, .sc (.int .i64 a), .sc (.int .i64 b), fCmp] σ (fun r s => r = .tup [] ∧ AtD σ0 i g off N (insertionSort ltE d a b) s) := by
  have hdN : d.size ≤ N := by obtain ⟨_, _, _, _, h2, _⟩ := h; omega
  unfold fCmp
  refine spec_intro Try.func60 good60 rfl (by simp [Try.ntmps60]) ?_
  refine go1 [] [] (cns Try.results60 trivial) ?_
  refine tri_whl [0, 1, 2, 3] b (fun m e σ => ∃ (j : Nat) (d1 : Array Ext), a + 1 ≤ j ∧ m = b - j ∧ e 8 = .sc (.int .i64 j) ∧ d1.size = d.size ∧ insOuter ltE a b j d1 = insertionSort ltE d a b ∧ AtD σ0 i g off N d1 σ) ?_ (fun m env' σ' hm hk hI => ?_)
  · exact ⟨b - (a + 1), by omega, a + 1, d, by omega, rfl, by simp, rfl, rfl, h⟩
  · skip
    (try simp at hk)
    obtain ⟨j, d1, haj, hmj, h8, hs1, hins, hA⟩ := hI
    clear h
    by_cases hj : j < b
    · rw [insOuter_step _ _ _ _ _ hj] at hins
      replace hins := Lib.hid hins
      refine go1 [] [] (cns Try.results60 trivial) ?_
      refine tri_whl [0, 1, 2, 3, 8] j (fun m e σ => ∃ d2 : Array Ext, e 9 = .sc (.int .i64 m) ∧ d2.size = d.size ∧ insInner ltE a m d2 = insInner ltE a j d1 ∧ AtD σ0 i g off N d2 σ) ?_ (fun m env' σ' hm hk hI => ?_)
      · exact ⟨j, Nat.le_refl _, d1, by simp, hs1, rfl, hA⟩
      · skip
        (try simp at hk)
        obtain ⟨d2, h9, hs2, hin, hA2⟩ := hI
        clear hA
        obtain ⟨c, c1, c2, c3, c4⟩ := hA2.get
        by_cases hma : a < m
        · obtain ⟨m, rfl⟩ : ∃ n, m = n + 1 := ⟨m - 1, by omega⟩
          have s1 := c3 (m + 1) (by omega)
          have s0 := c3 m (by omega)
          have sw := fun x y => c4 (m + 1) m x y (by omega) (by omega)
          have e1 : ((m + 1 : Nat) : Int) - 1 = (m : Nat) := by omega
          rw [insInner] at hin
          generalize hx : d2[m + 1]! = x at *
          generalize hy : d2[m]! = y at *
          have hc := keyCmp_spec x y
          have sw := sw x y rfl rfl
          replace sw := Lib.hid sw
          replace hA2 := Lib.hid hA2
          clear c3 c4 hx hy
          cases hl : ltE x y with
          | true =>
            have hc0 := cmpE_yes hl
            rw [hl, if_pos (by simp; omega)] at hin
            replace hin := Lib.hid hin
            clear hl
            generalize cmpE x y = z at *
            have hw := wr_length c (off + (m + 1) * 2) (cE y) (by simp; omega)
            generalize hkm : m + 1 = k at *
            refine go1 [] [] (cns hc (cns Try.results60 trivial)) ?_
            have sw := sw.out
            refine ⟨by simp [*], m, by omega, _, by simp, by rw [size_swp]; exact hs2, hin.out, ?_⟩
            first | exact sw | simpa [*] using sw
          | false =>
            have hc0 := cmpE_no hl
            rw [hl, if_neg (by simp)] at hin
            subst hin
            clear hl
            generalize cmpE x y = z at *
            have hw := wr_length c (off + (m + 1) * 2) (cE y) (by simp; omega)
            generalize hkm : m + 1 = k at *
            refine go1 [] [] (cns hc (cns Try.results60 trivial)) ?_
            refine ⟨by simp [*], b - (j + 1), by omega, j + 1, _, by omega, rfl, by simp, hs2, hins.out, hA2.out⟩
        · have hin2 : insInner ltE a m d2 = d2 := by
            cases m with
            | zero => rfl
            | succ m => rw [insInner, if_neg (by simp; omega)]
          rw [hin2] at hin
          subst hin
          clear c3 c4 hin2
          refine go1 [] [] (cns Try.results60 trivial) ?_
          refine ⟨by simp [*], b - (j + 1), by omega, j + 1, _, by omega, rfl, by simp, hs2, hins.out, hA2⟩
    · rw [insOuter_stop _ _ _ _ _ hj] at hins
      subst hins
      refine go1 [] [] (cns Try.results60 trivial) ?_
      exact ⟨rfl, hA⟩
end Go.Proofs.Ytgdefllblcmgpaa
