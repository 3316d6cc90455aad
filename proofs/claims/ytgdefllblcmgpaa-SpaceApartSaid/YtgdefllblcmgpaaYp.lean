/- The law SpaceApart's body. -/
import Derived.Test.YtgdefllblcmgpaaYm
import Derived.Test.YtgdefllblcmgpaaPsu
import Derived.Test.YtgdefllblcmgpaaOpt
namespace Go.Proofs.Ytgdefllblcmgpaa
open Go.RowKit
set_option linter.unusedSimpArgs false
set_option maxRecDepth 10000
/-- A row of one's own, or what is left of one. -/
def OwnZ (σ : Sto) (vm : AV) (mine : List Ext) : Prop := Own 2 σ vm mine.length (flatE mine) ∨ ∃ a, vm = .sc (.slice (some a) 0 0) ∧ mine = []
theorem isH_sc {l : Nat} {x : Value} (h : isH l (.sc x)) : False := by obtain ⟨g, off, n, k, e⟩ := h; cases e
theorem OwnZ.lt {σ : Sto} {vm : AV} {mine : List Ext} (h : OwnZ σ vm mine) {l : Nat} (hl : isH l vm) : l < σ.length := by
  rcases h with h | ⟨a, rfl, _⟩
  · exact h.lt hl
  · exact (isH_sc hl).elim
/-- What lies in the store: the space, the row of what is taken (vm), the bools (object o). -/
def ApV (K : Nat) (v : AV) (es mine : List Ext) (ol : List Bool) (vm : AV) (o : Nat) (σ : Sto) : Prop :=
  SpV 0 K v es σ ∧ OwB o 0 0 K ol σ ∧ OwnZ σ vm mine ∧ o ≠ 0 ∧ ¬ isH o v ∧ ¬ isH o vm ∧ ¬ isH 0 vm ∧ ∀ l, isH l v → ¬ isH l vm
def ApI (K : Nat) (es mine : List Ext) (ol : List Bool) (vm : AV) (o : Nat) (σ : Sto) : Prop := ∃ v, ApV K v es mine ol vm o σ
theorem OwB.lt {i g off n : Nat} {o : List Bool} {σ : Sto} (h : OwB i g off n o σ) : i < σ.length := by
  obtain ⟨c, h1, _⟩ := h
  exact lt_of_get h1
theorem ApV.step {K : Nat} {v : AV} {es es' mine : List Ext} {ol : List Bool} {vm : AV} {o : Nat} {σ s : Sto} (h : ApV K v es mine ol vm o σ) (hs : StepP 0 K v es' σ s) : ApI K es' mine ol vm o s := by
  obtain ⟨h1, h2, h3, h4, h5, h6, h7, h8⟩ := h
  obtain ⟨v', k1, k2, k3, k4⟩ := hs
  refine ⟨v', k1, ?_, ?_, h4, fun q => ?_, h6, h7, fun l hl hm => ?_⟩
  · obtain ⟨c, q1, q2, q3, q4⟩ := h2
    exact ⟨c, k2 o _ h4 h5 q1, q2, q3, q4⟩
  · rcases h3 with (q | ⟨i, g, off, c, rfl, q2, q3, q4⟩) | q
    rotate_left 2
    · exact .inr q
    · exact .inl (.inl q)
    · exact .inl <| .inr ⟨i, g, off, c, rfl, k2 i _ (fun e => h7 (by rw [← e]; exact isH_self ..)) (fun e => h8 i e (isH_self ..)) q2, q3, q4⟩
  · rcases k3 o q with q | q
    · exact h5 q
    · have := h2.lt; omega
  · rcases k3 l hl with q | q
    · exact h8 l q hm
    · have := h3.lt hm; omega
theorem ApV.setO {K : Nat} {v : AV} {es mine : List Ext} {ol : List Bool} {vm : AV} {o : Nat} {σ : Sto} (h : ApV K v es mine ol vm o σ) {c : List AV} (hc : σ[o]? = some ⟨c, 0, false, false⟩) (b : Nat) (x : Bool) : ApV K v es mine (ol.set b x) vm o (σ.set o ⟨c.set b (.sc (.bool x)), 0, false, false⟩) := by
  obtain ⟨h1, h2, h3, h4, h5, h6, h7, h8⟩ := h
  refine ⟨h1.set_ne h4 h5 _, by simpa using h2.set hc b x, ?_, h4, h5, h6, h7, h8⟩
  exact h3.imp (fun q => own_set q h6 _) id
theorem ApV.app {K : Nat} {v : AV} {es mine : List Ext} {ol : List Bool} {vm v1 : AV} {o : Nat} {σ σ1 : Sto} {x : Ext} (h : ApV K v es mine ol vm o σ) (k1 : Own 2 σ1 v1 (mine.length + 1) (flatE mine ++ cE x)) (k2 : Frame σ vm σ1 v1) : ApV K v es (mine ++ [x]) ol v1 o σ1 := by
  obtain ⟨h1, h2, h3, h4, h5, h6, h7, h8⟩ := h
  have h0 := lt_of_get h1.1
  refine ⟨⟨k2.1 0 _ h1.1 h7, ?_⟩, ?_, by refine .inl ?_; rw [← flatE_snoc, List.length_append]; exact k1, h4, h5, fun q => ?_, fun q => ?_, fun l hl q => ?_⟩
  · rcases h1.2 with q | ⟨i, g, off, c, rfl, q2, q3, q4⟩
    · exact .inl q
    · exact .inr ⟨i, g, off, c, rfl, q2, k2.1 i _ q3 (h8 i (isH_self ..)), q4⟩
  · obtain ⟨c, q1, q2⟩ := h2
    exact ⟨c, k2.1 o _ q1 h6, q2⟩
  · rcases k2.2.1 o q with q | q
    · exact h6 q
    · have := h2.lt; omega
  · rcases k2.2.1 0 q with q | q
    · exact h7 q
    · omega
  · rcases k2.2.1 l q with q | q
    · exact h8 l hl q
    · rcases h1.2 with ⟨r, _⟩ | ⟨i, g, off, c, rfl, q2, q3, q4⟩
      · rw [r] at hl; exact isH_nil l hl
      · have := isH_ms hl
        have := lt_of_get q3
        omega
theorem ApV.tail0 {K : Nat} {v : AV} {es : List Ext} {y : Ext} {ol : List Bool} {o : Nat} {vm : AV} {σ : Sto} (h : ApV K v es [y] ol vm o σ) (a : Addr) : ApV K v es [] ol (.sc (.slice (some a) 0 0)) o σ := by
  obtain ⟨h1, h2, h3, h4, h5, h6, h7, h8⟩ := h
  exact ⟨h1, h2, .inr ⟨a, rfl, rfl⟩, h4, h5, fun q => (isH_sc q).elim, fun q => (isH_sc q).elim, fun l _ q => (isH_sc q).elim⟩
theorem ApV.tail {K : Nat} {v : AV} {es mine : List Ext} {y : Ext} {ol : List Bool} {o i g off : Nat} {σ : Sto} (h : ApV K v es (y :: mine) ol (.ms i g off (mine.length + 1) 2) o σ) : ApV K v es mine ol (.ms i g (off + 2) mine.length 2) o σ := by
  obtain ⟨h1, h2, h3, h4, h5, h6, h7, h8⟩ := h
  have hsame : ∀ l, isH l (.ms i g (off + 2) mine.length 2) → isH l (.ms i g off (mine.length + 1) 2) := fun l hl => by rw [isH_ms hl]; exact isH_self ..
  refine ⟨h1, h2, ?_, h4, h5, fun q => h6 (hsame _ q), fun q => h7 (hsame _ q), fun l hl q => h8 l hl (hsame l q)⟩
  rcases h3 with (⟨q, _⟩ | ⟨i', g', off', c, q, q2, q3, q4⟩) | ⟨_, q, _⟩
  · cases q
  rotate_left
  · cases q
  · cases q
    rw [List.length_cons] at q3 q4
    refine .inl <| .inr ⟨i, g, off + 2, c, rfl, q2, by omega, ?_⟩
    have := congrArg (List.drop 2) q4
    rw [List.drop_take, List.drop_drop] at this
    rw [show (mine.length + 1) * 2 - 2 = mine.length * 2 by omega] at this
    rw [this]
    rfl
theorem tri_mid {P : Program} {nt : Nat} {Q : Exit → Env → Sto → Prop} {env : Env} {σ : Sto} {a b c : Code} (M : Env → Sto → Prop) (h1 : ∀ K : Env → Sto → Prop, (∀ e s, M e s → K e s) → Tri P nt a env σ (thenA (fun e s => Tri P nt b e s (thenA K Q)) Q)) (h2 : ∀ e s, M e s → Tri P nt c e s Q) : Tri P nt (.seq a (.seq b c)) env σ Q :=
  tri_seq (tri_mono (h1 (fun e s => Tri P nt c e s Q) h2) fun e _ _ h => by
    cases e with
    | normal => exact tri_seq h
    | _ => exact h)
/-- What Take left: nothing is taken, or the place w. -/
def ApM (K : Nat) (es mine : List Ext) (ol : List Bool) (vm : AV) (o : Nat) (e : Env) (s : Sto) : Prop :=
  (e 15 = .sc (.int .i64 9) ∧ ApI K es mine ol vm o s ∧ ApP K es mine ol) ∨ ∃ (w : Ext) (a t : Nat) (es2 : List Ext), e 14 = .fp (cE w) 0 ∧ e 15 = .sc (.int .i64 0) ∧ w.lo = a ∧ w.sz = t ∧ a + t ≤ K ∧ ApI K es2 mine ol vm o s ∧ ApP K es2 (mine ++ [w]) (setsB ol a true t) ∧ ∀ i : Nat, a ≤ i → i < a + t → ol[i]? = some false ∧ hasX es2 i = false
theorem first_give (K : Nat) (hK : 1 ≤ K) : chkR K [⟨0, K⟩] (fun x => !touchX [] x) = 0 ∧ [(⟨0, K⟩ : Ext)].foldl giveX [] = [⟨0, K⟩] :=
  ⟨chk_yes (by simp [isInX]; omega) (fun x hx => by rw [List.mem_singleton.1 hx]; rfl) (by simp [Apart]), rfl⟩
set_option maxHeartbeats 2000000 in
theorem apart_spec (n : Int) (sizes : List Int) (back : List Bool) (hl : sizes.length ≤ 9223372036854775807) (hlb : back.length ≤ 9223372036854775807) : PSpec Try.prog 3 [.sc (.int .i64 n), .fs (flatN sizes) sizes.length, .fs (flatB back) back.length] (.sc (.bool true)) := by
  have haw := awake_spec
  refine spec_pure (by simp) (by simp) ?_
  refine spec_intro Try.func3 good3 rfl (by simp [Try.ntmps3]) ?_
  by_cases hsl : sizes.length ≤ 60
  · obtain ⟨u, hu⟩ := Int.eq_ofNat_of_zero_le (show 0 ≤ IntKind.u64.wrap n by rw [IntKind.wrap_u64]; omega)
    have hmod : (u : Int).tmod 100 = ((u % 100 : Nat) : Int) := by rw [Int.tmod_eq_emod_of_nonneg (by omega)]; omega
    have hadd : (1 : Int) + ((u % 100 : Nat) : Int) = ((1 + u % 100 : Nat) : Int) := by omega
    have hK1 : 1 ≤ 1 + u % 100 ∧ 1 + u % 100 ≤ 100 := by omega
    have hu2 : u % 100 < 100 := by omega
    generalize u % 100 = um at *
    generalize hKK : 1 + um = K at *
    have hnew := sNew_ok K (by omega) []
    repeat' (first
     | (with_reducible first | refine Stp.pf ?_ | refine block_x (by decide) ?_ | refine ret_n ?_)
     | refine tri_reg [] ?_ | refine tri_regc [] [] mixed (by decide +kernel) ?_
     | (refine rwf_nilt rfl (by decide +kernel) fun B hB => ?_; (try simp [*]); refine hB.out _ fun b => ?_; clear hB B)
     | (refine Rul.pf ⟨rfl, rfl⟩ fun B C hB => ?_; (try simp [*, -List.all_eq_true, Try.results3]); (try (simp (disch := first | assumption | omega) only [wc, ite_yes]; (try simp [*, -List.all_eq_true, Try.results3]))); first | (first | refine hB.out.1 _ (fun hb => ?_) fun hb => ⟨rfl, ?_⟩ | refine hB.out.1 _ (fun hb => ?_) fun hb => ?_) <;> clear hB C B <;> (try simp only [Bool.not_true, Bool.not_false] at hb) <;> (first | (exfalso; simp at hb; done) | (exfalso; simp at hb; omega) | (rw [hb]; (try simp at hb)) | (try simp at hb)) | ((first | refine hB.out.1 _ _ ?_ | refine hB.out.1 _ ?_ | refine hB.out.2.1 _ _ _ (haw) ?_ | refine hB.out.2.2 _ _ _ (haw) ?_ | refine hB.out.2 ⟨rfl, ?_⟩); clear hB C B) | (refine hB.out.2 _ ?_; clear hB C B; (try rfl)))
     | refine rwf_o ?_ | refine rwc_o .n rfl ?_ | refine rwc_o .z rfl ?_ | refine rwc_o .w rfl ?_ | refine rwc_o .b rfl ?_ | refine rwc_o _ rfl ?_)
    refine rwf_ca rfl fun C' hC hP => ?_
    clear hP
    (try simp [*, -List.all_eq_true]); (try (simp (disch := first | assumption | omega) only [wrap_id, wrapu_id, wrapb_id, tmod_nn, tdiv_nn, ite_yes, flatM_seg, flatM_0, flatM_1, flatM_2, flatI_seg, flatI_0, flatI_1, flatS_get]; (try simp [*, -List.all_eq_true])))
    refine hC.out _ _ _ (hnew) fun r s hq => ?_
    clear hC C'
    obtain ⟨rfl, rfl⟩ := hq
    clear hnew haw hmod hadd hKK hu2 hu
    obtain ⟨f1, f2⟩ := first_give K (by omega)
    have g1 := sGiveA_spec 0 K [] [⟨0, K⟩] _ _ (SpV.new K []) (norm_nil _) (by omega) (by simp)
    unfold foldR at g1
    rw [f1, if_pos rfl, f2, show flatE [(⟨0, K⟩ : Ext)] = [.sc (.int .i64 0), .sc (.int .i64 K)] from rfl, show [(⟨0, K⟩ : Ext)].length = 1 from rfl] at g1
    have e1 := ext_spec 0 K
    clear f1 f2
    repeat' (first
     | (with_reducible first | refine Stp.pf ?_ | refine block_x (by decide) ?_ | refine ret_n ?_)
     | refine tri_reg [] ?_ | refine tri_regc [] [] mixed (by decide +kernel) ?_
     | (refine rwf_nilt rfl (by decide +kernel) fun B hB => ?_; (try simp [*]); refine hB.out _ fun b => ?_; clear hB B)
     | (refine Rul.pf ⟨rfl, rfl⟩ fun B C hB => ?_; (try simp [*, -List.all_eq_true, cE, Try.results3]); (try (simp (disch := first | assumption | omega) only [wc, ite_yes]; (try simp [*, -List.all_eq_true, cE, Try.results3]))); first | (first | refine hB.out.1 _ (fun hb => ?_) fun hb => ⟨rfl, ?_⟩ | refine hB.out.1 _ (fun hb => ?_) fun hb => ?_) <;> clear hB C B <;> (try simp only [Bool.not_true, Bool.not_false] at hb) <;> (first | (exfalso; simp at hb; done) | (exfalso; simp at hb; omega) | (rw [hb]; (try simp at hb)) | (try simp at hb)) | ((first | refine hB.out.1 _ _ ?_ | refine hB.out.1 _ ?_ | refine hB.out.2.1 _ _ _ (e1) ?_ | refine hB.out.2.2 _ _ _ (e1) ?_ | refine hB.out.2 ⟨rfl, ?_⟩); clear hB C B) | (refine hB.out.2 _ ?_; clear hB C B; (try rfl)))
     | refine rwf_o ?_ | refine rwc_o .n rfl ?_ | refine rwc_o .z rfl ?_ | refine rwc_o .w rfl ?_ | refine rwc_o .b rfl ?_ | refine rwc_o _ rfl ?_)
    refine rwf_ca rfl fun C' hC hP => ?_
    clear hP
    (try simp [*, -List.all_eq_true, cE]); (try (simp (disch := first | assumption | omega) only [wrap_id, wrapu_id, wrapb_id, tmod_nn, tdiv_nn, ite_yes, flatM_seg, flatM_0, flatM_1, flatM_2, flatI_seg, flatI_0, flatI_1, flatS_get]; (try simp [*, -List.all_eq_true, cE])))
    refine hC.out _ _ _ (g1) fun r s1 hq => ?_
    clear hC C'
    obtain ⟨rfl, v1, hS1, _⟩ := hq
    clear g1 e1
    have h0 := lt_of_get hS1.1
    have hI0 : ApI K [⟨0, K⟩] [] (List.replicate K false) (.ms s1.length 0 0 0 2) (s1.length + 1) (s1 ++ [⟨[], 0, false, false⟩, ⟨List.replicate K (.sc (.bool false)), 0, false, false⟩]) := by
      have hv : ∀ l, isH l v1 → l < s1.length := fun l hl => by
        rcases hS1.2 with ⟨r, _⟩ | ⟨i, g, off, c, rfl, q2, q3, q4⟩
        · rw [r] at hl; exact absurd hl (isH_nil l)
        · rw [isH_ms hl]; exact lt_of_get q3
      refine ⟨v1, hS1.app _, ⟨List.replicate K (.sc (.bool false)), by simp, by simp, by simp [flatB, cB], by simp⟩, .inl (.inr ⟨s1.length, 0, 0, [], rfl, by simp, by simp, by simp [flatE, flatC]⟩), by omega, fun q => by have := hv _ q; omega, fun q => by have := isH_ms q; omega, fun q => by have := isH_ms q; omega, fun l q r => by have := hv _ q; have := isH_ms r; omega⟩
    have hP0 := ApP.start K (by omega)
    replace hI0 := Lib.hid hI0
    clear hS1
    repeat' (first
     | (with_reducible first | refine Stp.pf ?_ | refine block_x (by decide) ?_ | refine ret_n ?_)
     | refine tri_reg [39,41,107] ?_ | refine tri_regc [39,41,107] [] mixed (by decide +kernel) ?_
     | (refine rwf_nilt rfl (by decide +kernel) fun B hB => ?_; (try simp [*]); refine hB.out _ fun b => ?_; clear hB B)
     | (refine Rul.pf ⟨rfl, rfl⟩ fun B C hB => ?_; (try simp [*, -List.all_eq_true, Try.results3]); (try (simp (disch := first | assumption | omega) only [wc, ite_yes]; (try simp [*, -List.all_eq_true, Try.results3]))); first | (first | refine hB.out.1 _ (fun hb => ?_) fun hb => ⟨rfl, ?_⟩ | refine hB.out.1 _ (fun hb => ?_) fun hb => ?_) <;> clear hB C B <;> (try simp only [Bool.not_true, Bool.not_false] at hb) <;> (first | (exfalso; simp at hb; done) | (exfalso; simp at hb; omega) | (rw [hb]; (try simp at hb)) | (try simp at hb)) | ((first | refine hB.out.1 _ _ ?_ | refine hB.out.1 _ ?_ | refine hB.out.2 ⟨rfl, ?_⟩); clear hB C B) | (refine hB.out.2 _ ?_; clear hB C B; (try rfl)))
     | refine rwf_o ?_ | refine rwc_o .n rfl ?_ | refine rwc_o .z rfl ?_ | refine rwc_o .w rfl ?_ | refine rwc_o .b rfl ?_ | refine rwc_o _ rfl ?_)
    obtain ⟨o, ho⟩ : ∃ o, s1.length + 1 = o := ⟨_, rfl⟩
    refine tri_for [1, 2, 7, 8, 10] sizes.length (fun k_ e σ => e 11 = .sc (.int .i64 k_) ∧ ∃ vm es mine ol, e 9 = vm ∧ ApI K es mine ol vm o σ ∧ ApP K es mine ol ∧ mine.length ≤ k_) ?_ (fun j env' σ' hlt hk hI => ?_) (fun env' σ' hk hI => ?_)
    · refine ⟨by simp, _, _, _, _, by simp; rfl, ?_, hP0, by simp⟩
      rw [← ho]
      simpa using hI0.out
    · skip
      (try simp at hk)
      obtain ⟨h11, vm, es, mine, ol, h9, hI, hP, hml⟩ := hI
      clear hI0 hP0 h0
      have a1 := flatN_get sizes j hlt
      obtain ⟨u2, hu2⟩ := Int.eq_ofNat_of_zero_le (show 0 ≤ IntKind.u64.wrap sizes[j] by rw [IntKind.wrap_u64]; omega)
      have hmod2 : (u2 : Int).tmod 20 = ((u2 % 20 : Nat) : Int) := by rw [Int.tmod_eq_emod_of_nonneg (by omega)]; omega
      have hadd2 : (1 : Int) + ((u2 % 20 : Nat) : Int) = ((1 + u2 % 20 : Nat) : Int) := by omega
      have hu3 : u2 % 20 < 20 := by omega
      have hz1 : 1 ≤ 1 + u2 % 20 ∧ 1 + u2 % 20 ≤ 20 := by omega
      generalize u2 % 20 = um2 at *
      generalize hzz : 1 + um2 = z at *
      obtain ⟨v, hV⟩ := hI
      have hn1 := hP.norm
      have ql := qLargest hV.1 hn1 (by omega) []
      simp only [List.append_nil] at ql
      have qt := sTake_spec 0 K es z _ v hV.1 hn1 (by omega)
      refine tri_seq_k fun K0 hK0 => ?_
      repeat' (first
       | (with_reducible first | refine Stp.pf ?_ | refine block_x (by decide) ?_ | refine ret_n ?_)
       | refine tri_reg [39,41,107] ?_ | refine tri_regc [39,41,107] [] mixed (by decide +kernel) ?_
       | (refine rwf_nilt rfl (by decide +kernel) fun B hB => ?_; (try simp [*]); refine hB.out _ fun b => ?_; clear hB B)
       | (refine Rul.pf ⟨rfl, rfl⟩ fun B C hB => ?_; (try simp [*, -List.all_eq_true, Try.results3]); (try (simp (disch := first | assumption | omega) only [wc, ite_yes]; (try simp [*, -List.all_eq_true, Try.results3]))); first | (first | refine hB.out.1 _ (fun hb => ?_) fun hb => ⟨rfl, ?_⟩ | refine hB.out.1 _ (fun hb => ?_) fun hb => ?_) <;> clear hB C B <;> (try simp only [Bool.not_true, Bool.not_false] at hb) <;> (first | (exfalso; simp at hb; done) | (exfalso; simp at hb; omega) | (rw [hb]; (try simp at hb)) | (try simp at hb)) | ((first | refine hB.out.1 _ _ ?_ | refine hB.out.1 _ ?_ | refine hB.out.2 ⟨rfl, ?_⟩); clear hB C B) | (refine hB.out.2 _ ?_; clear hB C B; (try rfl)))
       | refine rwf_o ?_ | refine rwc_o .n rfl ?_ | refine rwc_o .z rfl ?_ | refine rwc_o .w rfl ?_ | refine rwc_o .b rfl ?_ | refine rwc_o _ rfl ?_)
      refine hK0 _ _ ?_
      clear hK0 K0
      refine tri_seq ?_
      refine tri_block ?_
      refine tri_seq_k fun K0 hK0 => ?_
      repeat' (first
       | (with_reducible first | refine Stp.pf ?_ | refine block_x (by decide) ?_ | refine ret_n ?_)
       | refine tri_reg [39,41,107] ?_ | refine tri_regc [39,41,107] [] mixed (by decide +kernel) ?_
       | (refine rwf_nilt rfl (by decide +kernel) fun B hB => ?_; (try simp [*]); refine hB.out _ fun b => ?_; clear hB B)
       | (refine Rul.pf ⟨rfl, rfl⟩ fun B C hB => ?_; (try simp [*, -List.all_eq_true, Try.results3]); (try (simp (disch := first | assumption | omega) only [wc, ite_yes]; (try simp [*, -List.all_eq_true, Try.results3]))); first | (first | refine hB.out.1 _ (fun hb => ?_) fun hb => ⟨rfl, ?_⟩ | refine hB.out.1 _ (fun hb => ?_) fun hb => ?_) <;> clear hB C B <;> (try simp only [Bool.not_true, Bool.not_false] at hb) <;> (first | (exfalso; simp at hb; done) | (exfalso; simp at hb; omega) | (rw [hb]; (try simp at hb)) | (try simp at hb)) | ((first | refine hB.out.1 _ _ ?_ | refine hB.out.1 _ ?_ | refine hB.out.2 ⟨rfl, ?_⟩); clear hB C B) | (refine hB.out.2 _ ?_; clear hB C B; (try rfl)))
       | refine rwf_o ?_ | refine rwc_o .n rfl ?_ | refine rwc_o .z rfl ?_ | refine rwc_o .w rfl ?_ | refine rwc_o .b rfl ?_ | refine rwc_o _ rfl ?_)
      refine hK0 _ _ ?_
      clear hK0 K0
      refine tri_seq_k fun K0 hK0 => ?_
      repeat' (first
       | (with_reducible first | refine Stp.pf ?_ | refine block_x (by decide) ?_ | refine ret_n ?_)
       | refine tri_reg [39,41,107] ?_ | refine tri_regc [39,41,107] [] mixed (by decide +kernel) ?_
       | (refine rwf_nilt rfl (by decide +kernel) fun B hB => ?_; (try simp [*]); refine hB.out _ fun b => ?_; clear hB B)
       | (refine Rul.pf ⟨rfl, rfl⟩ fun B C hB => ?_; (try simp [*, -List.all_eq_true, Try.results3]); (try (simp (disch := first | assumption | omega) only [wc, ite_yes]; (try simp [*, -List.all_eq_true, Try.results3]))); first | (first | refine hB.out.1 _ (fun hb => ?_) fun hb => ⟨rfl, ?_⟩ | refine hB.out.1 _ (fun hb => ?_) fun hb => ?_) <;> clear hB C B <;> (try simp only [Bool.not_true, Bool.not_false] at hb) <;> (first | (exfalso; simp at hb; done) | (exfalso; simp at hb; omega) | (rw [hb]; (try simp at hb)) | (try simp at hb)) | ((first | refine hB.out.1 _ _ ?_ | refine hB.out.1 _ ?_ | refine hB.out.2.1 _ _ _ (ql) ?_ | refine hB.out.2.2 _ _ _ (ql) ?_ | refine hB.out.2 ⟨rfl, ?_⟩); clear hB C B) | (refine hB.out.2 _ ?_; clear hB C B; (try rfl)))
       | refine rwf_o ?_ | refine rwc_o .n rfl ?_ | refine rwc_o .z rfl ?_ | refine rwc_o .w rfl ?_ | refine rwc_o .b rfl ?_ | refine rwc_o _ rfl ?_)
      refine hK0 _ _ ?_
      clear hK0 K0 ql
      refine tri_mid (fun e s => e 1 = .fs (flatN sizes) sizes.length ∧ e 2 = .fs (flatB back) back.length ∧ e 7 = .sc (.int .i64 K) ∧ e 8 = .mp 0 0 0 ∧ e 9 = vm ∧ e 10 = .ms o 0 0 K 1 ∧ e 11 = .sc (.int .i64 j) ∧ ApM K es mine ol vm o e s) (fun K0 hK0 => ?_) (fun E S hM => ?_)
      · have hbl := best_large (es := es) (k := z) (by omega)
        by_cases hb0 : (bestX es z).sz = 0
        · have hlz : ¬ (z : Int) ≤ largeX es := fun q => hbl.2 q hb0
          have htk : takeX es z = (⟨0, 0⟩, 9, es) := by unfold takeX; rw [if_neg (by omega), if_pos hb0]
          rw [htk] at qt
          clear hbl hb0 htk a1
          generalize largeX es = L at *
          repeat' (first
           | (with_reducible first | refine Stp.pf ?_ | refine block_x (by decide) ?_ | refine ret_n ?_)
           | refine tri_reg [39,41,107] ?_ | refine tri_regc [39,41,107] [] mixed (by decide +kernel) ?_
           | (refine rwf_nilt rfl (by decide +kernel) fun B hB => ?_; (try simp [*]); refine hB.out _ fun b => ?_; clear hB B)
           | (refine Rul.pf ⟨rfl, rfl⟩ fun B C hB => ?_; (try simp [*, -List.all_eq_true, cE, Try.results3]); (try (simp (disch := first | assumption | omega) only [wc, ite_yes]; (try simp [*, -List.all_eq_true, cE, Try.results3]))); first | (first | refine hB.out.1 _ (fun hb => ?_) fun hb => ⟨rfl, ?_⟩ | refine hB.out.1 _ (fun hb => ?_) fun hb => ?_) <;> clear hB C B <;> (try simp only [Bool.not_true, Bool.not_false] at hb) <;> (first | (exfalso; simp at hb; done) | (exfalso; simp at hb; omega) | (rw [hb]; (try simp at hb)) | (try simp at hb)) | ((first | refine hB.out.1 _ _ ?_ | refine hB.out.1 _ ?_ | refine hB.out.2 ⟨rfl, ?_⟩); clear hB C B) | (refine hB.out.2 _ ?_; clear hB C B; (try rfl)))
           | refine rwf_o ?_ | refine rwc_o .n rfl ?_ | refine rwc_o .z rfl ?_ | refine rwc_o .w rfl ?_ | refine rwc_o .b rfl ?_ | refine rwc_o _ rfl ?_)
          refine rwf_ca rfl fun C' hC hP => ?_
          clear hP
          (try simp [*, -List.all_eq_true, cE]); (try (simp (disch := first | assumption | omega) only [wrap_id, wrapu_id, wrapb_id, tmod_nn, tdiv_nn, ite_yes, flatM_seg, flatM_0, flatM_1, flatM_2, flatI_seg, flatI_0, flatI_1, flatS_get]; (try simp [*, -List.all_eq_true, cE])))
          refine hC.out _ _ _ (qt) fun r s2 hq => ?_
          clear hC C'
          obtain ⟨rfl, hst⟩ := hq
          clear qt
          have hI2 := hV.step hst
          have hM : ∀ e : Env, e 15 = .sc (.int .i64 9) → ApM K es mine ol vm o e s2 := fun e h => .inl ⟨h, hI2, hP⟩
          replace hM := Lib.hid hM
          clear hst hV hI2 hP hn1
          repeat' (first
           | (with_reducible first | refine Stp.pf ?_ | refine block_x (by decide) ?_ | refine ret_n ?_)
           | refine tri_reg [39,41,107] ?_ | refine tri_regc [39,41,107] [] mixed (by decide +kernel) ?_
           | (refine rwf_nilt rfl (by decide +kernel) fun B hB => ?_; (try simp [*]); refine hB.out _ fun b => ?_; clear hB B)
           | (refine Rul.pf ⟨rfl, rfl⟩ fun B C hB => ?_; (try simp [*, -List.all_eq_true, cE, Try.results3]); (try (simp (disch := first | assumption | omega) only [wc, ite_yes]; (try simp [*, -List.all_eq_true, cE, Try.results3]))); first | (first | refine hB.out.1 _ (fun hb => ?_) fun hb => ⟨rfl, ?_⟩ | refine hB.out.1 _ (fun hb => ?_) fun hb => ?_) <;> clear hB C B <;> (try simp only [Bool.not_true, Bool.not_false] at hb) <;> (first | (exfalso; simp at hb; done) | (exfalso; simp at hb; omega) | (rw [hb]; (try simp at hb)) | (try simp at hb)) | ((first | refine hB.out.1 _ _ ?_ | refine hB.out.1 _ ?_ | refine hB.out.2 ⟨rfl, ?_⟩); clear hB C B) | (refine hB.out.2 _ ?_; clear hB C B; (try rfl)))
           | refine rwf_o ?_ | refine rwc_o .n rfl ?_ | refine rwc_o .z rfl ?_ | refine rwc_o .w rfl ?_ | refine rwc_o .b rfl ?_ | refine rwc_o _ rfl ?_)
          refine hK0 _ _ ⟨by simp [*], by simp [*], by simp [*], by simp [*], by simp [*], by simp [*, ho], by simp [*], hM.out _ (by simp)⟩
        · have hlz : (z : Int) ≤ largeX es := hbl.1 hb0
          have htk : takeX es z = (⟨(bestX es z).lo, z⟩, 0, cutX es ⟨(bestX es z).lo, z⟩) := by unfold takeX; rw [if_neg (by omega), if_neg hb0]
          rw [htk] at qt
          obtain ⟨b1, b2⟩ := best_in hn1 (k := z) (by omega) hb0
          obtain ⟨a, ha⟩ := Int.eq_ofNat_of_zero_le b1.1
          have hlz2 : (bestX es z).lo = (a : Int) := ha
          obtain ⟨p1, p2⟩ := hP.take (x := ⟨(bestX es z).lo, z⟩) (a := a) (z := z) hlz2 rfl b1 b2
          have haz : a + z ≤ K := by have := b1.2.2; unfold xe at this; simp at this; omega
          clear hbl hb0 htk a1 b1 b2 ha
          generalize largeX es = L at *
          generalize (bestX es z).lo = lo at *
          repeat' (first
           | (with_reducible first | refine Stp.pf ?_ | refine block_x (by decide) ?_ | refine ret_n ?_)
           | refine tri_reg [39,41,107] ?_ | refine tri_regc [39,41,107] [] mixed (by decide +kernel) ?_
           | (refine rwf_nilt rfl (by decide +kernel) fun B hB => ?_; (try simp [*]); refine hB.out _ fun b => ?_; clear hB B)
           | (refine Rul.pf ⟨rfl, rfl⟩ fun B C hB => ?_; (try simp [*, -List.all_eq_true, cE, Try.results3]); (try (simp (disch := first | assumption | omega) only [wc, ite_yes]; (try simp [*, -List.all_eq_true, cE, Try.results3]))); first | (first | refine hB.out.1 _ (fun hb => ?_) fun hb => ⟨rfl, ?_⟩ | refine hB.out.1 _ (fun hb => ?_) fun hb => ?_) <;> clear hB C B <;> (try simp only [Bool.not_true, Bool.not_false] at hb) <;> (first | (exfalso; simp at hb; done) | (exfalso; simp at hb; omega) | (rw [hb]; (try simp at hb)) | (try simp at hb)) | ((first | refine hB.out.1 _ _ ?_ | refine hB.out.1 _ ?_ | refine hB.out.2 ⟨rfl, ?_⟩); clear hB C B) | (refine hB.out.2 _ ?_; clear hB C B; (try rfl)))
           | refine rwf_o ?_ | refine rwc_o .n rfl ?_ | refine rwc_o .z rfl ?_ | refine rwc_o .w rfl ?_ | refine rwc_o .b rfl ?_ | refine rwc_o _ rfl ?_)
          refine rwf_ca rfl fun C' hC hP => ?_
          clear hP
          (try simp [*, -List.all_eq_true, cE]); (try (simp (disch := first | assumption | omega) only [wrap_id, wrapu_id, wrapb_id, tmod_nn, tdiv_nn, ite_yes, flatM_seg, flatM_0, flatM_1, flatM_2, flatI_seg, flatI_0, flatI_1, flatS_get]; (try simp [*, -List.all_eq_true, cE])))
          refine hC.out _ _ _ (qt) fun r s2 hq => ?_
          clear hC C'
          obtain ⟨rfl, hst⟩ := hq
          clear qt
          have hI2 := hV.step hst
          have hM : ∀ e : Env, e 14 = .fp (cE ⟨lo, z⟩) 0 → e 15 = .sc (.int .i64 0) → ApM K es mine ol vm o e s2 := fun e h h' => .inr ⟨⟨lo, z⟩, a, z, _, h, h', hlz2, rfl, haz, hI2, p1, p2⟩
          replace hM := Lib.hid hM
          clear hst hV hI2 hP hn1 p1 p2
          repeat' (first
           | (with_reducible first | refine Stp.pf ?_ | refine block_x (by decide) ?_ | refine ret_n ?_)
           | refine tri_reg [39,41,107] ?_ | refine tri_regc [39,41,107] [] mixed (by decide +kernel) ?_
           | (refine rwf_nilt rfl (by decide +kernel) fun B hB => ?_; (try simp [*]); refine hB.out _ fun b => ?_; clear hB B)
           | (refine Rul.pf ⟨rfl, rfl⟩ fun B C hB => ?_; (try simp [*, -List.all_eq_true, cE, Try.results3]); (try (simp (disch := first | assumption | omega) only [wc, ite_yes]; (try simp [*, -List.all_eq_true, cE, Try.results3]))); first | (first | refine hB.out.1 _ (fun hb => ?_) fun hb => ⟨rfl, ?_⟩ | refine hB.out.1 _ (fun hb => ?_) fun hb => ?_) <;> clear hB C B <;> (try simp only [Bool.not_true, Bool.not_false] at hb) <;> (first | (exfalso; simp at hb; done) | (exfalso; simp at hb; omega) | (rw [hb]; (try simp at hb)) | (try simp at hb)) | ((first | refine hB.out.1 _ _ ?_ | refine hB.out.1 _ ?_ | refine hB.out.2 ⟨rfl, ?_⟩); clear hB C B) | (refine hB.out.2 _ ?_; clear hB C B; (try rfl)))
           | refine rwf_o ?_ | refine rwc_o .n rfl ?_ | refine rwc_o .z rfl ?_ | refine rwc_o .w rfl ?_ | refine rwc_o .b rfl ?_ | refine rwc_o _ rfl ?_)
          refine hK0 _ _ ⟨by simp [*], by simp [*], by simp [*], by simp [*], by simp [*], by simp [*, ho], by simp [*], hM.out _ (by simp [cE, hlz2]) (by simp)⟩
      · clear hP a1 hu2 hmod2 hu3 hzz hadd2 hz1 hV hn1 qt h9 h11
        obtain ⟨g1, g2, g7, g8, g9, g10, g11, hM⟩ := hM
        refine tri_cut (fun e s => e 1 = .fs (flatN sizes) sizes.length ∧ e 2 = .fs (flatB back) back.length ∧ e 7 = .sc (.int .i64 K) ∧ e 8 = .mp 0 0 0 ∧ e 10 = .ms o 0 0 K 1 ∧ e 11 = .sc (.int .i64 j) ∧ ∃ vm es mine ol, e 9 = vm ∧ ApI K es mine ol vm o s ∧ ApP K es mine ol ∧ mine.length ≤ j + 1) ?_ (fun E S hM => ?_)
        · rcases hM with ⟨m1, m2, m3⟩ | ⟨w, a, t, es2, m1, m2, m3, m4, m5, m6, m7, m8⟩
          · skip
            repeat' (first
             | (with_reducible first | refine Stp.pf ?_ | refine block_x (by decide) ?_ | refine ret_n ?_)
             | refine tri_reg [39,41,107] ?_ | refine tri_regc [39,41,107] [] mixed (by decide +kernel) ?_
             | (refine rwf_nilt rfl (by decide +kernel) fun B hB => ?_; (try simp [*]); refine hB.out _ fun b => ?_; clear hB B)
             | (refine Rul.pf ⟨rfl, rfl⟩ fun B C hB => ?_; (try simp [*, -List.all_eq_true, Try.results3]); (try (simp (disch := first | assumption | omega) only [wc, ite_yes]; (try simp [*, -List.all_eq_true, Try.results3]))); first | (first | refine hB.out.1 _ (fun hb => ?_) fun hb => ⟨rfl, ?_⟩ | refine hB.out.1 _ (fun hb => ?_) fun hb => ?_) <;> clear hB C B <;> (try simp only [Bool.not_true, Bool.not_false] at hb) <;> (first | (exfalso; simp at hb; done) | (exfalso; simp at hb; omega) | (rw [hb]; (try simp at hb)) | (try simp at hb)) | ((first | refine hB.out.1 _ _ ?_ | refine hB.out.1 _ ?_ | refine hB.out.2 ⟨rfl, ?_⟩); clear hB C B) | (refine hB.out.2 _ ?_; clear hB C B; (try rfl)))
             | refine rwf_o ?_ | refine rwc_o .n rfl ?_ | refine rwc_o .z rfl ?_ | refine rwc_o .w rfl ?_ | refine rwc_o .b rfl ?_ | refine rwc_o _ rfl ?_)
            exact ⟨by simp [*], by simp [*], by simp [*], by simp [*], by simp [*], by simp [*], vm, es, mine, ol, by simp [*], m2, m3, by omega⟩
          · have hcw : cE w = [.sc (.int .i64 a), .sc (.int .i64 t)] := by unfold cE; rw [m3, m4]
            rw [hcw] at m1
            have hend : (a : Int) + (t : Int) = ((a + t : Nat) : Int) := by omega
            have hn2 := m7.norm
            have hI0 : Hid (ApI K es2 mine (setsB ol a true 0) vm o S) := Lib.hid m6
            have hlen : ol.length = K := by have := m7.len; simpa using this
            clear m3 m4 m6
            repeat' (first
             | (with_reducible first | refine Stp.pf ?_ | refine block_x (by decide) ?_ | refine ret_n ?_)
             | refine tri_reg [39,41,107] ?_ | refine tri_regc [39,41,107] [] mixed (by decide +kernel) ?_
             | (refine rwf_nilt rfl (by decide +kernel) fun B hB => ?_; (try simp [*]); refine hB.out _ fun b => ?_; clear hB B)
             | (refine Rul.pf ⟨rfl, rfl⟩ fun B C hB => ?_; (try simp [*, -List.all_eq_true, Try.results3]); (try (simp (disch := first | assumption | omega) only [wc, ite_yes]; (try simp [*, -List.all_eq_true, Try.results3]))); first | (first | refine hB.out.1 _ (fun hb => ?_) fun hb => ⟨rfl, ?_⟩ | refine hB.out.1 _ (fun hb => ?_) fun hb => ?_) <;> clear hB C B <;> (try simp only [Bool.not_true, Bool.not_false] at hb) <;> (first | (exfalso; simp at hb; done) | (exfalso; simp at hb; omega) | (rw [hb]; (try simp at hb)) | (try simp at hb)) | ((first | refine hB.out.1 _ _ ?_ | refine hB.out.1 _ ?_ | refine hB.out.2 ⟨rfl, ?_⟩); clear hB C B) | (refine hB.out.2 _ ?_; clear hB C B; (try rfl)))
             | refine rwf_o ?_ | refine rwc_o .n rfl ?_ | refine rwc_o .z rfl ?_ | refine rwc_o .w rfl ?_ | refine rwc_o .b rfl ?_ | refine rwc_o _ rfl ?_)
            refine tri_for [1, 2, 7, 8, 9, 10, 11, 12, 13, 14, 15] t (fun k e σ => e 16 = .sc (.int .i64 (a + k : Nat)) ∧ ApI K es2 mine (setsB ol a true k) vm o σ) ?_ (fun k env' σ' hlt hk hI => ?_) (fun env' σ' hk hI => ?_)
            · exact ⟨by simp, hI0.out⟩
            · skip
              (try simp at hk)
              obtain ⟨h16, v, hV⟩ := hI
              clear hI0
              have hb : a + k < K := by omega
              have hof : (setsB ol a true k)[a + k]? = some false := by rw [setsB_get _ _ _ _ _ (by omega), if_neg (by omega)]; exact (m8 (a + k) (by omega) (by omega)).1
              obtain ⟨c, c1, c2, c3, c4⟩ := hV.2.1.get hb
              rw [hof] at c4
              simp only [Nat.zero_add, Option.getD_some] at c2 c3 c4
              have hset := hV.setO c1 (a + k) true
              have qh := qHas hV.1 hn2 (by omega) ((a + k : Nat) : Int) []
              rw [(m8 (a + k) (by omega) (by omega)).2] at qh
              simp only [List.append_nil] at qh
              have hnx : Hid (ApI K es2 mine (setsB ol a true (k + 1)) vm o (List.set σ' o ⟨c.set (a + k) (.sc (.bool true)), 0, false, false⟩)) := Lib.hid ⟨v, hset⟩
              clear hset hV hof m7 m8
              have hlt2 : ((a + k : Nat) : Int) < ((a + t : Nat) : Int) := by omega
              have hlt3 : ((a + k : Nat) : Int) < (K : Int) := by omega
              have hqn : ((a + k : Nat) : Int) + 1 = ((a + (k + 1) : Nat) : Int) := by omega
              generalize a + (k + 1) = q1 at *
              generalize a + k = q at *
              generalize a + t = q2 at *
              repeat' (first
               | (with_reducible first | refine Stp.pf ?_ | refine block_x (by decide) ?_ | refine ret_n ?_)
               | refine tri_reg [39,41,107] ?_ | refine tri_regc [39,41,107] [] mixed (by decide +kernel) ?_
               | (refine rwf_nilt rfl (by decide +kernel) fun B hB => ?_; (try simp [*]); refine hB.out _ fun b => ?_; clear hB B)
               | (refine Rul.pf ⟨rfl, rfl⟩ fun B C hB => ?_; (try simp [*, -List.all_eq_true, Try.results3]); (try (simp (disch := first | assumption | omega) only [wc, ite_yes]; (try simp [*, -List.all_eq_true, Try.results3]))); first | (first | refine hB.out.1 _ (fun hb => ?_) fun hb => ⟨rfl, ?_⟩ | refine hB.out.1 _ (fun hb => ?_) fun hb => ?_) <;> clear hB C B <;> (try simp only [Bool.not_true, Bool.not_false] at hb) <;> (first | (exfalso; simp at hb; done) | (exfalso; simp at hb; omega) | (rw [hb]; (try simp at hb)) | (try simp at hb)) | ((first | refine hB.out.1 _ _ ?_ | refine hB.out.1 _ ?_ | refine hB.out.2.1 _ _ _ (qh) ?_ | refine hB.out.2.2 _ _ _ (qh) ?_ | refine hB.out.2 ⟨rfl, ?_⟩); clear hB C B) | (refine hB.out.2 _ ?_; clear hB C B; (try rfl)))
               | refine rwf_o ?_ | refine rwc_o .n rfl ?_ | refine rwc_o .z rfl ?_ | refine rwc_o .w rfl ?_ | refine rwc_o .b rfl ?_ | refine rwc_o _ rfl ?_)
              exact ⟨by simp [*], by simp, hnx.out⟩
            · skip
              (try simp at hk)
              obtain ⟨h16, v, hV⟩ := hI
              clear hI0
              have hnl : ¬ ((a + t : Nat) : Int) < (a + t : Nat) := by omega
              generalize a + t = q2 at *
              rcases hV.2.2.1 with o1 | ⟨ad, rfl, rfl⟩
              · skip
                repeat' (first
                 | (with_reducible first | refine Stp.pf ?_ | refine block_x (by decide) ?_ | refine ret_n ?_)
                 | refine tri_reg [39,41,107] ?_ | refine tri_regc [39,41,107] [] mixed (by decide +kernel) ?_
                 | (refine rwf_nilt rfl (by decide +kernel) fun B hB => ?_; (try simp [*]); refine hB.out _ fun b => ?_; clear hB B)
                 | (refine Rul.pf ⟨rfl, rfl⟩ fun B C hB => ?_; (try simp [*, -List.all_eq_true, Try.results3]); (try (simp (disch := first | assumption | omega) only [wc, ite_yes]; (try simp [*, -List.all_eq_true, Try.results3]))); first | (first | refine hB.out.1 _ (fun hb => ?_) fun hb => ⟨rfl, ?_⟩ | refine hB.out.1 _ (fun hb => ?_) fun hb => ?_) <;> clear hB C B <;> (try simp only [Bool.not_true, Bool.not_false] at hb) <;> (first | (exfalso; simp at hb; done) | (exfalso; simp at hb; omega) | (rw [hb]; (try simp at hb)) | (try simp at hb)) | ((first | refine hB.out.1 _ _ ?_ | refine hB.out.1 _ ?_ | refine hB.out.2 ⟨rfl, ?_⟩); clear hB C B) | (refine hB.out.2 _ ?_; clear hB C B; (try rfl)))
                 | refine rwf_o ?_ | refine rwc_o .n rfl ?_ | refine rwc_o .z rfl ?_ | refine rwc_o .w rfl ?_ | refine rwc_o .b rfl ?_ | refine rwc_o _ rfl ?_)
                refine rwf_app rfl rfl elem33 zero31 rfl bytes31 (by decide) slc33 fun G hG => ?_
                (try simp [*, -List.all_eq_true])
                refine hG.out _ _ _ _ _ (o1) (by simp) (by simp) (by omega) fun v1 σ1 q1 q2 => ?_
                clear hG G
                have hI1 : Hid (ApI K es2 (mine ++ [w]) (setsB ol a true t) v1 o σ1) := Lib.hid ⟨v, hV.app (by rw [hcw]; exact q1) q2⟩
                clear q1 q2 hV o1
                repeat' (first
                 | (with_reducible first | refine Stp.pf ?_ | refine block_x (by decide) ?_ | refine ret_n ?_)
                 | refine tri_reg [39,41,107] ?_ | refine tri_regc [39,41,107] [] mixed (by decide +kernel) ?_
                 | (refine rwf_nilt rfl (by decide +kernel) fun B hB => ?_; (try simp [*]); refine hB.out _ fun b => ?_; clear hB B)
                 | (refine Rul.pf ⟨rfl, rfl⟩ fun B C hB => ?_; (try simp [*, -List.all_eq_true, Try.results3]); (try (simp (disch := first | assumption | omega) only [wc, ite_yes]; (try simp [*, -List.all_eq_true, Try.results3]))); first | (first | refine hB.out.1 _ (fun hb => ?_) fun hb => ⟨rfl, ?_⟩ | refine hB.out.1 _ (fun hb => ?_) fun hb => ?_) <;> clear hB C B <;> (try simp only [Bool.not_true, Bool.not_false] at hb) <;> (first | (exfalso; simp at hb; done) | (exfalso; simp at hb; omega) | (rw [hb]; (try simp at hb)) | (try simp at hb)) | ((first | refine hB.out.1 _ _ ?_ | refine hB.out.1 _ ?_ | refine hB.out.2 ⟨rfl, ?_⟩); clear hB C B) | (refine hB.out.2 _ ?_; clear hB C B; (try rfl)))
                 | refine rwf_o ?_ | refine rwc_o .n rfl ?_ | refine rwc_o .z rfl ?_ | refine rwc_o .w rfl ?_ | refine rwc_o .b rfl ?_ | refine rwc_o _ rfl ?_)
                exact ⟨by simp [*], by simp [*], by simp [*], by simp [*], by simp [*], by simp [*], v1, es2, mine ++ [w], _, by simp [*], hI1.out, m7, by simp; omega⟩
              · have hI1 : Hid (ApI K es2 ([] ++ [w]) (setsB ol a true t) (.ms σ'.length 0 0 1 2) o (σ' ++ [⟨[.sc (.int .i64 a), .sc (.int .i64 t)], 0, false, false⟩])) := Lib.hid ⟨v, hV.app (.inr ⟨σ'.length, 0, 0, [.sc (.int .i64 a), .sc (.int .i64 t)], rfl, by simp, by simp, by rw [hcw]; simp [flatE, flatC]⟩) ⟨fun l o ho _ => get_app ho, fun l hl => .inr (by have := isH_ms hl; omega), by simp⟩⟩
                clear hV
                repeat' (first
                 | (with_reducible first | refine Stp.pf ?_ | refine block_x (by decide) ?_ | refine ret_n ?_)
                 | refine tri_reg [39,41,107] ?_ | refine tri_regc [39,41,107] [] mixed (by decide +kernel) ?_
                 | (refine rwf_nilt rfl (by decide +kernel) fun B hB => ?_; (try simp [*]); refine hB.out _ fun b => ?_; clear hB B)
                 | (refine Rul.pf ⟨rfl, rfl⟩ fun B C hB => ?_; (try simp [*, -List.all_eq_true, Try.results3]); (try (simp (disch := first | assumption | omega) only [wc, ite_yes]; (try simp [*, -List.all_eq_true, Try.results3]))); first | (first | refine hB.out.1 _ (fun hb => ?_) fun hb => ⟨rfl, ?_⟩ | refine hB.out.1 _ (fun hb => ?_) fun hb => ?_) <;> clear hB C B <;> (try simp only [Bool.not_true, Bool.not_false] at hb) <;> (first | (exfalso; simp at hb; done) | (exfalso; simp at hb; omega) | (rw [hb]; (try simp at hb)) | (try simp at hb)) | ((first | refine hB.out.1 _ _ ?_ | refine hB.out.1 _ ?_ | refine hB.out.2 ⟨rfl, ?_⟩); clear hB C B) | (refine hB.out.2 _ ?_; clear hB C B; (try rfl)))
                 | refine rwf_o ?_ | refine rwc_o .n rfl ?_ | refine rwc_o .z rfl ?_ | refine rwc_o .w rfl ?_ | refine rwc_o .b rfl ?_ | refine rwc_o _ rfl ?_)
                exact ⟨by simp [*], by simp [*], by simp [*], by simp [*], by simp [*], by simp [*], _, es2, [] ++ [w], _, by simp, hI1.out, m7, by simp⟩
        · clear g1 g2 g7 g8 g9 g10 g11 hml
          obtain ⟨g1, g2, g7, g8, g10, g11, vm, es, mine, ol, g9, ⟨v, hV⟩, hP, hml⟩ := hM
          refine tri_cut (fun e s => e 1 = .fs (flatN sizes) sizes.length ∧ e 2 = .fs (flatB back) back.length ∧ e 7 = .sc (.int .i64 K) ∧ e 8 = .mp 0 0 0 ∧ e 10 = .ms o 0 0 K 1 ∧ e 11 = .sc (.int .i64 j) ∧ ∃ vm es mine ol, e 9 = vm ∧ ApI K es mine ol vm o s ∧ ApP K es mine ol ∧ mine.length ≤ j + 1) ?_ (fun E S hM => ?_)
          · have hI : Hid (ApI K es mine ol vm o S) := Lib.hid ⟨v, hV⟩
            refine tri_seq_k fun K1 hK1 => ?_
            by_cases hjb : j < back.length
            · have hbj := flatB_get back j hjb
              cases hbk : back[j] with
              | false =>
                rw [hbk] at hbj
                clear hV
                repeat' (first
                 | (with_reducible first | refine Stp.pf ?_ | refine block_x (by decide) ?_ | refine ret_n ?_)
                 | refine tri_reg [39,41,107] ?_ | refine tri_regc [39,41,107] [] mixed (by decide +kernel) ?_
                 | (refine rwf_nilt rfl (by decide +kernel) fun B hB => ?_; (try simp [*]); refine hB.out _ fun b => ?_; clear hB B)
                 | (refine Rul.pf ⟨rfl, rfl⟩ fun B C hB => ?_; (try simp [*, -List.all_eq_true, Try.results3]); (try (simp (disch := first | assumption | omega) only [wc, ite_yes]; (try simp [*, -List.all_eq_true, Try.results3]))); first | (first | refine hB.out.1 _ (fun hb => ?_) fun hb => ⟨rfl, ?_⟩ | refine hB.out.1 _ (fun hb => ?_) fun hb => ?_) <;> clear hB C B <;> (try simp only [Bool.not_true, Bool.not_false] at hb) <;> (first | (exfalso; simp at hb; done) | (exfalso; simp at hb; omega) | (rw [hb]; (try simp at hb)) | (try simp at hb)) | ((first | refine hB.out.1 _ _ ?_ | refine hB.out.1 _ ?_ | refine hB.out.2 ⟨rfl, ?_⟩); clear hB C B) | (refine hB.out.2 _ ?_; clear hB C B; (try rfl)))
                 | refine rwf_o ?_ | refine rwc_o .n rfl ?_ | refine rwc_o .z rfl ?_ | refine rwc_o .w rfl ?_ | refine rwc_o .b rfl ?_ | refine rwc_o _ rfl ?_)
                refine hK1 _ _ ?_
                clear hK1 K1
                repeat' (first
                 | (with_reducible first | refine Stp.pf ?_ | refine block_x (by decide) ?_ | refine ret_n ?_)
                 | refine tri_reg [39,41,107] ?_ | refine tri_regc [39,41,107] [] mixed (by decide +kernel) ?_
                 | (refine rwf_nilt rfl (by decide +kernel) fun B hB => ?_; (try simp [*]); refine hB.out _ fun b => ?_; clear hB B)
                 | (refine Rul.pf ⟨rfl, rfl⟩ fun B C hB => ?_; (try simp [*, -List.all_eq_true, Try.results3]); (try (simp (disch := first | assumption | omega) only [wc, ite_yes]; (try simp [*, -List.all_eq_true, Try.results3]))); first | (first | refine hB.out.1 _ (fun hb => ?_) fun hb => ⟨rfl, ?_⟩ | refine hB.out.1 _ (fun hb => ?_) fun hb => ?_) <;> clear hB C B <;> (try simp only [Bool.not_true, Bool.not_false] at hb) <;> (first | (exfalso; simp at hb; done) | (exfalso; simp at hb; omega) | (rw [hb]; (try simp at hb)) | (try simp at hb)) | ((first | refine hB.out.1 _ _ ?_ | refine hB.out.1 _ ?_ | refine hB.out.2 ⟨rfl, ?_⟩); clear hB C B) | (refine hB.out.2 _ ?_; clear hB C B; (try rfl)))
                 | refine rwf_o ?_ | refine rwc_o .n rfl ?_ | refine rwc_o .z rfl ?_ | refine rwc_o .w rfl ?_ | refine rwc_o .b rfl ?_ | refine rwc_o _ rfl ?_)
                exact ⟨by simp [*], by simp [*], by simp [*], by simp [*], by simp [*], by simp [*], vm, es, mine, ol, by simp [*], hI.out, hP, hml⟩
              | true =>
                rw [hbk] at hbj
                cases mine with
                | nil =>
                  have hlen0 : ∃ w, vm = w ∧ (w = .sc (.slice none 0 0) ∨ (∃ i g off, w = .ms i g off 0 2) ∨ ∃ a, w = .sc (.slice (some a) 0 0)) := by
                    rcases hV.2.2.1 with (⟨q, _, _⟩ | ⟨i, g, off, c, q, _⟩) | ⟨a, q, _⟩
                    · exact ⟨_, q, .inl rfl⟩
                    · exact ⟨_, q, .inr (.inl ⟨i, g, off, rfl⟩)⟩
                    · exact ⟨_, q, .inr (.inr ⟨a, rfl⟩)⟩
                  obtain ⟨w, rfl, hw⟩ := hlen0
                  have hR : ∀ e : Env, e 1 = .fs (flatN sizes) sizes.length → e 2 = .fs (flatB back) back.length → e 7 = .sc (.int .i64 K) → e 8 = .mp 0 0 0 → e 10 = .ms o 0 0 K 1 → e 11 = .sc (.int .i64 j) → e 9 = vm → (e 1 = .fs (flatN sizes) sizes.length ∧ e 2 = .fs (flatB back) back.length ∧ e 7 = .sc (.int .i64 K) ∧ e 8 = .mp 0 0 0 ∧ e 10 = .ms o 0 0 K 1 ∧ e 11 = .sc (.int .i64 j) ∧ ∃ vm es mine ol, e 9 = vm ∧ ApI K es mine ol vm o S ∧ ApP K es mine ol ∧ mine.length ≤ j + 1) := fun e a1 a2 a3 a4 a5 a6 a7 => ⟨a1, a2, a3, a4, a5, a6, vm, es, [], ol, a7, hI.out, hP, hml⟩
                  replace hR := Lib.hid hR
                  clear hV hI
                  rcases hw with rfl | ⟨i, g, off, rfl⟩ | ⟨ad, rfl⟩
                  · skip
                    repeat' (first
                     | (with_reducible first | refine Stp.pf ?_ | refine block_x (by decide) ?_ | refine ret_n ?_)
                     | refine tri_reg [39,41,107] ?_ | refine tri_regc [39,41,107] [] mixed (by decide +kernel) ?_
                     | (refine rwf_nilt rfl (by decide +kernel) fun B hB => ?_; (try simp [*]); refine hB.out _ fun b => ?_; clear hB B)
                     | (refine Rul.pf ⟨rfl, rfl⟩ fun B C hB => ?_; (try simp [*, -List.all_eq_true, Try.results3]); (try (simp (disch := first | assumption | omega) only [wc, ite_yes]; (try simp [*, -List.all_eq_true, Try.results3]))); first | (first | refine hB.out.1 _ (fun hb => ?_) fun hb => ⟨rfl, ?_⟩ | refine hB.out.1 _ (fun hb => ?_) fun hb => ?_) <;> clear hB C B <;> (try simp only [Bool.not_true, Bool.not_false] at hb) <;> (first | (exfalso; simp at hb; done) | (exfalso; simp at hb; omega) | (rw [hb]; (try simp at hb)) | (try simp at hb)) | ((first | refine hB.out.1 _ _ ?_ | refine hB.out.1 _ ?_ | refine hB.out.2 ⟨rfl, ?_⟩); clear hB C B) | (refine hB.out.2 _ ?_; clear hB C B; (try rfl)))
                     | refine rwf_o ?_ | refine rwc_o .n rfl ?_ | refine rwc_o .z rfl ?_ | refine rwc_o .w rfl ?_ | refine rwc_o .b rfl ?_ | refine rwc_o _ rfl ?_)
                    refine hK1 _ _ ?_
                    clear hK1 K1
                    repeat' (first
                     | (with_reducible first | refine Stp.pf ?_ | refine block_x (by decide) ?_ | refine ret_n ?_)
                     | refine tri_reg [39,41,107] ?_ | refine tri_regc [39,41,107] [] mixed (by decide +kernel) ?_
                     | (refine rwf_nilt rfl (by decide +kernel) fun B hB => ?_; (try simp [*]); refine hB.out _ fun b => ?_; clear hB B)
                     | (refine Rul.pf ⟨rfl, rfl⟩ fun B C hB => ?_; (try simp [*, -List.all_eq_true, Try.results3]); (try (simp (disch := first | assumption | omega) only [wc, ite_yes]; (try simp [*, -List.all_eq_true, Try.results3]))); first | (first | refine hB.out.1 _ (fun hb => ?_) fun hb => ⟨rfl, ?_⟩ | refine hB.out.1 _ (fun hb => ?_) fun hb => ?_) <;> clear hB C B <;> (try simp only [Bool.not_true, Bool.not_false] at hb) <;> (first | (exfalso; simp at hb; done) | (exfalso; simp at hb; omega) | (rw [hb]; (try simp at hb)) | (try simp at hb)) | ((first | refine hB.out.1 _ _ ?_ | refine hB.out.1 _ ?_ | refine hB.out.2 ⟨rfl, ?_⟩); clear hB C B) | (refine hB.out.2 _ ?_; clear hB C B; (try rfl)))
                     | refine rwf_o ?_ | refine rwc_o .n rfl ?_ | refine rwc_o .z rfl ?_ | refine rwc_o .w rfl ?_ | refine rwc_o .b rfl ?_ | refine rwc_o _ rfl ?_)
                    exact hR.out _ (by simp [*]) (by simp [*]) (by simp [*]) (by simp [*]) (by simp [*]) (by simp [*]) (by simp [*])
                  · skip
                    repeat' (first
                     | (with_reducible first | refine Stp.pf ?_ | refine block_x (by decide) ?_ | refine ret_n ?_)
                     | refine tri_reg [39,41,107] ?_ | refine tri_regc [39,41,107] [] mixed (by decide +kernel) ?_
                     | (refine rwf_nilt rfl (by decide +kernel) fun B hB => ?_; (try simp [*]); refine hB.out _ fun b => ?_; clear hB B)
                     | (refine Rul.pf ⟨rfl, rfl⟩ fun B C hB => ?_; (try simp [*, -List.all_eq_true, Try.results3]); (try (simp (disch := first | assumption | omega) only [wc, ite_yes]; (try simp [*, -List.all_eq_true, Try.results3]))); first | (first | refine hB.out.1 _ (fun hb => ?_) fun hb => ⟨rfl, ?_⟩ | refine hB.out.1 _ (fun hb => ?_) fun hb => ?_) <;> clear hB C B <;> (try simp only [Bool.not_true, Bool.not_false] at hb) <;> (first | (exfalso; simp at hb; done) | (exfalso; simp at hb; omega) | (rw [hb]; (try simp at hb)) | (try simp at hb)) | ((first | refine hB.out.1 _ _ ?_ | refine hB.out.1 _ ?_ | refine hB.out.2 ⟨rfl, ?_⟩); clear hB C B) | (refine hB.out.2 _ ?_; clear hB C B; (try rfl)))
                     | refine rwf_o ?_ | refine rwc_o .n rfl ?_ | refine rwc_o .z rfl ?_ | refine rwc_o .w rfl ?_ | refine rwc_o .b rfl ?_ | refine rwc_o _ rfl ?_)
                    refine hK1 _ _ ?_
                    clear hK1 K1
                    repeat' (first
                     | (with_reducible first | refine Stp.pf ?_ | refine block_x (by decide) ?_ | refine ret_n ?_)
                     | refine tri_reg [39,41,107] ?_ | refine tri_regc [39,41,107] [] mixed (by decide +kernel) ?_
                     | (refine rwf_nilt rfl (by decide +kernel) fun B hB => ?_; (try simp [*]); refine hB.out _ fun b => ?_; clear hB B)
                     | (refine Rul.pf ⟨rfl, rfl⟩ fun B C hB => ?_; (try simp [*, -List.all_eq_true, Try.results3]); (try (simp (disch := first | assumption | omega) only [wc, ite_yes]; (try simp [*, -List.all_eq_true, Try.results3]))); first | (first | refine hB.out.1 _ (fun hb => ?_) fun hb => ⟨rfl, ?_⟩ | refine hB.out.1 _ (fun hb => ?_) fun hb => ?_) <;> clear hB C B <;> (try simp only [Bool.not_true, Bool.not_false] at hb) <;> (first | (exfalso; simp at hb; done) | (exfalso; simp at hb; omega) | (rw [hb]; (try simp at hb)) | (try simp at hb)) | ((first | refine hB.out.1 _ _ ?_ | refine hB.out.1 _ ?_ | refine hB.out.2 ⟨rfl, ?_⟩); clear hB C B) | (refine hB.out.2 _ ?_; clear hB C B; (try rfl)))
                     | refine rwf_o ?_ | refine rwc_o .n rfl ?_ | refine rwc_o .z rfl ?_ | refine rwc_o .w rfl ?_ | refine rwc_o .b rfl ?_ | refine rwc_o _ rfl ?_)
                    exact hR.out _ (by simp [*]) (by simp [*]) (by simp [*]) (by simp [*]) (by simp [*]) (by simp [*]) (by simp [*])
                  · skip
                    repeat' (first
                     | (with_reducible first | refine Stp.pf ?_ | refine block_x (by decide) ?_ | refine ret_n ?_)
                     | refine tri_reg [39,41,107] ?_ | refine tri_regc [39,41,107] [] mixed (by decide +kernel) ?_
                     | (refine rwf_nilt rfl (by decide +kernel) fun B hB => ?_; (try simp [*]); refine hB.out _ fun b => ?_; clear hB B)
                     | (refine Rul.pf ⟨rfl, rfl⟩ fun B C hB => ?_; (try simp [*, -List.all_eq_true, Try.results3]); (try (simp (disch := first | assumption | omega) only [wc, ite_yes]; (try simp [*, -List.all_eq_true, Try.results3]))); first | (first | refine hB.out.1 _ (fun hb => ?_) fun hb => ⟨rfl, ?_⟩ | refine hB.out.1 _ (fun hb => ?_) fun hb => ?_) <;> clear hB C B <;> (try simp only [Bool.not_true, Bool.not_false] at hb) <;> (first | (exfalso; simp at hb; done) | (exfalso; simp at hb; omega) | (rw [hb]; (try simp at hb)) | (try simp at hb)) | ((first | refine hB.out.1 _ _ ?_ | refine hB.out.1 _ ?_ | refine hB.out.2 ⟨rfl, ?_⟩); clear hB C B) | (refine hB.out.2 _ ?_; clear hB C B; (try rfl)))
                     | refine rwf_o ?_ | refine rwc_o .n rfl ?_ | refine rwc_o .z rfl ?_ | refine rwc_o .w rfl ?_ | refine rwc_o .b rfl ?_ | refine rwc_o _ rfl ?_)
                    refine hK1 _ _ ?_
                    clear hK1 K1
                    repeat' (first
                     | (with_reducible first | refine Stp.pf ?_ | refine block_x (by decide) ?_ | refine ret_n ?_)
                     | refine tri_reg [39,41,107] ?_ | refine tri_regc [39,41,107] [] mixed (by decide +kernel) ?_
                     | (refine rwf_nilt rfl (by decide +kernel) fun B hB => ?_; (try simp [*]); refine hB.out _ fun b => ?_; clear hB B)
                     | (refine Rul.pf ⟨rfl, rfl⟩ fun B C hB => ?_; (try simp [*, -List.all_eq_true, Try.results3]); (try (simp (disch := first | assumption | omega) only [wc, ite_yes]; (try simp [*, -List.all_eq_true, Try.results3]))); first | (first | refine hB.out.1 _ (fun hb => ?_) fun hb => ⟨rfl, ?_⟩ | refine hB.out.1 _ (fun hb => ?_) fun hb => ?_) <;> clear hB C B <;> (try simp only [Bool.not_true, Bool.not_false] at hb) <;> (first | (exfalso; simp at hb; done) | (exfalso; simp at hb; omega) | (rw [hb]; (try simp at hb)) | (try simp at hb)) | ((first | refine hB.out.1 _ _ ?_ | refine hB.out.1 _ ?_ | refine hB.out.2 ⟨rfl, ?_⟩); clear hB C B) | (refine hB.out.2 _ ?_; clear hB C B; (try rfl)))
                     | refine rwf_o ?_ | refine rwc_o .n rfl ?_ | refine rwc_o .z rfl ?_ | refine rwc_o .w rfl ?_ | refine rwc_o .b rfl ?_ | refine rwc_o _ rfl ?_)
                    exact hR.out _ (by simp [*]) (by simp [*]) (by simp [*]) (by simp [*]) (by simp [*]) (by simp [*]) (by simp [*])
                | cons y mine =>
                  rcases hV.2.2.1 with (⟨_, q, _⟩ | ⟨i, g, off, c, rfl, k2, k3, k4⟩) | ⟨_, _, q⟩
                  · simp at q
                  rotate_left
                  · cases q
                  have sg := segE k4 0 (by simp)
                  simp only [Nat.zero_mul, Nat.add_zero, List.getElem_cons_zero, List.length_cons] at sg k3 k4 hV hI hml g9
                  clear hI k4
                  repeat' (first
                   | (with_reducible first | refine Stp.pf ?_ | refine block_x (by decide) ?_ | refine ret_n ?_)
                   | refine tri_reg [39,41,107] ?_ | refine tri_regc [39,41,107] [] mixed (by decide +kernel) ?_
                   | (refine rwf_nilt rfl (by decide +kernel) fun B hB => ?_; (try simp [*]); refine hB.out _ fun b => ?_; clear hB B)
                   | (refine Rul.pf ⟨rfl, rfl⟩ fun B C hB => ?_; (try simp [*, -List.all_eq_true, Try.results3]); (try (simp (disch := first | assumption | omega) only [wc, ite_yes]; (try simp [*, -List.all_eq_true, Try.results3]))); first | (first | refine hB.out.1 _ (fun hb => ?_) fun hb => ⟨rfl, ?_⟩ | refine hB.out.1 _ (fun hb => ?_) fun hb => ?_) <;> clear hB C B <;> (try simp only [Bool.not_true, Bool.not_false] at hb) <;> (first | (exfalso; simp at hb; done) | (exfalso; simp at hb; omega) | (rw [hb]; (try simp at hb)) | (try simp at hb)) | ((first | refine hB.out.1 _ _ ?_ | refine hB.out.1 _ ?_ | refine hB.out.2 ⟨rfl, ?_⟩); clear hB C B) | (refine hB.out.2 _ ?_; clear hB C B; (try rfl)))
                   | refine rwf_o ?_ | refine rwc_o .n rfl ?_ | refine rwc_o .z rfl ?_ | refine rwc_o .w rfl ?_ | refine rwc_o .b rfl ?_ | refine rwc_o _ rfl ?_)
                  refine hK1 _ _ ?_
                  clear hK1 K1
                  refine tri_cond (b := true) (by simp [evA]) (fun _ => ?_) (fun h => by cases h)
                  refine tri_mid (fun e s => e 1 = .fs (flatN sizes) sizes.length ∧ e 2 = .fs (flatB back) back.length ∧ e 7 = .sc (.int .i64 K) ∧ e 8 = .mp 0 0 0 ∧ e 10 = .ms o 0 0 K 1 ∧ e 11 = .sc (.int .i64 j) ∧ e 17 = .fp (cE y) 0 ∧ s = S ∧ ∃ vm, e 9 = vm ∧ ApV K v es mine ol vm o S) (fun K1 hK1 => ?_) (fun E S2 hM => ?_)
                  · by_cases hm0 : mine = []
                    · subst hm0
                      have hV1 := Lib.hid hV.tail
                      have hV2 := Lib.hid (hV.tail0)
                      clear hV
                      simp only [List.length_nil, Nat.zero_add] at hV1 k3 g9 ⊢
                      obtain ⟨n1, hn1⟩ : ∃ n1, n1 = 1 := ⟨_, rfl⟩
                      have hn2 : 0 < n1 := by omega
                      have g9' : E 9 = .ms i g off n1 2 := by rw [hn1]; exact g9
                      replace hn1 := Lib.hid hn1
                      clear g9
                      repeat' (first
                       | (with_reducible first | refine Stp.pf ?_ | refine block_x (by decide) ?_ | refine ret_n ?_)
                       | refine tri_reg [39,41,107] ?_ | refine tri_regc [39,41,107] [] mixed (by decide +kernel) ?_
                       | (refine rwf_nilt rfl (by decide +kernel) fun B hB => ?_; (try simp [*]); refine hB.out _ fun b => ?_; clear hB B)
                       | (refine Rul.pf ⟨rfl, rfl⟩ fun B C hB => ?_; (try simp [*, -List.all_eq_true, Try.results3]); (try (simp (disch := first | assumption | omega) only [wc, ite_yes]; (try simp [*, -List.all_eq_true, Try.results3]))); first | (first | refine hB.out.1 _ (fun hb => ?_) fun hb => ⟨rfl, ?_⟩ | refine hB.out.1 _ (fun hb => ?_) fun hb => ?_) <;> clear hB C B <;> (try simp only [Bool.not_true, Bool.not_false] at hb) <;> (first | (exfalso; simp at hb; done) | (exfalso; simp at hb; omega) | (rw [hb]; (try simp at hb)) | (try simp at hb)) | ((first | refine hB.out.1 _ _ ?_ | refine hB.out.1 _ ?_ | refine hB.out.2 ⟨rfl, ?_⟩); clear hB C B) | (refine hB.out.2 _ ?_; clear hB C B; (try rfl)))
                       | refine rwf_o ?_ | refine rwc_o .n rfl ?_ | refine rwc_o .z rfl ?_ | refine rwc_o .w rfl ?_ | refine rwc_o .b rfl ?_ | refine rwc_o _ rfl ?_)
                      obtain rfl := hn1.out
                      refine rwf_slc (k := 2) rfl Try.underlying33 (by kernel_rfl) fun G hG => ?_
                      (try simp [*])
                      refine hG.out _ _ _ _ (by omega) ?_ fun ad => ?_
                      · clear hG G
                        repeat' (first
                         | (with_reducible first | refine Stp.pf ?_ | refine block_x (by decide) ?_ | refine ret_n ?_)
                         | refine tri_reg [39,41,107] ?_ | refine tri_regc [39,41,107] [] mixed (by decide +kernel) ?_
                         | (refine rwf_nilt rfl (by decide +kernel) fun B hB => ?_; (try simp [*]); refine hB.out _ fun b => ?_; clear hB B)
                         | (refine Rul.pf ⟨rfl, rfl⟩ fun B C hB => ?_; (try simp [*, -List.all_eq_true, Try.results3]); (try (simp (disch := first | assumption | omega) only [wc, ite_yes]; (try simp [*, -List.all_eq_true, Try.results3]))); first | (first | refine hB.out.1 _ (fun hb => ?_) fun hb => ⟨rfl, ?_⟩ | refine hB.out.1 _ (fun hb => ?_) fun hb => ?_) <;> clear hB C B <;> (try simp only [Bool.not_true, Bool.not_false] at hb) <;> (first | (exfalso; simp at hb; done) | (exfalso; simp at hb; omega) | (rw [hb]; (try simp at hb)) | (try simp at hb)) | ((first | refine hB.out.1 _ _ ?_ | refine hB.out.1 _ ?_ | refine hB.out.2 ⟨rfl, ?_⟩); clear hB C B) | (refine hB.out.2 _ ?_; clear hB C B; (try rfl)))
                         | refine rwf_o ?_ | refine rwc_o .n rfl ?_ | refine rwc_o .z rfl ?_ | refine rwc_o .w rfl ?_ | refine rwc_o .b rfl ?_ | refine rwc_o _ rfl ?_)
                        refine hK1 _ _ ⟨by simp [*], by simp [*], by simp [*], by simp [*], by simp [*], by simp [*], by simp, rfl, _, by simp, hV1.out⟩
                      · clear hG G
                        repeat' (first
                         | (with_reducible first | refine Stp.pf ?_ | refine block_x (by decide) ?_ | refine ret_n ?_)
                         | refine tri_reg [39,41,107] ?_ | refine tri_regc [39,41,107] [] mixed (by decide +kernel) ?_
                         | (refine rwf_nilt rfl (by decide +kernel) fun B hB => ?_; (try simp [*]); refine hB.out _ fun b => ?_; clear hB B)
                         | (refine Rul.pf ⟨rfl, rfl⟩ fun B C hB => ?_; (try simp [*, -List.all_eq_true, Try.results3]); (try (simp (disch := first | assumption | omega) only [wc, ite_yes]; (try simp [*, -List.all_eq_true, Try.results3]))); first | (first | refine hB.out.1 _ (fun hb => ?_) fun hb => ⟨rfl, ?_⟩ | refine hB.out.1 _ (fun hb => ?_) fun hb => ?_) <;> clear hB C B <;> (try simp only [Bool.not_true, Bool.not_false] at hb) <;> (first | (exfalso; simp at hb; done) | (exfalso; simp at hb; omega) | (rw [hb]; (try simp at hb)) | (try simp at hb)) | ((first | refine hB.out.1 _ _ ?_ | refine hB.out.1 _ ?_ | refine hB.out.2 ⟨rfl, ?_⟩); clear hB C B) | (refine hB.out.2 _ ?_; clear hB C B; (try rfl)))
                         | refine rwf_o ?_ | refine rwc_o .n rfl ?_ | refine rwc_o .z rfl ?_ | refine rwc_o .w rfl ?_ | refine rwc_o .b rfl ?_ | refine rwc_o _ rfl ?_)
                        refine hK1 _ _ ⟨by simp [*], by simp [*], by simp [*], by simp [*], by simp [*], by simp [*], by simp, rfl, _, by simp, hV2.out ad⟩
                    · have hV1 := Lib.hid hV.tail
                      clear hV
                      repeat' (first
                       | (with_reducible first | refine Stp.pf ?_ | refine block_x (by decide) ?_ | refine ret_n ?_)
                       | refine tri_reg [39,41,107] ?_ | refine tri_regc [39,41,107] [] mixed (by decide +kernel) ?_
                       | (refine rwf_nilt rfl (by decide +kernel) fun B hB => ?_; (try simp [*]); refine hB.out _ fun b => ?_; clear hB B)
                       | (refine Rul.pf ⟨rfl, rfl⟩ fun B C hB => ?_; (try simp [*, -List.all_eq_true, Try.results3]); (try (simp (disch := first | assumption | omega) only [wc, ite_yes]; (try simp [*, -List.all_eq_true, Try.results3]))); first | (first | refine hB.out.1 _ (fun hb => ?_) fun hb => ⟨rfl, ?_⟩ | refine hB.out.1 _ (fun hb => ?_) fun hb => ?_) <;> clear hB C B <;> (try simp only [Bool.not_true, Bool.not_false] at hb) <;> (first | (exfalso; simp at hb; done) | (exfalso; simp at hb; omega) | (rw [hb]; (try simp at hb)) | (try simp at hb)) | ((first | refine hB.out.1 _ _ ?_ | refine hB.out.1 _ ?_ | refine hB.out.2 ⟨rfl, ?_⟩); clear hB C B) | (refine hB.out.2 _ ?_; clear hB C B; (try rfl)))
                       | refine rwf_o ?_ | refine rwc_o .n rfl ?_ | refine rwc_o .z rfl ?_ | refine rwc_o .w rfl ?_ | refine rwc_o .b rfl ?_ | refine rwc_o _ rfl ?_)
                      refine hK1 _ _ ⟨by simp [*], by simp [*], by simp [*], by simp [*], by simp [*], by simp [*], by simp, rfl, _, by simp, hV1.out⟩
                  · clear g1 g2 g7 g8 g9 g10 g11 sg k2 k3 hV
                    obtain ⟨g1, g2, g7, g8, g10, g11, g17, rfl, vm, g9, hV⟩ := hM
                    have hx := isInX_iff.1 (hP.inn y (by simp))
                    obtain ⟨a, ha⟩ := Int.eq_ofNat_of_zero_le hx.1
                    obtain ⟨t, ht⟩ := Int.eq_ofNat_of_zero_le (show 0 ≤ y.sz by omega)
                    obtain ⟨p1, p2, p3⟩ := hP.give ha ht
                    have hat : a + t ≤ K := by unfold xe at hx; omega
                    have hcy : cE y = [.sc (.int .i64 a), .sc (.int .i64 t)] := by unfold cE; rw [ha, ht]
                    have gv := sGiveA_spec 0 K es [y] _ v hV.1 hP.norm (by omega) (by simp)
                    unfold foldR at gv
                    rw [p1, if_pos rfl, show [y].foldl giveX es = giveX es y from rfl, show flatE [y] = [.sc (.int .i64 a), .sc (.int .i64 t)] from hcy, show [y].length = 1 from rfl] at gv
                    rw [hcy] at g17
                    clear p1 hx
                    repeat' (first
                     | (with_reducible first | refine Stp.pf ?_ | refine block_x (by decide) ?_ | refine ret_n ?_)
                     | refine tri_reg [39,41,107] ?_ | refine tri_regc [39,41,107] [] mixed (by decide +kernel) ?_
                     | (refine rwf_nilt rfl (by decide +kernel) fun B hB => ?_; (try simp [*]); refine hB.out _ fun b => ?_; clear hB B)
                     | (refine Rul.pf ⟨rfl, rfl⟩ fun B C hB => ?_; (try simp [*, -List.all_eq_true, Try.results3]); (try (simp (disch := first | assumption | omega) only [wc, ite_yes]; (try simp [*, -List.all_eq_true, Try.results3]))); first | (first | refine hB.out.1 _ (fun hb => ?_) fun hb => ⟨rfl, ?_⟩ | refine hB.out.1 _ (fun hb => ?_) fun hb => ?_) <;> clear hB C B <;> (try simp only [Bool.not_true, Bool.not_false] at hb) <;> (first | (exfalso; simp at hb; done) | (exfalso; simp at hb; omega) | (rw [hb]; (try simp at hb)) | (try simp at hb)) | ((first | refine hB.out.1 _ _ ?_ | refine hB.out.1 _ ?_ | refine hB.out.2 ⟨rfl, ?_⟩); clear hB C B) | (refine hB.out.2 _ ?_; clear hB C B; (try rfl)))
                     | refine rwf_o ?_ | refine rwc_o .n rfl ?_ | refine rwc_o .z rfl ?_ | refine rwc_o .w rfl ?_ | refine rwc_o .b rfl ?_ | refine rwc_o _ rfl ?_)
                    refine rwf_ca rfl fun C' hC hP => ?_
                    clear hP
                    (try simp [*, -List.all_eq_true]); (try (simp (disch := first | assumption | omega) only [wrap_id, wrapu_id, wrapb_id, tmod_nn, tdiv_nn, ite_yes, flatM_seg, flatM_0, flatM_1, flatM_2, flatI_seg, flatI_0, flatI_1, flatS_get]; (try simp [*, -List.all_eq_true])))
                    refine hC.out _ _ _ (gv) fun r s2 hq => ?_
                    clear hC C'
                    obtain ⟨rfl, hst⟩ := hq
                    obtain ⟨v2, hV2⟩ := hV.step hst
                    have gw := sGiveA_spec 0 K (giveX es y) [y] _ v2 hV2.1 p3.norm (by omega) (by simp)
                    unfold foldR at gw
                    rw [p2, if_neg (by decide), show flatE [y] = [.sc (.int .i64 a), .sc (.int .i64 t)] from hcy, show [y].length = 1 from rfl] at gw
                    clear hst hV gv p2
                    repeat' (first
                     | (with_reducible first | refine Stp.pf ?_ | refine block_x (by decide) ?_ | refine ret_n ?_)
                     | refine tri_reg [39,41,107] ?_ | refine tri_regc [39,41,107] [] mixed (by decide +kernel) ?_
                     | (refine rwf_nilt rfl (by decide +kernel) fun B hB => ?_; (try simp [*]); refine hB.out _ fun b => ?_; clear hB B)
                     | (refine Rul.pf ⟨rfl, rfl⟩ fun B C hB => ?_; (try simp [*, -List.all_eq_true, Try.results3]); (try (simp (disch := first | assumption | omega) only [wc, ite_yes]; (try simp [*, -List.all_eq_true, Try.results3]))); first | (first | refine hB.out.1 _ (fun hb => ?_) fun hb => ⟨rfl, ?_⟩ | refine hB.out.1 _ (fun hb => ?_) fun hb => ?_) <;> clear hB C B <;> (try simp only [Bool.not_true, Bool.not_false] at hb) <;> (first | (exfalso; simp at hb; done) | (exfalso; simp at hb; omega) | (rw [hb]; (try simp at hb)) | (try simp at hb)) | ((first | refine hB.out.1 _ _ ?_ | refine hB.out.1 _ ?_ | refine hB.out.2 ⟨rfl, ?_⟩); clear hB C B) | (refine hB.out.2 _ ?_; clear hB C B; (try rfl)))
                     | refine rwf_o ?_ | refine rwc_o .n rfl ?_ | refine rwc_o .z rfl ?_ | refine rwc_o .w rfl ?_ | refine rwc_o .b rfl ?_ | refine rwc_o _ rfl ?_)
                    refine rwf_ca rfl fun C' hC hP => ?_
                    clear hP
                    (try simp [*, -List.all_eq_true]); (try (simp (disch := first | assumption | omega) only [wrap_id, wrapu_id, wrapb_id, tmod_nn, tdiv_nn, ite_yes, flatM_seg, flatM_0, flatM_1, flatM_2, flatI_seg, flatI_0, flatI_1, flatS_get]; (try simp [*, -List.all_eq_true])))
                    refine hC.out _ _ _ (gw) fun r s3 hq => ?_
                    clear hC C'
                    obtain ⟨rfl, hst⟩ := hq
                    have hI3 : Hid (ApI K (giveX es y) mine (setsB ol a false 0) vm o s3) := Lib.hid (hV2.step hst)
                    have hlen : ol.length = K := by have := p3.len; simpa using this
                    clear hst hV2 gw
                    have hend : (a : Int) + (t : Int) = ((a + t : Nat) : Int) := by omega
                    generalize giveX es y = es2 at *
                    clear hP ha ht hcy
                    repeat' (first
                     | (with_reducible first | refine Stp.pf ?_ | refine block_x (by decide) ?_ | refine ret_n ?_)
                     | refine tri_reg [39,41,107] ?_ | refine tri_regc [39,41,107] [] mixed (by decide +kernel) ?_
                     | (refine rwf_nilt rfl (by decide +kernel) fun B hB => ?_; (try simp [*]); refine hB.out _ fun b => ?_; clear hB B)
                     | (refine Rul.pf ⟨rfl, rfl⟩ fun B C hB => ?_; (try simp [*, -List.all_eq_true, Try.results3]); (try (simp (disch := first | assumption | omega) only [wc, ite_yes]; (try simp [*, -List.all_eq_true, Try.results3]))); first | (first | refine hB.out.1 _ (fun hb => ?_) fun hb => ⟨rfl, ?_⟩ | refine hB.out.1 _ (fun hb => ?_) fun hb => ?_) <;> clear hB C B <;> (try simp only [Bool.not_true, Bool.not_false] at hb) <;> (first | (exfalso; simp at hb; done) | (exfalso; simp at hb; omega) | (rw [hb]; (try simp at hb)) | (try simp at hb)) | ((first | refine hB.out.1 _ _ ?_ | refine hB.out.1 _ ?_ | refine hB.out.2 ⟨rfl, ?_⟩); clear hB C B) | (refine hB.out.2 _ ?_; clear hB C B; (try rfl)))
                     | refine rwf_o ?_ | refine rwc_o .n rfl ?_ | refine rwc_o .z rfl ?_ | refine rwc_o .w rfl ?_ | refine rwc_o .b rfl ?_ | refine rwc_o _ rfl ?_)
                    refine tri_for [1, 2, 6, 7, 8, 9, 10, 11, 12, 13, 14, 15, 16, 17] t (fun k e σ => e 18 = .sc (.int .i64 (a + k : Nat)) ∧ ApI K es2 mine (setsB ol a false k) vm o σ) ?_ (fun k env' σ' hlt hk hI => ?_) (fun env' σ' hk hI => ?_)
                    · exact ⟨by simp, hI3.out⟩
                    · skip
                      (try simp at hk)
                      obtain ⟨h18, v, hV⟩ := hI
                      clear hI3
                      have hb : a + k < K := by omega
                      obtain ⟨c, c1, c2, c3, c4⟩ := hV.2.1.get hb
                      have hset := hV.setO c1 (a + k) false
                      have hnx : Hid (ApI K es2 mine (setsB ol a false (k + 1)) vm o (List.set σ' o ⟨c.set (a + k) (.sc (.bool false)), 0, false, false⟩)) := Lib.hid ⟨v, hset⟩
                      simp only [Nat.zero_add] at c2 c3
                      clear hset hV c4
                      have hlt2 : ((a + k : Nat) : Int) < ((a + t : Nat) : Int) := by omega
                      have hqn : ((a + k : Nat) : Int) + 1 = ((a + (k + 1) : Nat) : Int) := by omega
                      generalize a + (k + 1) = q1 at *
                      generalize a + k = q at *
                      generalize a + t = q2 at *
                      repeat' (first
                       | (with_reducible first | refine Stp.pf ?_ | refine block_x (by decide) ?_ | refine ret_n ?_)
                       | refine tri_reg [39,41,107] ?_ | refine tri_regc [39,41,107] [] mixed (by decide +kernel) ?_
                       | (refine rwf_nilt rfl (by decide +kernel) fun B hB => ?_; (try simp [*]); refine hB.out _ fun b => ?_; clear hB B)
                       | (refine Rul.pf ⟨rfl, rfl⟩ fun B C hB => ?_; (try simp [*, -List.all_eq_true, Try.results3]); (try (simp (disch := first | assumption | omega) only [wc, ite_yes]; (try simp [*, -List.all_eq_true, Try.results3]))); first | (first | refine hB.out.1 _ (fun hb => ?_) fun hb => ⟨rfl, ?_⟩ | refine hB.out.1 _ (fun hb => ?_) fun hb => ?_) <;> clear hB C B <;> (try simp only [Bool.not_true, Bool.not_false] at hb) <;> (first | (exfalso; simp at hb; done) | (exfalso; simp at hb; omega) | (rw [hb]; (try simp at hb)) | (try simp at hb)) | ((first | refine hB.out.1 _ _ ?_ | refine hB.out.1 _ ?_ | refine hB.out.2 ⟨rfl, ?_⟩); clear hB C B) | (refine hB.out.2 _ ?_; clear hB C B; (try rfl)))
                       | refine rwf_o ?_ | refine rwc_o .n rfl ?_ | refine rwc_o .z rfl ?_ | refine rwc_o .w rfl ?_ | refine rwc_o .b rfl ?_ | refine rwc_o _ rfl ?_)
                      exact ⟨by simp [*], by simp, hnx.out⟩
                    · skip
                      (try simp at hk)
                      obtain ⟨h18, hI⟩ := hI
                      clear hI3
                      have hnl : ¬ ((a + t : Nat) : Int) < (a + t : Nat) := by omega
                      generalize a + t = q2 at *
                      replace hI := Lib.hid hI
                      repeat' (first
                       | (with_reducible first | refine Stp.pf ?_ | refine block_x (by decide) ?_ | refine ret_n ?_)
                       | refine tri_reg [39,41,107] ?_ | refine tri_regc [39,41,107] [] mixed (by decide +kernel) ?_
                       | (refine rwf_nilt rfl (by decide +kernel) fun B hB => ?_; (try simp [*]); refine hB.out _ fun b => ?_; clear hB B)
                       | (refine Rul.pf ⟨rfl, rfl⟩ fun B C hB => ?_; (try simp [*, -List.all_eq_true, Try.results3]); (try (simp (disch := first | assumption | omega) only [wc, ite_yes]; (try simp [*, -List.all_eq_true, Try.results3]))); first | (first | refine hB.out.1 _ (fun hb => ?_) fun hb => ⟨rfl, ?_⟩ | refine hB.out.1 _ (fun hb => ?_) fun hb => ?_) <;> clear hB C B <;> (try simp only [Bool.not_true, Bool.not_false] at hb) <;> (first | (exfalso; simp at hb; done) | (exfalso; simp at hb; omega) | (rw [hb]; (try simp at hb)) | (try simp at hb)) | ((first | refine hB.out.1 _ _ ?_ | refine hB.out.1 _ ?_ | refine hB.out.2 ⟨rfl, ?_⟩); clear hB C B) | (refine hB.out.2 _ ?_; clear hB C B; (try rfl)))
                       | refine rwf_o ?_ | refine rwc_o .n rfl ?_ | refine rwc_o .z rfl ?_ | refine rwc_o .w rfl ?_ | refine rwc_o .b rfl ?_ | refine rwc_o _ rfl ?_)
                      exact ⟨by simp [*], by simp [*], by simp [*], by simp [*], by simp [*], by simp [*], vm, es2, mine, _, by simp [*], hI.out, p3, by simp at hml; omega⟩
            · clear hV
              repeat' (first
               | (with_reducible first | refine Stp.pf ?_ | refine block_x (by decide) ?_ | refine ret_n ?_)
               | refine tri_reg [39,41,107] ?_ | refine tri_regc [39,41,107] [] mixed (by decide +kernel) ?_
               | (refine rwf_nilt rfl (by decide +kernel) fun B hB => ?_; (try simp [*]); refine hB.out _ fun b => ?_; clear hB B)
               | (refine Rul.pf ⟨rfl, rfl⟩ fun B C hB => ?_; (try simp [*, -List.all_eq_true, Try.results3]); (try (simp (disch := first | assumption | omega) only [wc, ite_yes]; (try simp [*, -List.all_eq_true, Try.results3]))); first | (first | refine hB.out.1 _ (fun hb => ?_) fun hb => ⟨rfl, ?_⟩ | refine hB.out.1 _ (fun hb => ?_) fun hb => ?_) <;> clear hB C B <;> (try simp only [Bool.not_true, Bool.not_false] at hb) <;> (first | (exfalso; simp at hb; done) | (exfalso; simp at hb; omega) | (rw [hb]; (try simp at hb)) | (try simp at hb)) | ((first | refine hB.out.1 _ _ ?_ | refine hB.out.1 _ ?_ | refine hB.out.2 ⟨rfl, ?_⟩); clear hB C B) | (refine hB.out.2 _ ?_; clear hB C B; (try rfl)))
               | refine rwf_o ?_ | refine rwc_o .n rfl ?_ | refine rwc_o .z rfl ?_ | refine rwc_o .w rfl ?_ | refine rwc_o .b rfl ?_ | refine rwc_o _ rfl ?_)
              refine hK1 _ _ ?_
              clear hK1 K1
              repeat' (first
               | (with_reducible first | refine Stp.pf ?_ | refine block_x (by decide) ?_ | refine ret_n ?_)
               | refine tri_reg [39,41,107] ?_ | refine tri_regc [39,41,107] [] mixed (by decide +kernel) ?_
               | (refine rwf_nilt rfl (by decide +kernel) fun B hB => ?_; (try simp [*]); refine hB.out _ fun b => ?_; clear hB B)
               | (refine Rul.pf ⟨rfl, rfl⟩ fun B C hB => ?_; (try simp [*, -List.all_eq_true, Try.results3]); (try (simp (disch := first | assumption | omega) only [wc, ite_yes]; (try simp [*, -List.all_eq_true, Try.results3]))); first | (first | refine hB.out.1 _ (fun hb => ?_) fun hb => ⟨rfl, ?_⟩ | refine hB.out.1 _ (fun hb => ?_) fun hb => ?_) <;> clear hB C B <;> (try simp only [Bool.not_true, Bool.not_false] at hb) <;> (first | (exfalso; simp at hb; done) | (exfalso; simp at hb; omega) | (rw [hb]; (try simp at hb)) | (try simp at hb)) | ((first | refine hB.out.1 _ _ ?_ | refine hB.out.1 _ ?_ | refine hB.out.2 ⟨rfl, ?_⟩); clear hB C B) | (refine hB.out.2 _ ?_; clear hB C B; (try rfl)))
               | refine rwf_o ?_ | refine rwc_o .n rfl ?_ | refine rwc_o .z rfl ?_ | refine rwc_o .w rfl ?_ | refine rwc_o .b rfl ?_ | refine rwc_o _ rfl ?_)
              exact ⟨by simp [*], by simp [*], by simp [*], by simp [*], by simp [*], by simp [*], vm, es, mine, ol, by simp [*], hI.out, hP, hml⟩
          · clear g1 g2 g7 g8 g9 g10 g11 hml hP hV
            obtain ⟨g1, g2, g7, g8, g10, g11, vm, es, mine, ol, g9, ⟨v, hV⟩, hP, hml⟩ := hM
            have hn1 := hP.norm
            have hcnt := hP.count
            have qf := qFree hV.1 hn1 (by omega) []
            simp only [List.append_nil] at qf
            repeat' (first
             | (with_reducible first | refine Stp.pf ?_ | refine block_x (by decide) ?_ | refine ret_n ?_)
             | refine tri_reg [39,41,107] ?_ | refine tri_regc [39,41,107] [] mixed (by decide +kernel) ?_
             | (refine rwf_nilt rfl (by decide +kernel) fun B hB => ?_; (try simp [*]); refine hB.out _ fun b => ?_; clear hB B)
             | (refine Rul.pf ⟨rfl, rfl⟩ fun B C hB => ?_; (try simp [*, -List.all_eq_true, Try.results3]); (try (simp (disch := first | assumption | omega) only [wc, ite_yes]; (try simp [*, -List.all_eq_true, Try.results3]))); first | (first | refine hB.out.1 _ (fun hb => ?_) fun hb => ⟨rfl, ?_⟩ | refine hB.out.1 _ (fun hb => ?_) fun hb => ?_) <;> clear hB C B <;> (try simp only [Bool.not_true, Bool.not_false] at hb) <;> (first | (exfalso; simp at hb; done) | (exfalso; simp at hb; omega) | (rw [hb]; (try simp at hb)) | (try simp at hb)) | ((first | refine hB.out.1 _ _ ?_ | refine hB.out.1 _ ?_ | refine hB.out.2 ⟨rfl, ?_⟩); clear hB C B) | (refine hB.out.2 _ ?_; clear hB C B; (try rfl)))
             | refine rwf_o ?_ | refine rwc_o .n rfl ?_ | refine rwc_o .z rfl ?_ | refine rwc_o .w rfl ?_ | refine rwc_o .b rfl ?_ | refine rwc_o _ rfl ?_)
            refine tri_for [1, 2, 7, 8, 9, 10, 11, 12, 13, 14, 15, 16, 17, 18] K (fun k e σ => σ = S ∧ e 20 = .sc (.int .i64 k) ∧ e 19 = .sc (.int .i64 ((ol.take k).count true))) ?_ (fun k env' σ' hlt hk hI => ?_) (fun env' σ' hk hI => ?_)
            · exact ⟨rfl, by simp, by simp⟩
            · skip
              (try simp at hk)
              obtain ⟨rfl, h20, h19⟩ := hI
              have hlk : k < ol.length := by rw [hP.len]; exact hlt
              have qh := qHas hV.1 hn1 (by omega) (k : Int)
              rw [hP.has hlt] at qh
              obtain ⟨c, c1, c2, c3, c4⟩ := hV.2.1.get hlt
              rw [List.getElem?_eq_getElem hlk] at c4
              simp only [Nat.zero_add, Option.getD_some] at c2 c3 c4
              have hcs : (ol.take (k + 1)).count true = (ol.take k).count true + (if ol[k] = true then 1 else 0) := by
                rw [List.take_add_one, List.getElem?_eq_getElem hlk, List.count_append]
                cases ol[k] <;> simp
              have hcb : (ol.take k).count true ≤ k := Nat.le_trans List.count_le_length (by simp; omega)
              have hlt2 : (k : Int) < (K : Int) := by omega
              rw [hcs]
              clear hcs hcnt qf hml
              generalize ol[k] = b at *
              generalize (ol.take k).count true = ct at *
              cases b with
              | true =>
                repeat' (first
                 | (with_reducible first | refine Stp.pf ?_ | refine block_x (by decide) ?_ | refine ret_n ?_)
                 | refine tri_reg [39,41,107] ?_ | refine tri_regc [39,41,107] [] mixed (by decide +kernel) ?_
                 | (refine rwf_nilt rfl (by decide +kernel) fun B hB => ?_; (try simp [*]); refine hB.out _ fun b => ?_; clear hB B)
                 | (refine Rul.pf ⟨rfl, rfl⟩ fun B C hB => ?_; (try simp [*, -List.all_eq_true, Try.results3]); (try (simp (disch := first | assumption | omega) only [wc, ite_yes]; (try simp [*, -List.all_eq_true, Try.results3]))); first | (first | refine hB.out.1 _ (fun hb => ?_) fun hb => ⟨rfl, ?_⟩ | refine hB.out.1 _ (fun hb => ?_) fun hb => ?_) <;> clear hB C B <;> (try simp only [Bool.not_true, Bool.not_false] at hb) <;> (first | (exfalso; simp at hb; done) | (exfalso; simp at hb; omega) | (rw [hb]; (try simp at hb)) | (try simp at hb)) | ((first | refine hB.out.1 _ _ ?_ | refine hB.out.1 _ ?_ | refine hB.out.2.1 _ _ _ (qh) ?_ | refine hB.out.2.2 _ _ _ (qh) ?_ | refine hB.out.2 ⟨rfl, ?_⟩); clear hB C B) | (refine hB.out.2 _ ?_; clear hB C B; (try rfl)))
                 | refine rwf_o ?_ | refine rwc_o .n rfl ?_ | refine rwc_o .z rfl ?_ | refine rwc_o .w rfl ?_ | refine rwc_o .b rfl ?_ | refine rwc_o _ rfl ?_)
                exact ⟨by simp [*], by simp; try rfl, by simp, by simp⟩
              | false =>
                repeat' (first
                 | (with_reducible first | refine Stp.pf ?_ | refine block_x (by decide) ?_ | refine ret_n ?_)
                 | refine tri_reg [39,41,107] ?_ | refine tri_regc [39,41,107] [] mixed (by decide +kernel) ?_
                 | (refine rwf_nilt rfl (by decide +kernel) fun B hB => ?_; (try simp [*]); refine hB.out _ fun b => ?_; clear hB B)
                 | (refine Rul.pf ⟨rfl, rfl⟩ fun B C hB => ?_; (try simp [*, -List.all_eq_true, Try.results3]); (try (simp (disch := first | assumption | omega) only [wc, ite_yes]; (try simp [*, -List.all_eq_true, Try.results3]))); first | (first | refine hB.out.1 _ (fun hb => ?_) fun hb => ⟨rfl, ?_⟩ | refine hB.out.1 _ (fun hb => ?_) fun hb => ?_) <;> clear hB C B <;> (try simp only [Bool.not_true, Bool.not_false] at hb) <;> (first | (exfalso; simp at hb; done) | (exfalso; simp at hb; omega) | (rw [hb]; (try simp at hb)) | (try simp at hb)) | ((first | refine hB.out.1 _ _ ?_ | refine hB.out.1 _ ?_ | refine hB.out.2.1 _ _ _ (qh) ?_ | refine hB.out.2.2 _ _ _ (qh) ?_ | refine hB.out.2 ⟨rfl, ?_⟩); clear hB C B) | (refine hB.out.2 _ ?_; clear hB C B; (try rfl)))
                 | refine rwf_o ?_ | refine rwc_o .n rfl ?_ | refine rwc_o .z rfl ?_ | refine rwc_o .w rfl ?_ | refine rwc_o .b rfl ?_ | refine rwc_o _ rfl ?_)
                exact ⟨by simp [*], by simp; try rfl, by simp, by simp [*]⟩
            · skip
              (try simp at hk)
              obtain ⟨rfl, h20, h19⟩ := hI
              rw [List.take_of_length_le (by rw [hP.len]; omega)] at h19
              generalize ol.count true = ct at *
              generalize freeX es = fx at *
              have hI : Hid (ApI K es mine ol vm o σ') := Lib.hid ⟨v, hV⟩
              have hfb : -9223372036854775808 ≤ (ct : Int) + fx ∧ (ct : Int) + fx ≤ 9223372036854775807 := by omega
              clear hV
              repeat' (first
               | (with_reducible first | refine Stp.pf ?_ | refine block_x (by decide) ?_ | refine ret_n ?_)
               | refine tri_reg [39,41,107] ?_ | refine tri_regc [39,41,107] [] mixed (by decide +kernel) ?_
               | (refine rwf_nilt rfl (by decide +kernel) fun B hB => ?_; (try simp [*]); refine hB.out _ fun b => ?_; clear hB B)
               | (refine Rul.pf ⟨rfl, rfl⟩ fun B C hB => ?_; (try simp [*, -List.all_eq_true, Try.results3]); (try (simp (disch := first | assumption | omega) only [wc, ite_yes]; (try simp [*, -List.all_eq_true, Try.results3]))); first | (first | refine hB.out.1 _ (fun hb => ?_) fun hb => ⟨rfl, ?_⟩ | refine hB.out.1 _ (fun hb => ?_) fun hb => ?_) <;> clear hB C B <;> (try simp only [Bool.not_true, Bool.not_false] at hb) <;> (first | (exfalso; simp at hb; done) | (exfalso; simp at hb; omega) | (rw [hb]; (try simp at hb)) | (try simp at hb)) | ((first | refine hB.out.1 _ _ ?_ | refine hB.out.1 _ ?_ | refine hB.out.2.1 _ _ _ (qf) ?_ | refine hB.out.2.2 _ _ _ (qf) ?_ | refine hB.out.2 ⟨rfl, ?_⟩); clear hB C B) | (refine hB.out.2 _ ?_; clear hB C B; (try rfl)))
               | refine rwf_o ?_ | refine rwc_o .n rfl ?_ | refine rwc_o .z rfl ?_ | refine rwc_o .w rfl ?_ | refine rwc_o .b rfl ?_ | refine rwc_o _ rfl ?_)
              exact ⟨by simp [*], by simp, vm, es, mine, ol, by simp [*], hI.out, hP, hml⟩
    · skip
      (try simp at hk)
      obtain ⟨h11, vm, es, mine, ol, h9, ⟨v, hV⟩, hP, hml⟩ := hI
      clear hI0 hP0
      obtain ⟨a1, a2⟩ := hP.all (by omega)
      have hgv : Spec Try.prog 9 [.mp 0 0 0, vm] σ' (fun r s => r = .sc (.int .i64 0) ∧ ∃ v, SpV 0 K v [⟨0, K⟩] s) := by
        have key : ∀ S, SpV 0 K v es S → Spec Try.prog 9 [.mp 0 0 0, .fs (flatE mine) mine.length] S (fun r s => r = .sc (.int .i64 0) ∧ ∃ v, SpV 0 K v [⟨0, K⟩] s) := fun S hS => by
          have g := sGiveA_spec 0 K es mine S v hS hP.norm (by omega) (by omega)
          unfold foldR at g
          rw [a1, if_pos rfl, a2] at g
          exact g.mono fun r s ⟨q1, v', q2, _⟩ => ⟨q1, v', q2⟩
        obtain ⟨h1, h2, h3, h4, h5, h6, h7, h8⟩ := hV
        rcases h3 with (⟨rfl, k1, k2⟩ | ⟨i, g, off, c, rfl, k2, k3, k4⟩) | ⟨a, rfl, rfl⟩
        · obtain rfl := List.length_eq_zero_iff.1 k1
          exact spec_args (key σ' h1) (.cons (.refl _) (.cons .nil .nil))
        · refine spec_frz12 [i] 9 (u := .fs (flatE mine) mine.length) (by simp [frz, frzL, k2, k3, k4, AV.flat]) (key _ ?_)
          show SpV 0 K v es (σ'.freeze i)
          have hget : ∀ q (ob : MO), q ≠ i → σ'[q]? = some ob → (σ'.freeze i)[q]? = some ob := fun q ob hq ho => by rw [freeze_get, ho]; simp; omega
          refine ⟨hget 0 _ (fun e => h7 (by rw [e]; exact isH_self ..)) h1.1, ?_⟩
          rcases h1.2 with q | ⟨i2, g2, off2, c2, rfl, q2, q3, q4⟩
          · exact .inl q
          · exact .inr ⟨i2, g2, off2, c2, rfl, q2, hget i2 _ (fun e => h8 i2 (isH_self ..) (by rw [e]; exact isH_self ..)) q3, q4⟩
        · exact spec_fs0 (key σ' h1)
      have hn2 := (ApP.start K (by omega)).norm
      clear hV hP a1 a2
      repeat' (first
       | (with_reducible first | refine Stp.pf ?_ | refine block_x (by decide) ?_ | refine ret_n ?_)
       | refine tri_reg [39,41,107] ?_ | refine tri_regc [39,41,107] [] mixed (by decide +kernel) ?_
       | (refine rwf_nilt rfl (by decide +kernel) fun B hB => ?_; (try simp [*]); refine hB.out _ fun b => ?_; clear hB B)
       | (refine Rul.pf ⟨rfl, rfl⟩ fun B C hB => ?_; (try simp [*, -List.all_eq_true, Try.results3]); (try (simp (disch := first | assumption | omega) only [wc, ite_yes]; (try simp [*, -List.all_eq_true, Try.results3]))); first | (first | refine hB.out.1 _ (fun hb => ?_) fun hb => ⟨rfl, ?_⟩ | refine hB.out.1 _ (fun hb => ?_) fun hb => ?_) <;> clear hB C B <;> (try simp only [Bool.not_true, Bool.not_false] at hb) <;> (first | (exfalso; simp at hb; done) | (exfalso; simp at hb; omega) | (rw [hb]; (try simp at hb)) | (try simp at hb)) | ((first | refine hB.out.1 _ _ ?_ | refine hB.out.1 _ ?_ | refine hB.out.2 ⟨rfl, ?_⟩); clear hB C B) | (refine hB.out.2 _ ?_; clear hB C B; (try rfl)))
       | refine rwf_o ?_ | refine rwc_o .n rfl ?_ | refine rwc_o .z rfl ?_ | refine rwc_o .w rfl ?_ | refine rwc_o .b rfl ?_ | refine rwc_o _ rfl ?_)
      refine rwf_ca rfl fun C' hC hP => ?_
      clear hP
      (try simp [*, -List.all_eq_true]); (try (simp (disch := first | assumption | omega) only [wrap_id, wrapu_id, wrapb_id, tmod_nn, tdiv_nn, ite_yes, flatM_seg, flatM_0, flatM_1, flatM_2, flatI_seg, flatI_0, flatI_1, flatS_get]; (try simp [*, -List.all_eq_true])))
      refine hC.out _ _ _ (hgv) fun r s2 hq => ?_
      clear hC C'
      obtain ⟨rfl, v2, hS2⟩ := hq
      have q1 := qRow hS2 (by simp) []
      have q2 := qLargest hS2 hn2 (by omega) []
      have q3 := qFree hS2 hn2 (by omega) []
      simp only [List.append_nil] at q1 q2 q3
      rw [show largeX [(⟨0, K⟩ : Ext)] = K by simp [largeX]] at q2
      rw [show freeX [(⟨0, K⟩ : Ext)] = K by simp [freeX]] at q3
      simp only [show [(⟨0, K⟩ : Ext)].length = 1 from rfl] at q1
      clear hS2 hgv
      repeat' (first
       | (with_reducible first | refine Stp.pf ?_ | refine block_x (by decide) ?_ | refine ret_n ?_)
       | refine tri_reg [39,41,107] ?_ | refine tri_regc [39,41,107] [] mixed (by decide +kernel) ?_
       | (refine rwf_nilt rfl (by decide +kernel) fun B hB => ?_; (try simp [*]); refine hB.out _ fun b => ?_; clear hB B)
       | (refine Rul.pf ⟨rfl, rfl⟩ fun B C hB => ?_; (try simp [*, -List.all_eq_true, Try.results3]); (try (simp (disch := first | assumption | omega) only [wc, ite_yes]; (try simp [*, -List.all_eq_true, Try.results3]))); first | (first | refine hB.out.1 _ (fun hb => ?_) fun hb => ⟨rfl, ?_⟩ | refine hB.out.1 _ (fun hb => ?_) fun hb => ?_) <;> clear hB C B <;> (try simp only [Bool.not_true, Bool.not_false] at hb) <;> (first | (exfalso; simp at hb; done) | (exfalso; simp at hb; omega) | (rw [hb]; (try simp at hb)) | (try simp at hb)) | ((first | refine hB.out.1 _ _ ?_ | refine hB.out.1 _ ?_ | refine hB.out.2.1 _ _ _ (q1) ?_ | refine hB.out.2.2 _ _ _ (q1) ?_ | refine hB.out.2.1 _ _ _ (q2) ?_ | refine hB.out.2.2 _ _ _ (q2) ?_ | refine hB.out.2.1 _ _ _ (q3) ?_ | refine hB.out.2.2 _ _ _ (q3) ?_ | refine hB.out.2 ⟨rfl, ?_⟩); clear hB C B) | (refine hB.out.2 _ ?_; clear hB C B; (try rfl)))
       | refine rwf_o ?_ | refine rwc_o .n rfl ?_ | refine rwc_o .z rfl ?_ | refine rwc_o .w rfl ?_ | refine rwc_o .b rfl ?_ | refine rwc_o _ rfl ?_)
  · have hsl2 : ¬ sizes.length ≤ 60 := hsl
    repeat' (first
     | (with_reducible first | refine Stp.pf ?_ | refine block_x (by decide) ?_ | refine ret_n ?_)
     | refine tri_reg [] ?_ | refine tri_regc [] [] mixed (by decide +kernel) ?_
     | (refine rwf_nilt rfl (by decide +kernel) fun B hB => ?_; (try simp [*]); refine hB.out _ fun b => ?_; clear hB B)
     | (refine Rul.pf ⟨rfl, rfl⟩ fun B C hB => ?_; (try simp [*, -List.all_eq_true, Try.results3]); (try (simp (disch := first | assumption | omega) only [wc, ite_yes]; (try simp [*, -List.all_eq_true, Try.results3]))); first | (first | refine hB.out.1 _ (fun hb => ?_) fun hb => ⟨rfl, ?_⟩ | refine hB.out.1 _ (fun hb => ?_) fun hb => ?_) <;> clear hB C B <;> (try simp only [Bool.not_true, Bool.not_false] at hb) <;> (first | (exfalso; simp at hb; done) | (exfalso; simp at hb; omega) | (rw [hb]; (try simp at hb)) | (try simp at hb)) | ((first | refine hB.out.1 _ _ ?_ | refine hB.out.1 _ ?_ | refine hB.out.2.1 _ _ _ (haw) ?_ | refine hB.out.2.2 _ _ _ (haw) ?_ | refine hB.out.2 ⟨rfl, ?_⟩); clear hB C B) | (refine hB.out.2 _ ?_; clear hB C B; (try rfl)))
     | refine rwf_o ?_ | refine rwc_o .n rfl ?_ | refine rwc_o .z rfl ?_ | refine rwc_o .w rfl ?_ | refine rwc_o .b rfl ?_ | refine rwc_o _ rfl ?_)
end Go.Proofs.Ytgdefllblcmgpaa
