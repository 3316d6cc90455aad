/- The reference of nodes: Fits, Same. -/
import Derived.Test.YticpnfgiidljlaaGreatEc
import Derived.Test.YticpnfgiidljlaaGreatLw
import Derived.Test.YticpnfgiidljlaaGreatWi
import Derived.Lib.Overlaps
import Derived.Laws.Externs
import Derived.Test.YticpnfgiidljlaaGreatWgd
import Derived.Test.YticpnfgiidljlaaGreatNo
import Derived.Test.YticpnfgiidljlaaGreatWmh
namespace Go.Proofs.YticpnfgiidljlaaGreat
open Go.RowKit Go.Sort
set_option linter.unusedSimpArgs false
set_option maxRecDepth 10000
end Go.Proofs.YticpnfgiidljlaaGreat
namespace Go.Proofs.YticpnfgiidljlaaGreat
open Go.RowKit Go.Sort
set_option linter.unusedSimpArgs false
set_option maxRecDepth 10000
/-- Rows of rows. -/
def cY (l : List Item) : List AV := [.fs (flatI l) l.length]
def flatY (l : List (List Item)) : List AV := flatC cY l
theorem cY_length (r : List Item) : (cY r).length = 1 := rfl
theorem cY_flat (r : List Item) : flatL (cY r) = true := by simp [cY, AV.flat, flatL]
theorem cY_one (r : List Item) : (cY r).all AV.one = true := rfl
@[simp] theorem flatY_length (l : List (List Item)) : (flatY l).length = l.length := by have := flatC_length cY_length l; rw [Nat.mul_one] at this; exact this
@[simp] theorem flatY_flat (l : List (List Item)) : flatL (flatY l) = true := flatC_flat cY_flat l
@[simp] theorem flatY_one (l : List (List Item)) : (flatY l).all AV.one = true := flatC_one' cY_one l
theorem flatY_get (l : List (List Item)) (k : Nat) (h : k < l.length) : (flatY l)[k]? = some (.fs (flatI l[k]) l[k].length) := by have := flatC_get cY_length l k 0 h (by omega); rw [Nat.mul_one] at this; exact this
@[simp] theorem flatY_at (l : List (List Item)) (k : Nat) (h : k < (flatY l).length) : (flatY l)[k] = .fs (flatI (l[k]'(by simpa using h))) (l[k]'(by simpa using h)).length := by
  have := flatY_get l k (by simpa using h)
  rw [List.getElem?_eq_getElem h] at this
  exact Option.some.inj this
end Go.Proofs.YticpnfgiidljlaaGreat
namespace Go.Proofs.YticpnfgiidljlaaGreat
open Go.RowKit Go.Sort
set_option linter.unusedSimpArgs false
set_option maxRecDepth 10000
section
variable {P : Program} {nt : Nat} {mu : List Nat} {ds : List (Option Nat)} {K : Env → Sto → Prop} {d : Nat} {t : TypeId} {pos : String} {after : Array Edge} {l : List Oper} {env : Env} {σ : Sto}
end
/-- Leaves in a row. -/
def cQ (l : List Item) : List AV := [.fp (cL l) 0]
def flatQ (l : List (List Item)) : List AV := flatC cQ l
theorem cQ_length (r : List Item) : (cQ r).length = 1 := rfl
theorem cQ_flat (r : List Item) : flatL (cQ r) = true := by simp [cQ, AV.flat, flatL]
theorem cQ_one (r : List Item) : (cQ r).all AV.one = true := rfl
@[simp] theorem flatQ_length (l : List (List Item)) : (flatQ l).length = l.length := by have := flatC_length cQ_length l; rw [Nat.mul_one] at this; exact this
@[simp] theorem flatQ_flat (l : List (List Item)) : flatL (flatQ l) = true := flatC_flat cQ_flat l
@[simp] theorem flatQ_one (l : List (List Item)) : (flatQ l).all AV.one = true := flatC_one' cQ_one l
theorem flatQ_get (l : List (List Item)) (k : Nat) (h : k < l.length) : (flatQ l)[k]? = some (.fp (cL l[k]) 0) := by have := flatC_get cQ_length l k 0 h (by omega); rw [Nat.mul_one] at this; exact this
@[simp] theorem flatQ_at (l : List (List Item)) (k : Nat) (h : k < (flatQ l).length) : (flatQ l)[k] = .fp (cL (l[k]'(by simpa using h))) 0 := by
  have := flatQ_get l k (by simpa using h)
  rw [List.getElem?_eq_getElem h] at this
  exact Option.some.inj this
/-- Items so light that no one of them is half of a leaf that is too heavy. -/
def Light (l : List Item) : Prop := ∀ x ∈ l, 2 ≤ iwt x ∧ iwt x ≤ 100 ∧ x.key.size ≤ 1000000 ∧ x.val.size ≤ 1000000
theorem Light.take {l : List Item} (h : Light l) (n : Nat) : Light (l.take n) := fun x hx => h x (List.mem_of_mem_take hx)
theorem Light.drop {l : List Item} (h : Light l) (n : Nat) : Light (l.drop n) := fun x hx => h x (List.mem_of_mem_drop hx)
theorem Light.small {l : List Item} (h : Light l) : ISmall l := fun x hx => (h x hx).2.2
end Go.Proofs.YticpnfgiidljlaaGreat
namespace Go.Proofs.YticpnfgiidljlaaGreat
open Go.RowKit
set_option linter.unusedSimpArgs false
set_option maxRecDepth 10000
end Go.Proofs.YticpnfgiidljlaaGreat
namespace Go.Proofs.YticpnfgiidljlaaGreat
open Go.RowKit
set_option linter.unusedSimpArgs false
end Go.Proofs.YticpnfgiidljlaaGreat
namespace Go.Proofs.YticpnfgiidljlaaGreat
open Go.RowKit
set_option linter.unusedSimpArgs false
set_option maxRecDepth 10000
end Go.Proofs.YticpnfgiidljlaaGreat
namespace Go.Proofs.YticpnfgiidljlaaGreat
open Go.RowKit
set_option linter.unusedSimpArgs false
set_option maxRecDepth 10000
end Go.Proofs.YticpnfgiidljlaaGreat
namespace Go.Proofs.YticpnfgiidljlaaGreat
open Go.RowKit
set_option linter.unusedSimpArgs false
set_option maxRecDepth 10000
instance (l : List Item) : Decidable (Uniq l) := by unfold Uniq; infer_instance
def md : Msg := ⟨2, ⟨#[97]⟩, ⟨#[]⟩⟩
def mp : Msg := ⟨1, ⟨#[99]⟩, ⟨#[51]⟩⟩
end Go.Proofs.YticpnfgiidljlaaGreat
namespace Go.Proofs.YticpnfgiidljlaaGreat
open Go.RowKit
set_option linter.unusedSimpArgs false
set_option maxRecDepth 10000
theorem rW09_spec (l : List Item) (hl : l.length ≤ 900000) (hs : ISmall l) : PSpec Tryz.prog 58 [.fs (flatI l) l.length] (.sc (.int .i64 (iwts l))) := by
  have hw : ∀ k, 0 ≤ iwts (l.take k) ∧ iwts (l.take k) ≤ 2000002 * l.length := fun k => by
    have := iwts_bd (l.take k) fun x hx => hs x (List.mem_of_mem_take hx)
    have h2 : (l.take k).length ≤ l.length := by simp; omega
    omega
  replace hs := Lib.hid hs
  replace hw := Lib.hid hw
  refine spec_pure (by simp) (by simp) ?_
  refine spec_intro Tryz.func58 good58 rfl (by simp [Tryz.ntmps58]) ?_
  repeat' (first
   | (with_reducible first | refine Stp.pf ?_ | refine block_x (by decide) ?_ | refine ret_n ?_)
   | refine tri_reg [] ?_ | refine tri_regc [] [] mixed (by decide +kernel) ?_
   | (refine rwf_nilt rfl (by decide +kernel) fun B hB => ?_; (try simp [*]); refine hB.out _ fun b => ?_; clear hB B)
   | (refine Rul.pf ⟨rfl, rfl⟩ fun B C hB => ?_; (try simp [*, -List.all_eq_true, Tryz.results58]); (try (simp (disch := first | assumption | omega) only [wc, ite_yes]; (try simp [*, -List.all_eq_true, Tryz.results58]))); first | (first | refine hB.out.1 _ (fun hb => ?_) fun hb => ⟨rfl, ?_⟩ | refine hB.out.1 _ (fun hb => ?_) fun hb => ?_) <;> clear hB C B <;> (try simp only [Bool.not_true, Bool.not_false] at hb) <;> (first | (exfalso; simp at hb; done) | (exfalso; simp at hb; omega) | (rw [hb]; (try simp at hb)) | (try simp at hb)) | ((first | refine hB.out.1 _ _ ?_ | refine hB.out.1 _ ?_ | refine hB.out.2 ⟨rfl, ?_⟩); clear hB C B) | (refine hB.out.2 _ ?_; clear hB C B; (try rfl)))
   | refine rwf_o ?_ | refine rwc_o .n rfl ?_ | refine rwc_o .z rfl ?_ | refine rwc_o .w rfl ?_ | refine rwc_o .b rfl ?_ | refine rwc_o _ rfl ?_)
  refine tri_for [0, 2] l.length (fun k e σ => σ = [] ∧ e 4 = .sc (.int .i64 k) ∧ e 3 = .sc (.int .i64 (iwts (l.take k)))) ?_ (fun k env' σ' hlt hk hI => ?_) (fun env' σ' hk hI => ?_)
  · exact ⟨by simp, by simp, by simp [iwts]⟩
  · skip
    (try simp at hk)
    obtain ⟨rfl, h4, h3⟩ := hI
    have hm := hs.out l[k] (List.getElem_mem hlt)
    have h0 := hw.out k
    have h2 := iwts_take l k l[k] (List.getElem?_eq_getElem hlt)
    have h5 : iwt l[k] = 2 + (l[k].key.size : Int) + (l[k].val.size : Int) := rfl
    rw [h2, h5]
    generalize iwts (l.take k) = W0 at *
    repeat' (first
     | (with_reducible first | refine Stp.pf ?_ | refine block_x (by decide) ?_ | refine ret_n ?_)
     | refine tri_reg [] ?_ | refine tri_regc [] [] mixed (by decide +kernel) ?_
     | (refine rwf_nilt rfl (by decide +kernel) fun B hB => ?_; (try simp [*]); refine hB.out _ fun b => ?_; clear hB B)
     | (refine Rul.pf ⟨rfl, rfl⟩ fun B C hB => ?_; (try simp [*, -List.all_eq_true, Tryz.results58]); (try (simp (disch := first | assumption | omega) only [wc, ite_yes]; (try simp [*, -List.all_eq_true, Tryz.results58]))); first | (first | refine hB.out.1 _ (fun hb => ?_) fun hb => ⟨rfl, ?_⟩ | refine hB.out.1 _ (fun hb => ?_) fun hb => ?_) <;> clear hB C B <;> (try simp only [Bool.not_true, Bool.not_false] at hb) <;> (first | (exfalso; simp at hb; done) | (exfalso; simp at hb; omega) | (rw [hb]; (try simp at hb)) | (try simp at hb)) | ((first | refine hB.out.1 _ _ ?_ | refine hB.out.1 _ ?_ | refine hB.out.2 ⟨rfl, ?_⟩); clear hB C B) | (refine hB.out.2 _ ?_; clear hB C B; (try rfl)))
     | refine rwf_o ?_ | refine rwc_o .n rfl ?_ | refine rwc_o .z rfl ?_ | refine rwc_o .w rfl ?_ | refine rwc_o .b rfl ?_ | refine rwc_o _ rfl ?_)
    exact ⟨by simp [*], rfl, by simp, by simp; omega⟩
  · skip
    (try simp at hk)
    obtain ⟨rfl, h4, h3⟩ := hI
    repeat' (first
     | (with_reducible first | refine Stp.pf ?_ | refine block_x (by decide) ?_ | refine ret_n ?_)
     | refine tri_reg [] ?_ | refine tri_regc [] [] mixed (by decide +kernel) ?_
     | (refine rwf_nilt rfl (by decide +kernel) fun B hB => ?_; (try simp [*]); refine hB.out _ fun b => ?_; clear hB B)
     | (refine Rul.pf ⟨rfl, rfl⟩ fun B C hB => ?_; (try simp [*, -List.all_eq_true, Tryz.results58]); (try (simp (disch := first | assumption | omega) only [wc, ite_yes]; (try simp [*, -List.all_eq_true, Tryz.results58]))); first | (first | refine hB.out.1 _ (fun hb => ?_) fun hb => ⟨rfl, ?_⟩ | refine hB.out.1 _ (fun hb => ?_) fun hb => ?_) <;> clear hB C B <;> (try simp only [Bool.not_true, Bool.not_false] at hb) <;> (first | (exfalso; simp at hb; done) | (exfalso; simp at hb; omega) | (rw [hb]; (try simp at hb)) | (try simp at hb)) | ((first | refine hB.out.1 _ _ ?_ | refine hB.out.1 _ ?_ | refine hB.out.2 ⟨rfl, ?_⟩); clear hB C B) | (refine hB.out.2 _ ?_; clear hB C B; (try rfl)))
     | refine rwf_o ?_ | refine rwc_o .n rfl ?_ | refine rwc_o .z rfl ?_ | refine rwc_o .w rfl ?_ | refine rwc_o .b rfl ?_ | refine rwc_o _ rfl ?_)
end Go.Proofs.YticpnfgiidljlaaGreat
namespace Go.Proofs.YticpnfgiidljlaaGreat
open Go.RowKit
set_option linter.unusedSimpArgs false
set_option linter.unusedVariables false
set_option maxRecDepth 10000
/-- A node of the reference's, as cells. -/
def cN5 (b : Bool) (o : List Item) (k : List Int) (p : List Str) (m : List Msg) : List AV := [.sc (.bool b), .fs (flatI o) o.length, .fs (flatN k) k.length, .fs (flatS p) p.length, .fs (flatM m) m.length]
@[simp] theorem cN5_flat (b : Bool) (o : List Item) (k : List Int) (p : List Str) (m : List Msg) : flatL (cN5 b o k p m) = true := by simp [cN5, flatL, AV.flat]
theorem rSame12_spec (b b' : Bool) (o o' : List Item) (k k' : List Int) (p p' : List Str) (m m' : List Msg) (h0 : o.length ≤ 900000) (h0' : o'.length ≤ 900000) (h1 : k.length ≤ 900000) (h1' : k'.length ≤ 900000) (h2 : p.length ≤ 900000) (h2' : p'.length ≤ 900000) (h3 : m.length ≤ 900000) (h3' : m'.length ≤ 900000) :
    PSpec Tryz.prog 15 [.agg (cN5 b o k p m), .agg (cN5 b' o' k' p' m')] (.sc (.bool (decide (b = b') && decide (o = o') && (decide (k = k') && decide (p = p') && decide (m = m'))))) := by
  have e1 := rSame09_spec o o' h0 h0'
  have e2 := rSame11_spec k k' p p' m m' h1 h1' h2 h2' h3 h3'
  generalize (decide (k = k') && decide (p = p') && decide (m = m')) = x at *
  generalize decide (o = o') = y at *
  cases b <;> cases b' <;> cases y
  all_goals
    refine spec_pure (by simp) (by simp) ?_
    refine spec_intro Tryz.func15 good15 rfl (by simp [Tryz.ntmps15]) ?_
    exact go0 [] [] (cns e1 (cns e2 (cns Tryz.results15 (cns cN5.eq_1 (cns cN3.eq_1 trivial)))))
theorem rFits12_l (o : List Item) (k : List Int) (p : List Str) (m : List Msg) (h0 : o.length ≤ 900000) (hs : ISmall o) : PSpec Tryz.prog 19 [.agg (cN5 true o k p m)] (.sc (.bool (decide (iwts o ≤ 240)))) := by
  have e1 := rW09_spec o h0 hs
  clear hs
  refine spec_pure (by simp) (by simp) ?_
  refine spec_intro Tryz.func19 good19 rfl (by simp [Tryz.ntmps19]) ?_
  exact go0 [] [] (cns e1 (cns Tryz.results19 (cns cN5.eq_1 trivial)))
theorem rFits12_i (o : List Item) (k : List Int) (p : List Str) (m : List Msg) (h1 : k.length ≤ 900000) (h3 : m.length ≤ 900000) (hs : MSmall m) : PSpec Tryz.prog 19 [.agg (cN5 false o k p m)] (.sc (.bool (fitsIn k m))) := by
  have e1 := rWeight_spec m h3 hs
  clear hs
  refine spec_pure (by simp) (by simp) ?_
  refine spec_intro Tryz.func19 good19 rfl (by simp [Tryz.ntmps19]) ?_
  refine go1 [] [] (cns Tryz.results19 (cns cN5.eq_1 trivial)) ?_
  refine tri_for [1] k.length (fun k_ e σ => σ = [] ∧ e 3 = .sc (.int .i64 k_) ∧ ∀ x ∈ k.take k_, x < 512) ?_ (fun j env' σ' hlt hk hI => ?_) (fun env' σ' hk hI => ?_)
  · exact ⟨by simp, by simp, by simp⟩
  · skip
    (try simp at hk)
    obtain ⟨rfl, h5, ha⟩ := hI
    clear e1
    by_cases hx : k[j] < 512
    · have nx : ∀ x ∈ k.take (j + 1), x < 512 := fun x hm => by
        rw [List.take_succ_eq_append_getElem hlt] at hm
        rcases List.mem_append.1 hm with q | q
        · exact ha x q
        · rw [List.mem_singleton.1 q]; exact hx
      replace nx := Lib.hid nx
      have hx' : k[j] ≤ 511 := by omega
      clear ha
      refine go1 [] [] (cns Tryz.results19 (cns cN5.eq_1 trivial)) ?_
      exact ⟨by simp [*], rfl, by simp, nx.out⟩
    · have : fitsIn k m = false := by
        cases h : fitsIn k m with
        | false => rfl
        | true => exact absurd ((fitsIn_iff.1 h).2.2 _ (List.getElem_mem hlt)) hx
      rw [this]
      have hx' : ¬ k[j] ≤ 511 := by omega
      clear this ha hx
      exact go0 [] [] (cns Tryz.results19 (cns cN5.eq_1 trivial))
  · skip
    (try simp at hk)
    obtain ⟨rfl, h5, ha⟩ := hI
    rw [List.take_length] at ha
    have hf : fitsIn k m = (decide (k.length ≤ 6) && decide (mwts m ≤ 180)) := by
      unfold fitsIn
      rw [List.all_eq_true.2 fun x hx => decide_eq_true (ha x hx), Bool.and_true]
    rw [hf]
    clear ha hf
    by_cases c1 : k.length ≤ 6
    · rw [decide_eq_true c1, Bool.true_and]
      exact go0 [] [] (cns e1 (cns Tryz.results19 (cns cN5.eq_1 trivial)))
    · rw [decide_eq_false c1, Bool.false_and]
      have c1' : ¬ (k.length : Int) ≤ 6 := by omega
      clear e1
      exact go0 [] [] (cns Tryz.results19 (cns cN5.eq_1 trivial))
end Go.Proofs.YticpnfgiidljlaaGreat
