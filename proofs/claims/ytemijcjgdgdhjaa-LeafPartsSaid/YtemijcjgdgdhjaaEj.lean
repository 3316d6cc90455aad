/- The law's awake, layer 9. -/
import Derived.Test.YtemijcjgdgdhjaaEi
import Derived.Test.YtemijcjgdgdhjaaWgd
namespace Go.Proofs.Ytemijcjgdgdhjaa
open Go.RowKit
set_option linter.unusedSimpArgs false
set_option maxRecDepth 10000
instance (l : List Item) : Decidable (Uniq l) := by unfold Uniq; infer_instance
def ia : Item := ⟨⟨#[97]⟩, ⟨#[49]⟩⟩
def ib : Item := ⟨⟨#[98]⟩, ⟨#[50]⟩⟩
def ic : Item := ⟨⟨#[99]⟩, ⟨#[51]⟩⟩
def ia2 : Item := ⟨⟨#[97]⟩, ⟨#[50]⟩⟩
def md : Msg := ⟨2, ⟨#[97]⟩, ⟨#[]⟩⟩
def mp : Msg := ⟨1, ⟨#[99]⟩, ⟨#[51]⟩⟩
theorem aw9_1 : leafR [ib, ia] = .tup [.fp (cL [ia, ib]) 0, .sc (.int .i64 0)] := by
  have h1 : [ib, ia].all okI = true := by decide +kernel
  have h2 : ofL [ib, ia] = some [ia, ib] := by decide +kernel
  unfold leafR
  rw [if_neg (by rw [h1]; simp), h2]
theorem aw9_2 : leafR [ia, ia2] = .tup [.sc (.pointer none), .sc (.int .i64 11)] := by
  have h1 : [ia, ia2].all okI = true := by decide +kernel
  have h2 : ofL [ia, ia2] = none := by decide +kernel
  unfold leafR
  rw [if_neg (by rw [h1]; simp), h2]
theorem aw9_3 : lwithR [ia, ib] [md, mp] = .tup [.fp (cL [ib, ic]) 0, .sc (.int .i64 0)] := by
  have h1 : [md, mp].all isMsg = true := by decide +kernel
  have h2 : withI [ia, ib] [md, mp] = [ib, ic] := by decide +kernel
  unfold lwithR
  rw [if_pos h1, h2]
theorem aw9_rise1 : RiseI [ia, ib] := by unfold RiseI; decide +kernel
theorem aw9_rise2 : RiseI [ib, ic] := by unfold RiseI; decide +kernel
theorem aw9_ok : ∀ x ∈ [ia, ib], okI x = true := by decide +kernel
theorem aw9_f1 : lookI ⟨#[99]⟩ [ib, ic] = some ⟨#[51]⟩ := by decide +kernel
theorem aw9_f2 : lookI ⟨#[97]⟩ [ib, ic] = none := by decide +kernel
theorem aw9_w : iwts [ia, ib] = 8 := by decide +kernel
theorem aw9_ok2 : ∀ x ∈ [ib, ic], okI x = true := by decide +kernel
theorem aw9_p : partsI [ib, ic] = [[ib, ic]] := by
  rw [partsI_eq (ok_light aw9_ok2), if_pos (by decide +kernel)]
theorem lParts_pure (l : List Item) (hl : l.length ≤ 900000) (h : Light l) : PSpec Try.prog 51 [.fp (cL l) 0] (.fs (flatQ (partsI l)) (partsI l).length) :=
  spec_pureFW (by simp) (Spec.mono (lParts_spec l.length l (Nat.le_refl _) hl h []) fun r s hq => out_own hq.1 (by simp))
set_option maxHeartbeats 2000000 in
theorem awake09_spec : PSpec Try.prog 43 [] (.sc (.bool true)) := by
  have o1 := lOf_spec [ib, ia] (by decide)
  have o2 := lOf_spec [ia, ia2] (by decide)
  have w1 := lWith_spec [ia, ib] [md, mp] (by decide) aw9_rise1 aw9_ok
  rw [aw9_1] at o1
  rw [aw9_2] at o2
  rw [aw9_3] at w1
  have f1 := lFind_spec [ib, ic] (by decide) aw9_rise2 ⟨#[99]⟩
  have f2 := lFind_spec [ib, ic] (by decide) aw9_rise2 ⟨#[97]⟩
  rw [aw9_f1] at f1
  rw [aw9_f2] at f2
  have n1 := lLen_spec [ia, ib]
  have n2 := lWeight_spec [ia, ib]
  rw [aw9_w] at n2
  have n3 := lLow_spec [ia, ib]
  have n4 := lLow_spec [ib, ic]
  have n5 := lParts_pure [ib, ic] (by decide) (ok_light aw9_ok2)
  rw [aw9_p] at n5
  rw [show lowK [ia, ib] = ⟨#[97]⟩ from rfl] at n3
  rw [show lowK [ib, ic] = ⟨#[98]⟩ from rfl] at n4
  have e1 : [AV.fs (flatI [ib, ia]) [ib, ia].length] = [.fs (cI ib ++ cI ia) 2] := rfl
  have e2 : [AV.fs (flatI [ia, ia2]) [ia, ia2].length] = [.fs (cI ia ++ cI ia2) 2] := rfl
  rw [e1] at o1
  rw [e2] at o2
  have i1 := item09_spec ⟨#[98]⟩ ⟨#[50]⟩
  have i2 := item09_spec ⟨#[97]⟩ ⟨#[49]⟩
  have i3 := item09_spec ⟨#[97]⟩ ⟨#[50]⟩
  have m1 := ofDel_spec ⟨#[97]⟩
  have m2 := ofPut_spec ⟨#[99]⟩ ⟨#[51]⟩
  refine spec_pure (by simp) (by simp) ?_
  refine spec_intro Try.func43 good43 rfl (by simp [Try.ntmps43]) ?_
  repeat' (first
   | (with_reducible first | refine Stp.pf ?_ | refine block_x (by decide) ?_ | refine ret_n ?_)
   | refine tri_reg [] ?_ | refine tri_regc [] [] mixed (by decide +kernel) ?_
   | (refine rwf_nilt rfl (by decide +kernel) fun B hB => ?_; (try simp [*]); refine hB.out _ fun b => ?_; clear hB B)
   | (refine Rul.pf ⟨rfl, rfl⟩ fun B C hB => ?_; (try simp [*, -List.all_eq_true, Try.results43]); (try (simp (disch := first | assumption | omega) only [wc, ite_yes]; (try simp [*, -List.all_eq_true, Try.results43]))); first | (first | refine hB.out.1 _ (fun hb => ?_) fun hb => ⟨rfl, ?_⟩ | refine hB.out.1 _ (fun hb => ?_) fun hb => ?_) <;> clear hB C B <;> (try simp only [Bool.not_true, Bool.not_false] at hb) <;> (first | (exfalso; simp at hb; done) | (exfalso; simp at hb; omega) | (rw [hb]; (try simp at hb)) | (try simp at hb)) | ((first | refine hB.out.1 _ _ ?_ | refine hB.out.1 _ ?_ | refine hB.out.2.1 _ _ _ (o1) ?_ | refine hB.out.2.2 _ _ _ (o1) ?_ | refine hB.out.2.1 _ _ _ (o2) ?_ | refine hB.out.2.2 _ _ _ (o2) ?_ | refine hB.out.2.1 _ _ _ (w1) ?_ | refine hB.out.2.2 _ _ _ (w1) ?_ | refine hB.out.2.1 _ _ _ (f1) ?_ | refine hB.out.2.2 _ _ _ (f1) ?_ | refine hB.out.2.1 _ _ _ (f2) ?_ | refine hB.out.2.2 _ _ _ (f2) ?_ | refine hB.out.2.1 _ _ _ (n1) ?_ | refine hB.out.2.2 _ _ _ (n1) ?_ | refine hB.out.2.1 _ _ _ (n2) ?_ | refine hB.out.2.2 _ _ _ (n2) ?_ | refine hB.out.2.1 _ _ _ (n3) ?_ | refine hB.out.2.2 _ _ _ (n3) ?_ | refine hB.out.2.1 _ _ _ (n4) ?_ | refine hB.out.2.2 _ _ _ (n4) ?_ | refine hB.out.2.1 _ _ _ (n5) ?_ | refine hB.out.2.2 _ _ _ (n5) ?_ | refine hB.out.2.1 _ _ _ (i1) ?_ | refine hB.out.2.2 _ _ _ (i1) ?_ | refine hB.out.2.1 _ _ _ (i2) ?_ | refine hB.out.2.2 _ _ _ (i2) ?_ | refine hB.out.2.1 _ _ _ (i3) ?_ | refine hB.out.2.2 _ _ _ (i3) ?_ | refine hB.out.2.1 _ _ _ (m1) ?_ | refine hB.out.2.2 _ _ _ (m1) ?_ | refine hB.out.2.1 _ _ _ (m2) ?_ | refine hB.out.2.2 _ _ _ (m2) ?_ | refine hB.out.2 ⟨rfl, ?_⟩); clear hB C B) | (refine hB.out.2 _ ?_; clear hB C B; (try rfl)))
   | refine rwf_o ?_ | refine rwc_o .n rfl ?_ | refine rwc_o .z rfl ?_ | refine rwc_o .w rfl ?_ | refine rwc_o .b rfl ?_ | refine rwc_o _ rfl ?_)
end Go.Proofs.Ytemijcjgdgdhjaa
