/- Arguments' types: places, deeds, numbers, bools. -/
import Derived.Test.YtgdefllblcmgpaaOpq
import Derived.Test.YtgdefllblcmgpaaYj
namespace Go.Proofs.Ytgdefllblcmgpaa
open Go.ChangeShapes Go.WideShapes Go.Deep Go.RowKit
theorem typ_ext {n : Nat} {ys : List AV} (h : TypA Try.prog n 31 ys) : ∃ x : Ext, ys = cE x := by
  obtain ⟨m, L, rfl, hL, hf⟩ := typ_struct Try.underlying31 h
  match L, hL with
  | [y1, y2], _ =>
    obtain ⟨z1, rfl, _⟩ := typ_int (k := .i64) Try.underlying3 (hf 0 _ y1 rfl rfl)
    obtain ⟨z2, rfl, _⟩ := typ_int (k := .i64) Try.underlying3 (hf 1 _ y2 rfl rfl)
    exact ⟨⟨z1, z2⟩, rfl⟩
theorem typ_exts {n : Nat} {x : AV} (h : TypA Try.prog n 33 [x]) : ∃ l : List Ext, x = .fs (flatE l) l.length ∧ l.length ≤ 9223372036854775807 := typ_rows Try.underlying33 (cells_pos (k := 1) (by kernel_rfl)) h fun _ _ => typ_ext
/-- A deed. -/
structure Act where
  kind : Int
  n : Int
  l : List Ext
  small : l.length ≤ 9223372036854775807
def cA (a : Act) : List AV := [.sc (.int .i64 a.kind), .sc (.int .i64 a.n), .fs (flatE a.l) a.l.length]
def flatA (l : List Act) : List AV := flatC cA l
@[simp] theorem cA_length (a : Act) : (cA a).length = 3 := rfl
@[simp] theorem flatA_length (l : List Act) : (flatA l).length = l.length * 3 := flatC_length cA_length l
@[simp] theorem flatA_flat (l : List Act) : flatL (flatA l) = true := flatC_flat (fun a => by simp [cA, AV.flat, flatL]) l
theorem flatA_seg (l : List Act) (k : Nat) (h : k < l.length) : ((flatA l).drop (k * 3)).take 3 = cA l[k] := flatC_seg cA_length l k h
theorem typ_act {n : Nat} {ys : List AV} (h : TypA Try.prog n 42 ys) : ∃ a : Act, ys = cA a := by
  obtain ⟨m, L, rfl, hL, hf⟩ := typ_struct Try.underlying42 h
  match L, hL with
  | [y1, y2, y3], _ =>
    obtain ⟨z1, rfl, _⟩ := typ_int (k := .i64) Try.underlying3 (hf 0 _ y1 rfl rfl)
    obtain ⟨z2, rfl, _⟩ := typ_int (k := .i64) Try.underlying3 (hf 1 _ y2 rfl rfl)
    have h3 := hf 2 _ y3 rfl rfl
    obtain ⟨cells, len, rfl⟩ := typ_slc Try.underlying33 (cells_pos (k := 1) (by kernel_rfl)) h3
    obtain ⟨l, ha, hl⟩ := typ_exts h3
    exact ⟨⟨z1, z2, l, hl⟩, by rw [ha]; rfl⟩
theorem typ_acts {n : Nat} {x : AV} (h : TypA Try.prog n 40 [x]) : ∃ l : List Act, x = .fs (flatA l) l.length ∧ l.length ≤ 9223372036854775807 := typ_rows Try.underlying40 (cells_pos (k := 2) (by kernel_rfl)) h fun _ _ => typ_act
end Go.Proofs.Ytgdefllblcmgpaa
