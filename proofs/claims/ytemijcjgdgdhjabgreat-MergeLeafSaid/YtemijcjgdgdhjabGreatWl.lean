/- Loads, and the heaviest part. -/
import Derived.Test.YtemijcjgdgdhjabGreatWap
import Derived.Test.YtemijcjgdgdhjabGreatLc
import Derived.Test.YtemijcjgdgdhjabGreatWt
import Derived.Test.YtemijcjgdgdhjabGreatWh
namespace Go.Proofs.YtemijcjgdgdhjabGreat
open Go.RowKit
set_option linter.unusedSimpArgs false
set_option maxRecDepth 10000
/-- A range, as cells. -/
def cR (r : Str × Str) : List AV := [.sc (.string r.1), .sc (.string r.2)]
def flatR (l : List (Str × Str)) : List AV := flatC cR l
@[simp] theorem cR_flat (r : Str × Str) : flatL (cR r) = true := rfl
@[simp] theorem cR_one (r : Str × Str) : (cR r).all AV.one = true := rfl
@[simp] theorem take_cR (r : Str × Str) : List.take 2 (cR r) = cR r := rfl
@[simp] theorem wrR (a b : AV) (m : Str × Str) : wr [a, b] 0 (cR m) = cR m := rfl
@[simp] theorem wrR2 (a b : AV) (m : Str × Str) : wr (zerosA [a, b] 2) 0 (cR m) = cR m := rfl
@[simp] theorem cR_length (m : Str × Str) : (cR m).length = 2 := rfl
@[simp] theorem flatR_length (l : List (Str × Str)) : (flatR l).length = l.length * 2 := flatC_length cR_length l
@[simp] theorem flatR_flat (l : List (Str × Str)) : flatL (flatR l) = true := flatC_flat (fun _ => rfl) l
@[simp] theorem flatR_one (l : List (Str × Str)) : (flatR l).all AV.one = true := flatC_one' (fun _ => rfl) l
theorem flatR_seg (l : List (Str × Str)) (k : Nat) (h : k < l.length) : ((flatR l).drop (k * 2)).take 2 = cR l[k] := flatC_seg cR_length l k h
end Go.Proofs.YtemijcjgdgdhjabGreat
namespace Go.Proofs.YtemijcjgdgdhjabGreat
open Go.RowKit
set_option linter.unusedSimpArgs false
set_option maxRecDepth 10000
/-- The weight of each part. -/
def loadsL (l : List Msg) (rs : List (Str × Str)) : List Int := rs.map fun r => mwts (takeM l r.1 r.2 true)
@[simp] theorem loadsL_length (l : List Msg) (rs : List (Str × Str)) : (loadsL l rs).length = rs.length := by simp [loadsL]
@[simp] theorem flatR_gets (l : List (Str × Str)) (k : Nat) (h : k < l.length) : List.take 2 (List.drop (k * 2) (flatR l)) = cR l[k] := flatR_seg l k h
/-- Parts, as cells. -/
def cP (x : Int × Int) : List AV := [.sc (.int .i64 x.1), .sc (.int .i64 x.2)]
def flatP (l : List (Int × Int)) : List AV := flatC cP l
@[simp] theorem cP_length (m : Int × Int) : (cP m).length = 2 := rfl
@[simp] theorem cP_flat (r : Int × Int) : flatL (cP r) = true := rfl
@[simp] theorem cP_one (r : Int × Int) : (cP r).all AV.one = true := rfl
@[simp] theorem take_cP (r : Int × Int) : List.take 2 (cP r) = cP r := rfl
@[simp] theorem flatP_length (l : List (Int × Int)) : (flatP l).length = l.length * 2 := flatC_length cP_length l
@[simp] theorem flatP_flat (l : List (Int × Int)) : flatL (flatP l) = true := flatC_flat (fun _ => rfl) l
@[simp] theorem flatP_one (l : List (Int × Int)) : (flatP l).all AV.one = true := flatC_one' (fun _ => rfl) l
theorem flatP_0 (l : List (Int × Int)) (k : Nat) (h : k < l.length) : (flatP l)[k * 2]? = some (.sc (.int .i64 l[k].1)) := flatC_get cP_length l k 0 h (by omega)
@[simp] theorem flatP_at0 (l : List (Int × Int)) (k : Nat) (h : k * 2 < (flatP l).length) : (flatP l)[k * 2] = .sc (.int .i64 (l[k]'(by simp at h; omega)).1) := by
  have h' : k < l.length := by simp at h; omega
  have := flatP_0 l k h'
  rw [List.getElem?_eq_getElem h] at this
  exact Option.some.inj this
theorem row_lend {k p : Nat} {σ : Sto} {v : AV} {n : Nat} {cs : List AV} (h : RowAt k p σ v n cs) (hf : flatL cs = true) (ys : List AV) (hy : flatL ys = true) : ∃ ls xs, frzL σ ls 9 (v :: ys) = some xs ∧ WkL xs (.fs cs n :: ys) := by
  have hys : WkL ys ys := ⟨rfl, fun i x y h1 h2 => by rw [h1] at h2; cases h2; exact .refl _⟩
  rcases h with ⟨rfl, rfl, rfl⟩ | ⟨i, g, off, c, rfl, _, h1, h2, h3⟩
  · refine ⟨[], .sc (.slice none 0 0) :: ys, by simp [frzL, AV.flat, flatL, hy], .cons .nil hys⟩
  · refine ⟨[i], .fs cs n :: ys, ?_, .cons (.refl _) hys⟩
    simp [frzL, frz, AV.flat, flatL, h1, h2, h3, hf, hy]
end Go.Proofs.YtemijcjgdgdhjabGreat
