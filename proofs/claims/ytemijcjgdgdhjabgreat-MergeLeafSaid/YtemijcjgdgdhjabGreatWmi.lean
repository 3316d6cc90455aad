/- The reference's Over; the law MergeOver. -/
import Derived.Test.YtemijcjgdgdhjabGreatWmc
import Derived.Test.YtemijcjgdgdhjabGreatPoi
import Derived.Test.YtemijcjgdgdhjabGreatWmg
import Derived.Test.YtemijcjgdgdhjabGreatWmf
namespace Go.Proofs.YtemijcjgdgdhjabGreat
open Go.RowKit
set_option linter.unusedSimpArgs false
theorem foldI_ok : ∀ (rs : List (List Msg)) (l : List Item), RiseI l → (∀ x ∈ l, okI x = true) → (∀ q ∈ rs, ∀ x ∈ q, isMsg x = true) → RiseI (rs.foldl withI l) ∧ (∀ x ∈ rs.foldl withI l, okI x = true) ∧ (rs.foldl withI l).length ≤ l.length + lenU rs ∧ ∀ k, lookI k (rs.foldl withI l) = rs.flatten.foldl (fun s m => if m.key = k then actM s m else s) (lookI k l)
  | [], l, hr, ho, _ => ⟨hr, ho, by simp [lenU], fun k => rfl⟩
  | q :: rs, l, hr, ho, hq => by
    obtain ⟨h1, h2, h3, h4⟩ := withI_ok q l hr ho (hq q (by simp))
    obtain ⟨i1, i2, i3, i4⟩ := foldI_ok rs (withI l q) h1 h2 fun r hx => hq r (by simp [hx])
    have e : lenU (q :: rs) = q.length + lenU rs := by simp [lenU]
    refine ⟨i1, i2, by rw [List.foldl_cons, e]; omega, fun k => ?_⟩
    rw [List.foldl_cons, i4 k, h4 k, List.flatten_cons, List.foldl_append]
def resM (o : Option Msg) : Option Str := o.bind fun m => actM none m
theorem comb_act {a m : Msg} (ha : isMsg a = true) (hm : isMsg m = true) (h : a.key = m.key) : actM none (combM a m) = actM (actM none a) m := by
  have hv := comb_valid ha hm h
  have hc : combM a m = if m.kind ≠ 3 then m else if a.kind = 2 then ⟨1, m.key, m.val⟩ else ⟨a.kind, a.key, sumS a.val m.val⟩ := by
    unfold combM thenM
    rw [if_pos ⟨ha, hm, h⟩]
    rfl
  have ka : a.kind = 1 ∨ a.kind = 2 ∨ a.kind = 3 := by unfold isMsg at ha; simp at ha; omega
  have km : m.kind = 1 ∨ m.kind = 2 ∨ m.kind = 3 := by unfold isMsg at hm; simp at hm; omega
  rw [hc] at hv ⊢
  unfold actM applyM
  rcases ka with ka | ka | ka <;> rcases km with km | km | km <;> simp_all
theorem res_step {o : Option Msg} {m : Msg} (ho : ∀ a, o = some a → isMsg a = true ∧ a.key = m.key) (hm : isMsg m = true) : resM (some (cmbO o m)) = actM (resM o) m := by
  cases o with
  | none => rfl
  | some a => exact comb_act (ho a rfl).1 hm (ho a rfl).2
theorem res_fold {k : Str} : ∀ (l : List Msg) (o : Option Msg), (∀ a, o = some a → isMsg a = true ∧ a.key = k) → (∀ x ∈ l, isMsg x = true) → resM (l.foldl (stepK k) o) = l.foldl (fun s m => if m.key = k then actM s m else s) (resM o)
  | [], _, _, _ => rfl
  | m :: l, o, ho, hl => by
    rw [List.foldl_cons, List.foldl_cons]
    have hm := hl m (by simp)
    by_cases hk : m.key = k
    · have hs : stepK k o m = some (cmbO o m) := by unfold stepK; rw [if_pos hk]
      rw [hs, if_pos hk, res_fold l _ ?_ fun x hx => hl x (by simp [hx]), res_step (fun a e => by rw [hk]; exact ho a e) hm]
      intro a e
      cases e
      cases o with
      | none => exact ⟨hm, hk⟩
      | some b =>
        obtain ⟨h1, h2⟩ := ho b rfl
        exact ⟨comb_valid h1 hm (h2.trans hk.symm), (comb_key h1 hm (h2.trans hk.symm)).trans hk⟩
    · have hs : stepK k o m = o := by unfold stepK; rw [if_neg hk]
      rw [hs, if_neg hk, res_fold l o ho fun x hx => hl x (by simp [hx])]
theorem puts_fold {k : Str} : ∀ (l : List Item) (s : Option Str), (∀ x ∈ l, okI x = true) → (l.map putI).foldl (fun s m => if m.key = k then actM s m else s) s = l.foldl (fun s x => if x.key = k then some x.val else s) s
  | [], _, _ => rfl
  | x :: l, s, h => by
    have hx : isMsg (putI x) = true := h x (by simp)
    rw [List.map_cons, List.foldl_cons, List.foldl_cons, puts_fold l _ fun y hy => h y (by simp [hy])]
    congr 1
    have e : (putI x).key = x.key := rfl
    rw [e]
    split
    · unfold actM applyM; rw [hx]; simp [putI]
    · rfl
theorem look_items {k : Str} : ∀ (M : List Msg), M.Pairwise (fun x y => slt x.key y.key = true) → lookI k (itemsM M) = resM (lookM k M)
  | [], _ => rfl
  | m :: M, h => by
    rw [List.pairwise_cons] at h
    have ih := look_items (k := k) M h.2
    have hi : itemsM (m :: M) = (match actM none m with
      | some v => [⟨m.key, v⟩]
      | none => []) ++ itemsM M := by
      unfold itemsM actM
      rw [List.filterMap_cons]
      simp only [Option.getD_none, Option.isSome_none]
      split <;> simp_all
    rw [hi, lookI_app, ih]
    by_cases hk : m.key = k
    · have h1 : lookM k M = none := lookM_none fun x hx e => slt_ne (h.1 x hx) (hk.trans e.symm)
      have h2 : lookM k (m :: M) = some m := by unfold lookM; simp [hk]
      rw [h1, h2]
      show (none : Option Str).or _ = actM none m
      cases actM none m with
      | none => rfl
      | some v => simp [lookI, hk]
    · have h2 : lookM k (m :: M) = lookM k M := by unfold lookM; simp [hk]
      rw [h2]
      have : lookI k (match actM none m with
        | some v => [⟨m.key, v⟩]
        | none => []) = none := by
        cases actM none m with
        | none => rfl
        | some v => simp [lookI, hk]
      rw [this]
      cases resM (lookM k M) <;> rfl
theorem items_rise {M : List Msg} (h : M.Pairwise (fun x y => slt x.key y.key = true)) : RiseI (itemsM M) := by
  unfold RiseI itemsM
  rw [List.pairwise_filterMap]
  refine h.imp fun {a b} hab x hx y hy => ?_
  split at hx <;> split at hy <;> simp_all
  subst hx hy
  exact hab
theorem lookM_puts {k : Str} : ∀ {l : List Item}, RiseI l → lookM k (l.map putI) = (lookI k l).map fun v => ⟨1, k, v⟩
  | [], _ => rfl
  | x :: l, h => by
    unfold RiseI at h
    rw [List.pairwise_cons] at h
    have ih := lookM_puts (k := k) h.2
    rw [lookI_cons, List.map_cons]
    by_cases hk : x.key = k
    · have h1 : lookI k l = none := lookI_none fun y hy e => slt_ne (h.1 y hy) (hk.trans e.symm)
      have h2 : lookM k (putI x :: l.map putI) = some (putI x) := by
        have : (putI x).key = k := hk
        unfold lookM; simp [this]
      rw [h1, h2, if_pos hk]
      subst hk
      rfl
    · have h2 : lookM k (putI x :: l.map putI) = lookM k (l.map putI) := by
        have : ¬ (putI x).key = k := hk
        unfold lookM; simp [this]
      rw [h2, ih, if_neg hk]
      cases lookI k l <;> rfl
theorem items_ext {a b : List Item} (ha : RiseI a) (hb : RiseI b) (h : ∀ k, lookI k a = lookI k b) : a = b := by
  have hp : ∀ {l : List Item}, RiseI l → (l.map putI).Pairwise (fun x y => slt x.key y.key = true) := fun {l} hl => by
    rw [List.pairwise_map]; exact hl
  have := look_ext _ _ (hp ha) (hp hb) fun k => by rw [lookM_puts ha, lookM_puts hb, h k]
  have hinj : ∀ x y : Item, putI x = putI y → x = y := fun x y e => by
    cases x; cases y; simp [putI] at e; simp [e]
  exact (List.map_inj_right (f := putI) fun x y e => hinj x y e).1 this
/-- What Over tells is what the reference's With makes of the items, run by run. -/
theorem over_fold {l : List Item} {rs : List (List Msg)} (hr : RiseI l) (ho : ∀ x ∈ l, okI x = true) (hg : GoodQ rs) : itemsM (mergedU (l.map putI :: rs)) = rs.foldl withI l := by
  have hg' : GoodQ (l.map putI :: rs) := fun q hq => by
    rcases List.mem_cons.1 hq with rfl | hq
    · refine ⟨by rw [List.pairwise_map]; exact hr, fun x hx => ?_⟩
      obtain ⟨y, hy, rfl⟩ := List.mem_map.1 hx
      exact ho y hy
    · exact hg q hq
  obtain ⟨f1, f2, f3⟩ := foldR_ok (l.map putI :: rs) [] rise_nil (by simp) fun q hq => (hg' q hq).2
  obtain ⟨g1, g2, g3, g4⟩ := foldI_ok rs l hr ho fun q hq => (hg q hq).2
  have hmf : mergedU (l.map putI :: rs) = (l.map putI :: rs).foldl withM [] := merged_fold hg'
  rw [hmf]
  have f1' := rise_iff.1 f1
  refine items_ext (items_rise f1') g1 fun k => ?_
  rw [look_items _ f1', f3 k, g4 k, res_fold _ _ (fun a e => by simp [lookM] at e) fun x hx => ?_, List.flatten_cons, List.foldl_append, puts_fold l _ ho]
  · rfl
  · obtain ⟨q, hq, hx⟩ := List.mem_flatten.1 hx
    exact (hg' q hq).2 x hx
end Go.Proofs.YtemijcjgdgdhjabGreat
namespace Go.Proofs.YtemijcjgdgdhjabGreat
open Go.RowKit
set_option linter.unusedSimpArgs false
set_option maxRecDepth 10000
end Go.Proofs.YtemijcjgdgdhjabGreat
namespace Go.Proofs.YtemijcjgdgdhjabGreat
open Go.RowKit
set_option linter.unusedSimpArgs false
set_option maxRecDepth 10000
instance (l : List Item) : Decidable (RiseI l) := by unfold RiseI; infer_instance
theorem errU_skip {q : List Msg} {rs : List (List Msg)} (h : checkM q = 0) : errU (q :: rs) = errU rs := by
  unfold errU
  rw [List.foldl_cons, h]
  rfl
theorem check_puts {l : List Item} (ha : l.all okI = true) : checkM (l.map putI) = if RiseI l then 0 else 11 := by
  have h1 : (l.map putI).all isMsg = true := by
    rw [List.all_map]
    exact ha
  have h2 : ((l.map putI).Pairwise fun x y => slt x.key y.key = true) ↔ RiseI l := by rw [List.pairwise_map]; rfl
  unfold checkM riseB
  rw [if_neg (by rw [h1]; simp)]
  by_cases h : RiseI l
  · rw [if_neg (by simpa using h2.2 h), if_pos h]
  · rw [if_pos (by simpa using fun h3 => h (h2.1 h3)), if_neg h]
theorem foldI_succ {l : List Item} {rs : List (List Msg)} {k : Nat} (h : k < rs.length) : (rs.take (k + 1)).foldl withI l = withI ((rs.take k).foldl withI l) rs[k] := by
  rw [List.take_add_one, List.getElem?_eq_getElem h, List.foldl_append]
  rfl
end Go.Proofs.YtemijcjgdgdhjabGreat
