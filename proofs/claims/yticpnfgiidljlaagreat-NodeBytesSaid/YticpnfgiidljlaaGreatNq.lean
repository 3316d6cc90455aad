/- The reference of nodes: Bytes. -/
import Derived.Test.YticpnfgiidljlaaGreatNh
import Derived.Test.YticpnfgiidljlaaGreatNp
import Derived.Test.YticpnfgiidljlaaGreatNg
namespace Go.Proofs.YticpnfgiidljlaaGreat
open Go.RowKit
set_option linter.unusedSimpArgs false
set_option linter.unusedVariables false
set_option maxRecDepth 10000
theorem one_app (b : UInt8) (s : Str) : ((⟨#[b]⟩ : ByteArray) ++ s) = ofL' (b :: strL s) := by
  apply ByteArray.ext
  apply Array.ext'
  simp [ofL', strL, ByteArray.data_append]
theorem one_size (b : UInt8) : (⟨#[b]⟩ : ByteArray).size = 1 := rfl
theorem rText_spec (s : Str) (h : s.size ≤ 255) : PSpec Tryz.prog 60 [.sc (.string s)] (.tup [.sc (.string (ofL' (textB (strL s)))), .sc (.bool true)]) := by
  have h2 : ¬ (255 : Int) < (s.size : Int) := by omega
  have h3 : IntKind.u8.wrap (s.size : Int) = s.size := by rw [IntKind.wrap_u8]; omega
  have h4 : 1 + s.size ≤ 9223372036854775807 := by omega
  have hu := one_size
  have ho := one_app
  rw [textB, strL_len]
  refine spec_pure (by simp) (by simp) ?_
  refine spec_intro Tryz.func60 good60 rfl (by simp [Tryz.ntmps60]) ?_
  exact go0 [] [] (cns Tryz.results60 trivial)
theorem rNum2_spec (z : Nat) (h : z < 65536) : PSpec Tryz.prog 61 [.sc (.int .i64 2), .sc (.int .i64 z)] (.tup [.sc (.string (ofL' (numB z 2))), .sc (.bool true)]) := by
  refine spec_pureFW (by simp) ?_
  refine spec_intro Tryz.func61 good61 rfl (by simp [Tryz.ntmps61]) ?_
  have hn : numB z 2 = [UInt8.ofNat ((z : Int) / 256 % 256).toNat, UInt8.ofNat ((z : Int) % 256).toNat] := by
    have e1 : ((z : Int) / 256 % 256).toNat = z / 256 % 256 := by omega
    have e2 : ((z : Int) % 256).toNat = z % 256 := by omega
    have e3 : ∀ y : Nat, UInt8.ofNat (y % 256) = UInt8.ofNat y := fun y => by
      apply UInt8.toNat_inj.1
      rw [UInt8.toNat_ofNat', UInt8.toNat_ofNat']; omega
    rw [e1, e2, e3, e3]
    simp [numB]
  rw [hn]
  clear hn
  refine go1 [27] [] (cns Tryz.results61 trivial) ?_
  refine tri_whl [4, 5, 6] 2 (fun m e σ => ∃ cs, σ = [⟨cs, 0, false, false⟩] ∧ e 6 = .ms 0 0 0 2 1 ∧ ((m = 2 ∧ cs = [.sc (.int .u8 0), .sc (.int .u8 0)] ∧ e 1 = .sc (.int .i64 z) ∧ e 7 = .sc (.int .i64 1)) ∨ (m = 1 ∧ cs = [.sc (.int .u8 0), .sc (.int .u8 ((z : Int) % 256))] ∧ e 1 = .sc (.int .i64 ((z : Int) / 256)) ∧ e 7 = .sc (.int .i64 0)) ∨ (m = 0 ∧ cs = [.sc (.int .u8 ((z : Int) / 256 % 256)), .sc (.int .u8 ((z : Int) % 256))] ∧ e 1 = .sc (.int .i64 0) ∧ e 7 = .sc (.int .i64 (-1))))) ?_ (fun m env' σ' hm hk hI => ?_)
  · exact ⟨2, by omega, _, rfl, by simp, .inl ⟨rfl, rfl, by simp, by simp⟩⟩
  · skip
    (try simp at hk)
    obtain ⟨cs, rfl, h6, hI⟩ := hI
    rcases hI with ⟨rfl, rfl, h1, h7⟩ | ⟨rfl, rfl, h1, h7⟩ | ⟨rfl, rfl, h1, h7⟩
    · skip
      refine go1 [27] [] (cns Tryz.results61 trivial) ?_
      exact ⟨by simp [*], 1, by omega, _, rfl, by simp [*], .inr (.inl ⟨rfl, rfl, by simp, by simp⟩)⟩
    · have hz0 : (z : Int) / 256 / 256 = 0 := by omega
      refine go1 [27] [] (cns Tryz.results61 trivial) ?_
      exact ⟨by simp [*], 0, by omega, _, rfl, by simp [*], .inr (.inr ⟨rfl, rfl, by simp [hz0], by simp⟩)⟩
    · skip
      refine go1 [27] [] (cns Tryz.results61 trivial) ?_
      exact out_flat (by simp [AV.flat, flatL]) (.refl _)
theorem ofL_app (a b : List UInt8) : (ofL' a : ByteArray) ++ ofL' b = ofL' (a ++ b) := by
  apply ByteArray.ext
  apply Array.ext'
  simp [ofL', ByteArray.data_append]
theorem ofL_size (a : List UInt8) : (ofL' a).size = a.length := by simp [ofL', ByteArray.size]
theorem rBytes08_spec (m : Msg) (h : isMsg m = true) : PSpec Tryz.prog 62 [.agg (cM m)] (.sc (.string (ofL' (msgB m)))) := by
  obtain ⟨s1, s2, s3, s4⟩ := isMsg_sm h
  obtain ⟨q, k, v⟩ := m
  simp only at s1 s2 s3 s4
  have hk := rText_spec k (by omega)
  have hv := rText_spec v (by omega)
  obtain ⟨n, rfl⟩ := Int.eq_ofNat_of_zero_le (show 0 ≤ q by omega)
  have hw : IntKind.u8.wrap (n : Int) = n := by rw [IntKind.wrap_u8]; omega
  have hB : ofL' (msgB ⟨n, k, v⟩) = ((⟨#[UInt8.ofNat n]⟩ : ByteArray) ++ ofL' (textB (strL k))) ++ ofL' (textB (strL v)) := by
    rw [one_app, ofL_app]
    simp [msgB, strL, ofL']
  rw [hB]
  have hl : (textB (strL k)).length ≤ 300 ∧ (textB (strL v)).length ≤ 300 := by simp [textB, strL_len]; omega
  have ka := ofL_size (textB (strL k))
  have va := ofL_size (textB (strL v))
  generalize ofL' (textB (strL k)) = x at hk ka ⊢
  generalize ofL' (textB (strL v)) = y at hv va ⊢
  have h1 : (⟨#[UInt8.ofNat n]⟩ : ByteArray).size + x.size ≤ 9223372036854775807 := by rw [one_size]; omega
  have h2 : (⟨#[UInt8.ofNat n]⟩ : ByteArray).size + x.size + y.size ≤ 9223372036854775807 := by rw [one_size]; omega
  clear hB hl ka va h s3 s4 s1 s2
  simp only [cM]
  refine spec_pure (by simp) (by simp) ?_
  refine spec_intro Tryz.func62 good62 rfl (by simp [Tryz.ntmps62]) ?_
  exact go0 [] [] (cns hk (cns hv (cns Tryz.results62 trivial)))
end Go.Proofs.YticpnfgiidljlaaGreat
namespace Go.Proofs.YticpnfgiidljlaaGreat
open Go.RowKit
set_option linter.unusedSimpArgs false
set_option linter.unusedVariables false
set_option maxRecDepth 10000
theorem two_bytes (a b : UInt8) : (⟨#[a, b]⟩ : ByteArray) = ofL' [a, b] := rfl
theorem rBytes12_l (o : List Item) (k : List Int) (p : List Str) (m : List Msg) (hl : o.length ≤ 255) (hz : ∀ x ∈ o, x.key.size ≤ 255 ∧ x.val.size ≤ 255) : PSpec Tryz.prog 21 [.agg (cN5 true o k p m)] (.sc (.string (ofL' (leafB o)))) := by
  have hw : IntKind.u8.wrap (o.length : Int) = o.length := by rw [IntKind.wrap_u8]; omega
  have ht := two_bytes 1 (UInt8.ofNat o.length)
  replace hz := Lib.hid hz
  refine spec_pure (by simp) (by simp) ?_
  refine spec_intro Tryz.func21 good21 rfl (by simp [Tryz.ntmps21]) ?_
  refine go1 [] [] (cns Tryz.results21 (cns cN5.eq_1 trivial)) ?_
  refine tri_for [1, 2] o.length (fun k_ e σ => σ = [] ∧ e 4 = .sc (.int .i64 k_) ∧ e 3 = .sc (.string (ofL' (1 :: UInt8.ofNat o.length :: (o.take k_).flatMap itemB)))) ?_ (fun j env' σ' hlt hk hI => ?_) (fun env' σ' hk hI => ?_)
  · exact ⟨by simp, by simp, by simp [ofL']⟩
  · skip
    (try simp at hk)
    obtain ⟨rfl, h4, h3⟩ := hI
    have hzj := hz.out _ (List.getElem_mem hlt)
    have hlen := flatMap_length_le itemB 600 (o.take j) fun t ht => itemB_length (hz.out t (List.mem_of_mem_take ht)).1 (hz.out t (List.mem_of_mem_take ht)).2
    rw [List.length_take] at hlen
    have h1 := rText_spec o[j].key hzj.1
    have h2 := rText_spec o[j].val hzj.2
    have z1 : (ofL' (textB (strL o[j].key))).size ≤ 300 := by rw [ofL_size]; simp [textB, strL_len]; omega
    have z2 : (ofL' (textB (strL o[j].val))).size ≤ 300 := by rw [ofL_size]; simp [textB, strL_len]; omega
    have z0 : (ofL' (1 :: UInt8.ofNat o.length :: (o.take j).flatMap itemB)).size ≤ 200000 := by rw [ofL_size]; simp only [List.length_cons]; omega
    have hB : ofL' (1 :: UInt8.ofNat o.length :: (o.take (j + 1)).flatMap itemB) = ofL' (1 :: UInt8.ofNat o.length :: (o.take j).flatMap itemB) ++ ofL' (textB (strL o[j].key)) ++ ofL' (textB (strL o[j].val)) := by
      rw [flatMap_take itemB o j hlt, ofL_app, ofL_app]
      simp [itemB]
    rw [hB]
    generalize ofL' (1 :: UInt8.ofNat o.length :: (o.take j).flatMap itemB) = S at *
    generalize ofL' (textB (strL o[j].key)) = X at *
    generalize ofL' (textB (strL o[j].val)) = Y at *
    have s1 : S.size + X.size ≤ 9223372036854775807 := by omega
    have s2 : S.size + X.size + Y.size ≤ 9223372036854775807 := by omega
    clear hlen hB z0 z1 z2 hz hzj
    refine go1 [] [] (cns h1 (cns h2 (cns Tryz.results21 (cns cN5.eq_1 trivial)))) ?_
    exact ⟨by simp [*], rfl, by simp, by simp⟩
  · skip
    (try simp at hk)
    obtain ⟨rfl, h4, h3⟩ := hI
    rw [List.take_length] at h3
    exact go0 [] [] (cns Tryz.results21 (cns cN5.eq_1 trivial))
theorem rBytes12_i (o : List Item) (k : List Int) (p : List Str) (m : List Msg) (hk : k.length ≤ 255) (hp : p.length ≤ 255) (hm : m.length ≤ 255) (hkz : ∀ x ∈ k, 0 ≤ x ∧ x < 65536) (hpz : ∀ t ∈ p, t.size ≤ 255) (hmz : ∀ x ∈ m, isMsg x = true) : PSpec Tryz.prog 21 [.agg (cN5 false o k p m)] (.sc (.string (ofL' (innerB k p m)))) := by
  have hw : IntKind.u8.wrap (k.length : Int) = k.length := by rw [IntKind.wrap_u8]; omega
  have hw2 : IntKind.u8.wrap (m.length : Int) = m.length := by rw [IntKind.wrap_u8]; omega
  have hB : innerB k p m = [2, UInt8.ofNat k.length] ++ numsB 2 k ++ textsB p ++ [UInt8.ofNat m.length] ++ m.flatMap msgB := by simp [innerB, numsB, textsB]
  rw [hB]
  clear hB
  replace hkz := Lib.hid hkz
  replace hpz := Lib.hid hpz
  replace hmz := Lib.hid hmz
  refine spec_pure (by simp) (by simp) ?_
  refine spec_intro Tryz.func21 good21 rfl (by simp [Tryz.ntmps21]) ?_
  refine go1 [] [] (cns Tryz.results21 (cns cN5.eq_1 trivial)) ?_
  refine tri_for [1, 2] k.length (fun k_ e σ => σ = [] ∧ e 10 = .sc (.int .i64 k_) ∧ e 9 = .sc (.string (ofL' ([2, UInt8.ofNat k.length] ++ numsB 2 (k.take k_))))) ?_ (fun j env' σ' hlt hk hI => ?_) (fun env' σ' hk hI => ?_)
  · exact ⟨by simp, by simp, by simp [ofL', numsB]⟩
  · skip
    (try simp at hk)
    obtain ⟨rfl, h10, h9⟩ := hI
    have hzj := hkz.out _ (List.getElem_mem hlt)
    have z0 : (ofL' ([2, UInt8.ofNat k.length] ++ numsB 2 (k.take j))).size ≤ 10000 := by
      rw [ofL_size, List.length_append, numsB_length, List.length_take]; simp; omega
    obtain ⟨z, hz⟩ := Int.eq_ofNat_of_zero_le hzj.1
    have h1 := rNum2_spec z (by omega)
    have hld : ∀ h, (flatN k)[j]'h = .sc (.int .i64 z) := fun h => by rw [flatN_at, hz]
    have z1 : (ofL' (numB z 2)).size ≤ 10 := by rw [ofL_size, numB_length]; omega
    have hB : ofL' ([2, UInt8.ofNat k.length] ++ numsB 2 (k.take (j + 1))) = ofL' ([2, UInt8.ofNat k.length] ++ numsB 2 (k.take j)) ++ ofL' (numB z 2) := by
      rw [numsB_take 2 k j hlt, ofL_app, hz]
      simp
    rw [hB]
    generalize ofL' ([2, UInt8.ofNat k.length] ++ numsB 2 (k.take j)) = S at *
    generalize ofL' (numB z 2) = X at *
    have s1 : S.size + X.size ≤ 9223372036854775807 := by omega
    clear hB z0 z1 hkz hpz hmz hzj
    refine go1 [] [] (cns h1 (cns Tryz.results21 (cns cN5.eq_1 trivial))) ?_
    exact ⟨by simp [*], rfl, by simp, by simp⟩
  · skip
    (try simp at hk)
    obtain ⟨rfl, h10, h9⟩ := hI
    rw [List.take_length] at h9
    have zA : ([2, UInt8.ofNat k.length] ++ numsB 2 k).length ≤ 1000 := by rw [List.length_append, numsB_length]; simp; omega
    generalize [2, UInt8.ofNat k.length] ++ numsB 2 k = A at *
    refine go1 [] [] (cns Tryz.results21 (cns cN5.eq_1 trivial)) ?_
    refine tri_for [1, 2] p.length (fun k_ e σ => σ = [] ∧ e 13 = .sc (.int .i64 k_) ∧ e 9 = .sc (.string (ofL' (A ++ textsB (p.take k_))))) ?_ (fun j env' σ' hlt hk hI => ?_) (fun env' σ' hk hI => ?_)
    · exact ⟨by simp, by simp, by simp [textsB, *]⟩
    · clear h9
      (try simp at hk)
      obtain ⟨rfl, h13, h9⟩ := hI
      have hzj := hpz.out _ (List.getElem_mem hlt)
      have tl := textsB_length (ts := p.take j) fun t ht => hpz.out t (List.mem_of_mem_take ht)
      rw [List.length_take] at tl
      have z0 : (ofL' (A ++ textsB (p.take j))).size ≤ 100000 := by rw [ofL_size, List.length_append]; omega
      have h1 := rText_spec p[j] hzj
      have z1 : (ofL' (textB (strL p[j]))).size ≤ 300 := by rw [ofL_size]; simp [textB, strL_len]; omega
      have hB : ofL' (A ++ textsB (p.take (j + 1))) = ofL' (A ++ textsB (p.take j)) ++ ofL' (textB (strL p[j])) := by
        rw [textsB_take p j hlt, ofL_app]
        simp
      rw [hB]
      generalize ofL' (A ++ textsB (p.take j)) = S at *
      generalize ofL' (textB (strL p[j])) = X at *
      have s1 : S.size + X.size ≤ 9223372036854775807 := by omega
      clear hB z0 z1 hkz hpz hmz hzj tl
      refine go1 [] [] (cns h1 (cns Tryz.results21 (cns cN5.eq_1 trivial))) ?_
      exact ⟨by simp [*], rfl, by simp, by simp⟩
    · clear h9
      (try simp at hk)
      obtain ⟨rfl, h13, h9⟩ := hI
      rw [List.take_length] at h9
      have tl := textsB_length (ts := p) hpz.out
      have zB : (A ++ textsB p).length ≤ 100000 := by rw [List.length_append]; omega
      generalize A ++ textsB p = B1 at *
      have hone : ofL' B1 ++ (⟨#[UInt8.ofNat m.length]⟩ : ByteArray) = ofL' (B1 ++ [UInt8.ofNat m.length]) := ofL_app B1 [UInt8.ofNat m.length]
      have s1 : (ofL' B1).size + (⟨#[UInt8.ofNat m.length]⟩ : ByteArray).size ≤ 9223372036854775807 := by rw [ofL_size, one_size]; omega
      have zC : (B1 ++ [UInt8.ofNat m.length]).length ≤ 100001 := by simp; omega
      generalize hC : B1 ++ [UInt8.ofNat m.length] = C1 at *
      generalize ofL' B1 = SB at *
      clear zA tl zB hC
      refine go1 [] [] (cns Tryz.results21 (cns cN5.eq_1 trivial)) ?_
      refine tri_for [1, 2] m.length (fun k_ e σ => σ = [] ∧ e 16 = .sc (.int .i64 k_) ∧ e 9 = .sc (.string (ofL' (C1 ++ (m.take k_).flatMap msgB)))) ?_ (fun j env' σ' hlt hk hI => ?_) (fun env' σ' hk hI => ?_)
      · exact ⟨by simp, by simp, by simp [*]⟩
      · clear h9 s1 hone
        (try simp at hk)
        obtain ⟨rfl, h16, h9⟩ := hI
        have hzj := hmz.out _ (List.getElem_mem hlt)
        have tl := flatMap_length_le msgB 100 (m.take j) fun t ht => msgB_length (hmz.out t (List.mem_of_mem_take ht))
        rw [List.length_take] at tl
        have z0 : (ofL' (C1 ++ (m.take j).flatMap msgB)).size ≤ 300000 := by rw [ofL_size, List.length_append]; omega
        have h1 := rBytes08_spec m[j] hzj
        have sg := flatM_seg m j hlt
        have z1 : (ofL' (msgB m[j])).size ≤ 100 := by rw [ofL_size]; exact msgB_length hzj
        have hB : ofL' (C1 ++ (m.take (j + 1)).flatMap msgB) = ofL' (C1 ++ (m.take j).flatMap msgB) ++ ofL' (msgB m[j]) := by
          rw [flatMap_take msgB m j hlt, ofL_app]
          simp
        rw [hB]
        generalize ofL' (C1 ++ (m.take j).flatMap msgB) = S at *
        generalize ofL' (msgB m[j]) = X at *
        have s1 : S.size + X.size ≤ 9223372036854775807 := by omega
        clear hB z0 z1 hkz hpz hmz hzj tl
        generalize m[j] = mm at *
        refine go1 [] [] (cns h1 (cns Tryz.results21 (cns cN5.eq_1 trivial))) ?_
        exact ⟨by simp [*], rfl, by simp, by simp⟩
      · clear h9 s1 hone
        (try simp at hk)
        obtain ⟨rfl, h16, h9⟩ := hI
        rw [List.take_length] at h9
        exact go0 [] [] (cns Tryz.results21 (cns cN5.eq_1 trivial))
end Go.Proofs.YticpnfgiidljlaaGreat
