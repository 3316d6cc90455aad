/- Spaces: Text. -/
import Derived.Test.YtgdefllblcmgpaaYg
namespace Go.Proofs.Ytgdefllblcmgpaa
open Go.RowKit
set_option linter.unusedSimpArgs false
set_option maxRecDepth 10000
/-- The blocks that are free, midway. -/
def partF (es : List Ext) (j a k : Nat) (i : Nat) : Bool := hasX (es.take j) i || (decide (a ≤ i) && decide (i < a + k))
theorem partF_zero (es : List Ext) (j a : Nat) : partF es j a 0 = fun i : Nat => hasX (es.take j) i := by
  funext i
  unfold partF
  rw [Bool.eq_iff_iff]
  simp
  omega
theorem partF_succ (es : List Ext) (j a k : Nat) : setF (partF es j a k) (a + k) = partF es j a (k + 1) := by
  funext i
  unfold partF setF
  rw [Bool.or_assoc]
  congr 1
  rw [Bool.eq_iff_iff]
  simp
  omega
theorem partF_end {es : List Ext} {j : Nat} (h : j < es.length) {a k : Nat} (ha : es[j].lo = a) (hk : es[j].sz = k) : partF es j a k = fun i : Nat => hasX (es.take (j + 1)) i := by
  funext i
  unfold partF hasX xe
  rw [List.take_add_one, List.getElem?_eq_getElem h, List.any_append]
  congr 1
  show _ = (([es[j]] : List Ext).any _)
  rw [List.any_cons, List.any_nil, Bool.or_false, ha, hk, Bool.eq_iff_iff]
  simp
  omega
theorem bytes_get (f : Nat → Bool) (m j : Nat) (h : j < m) : (bytesA ⟨(textF f m).toArray⟩)[j]? = some (.sc (.int .u8 (byteF fun q => f (8 * j + q)))) := by
  unfold bytesA
  show ((textF f m).map _)[j]? = _
  rw [List.getElem?_map, textF_get f m j h]
  show some (AV.sc (.int .u8 ((UInt8.ofNat _).toNat : Int))) = _
  have := byteF_lt fun q => f (8 * j + q)
  rw [UInt8.toNat_ofNat', Nat.mod_eq_of_lt (by simpa using this)]
theorem unbytes_bytes : ∀ l : List UInt8, unbytes (bytesA ⟨l.toArray⟩) = some l
  | [] => rfl
  | b :: l => by
    have ih := unbytes_bytes l
    show (match unbytes (bytesA ⟨l.toArray⟩) with
      | some l' => some (UInt8.ofNat (b.toNat : Int).toNat :: l')
      | none => none) = _
    rw [ih]
    simp
theorem shr_bit (r : Nat) (h : r < 8) : (128 : Int).fdiv (2 ^ min r IntKind.u8.bits) = ((2 ^ (7 - r) : Nat) : Int) := by
  match r, h with
  | 0, _ | 1, _ | 2, _ | 3, _ | 4, _ | 5, _ | 6, _ | 7, _ => rfl
theorem or_bit (B B2 r : Nat) (h : B < 256) (hr : r < 8) (ho : B ||| 2 ^ (7 - r) = B2) : B % 2 ^ IntKind.u8.bits ||| 2 ^ (7 - r) % 2 ^ IntKind.u8.bits = B2 := by
  have h2 : 2 ^ (7 - r) < 256 := by
    match r, hr with
    | 0, _ | 1, _ | 2, _ | 3, _ | 4, _ | 5, _ | 6, _ | 7, _ => decide
  rw [← ho, show (2 : Nat) ^ IntKind.u8.bits = 256 from rfl, Nat.mod_eq_of_lt h, Nat.mod_eq_of_lt h2]
set_option maxHeartbeats 1000000 in
theorem sText_spec (n : Int) (es : List Ext) (h0 : 0 ≤ n ∧ n ≤ 512) (hn : Norm n es) (m : Nat) (hm : (n + 7) / 8 = m) : PSpec Try.prog 22 [.fp (cSp n es) 0] (.sc (.string ⟨(textF (fun i : Nat => hasX es i) m).toArray⟩)) := by
  have hel := norm_len hn h0.1
  have hL := sLen_spec n es
  have hR := sRow_spec n es (by omega)
  have hb := hn.2
  replace hb := Lib.hid hb
  clear hn
  refine spec_pure (by simp) (by simp) ?_
  refine spec_intro Try.func22 good22 rfl (by simp [Try.ntmps22]) ?_
  have hm2 : (n + 8 - 1).tdiv 8 = m := by rw [Int.tdiv_eq_ediv_of_nonneg (by omega)]; omega
  refine go1 [12] [] (cns hL (cns hR (cns Try.results22 trivial))) ?_
  refine tri_for [2, 3, 14, 15] es.length (fun k_ e σ => e 16 = .sc (.int .i64 k_) ∧ σ = [⟨bytesA ⟨(textF (fun i : Nat => hasX (es.take k_) i) m).toArray⟩, 0, false, false⟩]) ?_ (fun j env' σ' hlt hk hI => ?_) (fun env' σ' hk hI => ?_)
  · refine ⟨by simp, ?_⟩
    have : textF (fun i : Nat => hasX (es.take 0) i) m = List.replicate m 0 := by
      apply List.ext_getElem (by simp [textF_length])
      intro i h1 h2
      simp [textF, hasX]
      decide
    rw [this]
    simp [bytesA]
  · skip
    (try simp at hk)
    obtain ⟨h16, rfl⟩ := hI
    have sg := flatE_seg es j hlt
    obtain ⟨b1, b2, b3⟩ := hb.out _ (List.getElem_mem hlt)
    have hend := sEnd_spec es[j] (by unfold xe at *; omega) (by unfold xe at *; omega)
    obtain ⟨a, ha⟩ := Int.eq_ofNat_of_zero_le b1
    obtain ⟨z, hz⟩ := Int.eq_ofNat_of_zero_le (show 0 ≤ es[j].sz by omega)
    have hlast := partF_end hlt ha hz
    have hxe : xe es[j] = ((a + z : Nat) : Int) := by unfold xe; omega
    have hcE : cE es[j] = [.sc (.int .i64 a), .sc (.int .i64 z)] := by unfold cE; rw [ha, hz]
    rw [hxe] at hend b3
    rw [hcE] at sg hend
    rw [← hlast, ← partF_zero es j a]
    clear b1 b2 ha hz hxe hcE hb hlast
    refine go1 [12] [] (cns Try.results22 trivial) ?_
    refine tri_for [2, 3, 5, 14, 15, 16] z (fun k e σ => e 6 = .sc (.int .i64 (a + k : Nat)) ∧ σ = [⟨bytesA ⟨(textF (partF es j a k) m).toArray⟩, 0, false, false⟩]) ?_ (fun k env' σ' hlt hk hI => ?_) (fun env' σ' hk hI => ?_)
    · exact ⟨by simp, rfl⟩
    · skip
      (try simp at hk)
      obtain ⟨h6, rfl⟩ := hI
      have hlt2 : ((a + k : Nat) : Int) < ((a + z : Nat) : Int) := by omega
      have hqn : ((a + k : Nat) : Int) + 1 = ((a + (k + 1) : Nat) : Int) := by omega
      rw [← partF_succ]
      generalize partF es j a k = f at *
      have hqb : a + k ≤ 512 := by omega
      generalize a + k = q at *
      have hat : q / 8 < m := by omega
      have hr8 : q % 8 < 8 := Nat.mod_lt _ (by omega)
      have hset := textF_set f m q
      have hor := byteF_or (fun i => f (8 * (q / 8) + i)) (q % 8) hr8
      have hc := bytes_get f m (q / 8) hat
      have hbl : (bytesA ⟨(textF f m).toArray⟩).length = m := by simp [bytesA, textF_length]
      have hdiv : (q : Int).tdiv 8 = ((q / 8 : Nat) : Int) := by rw [Int.tdiv_eq_ediv_of_nonneg (by omega)]; omega
      have hmod : (q : Int).tmod 8 = ((q % 8 : Nat) : Int) := by rw [Int.tmod_eq_emod_of_nonneg (by omega)]; omega
      generalize q / 8 = d at *
      generalize q % 8 = r at *
      have hshr := shr_bit r hr8
      have hlb := byteF_lt fun i => f (8 * d + i)
      have hlb2 := byteF_lt (setF (fun i => f (8 * d + i)) r)
      rw [← hset]
      generalize byteF (setF (fun i => f (8 * d + i)) r) = B2 at *
      generalize (byteF fun i => f (8 * d + i)) = B at *
      have hor2 := or_bit B B2 r hlb hr8 hor
      generalize 2 ^ (7 - r) = R at *
      clear hset hor hr8
      generalize textF f m = F at *
      have hc : ∀ h, (bytesA ⟨F.toArray⟩)[d]'h = .sc (.int .u8 B) := fun h => by rw [List.getElem?_eq_getElem h] at hc; exact Option.some.inj hc
      generalize a + z = az at *
      generalize a + (k + 1) = q1 at *
      have hfin := bytesA_set F d (UInt8.ofNat B2)
      rw [UInt8.toNat_ofNat', Nat.mod_eq_of_lt (by simpa using hlb2)] at hfin
      refine go1 [12] [] (cns hend (cns Try.results22 trivial)) ?_
      exact ⟨by simp [*], by simp, rfl⟩
    · skip
      (try simp at hk)
      obtain ⟨h6, rfl⟩ := hI
      refine go1 [12] [] (cns hend (cns Try.results22 trivial)) ?_
      exact ⟨by simp [*], by simp, rfl⟩
  · skip
    (try simp at hk)
    obtain ⟨h16, rfl⟩ := hI
    rw [List.take_length]
    have hbl : (bytesA ⟨(textF (fun i : Nat => hasX es i) m).toArray⟩).length = m := by simp [bytesA, textF_length]
    have hub := unbytes_bytes (textF (fun i : Nat => hasX es i) m)
    generalize textF (fun i : Nat => hasX es i) m = F at *
    have htk : List.take m (bytesA ⟨F.toArray⟩) = bytesA ⟨F.toArray⟩ := List.take_of_length_le (by rw [hbl]; omega)
    exact go0 [12] [] (cns Try.results22 trivial)
end Go.Proofs.Ytgdefllblcmgpaa
