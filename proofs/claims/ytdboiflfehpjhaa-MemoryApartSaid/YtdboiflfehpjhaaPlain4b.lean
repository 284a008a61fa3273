/- The plain law of memory: words. -/
import Derived.Test.YtdboiflfehpjhaaPlain4a
set_option linter.unusedVariables false
set_option linter.unusedSimpArgs false
namespace Go.Proofs.Try
open Go Am
set_option maxRecDepth 100000
theorem rw_step {l : List (Int × Int)} {a : Int} {k i : Nat} {v m : Int} (ha : 0 ≤ a ∧ a + i < 18446744073709551616) (hm : mgetL l (a + i) = m) (h0 : 0 ≤ m ∧ m < 256) (hv : 0 ≤ v ∧ v < 72057594037927936) :
    rwS l a (k + 1) i v = rwS l a k (i + 1) (256 * v + m) := by
  rw [rwS, u64_in (n := a + i) (by omega) (by omega), hm, u64_in (n := 256 * v) (by omega) (by omega), u64_in (n := m) (by omega) (by omega), u64_in (by omega) (by omega)]
theorem bytes_sum {w : Int} (hw : 0 ≤ w ∧ w < 18446744073709551616) :
    w = 256 * (256 * (256 * (256 * (256 * (256 * (256 * (256 * 0 + byteOf w 0) + byteOf w 1) + byteOf w 2) + byteOf w 3) + byteOf w 4) + byteOf w 5) + byteOf w 6) + byteOf w 7 := by
  have e0 : byteOf w 0 = w / 72057594037927936 % 256 := rfl
  have e1 : byteOf w 1 = w / 281474976710656 % 256 := rfl
  have e2 : byteOf w 2 = w / 1099511627776 % 256 := rfl
  have e3 : byteOf w 3 = w / 4294967296 % 256 := rfl
  have e4 : byteOf w 4 = w / 16777216 % 256 := rfl
  have e5 : byteOf w 5 = w / 65536 % 256 := rfl
  have e6 : byteOf w 6 = w / 256 % 256 := rfl
  have e7 : byteOf w 7 = w / 1 % 256 := rfl
  rw [e0, e1, e2, e3, e4, e5, e6, e7]
  omega
theorem byteOf_rng (w i : Int) : 0 ≤ byteOf w i ∧ byteOf w i < 256 := ⟨Int.emod_nonneg _ (by omega), Int.emod_lt_of_pos _ (by omega)⟩
theorem rw_sum {l : List (Int × Int)} {a w : Int} (ha : 0 ≤ a ∧ a < 1000) (hw : 0 ≤ w ∧ w < 18446744073709551616) (hm : ∀ i : Nat, i < 8 → mgetL l (a + i) = byteOf w i) : rwS l a 8 0 0 = w := by
  have b := byteOf_rng w
  have b0 := b 0; have b1 := b 1; have b2 := b 2; have b3 := b 3; have b4 := b 4; have b5 := b 5; have b6 := b 6; have b7 := b 7
  rw [rw_step (k := 7) (i := 0) (m := byteOf w 0) (by omega) (hm 0 (by omega)) b0 (by omega)]
  rw [rw_step (k := 6) (i := 1) (m := byteOf w 1) (by omega) (hm 1 (by omega)) b1 (by omega)]
  rw [rw_step (k := 5) (i := 2) (m := byteOf w 2) (by omega) (hm 2 (by omega)) b2 (by omega)]
  rw [rw_step (k := 4) (i := 3) (m := byteOf w 3) (by omega) (hm 3 (by omega)) b3 (by omega)]
  rw [rw_step (k := 3) (i := 4) (m := byteOf w 4) (by omega) (hm 4 (by omega)) b4 (by omega)]
  rw [rw_step (k := 2) (i := 5) (m := byteOf w 5) (by omega) (hm 5 (by omega)) b5 (by omega)]
  rw [rw_step (k := 1) (i := 6) (m := byteOf w 6) (by omega) (hm 6 (by omega)) b6 (by omega)]
  rw [rw_step (k := 0) (i := 7) (m := byteOf w 7) (by omega) (hm 7 (by omega)) b7 (by omega)]
  exact (bytes_sum hw).symm
theorem may_ok {a n al : Int} (ha : R64 a) (h : mayS 1000 a n al = 0) : a.tmod al = 0 ∧ (0 < n → a < 1000 ∧ n ≤ 1000 - a) := by
  unfold mayS at h
  rw [u64_mod] at h
  by_cases h1 : a.tmod al ≠ 0
  · rw [if_pos h1] at h; omega
  · rw [if_neg h1] at h
    refine ⟨by omega, fun hn => ?_⟩
    by_cases h2 : n > 0 ∧ (a ≥ 1000 ∨ n > (1000 - a) % 18446744073709551616)
    · rw [if_pos h2] at h; omega
    · have := ha.1
      omega
theorem quo8 {a : Int} (ha : R64 a) : realBin .quo .u64 a 8 = a / 8 := by
  show IntKind.u64.wrap (a.tdiv 8) = _
  rw [Int.tdiv_eq_ediv_of_nonneg ha.1, u64_in (by have := ha.1; omega) (by have := ha.2; omega)]
theorem inv_word {l bl : List (Int × Int)} (h : Inv l bl) {a : Int} (h0 : 0 ≤ a) (h8 : a % 8 = 0) (h1 : a + 8 ≤ 1000) : mgetL l (a / 8) = rwS bl a 8 0 0 := by
  refine (rw_sum ⟨h0, by omega⟩ (mget_rng h.rng _) fun i hi => ?_).symm
  rw [← h.same (a + i) (by omega) (by omega), get_val _ ⟨by omega, by omega⟩]
  rw [show (a + (i : Int)) / 8 = a / 8 by omega, show (a + (i : Int)) % 8 = i by omega]
theorem inv_byte {l bl : List (Int × Int)} (h : Inv l bl) {a : Int} (ha : R64 a) (hm : mayS 1000 a 1 1 = 0) : getS l a = mgetL bl a :=
  h.same a ha.1 ((may_ok ha hm).2 (by omega)).1
theorem inv_may8 {l bl : List (Int × Int)} (h : Inv l bl) {a : Int} (ha : R64 a) (hm : mayS 1000 a 8 8 = 0) : mgetL l (realBin .quo .u64 a 8) = rwS bl a 8 0 0 := by
  obtain ⟨g1, g2⟩ := may_ok ha hm
  rw [Int.tmod_eq_emod_of_nonneg ha.1] at g1
  rw [quo8 ha]
  exact inv_word h ha.1 g1 (by have := g2 (by omega); omega)
theorem inv_may16 {l bl : List (Int × Int)} (h : Inv l bl) {a : Int} (ha : R64 a) (hm : mayS 1000 a 16 16 = 0) :
    mgetL l (realBin .quo .u64 a 8) = rwS bl a 8 0 0 ∧ mgetL l (realBin .add .u64 (realBin .quo .u64 a 8) 1) = rwS bl (realBin .add .u64 a 8) 8 0 0 := by
  obtain ⟨g1, g2⟩ := may_ok ha hm
  rw [Int.tmod_eq_emod_of_nonneg ha.1] at g1
  have g3 := g2 (by omega)
  have h0 := ha.1
  rw [quo8 ha]
  have e1 : realBin .add .u64 (a / 8) 1 = (a + 8) / 8 := by
    show IntKind.u64.wrap (a / 8 + 1) = _
    rw [u64_in (by omega) (by omega)]; omega
  have e2 : realBin .add .u64 a 8 = a + 8 := u64_in (by omega) (by omega)
  rw [e1, e2]
  exact ⟨inv_word h h0 (by omega) (by omega), inv_word h (by omega) (by omega) (by omega)⟩
end Go.Proofs.Try
