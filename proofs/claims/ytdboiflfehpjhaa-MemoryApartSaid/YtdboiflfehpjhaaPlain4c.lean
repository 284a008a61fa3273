/- The plain law of memory: words put. -/
import Derived.Test.YtdboiflfehpjhaaPlain4b
set_option linter.unusedVariables false
set_option linter.unusedSimpArgs false
namespace Go.Proofs.Try
open Go Am
set_option maxRecDepth 100000
theorem put_step_word {a v : Int} {i : Nat} {l : List (Int × Int)} (ha : 0 ≤ a ∧ a < 1000) (hi : i < 8) (hv : 0 ≤ v ∧ v < 18446744073709551616) :
    rpwS a (i + 1) l v = rpwS a i (rputS l (a + i) (v % 256)) (v / 256) := by
  have e1 : IntKind.u64.wrap (a + ((i + 1 : Nat) : Int)) = a + i + 1 := by rw [u64_in (by omega) (by omega)]; omega
  have e2 : v.tmod 256 = v % 256 := Int.tmod_eq_emod_of_nonneg hv.1
  have e3 : v.tdiv 256 = v / 256 := Int.tdiv_eq_ediv_of_nonneg hv.1
  rw [rpwS, e1, e2, e3, u8_mod, u64_in (n := a + i + 1 - 1) (by omega) (by omega), u64_in (n := v / 256) (by omega) (by omega)]
  congr 2
  · omega
  · omega
theorem rpw_get {a : Int} (ha : 0 ≤ a ∧ a < 1000) : ∀ (i : Nat) (l : List (Int × Int)) (v : Int), i ≤ 8 → 0 ≤ v ∧ v < 18446744073709551616 → ∀ x : Int,
    mgetL (rpwS a i l v) x = if a ≤ x ∧ x < a + i then v / 256 ^ (i - 1 - (x - a).toNat) % 256 else mgetL l x
  | 0, l, v, _, _, x => by rw [rpwS, if_neg (by omega)]
  | i + 1, l, v, hi, hv, x => by
    rw [put_step_word ha (by omega) hv, rpw_get ha i _ _ (by omega) (by omega) x, rget_put]
    by_cases h1 : a ≤ x ∧ x < a + i
    · rw [if_pos h1, if_pos (by omega), Int.ediv_ediv_of_nonneg (by omega)]
      congr 2
      rw [← Int.pow_succ']
      congr 1
      omega
    · rw [if_neg h1]
      by_cases h2 : x = a + i
      · have h3 : i + 1 - 1 - (x - a).toNat = 0 := by omega
        rw [if_pos h2, if_pos (by omega), h3]
        simp
      · rw [if_neg h2, if_neg (by omega)]
theorem rpw_inv {a : Int} (ha : 0 ≤ a ∧ a < 993) : ∀ (i : Nat) (l : List (Int × Int)) (v : Int), i ≤ 8 → 0 ≤ v ∧ v < 18446744073709551616 → (l.map (·.1)).Nodup → (∀ p ∈ l, 0 ≤ p.1 ∧ p.1 < 1000 ∧ 0 < p.2 ∧ p.2 < 256) →
    ((rpwS a i l v).map (·.1)).Nodup ∧ ∀ p ∈ rpwS a i l v, 0 ≤ p.1 ∧ p.1 < 1000 ∧ 0 < p.2 ∧ p.2 < 256
  | 0, l, v, _, _, h1, h2 => ⟨h1, h2⟩
  | i + 1, l, v, hi, hv, h1, h2 => by
    rw [put_step_word (by omega) (by omega) hv]
    exact rpw_inv ha i _ _ (by omega) (by omega) (rput_keys h1 _ _) (rput_rng h2 (by omega) (by omega))
theorem byteOf_pow (v : Int) {i : Nat} (hi : i < 8) : v / 256 ^ (7 - i) % 256 = byteOf v i := by
  unfold byteOf
  have h : ((7 - (i : Int)) * 8).toNat = 8 * (7 - i) := by omega
  rw [h, Int.pow_mul]
  rfl
theorem inv_putword {l bl : List (Int × Int)} (h : Inv l bl) {a v : Int} (h0 : 0 ≤ a) (h8 : a % 8 = 0) (h1 : a + 8 ≤ 1000) (hv : 0 ≤ v ∧ v < 18446744073709551616) : Inv (setS l (a / 8) v) (rpwS a 8 bl v) := by
  obtain ⟨k1, k2⟩ := rpw_inv (a := a) ⟨h0, by omega⟩ 8 bl v (Nat.le_refl _) hv h.bkeys h.brng
  refine ⟨set_keys h.keys _ _, set_rng h.rng (by omega) hv, k1, k2, fun x x0 x1 => ?_⟩
  have hsx := h.same x x0 x1
  rw [get_val _ ⟨x0, by omega⟩] at hsx ⊢
  rw [mget_set, rpw_get ⟨h0, by omega⟩ 8 bl v (Nat.le_refl _) hv x]
  by_cases hq : x / 8 = a / 8
  · rw [if_pos hq, if_pos (by omega)]
    have := byteOf_pow v (i := (x - a).toNat) (by omega)
    rw [show 8 - 1 - (x - a).toNat = 7 - (x - a).toNat by omega, this]
    congr 1
    omega
  · rw [if_neg hq, if_neg (by omega), hsx]
end Go.Proofs.Try
