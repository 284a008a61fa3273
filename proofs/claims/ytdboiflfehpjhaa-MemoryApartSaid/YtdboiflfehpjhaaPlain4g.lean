/- The plain law of memory: put together. -/
import Derived.Test.YtdboiflfehpjhaaPlain4f
set_option linter.unusedVariables false
set_option linter.unusedSimpArgs false
namespace Go.Proofs.Try
open Go Am
set_option maxRecDepth 100000
theorem mget_none {l : List (Int × Int)} {k : Int} (h : ¬ ∃ p ∈ l, p.1 = k) : mgetL l k = 0 := by
  have := mget_app_l [] l k (fun p hp e => h ⟨p, hp, e⟩)
  simpa [mgetL] using this
theorem inv_copy {l bl d1 d2 : List (Int × Int)} (h : Inv l bl) {f t c : Int} (hf : 0 ≤ f ∧ f < 1000) (hfc : f + c ≤ 1000) (ht : 0 ≤ t) (htc : 0 < c ∧ t + c ≤ 1000) (h1 : d1.Perm l) (h2 : d2.Perm l) :
    Inv (d2.foldl (cpyK f t c l) (d1.foldl (clrK t c) l)) (rcopyS bl f t c) := by
  have hc := inv_clear (c := c) h (f := t) ⟨ht, by omega⟩ h1
  obtain ⟨g1, g2⟩ := cpy_fold (l0 := l) hf ht htc d2 _ ⟨hc.keys, hc.rng⟩ (fun p hp => by have := h.rng p (h2.mem_iff.1 hp); omega)
  obtain ⟨r1, r2, r3⟩ := rcp_fold hf.1 hfc ht htc bl (rclrS bl t c) h.bkeys h.brng hc.bkeys hc.brng
  refine ⟨g1.keys, g1.rng, r1, r2, fun x x0 x1 => ?_⟩
  show _ = mgetL (bl.foldl (rcpS f t c) (rclrS bl t c)) x
  rw [g2 x x0 x1, r3 x, hc.same x x0 x1, rclr_get (c := c) ⟨ht, by omega⟩ h.brng x]
  by_cases hx : x ≥ t ∧ x - t < c
  · have hs := h.same (x - t + f) (by omega) (by omega)
    rw [if_pos hx]
    by_cases h4 : ∃ p ∈ d2, (x - t + f) / 8 = p.1
    · rw [if_pos ⟨h4, hx⟩]
      by_cases h3 : ∃ p ∈ bl, p.1 = x - t + f
      · rw [if_pos ⟨h3, hx⟩, hs]
      · rw [if_neg (fun hh => h3 hh.1), hs, mget_none h3]
    · rw [if_neg (fun hh => h4 hh.1)]
      by_cases h3 : ∃ p ∈ bl, p.1 = x - t + f
      · rw [if_pos ⟨h3, hx⟩, ← hs]
        exact (get_none (by omega) (by omega) (fun ⟨p, hp, e⟩ => h4 ⟨p, h2.mem_iff.2 hp, e⟩)).symm
      · rw [if_neg (fun hh => h3 hh.1)]
  · rw [if_neg (fun hh => hx hh.2), if_neg hx, if_neg (fun hh => hx hh.2)]
theorem clrB_zero {f c b : Int} (hf : R64 f) (hc : c ≤ 0) : ∀ (m : Nat) (a : Int) (l : List (Int × Int)), clrB f c b m a l = l
  | 0, a, l => rfl
  | m + 1, a, l => by
    rw [clrB, if_neg, clrB_zero hf hc m]
    rintro ⟨_, h⟩
    have := (u64_rng (a - f)).1
    omega
theorem clr_fold_zero {f c : Int} (hf : R64 f) (hc : c ≤ 0) : ∀ (d l : List (Int × Int)), d.foldl (clrK f c) l = l
  | [], l => rfl
  | p :: d, l => by
    have : clrK f c l p = l := clrB_zero hf hc _ _ _
    rw [List.foldl_cons, this]
    exact clr_fold_zero hf hc d l
theorem cpyB_zero {f t c : Int} {l0 : List (Int × Int)} (hc : c ≤ 0) : ∀ (m : Nat) (a : Int) (l : List (Int × Int)), cpyB f t c l0 m a l = l
  | 0, a, l => rfl
  | m + 1, a, l => by
    rw [cpyB, if_neg, cpyB_zero hc m]
    rintro ⟨_, h⟩
    have := (u64_rng (a - f)).1
    omega
theorem cpy_fold_zero {f t c : Int} {l0 : List (Int × Int)} (hc : c ≤ 0) : ∀ (d l : List (Int × Int)), d.foldl (cpyK f t c l0) l = l
  | [], l => rfl
  | p :: d, l => by
    have : cpyK f t c l0 l p = l := cpyB_zero hc _ _ _
    rw [List.foldl_cons, this]
    exact cpy_fold_zero hc d l
theorem rclr_zero {f c : Int} (hc : c ≤ 0) (l : List (Int × Int)) : rclrS l f c = l := by
  unfold rclrS
  rw [List.filter_eq_self]
  intro p _
  have := (u64_rng (p.1 - f)).1
  simp
  omega
theorem rcp_zero {f t c : Int} (hc : c ≤ 0) : ∀ (d l : List (Int × Int)), d.foldl (rcpS f t c) l = l
  | [], l => rfl
  | p :: d, l => by
    have : rcpS f t c l p = l := by
      unfold rcpS
      rw [if_neg]
      rintro ⟨_, h⟩
      have := (u64_rng (p.1 - f)).1
      omega
    rw [List.foldl_cons, this]
    exact rcp_zero hc d l
theorem u8_rng (v : Int) : 0 ≤ IntKind.u8.wrap v ∧ IntKind.u8.wrap v < 256 := by rw [u8_mod]; omega
theorem inv_step {k a v n : Int} {l bl l' bl' : List (Int × Int)} (h : Inv l bl) (ra : R64 a) (rv : R64 v) (rn : R64 n) (hs : Step k a v n l bl l' bl') : Inv l' bl' := by
  have a0 := ra.1
  unfold Step at hs
  split at hs
  · split at hs
    · rename_i hm
      have hs1 := hs.1; have hs2 := hs.2; clear hs; rw [hs1, hs2]; clear hs1 hs2
      have := (may_ok ra hm).2 (by omega)
      exact inv_put h ⟨a0, this.1⟩ (u8_rng v)
    · rw [hs.1, hs.2]; exact h
  · split at hs
    · split at hs
      · rename_i hm
        have hs1 := hs.1; have hs2 := hs.2; clear hs; rw [hs1, hs2]; clear hs1 hs2
        obtain ⟨g1, g2⟩ := may_ok ra hm
        rw [Int.tmod_eq_emod_of_nonneg a0] at g1
        have g3 := g2 (by omega)
        rw [quo8 ra]
        exact inv_putword h a0 g1 (by omega) rv
      · rw [hs.1, hs.2]; exact h
    · split at hs
      · split at hs
        · rename_i hm
          have hs1 := hs.1; have hs2 := hs.2; clear hs; rw [hs1, hs2]; clear hs1 hs2
          obtain ⟨g1, g2⟩ := may_ok ra hm
          rw [Int.tmod_eq_emod_of_nonneg a0] at g1
          have g3 := g2 (by omega)
          have e1 : realBin .add .u64 (a / 8) 1 = (a + 8) / 8 := by
            show IntKind.u64.wrap (a / 8 + 1) = _
            rw [u64_in (by omega) (by omega)]; omega
          have e2 : realBin .add .u64 a 8 = a + 8 := u64_in (by omega) (by omega)
          rw [quo8 ra, e1, e2]
          exact inv_putword (inv_putword h a0 (by omega) (by omega) rv) (by omega) (by omega) (by omega) rn
        · rw [hs.1, hs.2]; exact h
      · split at hs
        · split at hs
          · obtain ⟨⟨d, hd, hs1⟩, hs2⟩ := hs; rw [hs1, hs2]; clear hs1 hs2
            exact inv_clear h ra hd
          · rw [hs.1, hs.2]; exact h
        · split at hs
          · split at hs
            · rename_i hm
              obtain ⟨⟨d1, d2, hd1, hd2, hs1⟩, hs2⟩ := hs; rw [hs1, hs2]; clear hs1 hs2
              by_cases hn : n ≤ 0
              · rw [clr_fold_zero rv hn, cpy_fold_zero hn]
                unfold rcopyS
                rw [rclr_zero hn, rcp_zero hn]
                exact h
              · have g1 := (may_ok ra hm.1).2 (by omega)
                have g2 := (may_ok rv hm.2).2 (by omega)
                have v0 := rv.1
                exact inv_copy h ⟨a0, g1.1⟩ (by omega) v0 ⟨by omega, by omega⟩ hd1 hd2
            · rw [hs.1, hs.2]; exact h
          · rw [hs.1, hs.2]; exact h
theorem plain4 : Plain4 Inv where
  nil := inv_nil
  byte := fun l bl a h ra hm => inv_byte h ra hm
  word := fun l bl a h ra hm => inv_may8 h ra hm
  pair := fun l bl a h ra hm => inv_may16 h ra hm
  step := fun k a v n l bl l' bl' h ra rv rn hs => inv_step h ra rv rn hs
  len := fun l bl h => inv_len h
  clear := fun l bl d h hd => clear_all h hd
end Go.Proofs.Try
