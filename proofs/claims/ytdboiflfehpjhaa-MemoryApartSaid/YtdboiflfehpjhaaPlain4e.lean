/- The plain law of memory: the reference's clearing. -/
import Derived.Test.YtdboiflfehpjhaaPlain4d
set_option linter.unusedVariables false
set_option linter.unusedSimpArgs false
namespace Go.Proofs.Try
open Go Am
set_option maxRecDepth 100000
theorem rclr_get {f c : Int} (hf : R64 f) : ∀ {l : List (Int × Int)}, (∀ p ∈ l, 0 ≤ p.1 ∧ p.1 < 1000 ∧ 0 < p.2 ∧ p.2 < 256) → ∀ x : Int, mgetL (rclrS l f c) x = if x ≥ f ∧ x - f < c then 0 else mgetL l x
  | [], _, x => by simp [rclrS, mgetL]
  | p :: l, h, x => by
    have ih := rclr_get (c := c) hf (l := l) (fun q hq => h q (List.mem_cons_of_mem _ hq)) x
    have hp := h p List.mem_cons_self
    obtain ⟨f0, f1⟩ := hf
    by_cases hk : p.1 ≥ f ∧ p.1 - f < c
    · have e : rclrS (p :: l) f c = rclrS l f c := by
        have hw : IntKind.u64.wrap (p.1 - f) = p.1 - f := u64_in (by omega) (by omega)
        simp only [rclrS, List.filter_cons, hw]
        rw [if_neg (by simp; omega)]
      rw [e, ih, mget_cons]
      by_cases hx : x ≥ f ∧ x - f < c
      · rw [if_pos hx, if_pos hx]
      · rw [if_neg hx, if_neg hx, if_neg (fun e => hx (by rw [← e]; exact hk))]
    · have e : rclrS (p :: l) f c = p :: rclrS l f c := by
        simp only [rclrS, List.filter_cons]
        rw [if_pos]
        by_cases h1 : p.1 < f
        · simp [h1]
        · have hw : IntKind.u64.wrap (p.1 - f) = p.1 - f := u64_in (by omega) (by omega)
          rw [hw]
          simp
          omega
      rw [e, mget_cons, mget_cons, ih]
      by_cases hx : x ≥ f ∧ x - f < c
      · rw [if_pos hx, if_pos hx, if_neg (fun e => hk (by rw [e]; exact hx))]
      · rw [if_neg hx, if_neg hx]
theorem get_none {l : List (Int × Int)} {x : Int} (h0 : 0 ≤ x) (h1 : x < 1000) (h : ¬ ∃ p ∈ l, x / 8 = p.1) : getS l x = 0 := by
  rw [get_val _ ⟨h0, by omega⟩]
  have : mgetL l (x / 8) = 0 := by
    have := mget_app_l [] l (x / 8) (fun p hp e => h ⟨p, hp, e.symm⟩)
    simpa [mgetL] using this
  rw [this]
  simp [byteOf]
theorem inv_clear {l bl d : List (Int × Int)} (h : Inv l bl) {f c : Int} (hf : R64 f) (hd : d.Perm l) : Inv (d.foldl (clrK f c) l) (rclrS bl f c) := by
  obtain ⟨g1, g2⟩ := clr_fold (c := c) hf d l ⟨h.keys, h.rng⟩ (fun p hp => by have := h.rng p (hd.mem_iff.1 hp); omega)
  refine ⟨g1.keys, g1.rng, h.bkeys.sublist (List.filter_sublist.map _), fun p hp => h.brng p (List.mem_filter.1 hp).1, fun x x0 x1 => ?_⟩
  rw [g2 x x0 x1, rclr_get hf h.brng x, ← h.same x x0 x1]
  by_cases hx : x ≥ f ∧ x - f < c
  · by_cases hp : ∃ p ∈ d, x / 8 = p.1
    · rw [if_pos ⟨hp, hx⟩, if_pos hx]
    · rw [if_neg (fun hh => hp hh.1), if_pos hx]
      exact get_none x0 x1 (fun ⟨p, hp', e⟩ => hp ⟨p, hd.mem_iff.2 hp', e⟩)
  · rw [if_neg (fun hh => hx hh.2), if_neg hx]
theorem mget_of_mem {l : List (Int × Int)} (hn : (l.map (·.1)).Nodup) {p : Int × Int} (hp : p ∈ l) : mgetL l p.1 = p.2 := mget_mem hn (n := p.1) (v := p.2) hp
theorem clear_all {l bl d : List (Int × Int)} (h : Inv l bl) (hd : d.Perm l) : d.foldl (clrK 0 1000) l = [] := by
  have hf : R64 0 := ⟨Int.le_refl _, by omega⟩
  obtain ⟨g1, g2⟩ := clr_fold (c := 1000) hf d l ⟨h.keys, h.rng⟩ (fun p hp => by have := h.rng p (hd.mem_iff.1 hp); omega)
  have z : ∀ x, 0 ≤ x → x < 1000 → getS (d.foldl (clrK 0 1000) l) x = 0 := by
    intro x x0 x1
    rw [g2 x x0 x1]
    by_cases hp : ∃ p ∈ d, x / 8 = p.1
    · rw [if_pos ⟨hp, by omega, by omega⟩]
    · rw [if_neg (fun hh => hp hh.1)]
      exact get_none x0 x1 (fun ⟨p, hp', e⟩ => hp ⟨p, hd.mem_iff.2 hp', e⟩)
  generalize d.foldl (clrK 0 1000) l = m at g1 z
  cases m with
  | nil => rfl
  | cons p m =>
    exfalso
    have hr := g1.rng p List.mem_cons_self
    have hg : mgetL (p :: m) p.1 = p.2 := mget_of_mem g1.keys List.mem_cons_self
    have b : ∀ i : Nat, i < 8 → byteOf p.2 i = 0 := by
      intro i hi
      have := z (p.1 * 8 + i) (by omega) (by omega)
      rw [get_val _ ⟨by omega, by omega⟩, show (p.1 * 8 + (i : Int)) / 8 = p.1 by omega, show (p.1 * 8 + (i : Int)) % 8 = i by omega, hg] at this
      exact this
    have hs := bytes_sum (w := p.2) ⟨by omega, hr.2.2.2⟩
    have b0 := b 0 (by omega); have b1 := b 1 (by omega); have b2 := b 2 (by omega); have b3 := b 3 (by omega); have b4 := b 4 (by omega); have b5 := b 5 (by omega); have b6 := b 6 (by omega); have b7 := b 7 (by omega)
    simp only [Int.natCast_zero, Int.cast_ofNat_Int] at b0 b1 b2 b3 b4 b5 b6 b7
    omega
end Go.Proofs.Try
