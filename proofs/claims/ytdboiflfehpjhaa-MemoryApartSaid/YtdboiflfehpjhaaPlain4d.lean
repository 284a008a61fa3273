/- The plain law of memory: clearing. -/
import Derived.Test.YtdboiflfehpjhaaPlain4c
set_option linter.unusedVariables false
set_option linter.unusedSimpArgs false
namespace Go.Proofs.Try
open Go Am
set_option maxRecDepth 100000
structure InvL (l : List (Int × Int)) : Prop where
  keys : (l.map (·.1)).Nodup
  rng : ∀ p ∈ l, 0 ≤ p.1 ∧ p.1 < 125 ∧ 0 < p.2 ∧ p.2 < 18446744073709551616
theorem put_invL {l : List (Int × Int)} (h : InvL l) {a b : Int} (ha : 0 ≤ a ∧ a < 1000) (hb : 0 ≤ b ∧ b < 256) : InvL (putS l a b) ∧ ∀ x, 0 ≤ x → x < 1000 → getS (putS l a b) x = if x = a then b else getS l x := by
  have hra : R64 a := ⟨ha.1, by omega⟩
  have hw := mget_rng h.rng (a / 8)
  have hp := wput_rng (w := mgetL l (a / 8)) (b := b) (i := a % 8) hw hb (by omega)
  rw [put_val l hra]
  refine ⟨⟨set_keys h.keys _ _, set_rng h.rng (by omega) hp⟩, fun x h0 h1 => ?_⟩
  rw [get_val _ ⟨h0, by omega⟩, get_val _ ⟨h0, by omega⟩, mget_set]
  by_cases hq : x / 8 = a / 8
  · rw [if_pos hq, byteOf_put hw hb (by omega) (by omega)]
    by_cases hx : x = a
    · rw [if_pos (by omega), if_pos hx]
    · rw [if_neg (by omega), if_neg hx, hq]
  · rw [if_neg hq, if_neg (fun e => hq (by rw [e]))]
theorem clrB_get {f c b : Int} (hf : 0 ≤ f) : ∀ (m : Nat) (a : Int) (l : List (Int × Int)), InvL l → 0 ≤ a → a + m ≤ 1000 → f < 18446744073709551616 →
    InvL (clrB f c b m a l) ∧ ∀ x, 0 ≤ x → x < 1000 → getS (clrB f c b m a l) x = if (a ≤ x ∧ x < a + m) ∧ x ≥ f ∧ x - f < c then 0 else getS l x
  | 0, a, l, h, h0, h1, _ => ⟨h, fun x _ _ => by rw [clrB, if_neg (by omega)]⟩
  | m + 1, a, l, h, h0, h1, hf2 => by
    rw [clrB]
    by_cases hc : a ≥ f ∧ IntKind.u64.wrap (a - f) < c
    · have hc2 : IntKind.u64.wrap (a - f) = a - f := u64_in (by omega) (by omega)
      rw [if_pos hc]
      obtain ⟨g1, g2⟩ := put_invL h (a := a) (b := 0) ⟨h0, by omega⟩ (by omega)
      obtain ⟨g3, g4⟩ := clrB_get hf m (a + 1) _ g1 (by omega) (by omega) hf2
      refine ⟨g3, fun x x0 x1 => ?_⟩
      rw [g4 x x0 x1, g2 x x0 x1]
      rw [hc2] at hc
      by_cases hx : x = a
      · rw [if_neg (by omega), if_pos hx, if_pos (by omega)]
      · rw [if_neg hx]
        by_cases hy : (a + 1 ≤ x ∧ x < a + 1 + m) ∧ x ≥ f ∧ x - f < c
        · rw [if_pos hy, if_pos (by omega)]
        · rw [if_neg hy, if_neg (by omega)]
    · rw [if_neg hc]
      obtain ⟨g3, g4⟩ := clrB_get hf m (a + 1) _ h (by omega) (by omega) hf2
      refine ⟨g3, fun x x0 x1 => ?_⟩
      rw [g4 x x0 x1]
      have hno : ¬ (a ≥ f ∧ a - f < c) := fun hh => hc ⟨hh.1, by rw [u64_in (by omega) (by omega)]; exact hh.2⟩
      by_cases hy : (a + 1 ≤ x ∧ x < a + 1 + m) ∧ x ≥ f ∧ x - f < c
      · rw [if_pos hy, if_pos (by omega)]
      · rw [if_neg hy, if_neg]
        intro hz
        by_cases hx : x = a
        · subst hx; exact hno hz.2
        · exact hy ⟨by omega, hz.2⟩
theorem clrK_get {f c : Int} (hf : R64 f) {l : List (Int × Int)} (h : InvL l) {p : Int × Int} (hp : 0 ≤ p.1 ∧ p.1 < 125) :
    InvL (clrK f c l p) ∧ ∀ x, 0 ≤ x → x < 1000 → getS (clrK f c l p) x = if x / 8 = p.1 ∧ x ≥ f ∧ x - f < c then 0 else getS l x := by
  have e1 : lo8 p.1 = p.1 * 8 := u64_in (by omega) (by omega)
  have e2 : hi8 p.1 = p.1 * 8 + 8 := by unfold hi8; rw [e1]; exact u64_in (by omega) (by omega)
  obtain ⟨g1, g2⟩ := clrB_get (f := f) (c := c) (b := hi8 p.1) hf.1 8 (p.1 * 8) l h (by omega) (by omega) hf.2
  have e3 : clrK f c l p = clrB f c (hi8 p.1) 8 (p.1 * 8) l := by
    unfold clrK
    rw [e1, e2, show (p.1 * 8 + 8 - p.1 * 8).toNat = 8 by omega]
  rw [e3]
  refine ⟨g1, fun x x0 x1 => ?_⟩
  rw [g2 x x0 x1]
  by_cases hx : x / 8 = p.1 ∧ x ≥ f ∧ x - f < c
  · rw [if_pos hx, if_pos (by omega)]
  · rw [if_neg hx, if_neg (by omega)]
theorem clr_fold {f c : Int} (hf : R64 f) : ∀ (d : List (Int × Int)) (l : List (Int × Int)), InvL l → (∀ p ∈ d, 0 ≤ p.1 ∧ p.1 < 125) →
    InvL (d.foldl (clrK f c) l) ∧ ∀ x, 0 ≤ x → x < 1000 → getS (d.foldl (clrK f c) l) x = if (∃ p ∈ d, x / 8 = p.1) ∧ x ≥ f ∧ x - f < c then 0 else getS l x
  | [], l, h, _ => ⟨h, fun x _ _ => by simp⟩
  | q :: d, l, h, hd => by
    obtain ⟨g1, g2⟩ := clrK_get (c := c) hf h (hd q List.mem_cons_self)
    obtain ⟨g3, g4⟩ := clr_fold (c := c) hf d _ g1 (fun p hp => hd p (List.mem_cons_of_mem _ hp))
    refine ⟨g3, fun x x0 x1 => ?_⟩
    rw [List.foldl_cons, g4 x x0 x1, g2 x x0 x1]
    by_cases h1 : x ≥ f ∧ x - f < c
    · by_cases h2 : x / 8 = q.1 <;> by_cases h3 : ∃ p ∈ d, x / 8 = p.1 <;> simp [h1, h2, h3]
    · rw [if_neg (fun h => h1 h.2), if_neg (fun h => h1 h.2), if_neg (fun h => h1 h.2)]
end Go.Proofs.Try
