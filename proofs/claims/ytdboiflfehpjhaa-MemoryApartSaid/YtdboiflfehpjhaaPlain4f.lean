/- The plain law of memory: copying. -/
import Derived.Test.YtdboiflfehpjhaaPlain4e
set_option linter.unusedVariables false
set_option linter.unusedSimpArgs false
namespace Go.Proofs.Try
open Go Am
set_option maxRecDepth 100000
theorem get_rng {l : List (Int × Int)} {x : Int} (h0 : 0 ≤ x) (h1 : x < 1000) : 0 ≤ getS l x ∧ getS l x < 256 := by
  rw [get_val _ ⟨h0, by omega⟩]
  exact byteOf_rng _ _
theorem cpyB_get {f t c : Int} {l0 : List (Int × Int)} (hf : 0 ≤ f ∧ f < 1000) (ht : 0 ≤ t) (htc : 0 < c ∧ t + c ≤ 1000) : ∀ (m : Nat) (a : Int) (l : List (Int × Int)), InvL l → 0 ≤ a → a + m ≤ 1000 →
    InvL (cpyB f t c l0 m a l) ∧ ∀ x, 0 ≤ x → x < 1000 → getS (cpyB f t c l0 m a l) x = if (a ≤ x - t + f ∧ x - t + f < a + m) ∧ x ≥ t ∧ x - t < c then getS l0 (x - t + f) else getS l x
  | 0, a, l, h, h0, h1 => ⟨h, fun x _ _ => by rw [cpyB, if_neg (by omega)]⟩
  | m + 1, a, l, h, h0, h1 => by
    rw [cpyB]
    by_cases hc : a ≥ f ∧ IntKind.u64.wrap (a - f) < c
    · have hc2 : IntKind.u64.wrap (a - f) = a - f := u64_in (by omega) (by omega)
      rw [if_pos hc]
      rw [hc2] at hc
      have e1 : IntKind.u64.wrap (t + a) = t + a := u64_in (by omega) (by omega)
      have e2 : IntKind.u64.wrap (t + a - f) = t + a - f := u64_in (by omega) (by omega)
      rw [e1, e2]
      obtain ⟨g1, g2⟩ := put_invL h (a := t + a - f) (b := getS l0 a) ⟨by omega, by omega⟩ (get_rng h0 (by omega))
      obtain ⟨g3, g4⟩ := cpyB_get hf ht htc m (a + 1) _ g1 (by omega) (by omega)
      refine ⟨g3, fun x x0 x1 => ?_⟩
      rw [g4 x x0 x1, g2 x x0 x1]
      by_cases hx : x = t + a - f
      · have hxa : x - t + f = a := by omega
        rw [if_neg (by omega), if_pos hx, if_pos (by omega), hxa]
      · rw [if_neg hx]
        by_cases hy : (a + 1 ≤ x - t + f ∧ x - t + f < a + 1 + m) ∧ x ≥ t ∧ x - t < c
        · rw [if_pos hy, if_pos (by omega)]
        · rw [if_neg hy, if_neg (by omega)]
    · rw [if_neg hc]
      obtain ⟨g3, g4⟩ := cpyB_get hf ht htc m (a + 1) _ h (by omega) (by omega)
      refine ⟨g3, fun x x0 x1 => ?_⟩
      rw [g4 x x0 x1]
      have hno : ¬ (a ≥ f ∧ a - f < c) := fun hh => hc ⟨hh.1, by rw [u64_in (by omega) (by omega)]; exact hh.2⟩
      by_cases hy : (a + 1 ≤ x - t + f ∧ x - t + f < a + 1 + m) ∧ x ≥ t ∧ x - t < c
      · rw [if_pos hy, if_pos (by omega)]
      · rw [if_neg hy, if_neg]
        intro hz
        by_cases hx : x - t + f = a
        · exact hno (by omega)
        · exact hy ⟨by omega, hz.2⟩
theorem cpyK_get {f t c : Int} {l0 l : List (Int × Int)} (hf : 0 ≤ f ∧ f < 1000) (ht : 0 ≤ t) (htc : 0 < c ∧ t + c ≤ 1000) (h : InvL l) {p : Int × Int} (hp : 0 ≤ p.1 ∧ p.1 < 125) :
    InvL (cpyK f t c l0 l p) ∧ ∀ x, 0 ≤ x → x < 1000 → getS (cpyK f t c l0 l p) x = if (x - t + f) / 8 = p.1 ∧ x ≥ t ∧ x - t < c then getS l0 (x - t + f) else getS l x := by
  have e1 : lo8 p.1 = p.1 * 8 := u64_in (by omega) (by omega)
  have e2 : hi8 p.1 = p.1 * 8 + 8 := by unfold hi8; rw [e1]; exact u64_in (by omega) (by omega)
  obtain ⟨g1, g2⟩ := cpyB_get (l0 := l0) hf ht htc 8 (p.1 * 8) l h (by omega) (by omega)
  have e3 : cpyK f t c l0 l p = cpyB f t c l0 8 (p.1 * 8) l := by
    unfold cpyK
    rw [e1, e2, show (p.1 * 8 + 8 - p.1 * 8).toNat = 8 by omega]
  rw [e3]
  refine ⟨g1, fun x x0 x1 => ?_⟩
  rw [g2 x x0 x1]
  by_cases hx : (x - t + f) / 8 = p.1 ∧ x ≥ t ∧ x - t < c
  · rw [if_pos hx, if_pos (by omega)]
  · rw [if_neg hx, if_neg (by omega)]
theorem cpy_fold {f t c : Int} {l0 : List (Int × Int)} (hf : 0 ≤ f ∧ f < 1000) (ht : 0 ≤ t) (htc : 0 < c ∧ t + c ≤ 1000) : ∀ (d : List (Int × Int)) (l : List (Int × Int)), InvL l → (∀ p ∈ d, 0 ≤ p.1 ∧ p.1 < 125) →
    InvL (d.foldl (cpyK f t c l0) l) ∧ ∀ x, 0 ≤ x → x < 1000 → getS (d.foldl (cpyK f t c l0) l) x = if (∃ p ∈ d, (x - t + f) / 8 = p.1) ∧ x ≥ t ∧ x - t < c then getS l0 (x - t + f) else getS l x
  | [], l, h, _ => ⟨h, fun x _ _ => by simp⟩
  | q :: d, l, h, hd => by
    obtain ⟨g1, g2⟩ := cpyK_get (l0 := l0) hf ht htc h (hd q List.mem_cons_self)
    obtain ⟨g3, g4⟩ := cpy_fold hf ht htc d _ g1 (fun p hp => hd p (List.mem_cons_of_mem _ hp))
    refine ⟨g3, fun x x0 x1 => ?_⟩
    rw [List.foldl_cons, g4 x x0 x1, g2 x x0 x1]
    by_cases h1 : x ≥ t ∧ x - t < c
    · by_cases h2 : (x - t + f) / 8 = q.1 <;> by_cases h3 : ∃ p ∈ d, (x - t + f) / 8 = p.1 <;> simp [h1, h2, h3]
    · rw [if_neg (fun h => h1 h.2), if_neg (fun h => h1 h.2), if_neg (fun h => h1 h.2)]
/-- The reference's copying. -/
theorem rcp_fold {f t c : Int} (hf : 0 ≤ f) (hfc : f + c ≤ 1000) (ht : 0 ≤ t) (htc : 0 < c ∧ t + c ≤ 1000) : ∀ (l : List (Int × Int)) (acc : List (Int × Int)), (l.map (·.1)).Nodup → (∀ p ∈ l, 0 ≤ p.1 ∧ p.1 < 1000 ∧ 0 < p.2 ∧ p.2 < 256) →
    (acc.map (·.1)).Nodup → (∀ p ∈ acc, 0 ≤ p.1 ∧ p.1 < 1000 ∧ 0 < p.2 ∧ p.2 < 256) →
    ((l.foldl (rcpS f t c) acc).map (·.1)).Nodup ∧ (∀ p ∈ l.foldl (rcpS f t c) acc, 0 ≤ p.1 ∧ p.1 < 1000 ∧ 0 < p.2 ∧ p.2 < 256) ∧
    ∀ x, mgetL (l.foldl (rcpS f t c) acc) x = if (∃ p ∈ l, p.1 = x - t + f) ∧ x ≥ t ∧ x - t < c then mgetL l (x - t + f) else mgetL acc x
  | [], acc, _, _, h1, h2 => ⟨h1, h2, fun x => by simp⟩
  | p :: l, acc, hn, hr, h1, h2 => by
    have hp := hr p List.mem_cons_self
    simp only [List.map_cons, List.nodup_cons] at hn
    have hnot : ∀ q ∈ l, q.1 ≠ p.1 := fun q hq e => hn.1 (by rw [← e]; exact List.mem_map_of_mem (f := (·.1)) hq)
    by_cases hc : p.1 ≥ f ∧ p.1 - f < c
    · have hw : IntKind.u64.wrap (p.1 - f) = p.1 - f := u64_in (by omega) (by omega)
      have e1 : IntKind.u64.wrap (t + p.1) = t + p.1 := u64_in (by omega) (by omega)
      have e2 : IntKind.u64.wrap (t + p.1 - f) = t + p.1 - f := u64_in (by omega) (by omega)
      have e : rcpS f t c acc p = rputS acc (t + p.1 - f) p.2 := by unfold rcpS; rw [hw, if_pos hc, e1, e2]
      obtain ⟨g1, g2, g3⟩ := rcp_fold hf hfc ht htc l (rputS acc (t + p.1 - f) p.2) hn.2 (fun q hq => hr q (List.mem_cons_of_mem _ hq)) (rput_keys h1 _ _) (rput_rng h2 (by omega) (by omega))
      rw [List.foldl_cons, e]
      refine ⟨g1, g2, fun x => ?_⟩
      rw [g3 x, rget_put, mget_cons]
      by_cases hx : x = t + p.1 - f
      · have hxp : p.1 = x - t + f := by omega
        have hno : ¬ ∃ q ∈ l, q.1 = x - t + f := fun ⟨q, hq, e⟩ => hnot q hq (by omega)
        rw [if_neg (fun h => hno h.1), if_pos hx, if_pos ⟨⟨p, List.mem_cons_self, hxp⟩, by omega, by omega⟩, if_pos hxp]
      · have hxp : ¬ p.1 = x - t + f := by omega
        rw [if_neg hx, if_neg hxp]
        by_cases hy : (∃ q ∈ l, q.1 = x - t + f) ∧ x ≥ t ∧ x - t < c
        · obtain ⟨⟨q, hq, e⟩, hy2⟩ := hy
          rw [if_pos ⟨⟨q, hq, e⟩, hy2⟩, if_pos ⟨⟨q, List.mem_cons_of_mem _ hq, e⟩, hy2⟩]
        · rw [if_neg hy, if_neg]
          rintro ⟨⟨q, hq, e3⟩, hz⟩
          rcases List.mem_cons.1 hq with h5 | hq
          · exact hxp (by rw [← h5]; exact e3)
          · exact hy ⟨⟨q, hq, e3⟩, hz⟩
    · have e : rcpS f t c acc p = acc := by
        unfold rcpS
        rw [if_neg]
        rintro ⟨q1, q2⟩
        rw [u64_in (by omega) (by omega)] at q2
        exact hc ⟨q1, q2⟩
      obtain ⟨g1, g2, g3⟩ := rcp_fold hf hfc ht htc l acc hn.2 (fun q hq => hr q (List.mem_cons_of_mem _ hq)) h1 h2
      rw [List.foldl_cons, e]
      refine ⟨g1, g2, fun x => ?_⟩
      rw [g3 x, mget_cons]
      by_cases hy : (∃ q ∈ l, q.1 = x - t + f) ∧ x ≥ t ∧ x - t < c
      · obtain ⟨⟨q, hq, e⟩, hy2⟩ := hy
        have hxp : ¬ p.1 = x - t + f := fun e2 => hnot q hq (by omega)
        rw [if_pos ⟨⟨q, hq, e⟩, hy2⟩, if_pos ⟨⟨q, List.mem_cons_of_mem _ hq, e⟩, hy2⟩, if_neg hxp]
      · rw [if_neg hy, if_neg]
        rintro ⟨⟨q, hq, e3⟩, hz⟩
        rcases List.mem_cons.1 hq with h5 | hq
        · rw [h5] at e3; exact hc (by omega)
        · exact hy ⟨⟨q, hq, e3⟩, hz⟩
end Go.Proofs.Try
