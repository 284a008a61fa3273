/- What an operation that turns nothing hangs on: its operands, and the objects that it reads. -/
import Derived.Test.YtdboiflfehpjhaaBmI
set_option linter.unusedVariables false
set_option linter.unusedSimpArgs false
namespace Bm
open Go
section
variable {P : Program} {T : TypeId → TI} {ρ : Rho} {w : World} {H : List AO}

theorem loadV_local {agg : Bool} {sz : Nat} {c : VC} {off : Nat} {K : AV → Prop} (h : loadV (realE P) agg sz c off K) :
    ∃ v, K v ∧ loadV (realE P) agg sz c off (fun u => u = v) := by
  cases c <;> cases agg <;> simp only [loadV] at h ⊢ <;> first
    | exact h.elim
    | (obtain ⟨cs, hs, h⟩ := h; exact ⟨_, h, cs, hs, rfl⟩)
theorem loadA_local {t : TypeId} {i off : Nat} {K : AV → Prop} (h : loadA (realE P) T t H i off K) :
    ∃ v, K v ∧ ∀ H' : List AO, H'[i]? = H[i]? → loadA (realE P) T t H' i off (fun u => u = v) := by
  unfold loadA at h
  split at h
  · rename_i l e ho
    split at h
    · rename_i cs hs
      exact ⟨_, h, fun H' hH => by simp [loadA, hH, ho, hs]⟩
    · exact h.elim
  · rename_i c e ne ho
    obtain ⟨v, h1, h2⟩ := loadV_local h
    exact ⟨v, h1, fun H' hH => by simp only [loadA, hH, ho]; exact h2⟩
  · rename_i l ho
    obtain ⟨v, h1, h2⟩ := loadV_local h
    exact ⟨v, h1, fun H' hH => by simp only [loadA, hH, ho]; exact h2⟩
  · exact h.elim
theorem loadF_local {t : TypeId} {i k off : Nat} {K : AV → Prop} (h : loadF (realE P) T t H i k off K) :
    ∃ v, K v ∧ ∀ H' : List AO, H'[i]? = H[i]? → loadF (realE P) T t H' i k off (fun u => u = v) := by
  unfold loadF at h
  split at h
  · rename_i rows e ho
    obtain ⟨row, hr, h⟩ := h
    split at h
    · rename_i cs hs
      exact ⟨_, h, fun H' hH => by simp only [loadF, hH, ho]; exact ⟨row, hr, by simp [hs]⟩⟩
    · exact h.elim
  · exact h.elim

theorem pureA_local {o : Op} {ev : Operand → AV} {K : AV → Prop} (h : pureA (realE P) T o ev H K) :
    ∃ v, K v ∧ ∀ H' : List AO, (∀ k ∈ loadsOf o ev, H'[k]? = H[k]?) → pureA (realE P) T o ev H' (fun u => u = v) := by
  cases o with
  | load t x =>
    simp only [pureA] at h
    split at h
    · rename_i i off hx
      split at h
      · rename_i hk
        obtain ⟨v, hv, hl⟩ := loadA_local h
        exact ⟨v, hv, fun H' hH => by simp only [pureA, hx, hk]; exact hl H' (hH i (by simp [loadsOf, hx]))⟩
      · exact h.elim
    · rename_i i k off hx
      split at h
      · rename_i hk
        obtain ⟨v, hv, hl⟩ := loadF_local h
        exact ⟨v, hv, fun H' hH => by simp only [pureA, hx, hk]; exact hl H' (hH i (by simp [loadsOf, hx]))⟩
      · exact h.elim
    · exact h.elim
  | lookup t m k ok =>
    simp only [pureA] at h
    split at h
    · rename_i i n h1 h2 h3
      split at h
      · rename_i l hl
        cases ok with
        | false => exact ⟨_, h, fun H' hH => by simp [pureA, h1, h2, h3, hH i (by simp [loadsOf, h2]), hl]⟩
        | true => exact ⟨_, h, fun H' hH => by simp [pureA, h1, h2, h3, hH i (by simp [loadsOf, h2]), hl]⟩
      · exact h.elim
    · exact h.elim
  | entry x =>
    simp only [pureA] at h
    split at h
    · rename_i i h2
      split at h
      · rename_i l hl; exact ⟨_, h, fun H' hH => by simp [pureA, h2, hH i (by simp [loadsOf, h2]), hl]⟩
      · exact h.elim
    · exact h.elim
  | fieldAddr t x f =>
    simp only [pureA, offA_real] at h
    split at h
    · rename_i h1 h2 h3
      exact ⟨_, h, fun H' hH => by simp [pureA, offA_real, h1, h2, h3]⟩
    · rename_i h1 h2 h3
      exact ⟨_, h, fun H' hH => by simp [pureA, offA_real, h1, h2, h3]⟩
    · exact h.elim
  | call c =>
    simp only [pureA] at h
    split at h
    · rename_i x t h1 h2 h3
      split at h
      · rename_i h4; exact ⟨_, h, fun H' hH => by simp [pureA, h1, h2, h3, h4]⟩
      · rename_i h4; exact ⟨_, h, fun H' hH => by simp [pureA, h1, h2, h3, h4]⟩
      · rename_i h4; exact ⟨_, h, fun H' hH => by simp [pureA, h1, h2, h3, h4]⟩
      · rename_i i h4
        split at h
        · rename_i l hl; exact ⟨_, h, fun H' hH => by simp [pureA, h1, h2, h3, h4, hH i (by simp only [loadsOf, h2]; simp), hl]⟩
        · exact h.elim
      · exact h.elim
    · rename_i h1 h2; exact ⟨_, h, fun H' hH => by simp [pureA, h1, h2]⟩
    · rename_i h1 h2; exact ⟨_, h, fun H' hH => by simp [pureA, h1, h2]⟩
    · exact h.elim
  | pick c a b =>
    simp only [pureA] at h
    split at h
    · rename_i x hx
      cases x
      · exact ⟨_, br_false h rfl, fun H' hH => by simp [pureA, hx, br]⟩
      · exact ⟨_, br_true h rfl, fun H' hH => by simp [pureA, hx, br]⟩
    · exact h.elim
  | move x => exact ⟨_, h, fun H' hH => by simp [pureA]⟩
  | assign x => exact ⟨_, h, fun H' hH => by simp [pureA]⟩
  | binOp op t x y t' =>
    unfold pureA at h
    simp only at h
    repeat' split at h
    all_goals first
      | exact h.elim
      | exact ⟨_, h, fun H' hH => by simp only [pureA, *]⟩
      | exact ⟨_, h, fun H' hH => by simp [pureA, *]⟩
      | exact ⟨_, h.2, fun H' hH => by have := h.1; simp only [pureA, *]; exact ⟨h.1, rfl⟩⟩
      | exact ⟨_, h.2, fun H' hH => by simp [pureA, *]⟩
  | indexAddr t x i =>
    unfold pureA at h
    simp only at h
    repeat' split at h
    all_goals first
      | exact h.elim
      | exact ⟨_, h, fun H' hH => by simp only [pureA, *]⟩
      | exact ⟨_, h.2.2, fun H' hH => by have := h.1; have := h.2.1; simp [pureA, *]⟩
  | index t x i =>
    unfold pureA at h
    simp only at h
    split at h
    · rename_i h1 h2 h3
      obtain ⟨g1, g2, h⟩ := h
      obtain ⟨cs, hs, h⟩ := h
      exact ⟨_, h, fun H' hH => by simp only [pureA, h1, h2, h3]; exact ⟨g1, g2, cs, hs, rfl⟩⟩
    · exact h.elim
  | slice t x lo hi mx =>
    unfold pureA at h
    simp only at h
    repeat' split at h
    all_goals first
      | exact h.elim
      | exact ⟨_, h, fun H' hH => by simp [pureA, *]⟩
      | exact ⟨_, h.2.2, fun H' hH => by have := h.1; have := h.2.1; simp [pureA, *]⟩
  | makeFunc fn fs cs =>
    cases fn with
    | func f =>
      simp only [pureA] at h
      split at h
      · rename_i h1 h2; exact ⟨_, h, fun H' hH => by simp only [pureA, h1, h2]⟩
      · exact h.elim
    | _ => exact h.elim
  | nilCheck x =>
    unfold pureA at h
    simp only at h
    repeat' split at h
    all_goals first
      | exact h.elim
      | exact ⟨_, h, fun H' hH => by simp [pureA, *]⟩
  | field t x f =>
    unfold pureA at h
    simp only at h
    repeat' split at h
    all_goals first
      | exact h.elim
      | exact ⟨_, h, fun H' hH => by simp [pureA, *]⟩
  | build t ps =>
    unfold pureA at h
    simp only at h
    repeat' split at h
    all_goals first
      | exact h.elim
      | exact ⟨_, h, fun H' hH => by simp only [pureA, *]⟩
  | extract x i =>
    unfold pureA at h
    simp only at h
    repeat' split at h
    all_goals first
      | exact h.elim
      | exact ⟨_, h, fun H' hH => by simp [pureA, *]⟩
  | unOp u t x =>
    unfold pureA at h
    simp only at h
    repeat' split at h
    all_goals first
      | exact h.elim
      | exact ⟨_, h, fun H' hH => by simp [pureA, *]⟩
  | convert a b x =>
    unfold pureA at h
    simp only at h
    repeat' split at h
    all_goals first
      | exact h.elim
      | exact ⟨_, h, fun H' hH => by simp [pureA, *]⟩
  | _ => exact h.elim
end
end Bm
