/- Weakening, loops. -/
import Derived.Test.YtdboiflfehpjhaaBmQ
set_option linter.unusedVariables false
set_option linter.unusedSimpArgs false
namespace Bm
open Go
/-- The temporaries told of less, the objects renamed. -/
def Fg (g : Nat → Nat) : List AV → List AV → Prop
  | [], [] => True
  | _ :: t, .any :: t' => Fg g t t'
  | x :: t, y :: t' => x = y.ren g ∧ Fg g t t'
  | _, _ => False
def forget (ks : List Nat) (t : List AV) : List AV := ks.foldl (fun t k => t.set k .any) t
def setL (vs : List (Nat × AV)) (t : List AV) : List AV := vs.foldl (fun t p => t.set p.1 p.2) t
theorem Fg_R {g : Nat → Nat} {ρ ρ2 : Rho} (h : ∀ (i : Nat) (p : Pl), ρ2[g i]? = some p → ρ[i]? = some p) : ∀ {t t' : List AV} {tm : List Value}, Fg g t t' → All2 (AV.R ρ2) t tm → All2 (AV.R ρ) t' tm
  | [], [], [], _, _ => trivial
  | x :: t, y :: t', v :: tm, hf, ⟨hv, ht⟩ => by
    cases y with
    | any => exact ⟨trivial, Fg_R h (by cases x <;> exact hf) ht⟩
    | c y => exact ⟨AV.ren_in h (hf.1 ▸ hv), Fg_R h hf.2 ht⟩
    | tup y => exact ⟨AV.ren_in h (hf.1 ▸ hv), Fg_R h hf.2 ht⟩
  | [], [], _ :: _, _, h => h.elim
  | [], _ :: _, _, h, _ => h.elim
  | _ :: _, [], _, h, _ => h.elim
  | _ :: _, _ :: _, [], _, h => h.elim
section
variable {P : Program} {T : TypeId → TI}
/-- A part of what a world holds. -/
theorem Holds.part {H H0 : List AO} {σ : List Nat} {ρ2 : Rho} {w : World} (hh : Holds H ρ2 w) (hnd : nodupB σ = true) (hp : pickL H σ = some (H0.map (AO.ren (gI σ H.length)))) :
    ∃ ρ : Rho, Holds H0 ρ w ∧ (∀ i p, ρ2[gI σ H.length i]? = some p → ρ[i]? = some p) ∧ (∀ (k i : Nat), σ[k]? = some i → ρ[k]? = ρ2[i]?) ∧ ρ.length = σ.length ∧ ∀ b, Owned H0 ρ b → Owned H ρ2 b := by
  have hnd := nodupB_spec hnd
  obtain ⟨hpl, hpg⟩ := pickL_spec hp
  rw [List.length_map] at hpl
  let g := gI σ H.length
  let ρ : Rho := σ.map fun i => ρ2.getD i { b := 0 }
  have hρl : ρ.length = σ.length := by simp [ρ]
  have gin : ∀ (k i : Nat), σ[k]? = some i → g k = i := fun k i hk => by simp [g, gI, hk]
  have gout : ∀ k, σ.length ≤ k → g k = H.length + (k - σ.length) := fun k hk => by simp [g, gI, List.getElem?_eq_none hk]
  have ρget : ∀ (k i : Nat), σ[k]? = some i → ρ[k]? = ρ2[i]? := fun k i hk => by
    have hi := (hpg k i hk).2
    have : i < ρ2.length := by rw [hh.len]; exact hi
    simp [ρ, hk, this]
  have inn : ∀ (i : Nat) (p : Pl), ρ2[g i]? = some p → ρ[i]? = some p := by
    intro i p hi
    rcases Nat.lt_or_ge i σ.length with hl | hl
    · obtain ⟨j, hj⟩ : ∃ j, σ[i]? = some j := ⟨_, List.getElem?_eq_getElem hl⟩
      rw [gin i j hj] at hi
      rw [ρget i j hj]
      exact hi
    · rw [gout i hl, List.getElem?_eq_none (by rw [hh.len]; omega)] at hi
      cases hi
  have H0get : ∀ (k : Nat) (o : AO), H0[k]? = some o → ∃ i, σ[k]? = some i ∧ H[i]? = some (o.ren g) := by
    intro k o ho
    have hk : k < σ.length := by rw [← hpl]; exact (List.getElem?_eq_some_iff.1 ho).1
    refine ⟨_, List.getElem?_eq_getElem hk, ?_⟩
    rw [(hpg k _ (List.getElem?_eq_getElem hk)).1, List.getElem?_map, ho]
    rfl
  refine ⟨ρ, ⟨by rw [hρl, hpl], fun k o p ho hpk => ?_, fun k m todo ho => ?_, fun k k' o o' p p' b h1 h2 h3 h4 h5 h6 => ?_⟩, inn, ρget, hρl, ?_⟩
  · obtain ⟨i, hi, hHi⟩ := H0get k o ho
    rw [ρget k i hi] at hpk
    exact AO.ren_in inn (hh.rep i _ p hHi hpk)
  · obtain ⟨i, hi, hHi⟩ := H0get k _ ho
    obtain ⟨l, hl⟩ := hh.iter i (g m) todo hHi
    have hlt := (List.getElem?_eq_some_iff.1 hl).1
    have hm : m < σ.length := by
      rcases Nat.lt_or_ge m σ.length with hm | hm
      · exact hm
      · rw [gout m hm] at hlt; omega
    obtain ⟨j, hj⟩ : ∃ j, σ[m]? = some j := ⟨_, List.getElem?_eq_getElem hm⟩
    rw [gin m j hj, (hpg m j hj).1, List.getElem?_map] at hl
    cases hq : H0[m]? with
    | none => rw [hq] at hl; cases hl
    | some o =>
      rw [hq] at hl
      simp only [Option.map_some, Option.some.injEq] at hl
      exact ⟨l, by rw [AO.ren_m64 hl]⟩
  · obtain ⟨i, hi, hHi⟩ := H0get k o h1
    obtain ⟨i', hi', hHi'⟩ := H0get k' o' h3
    rw [ρget k i hi] at h2
    rw [ρget k' i' hi'] at h4
    have := hh.apart i i' _ _ p p' b hHi h2 hHi' h4 ((AO.ren_own _ _ _ _).2 h5) ((AO.ren_own _ _ _ _).2 h6)
    subst this
    have hk := (List.getElem?_eq_some_iff.1 hi).1
    exact (List.getElem?_inj hk hnd).1 (hi.trans hi'.symm)
  · rintro b ⟨k, o, p, ho, hpk, hb⟩
    obtain ⟨i, hi, hHi⟩ := H0get k o ho
    rw [ρget k i hi] at hpk
    exact ⟨i, _, p, hHi, hpk, (AO.ren_own _ _ _ _).2 hb⟩

/-- The first n of a list of numbers are 0, 1, 2, .. -/
def isId : Nat → Nat → List Nat → Bool
  | 0, _, _ => true
  | n + 1, k, x :: l => Nat.beq x k && isId n (k + 1) l
  | _ + 1, _, [] => false
theorem isId_spec : ∀ {n k : Nat} {l : List Nat}, isId n k l = true → n ≤ l.length ∧ ∀ i, i < n → l[i]? = some (k + i)
  | 0, k, l, _ => ⟨Nat.zero_le _, fun i h => absurd h (Nat.not_lt_zero _)⟩
  | n + 1, k, x :: l, h => by
    simp only [isId, Bool.and_eq_true] at h
    obtain ⟨h1, h2⟩ := isId_spec h.2
    refine ⟨by simp; omega, fun i hi => ?_⟩
    cases i with
    | zero => simp [Nat_beq h.1]
    | succ i => simp [h2 i (by omega)]; omega
  | n + 1, k, [], h => by simp [isId] at h

theorem Wk_of {n0 : Nat} {t t' : List AV} {H H' : List AO} (σ : List Nat) (hnd : nodupB σ = true) (hid : isId n0 0 σ = true) (hp : pickL H σ = some (H'.map (AO.ren (gI σ H.length)))) (ht : Fg (gI σ H.length) t t') : Wk n0 t H t' H' := by
  intro ρ w tm hh htm hl
  obtain ⟨ρ', h1, h2, h3, h4, h5⟩ := hh.part hnd hp
  obtain ⟨i1, i2⟩ := isId_spec hid
  refine ⟨ρ', h1, Fg_R h2 ht htm, ?_, by omega, h5⟩
  refine ⟨ρ'.drop n0, ?_⟩
  apply List.ext_getElem?
  intro i
  rcases Nat.lt_or_ge i n0 with hi | hi
  · rw [List.getElem?_append_left (by rw [List.length_take]; omega), List.getElem?_take, if_pos hi, h3 i i (by have := i2 i hi; rwa [Nat.zero_add] at this)]
  · rw [List.getElem?_append_right (by rw [List.length_take]; omega), List.length_take, Nat.min_eq_left hl, List.getElem?_drop]
    congr 1
    omega

/-- A branch. -/
theorem bm {b : Bool} {A B : Unit → Prop} (h : b = true → A ()) (k : b = false → B ()) : br.match_1 (fun _ => Prop) b A B := by
  cases b
  · exact k rfl
  · exact h rfl
theorem bmT {b : Bool} {A B : Unit → Prop} (hb : b = true) (h : A ()) : br.match_1 (fun _ => Prop) b A B := by subst hb; exact h
theorem bmF {b : Bool} {A B : Unit → Prop} (hb : b = false) (h : B ()) : br.match_1 (fun _ => Prop) b A B := by subst hb; exact h
/-- **A loop.** Its state is told by a: what the temporaries are (over those that the loop sets: any), what the heap is. -/
theorem loop_intro {n0 : Nat} {W : List AV → List AO → (Ex → List AV → List AO → Prop) → Prop} {t : List AV} {H : List AO} {K : Ex → List AV → List AO → Prop} {α : Type} (ks : List Nat) (vs : α → List (Nat × AV)) (hp : α → List AO) (J : α → Prop) (μ : α → Nat) (a0 : α)
    (h0 : Wk n0 t H (setL (vs a0) (forget ks t)) (hp a0)) (hJ : J a0)
    (hr : ∀ a, J a → ∀ KN : List AV → List AO → Prop, (∀ a' t' H', J a' → μ a' < μ a → Wk n0 t' H' (setL (vs a') (forget ks t)) (hp a') → KN t' H') →
      Go1 (W (setL (vs a) (forget ks t)) (hp a) fun e t' H' => match e with
        | .normal => KN t' H'
        | .ret => K .ret t' H'
        | .exit i => K (.exit i) t' H')) : LoopA n0 W t H K := by
  refine ⟨⟨fun k t' H' => ∃ a, J a ∧ μ a = k ∧ t' = setL (vs a) (forget ks t) ∧ H' = hp a, μ a0, ⟨_, _, h0, a0, hJ, rfl, rfl, rfl⟩, ?_⟩⟩
  rintro k t' H' ⟨a, ha, rfl, rfl, rfl⟩
  refine (hr a ha _ fun a' t' H' h1 h2 h3 => ?_).go
  exact ⟨μ a', h2, _, _, h3, a', h1, rfl, rfl, rfl⟩
end
end Bm
