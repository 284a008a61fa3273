/- Regions that draw their order, and code: soundness. -/
import Derived.Test.YtdboiflfehpjhaaBmK
import Derived.ControlIn
set_option linter.unusedVariables false
set_option linter.unusedSimpArgs false
namespace Bm
open Go
section
variable {P : Program} {T : TypeId → TI}
variable {ro : Option Nat} {n : Nat} {ops : Array Oper} {Q : Exit → Act → World → Prop}

/-- What a walk shows of a state. -/
def DS (ro : Option Nat) (n : Nat) (P : Program) (ops : Array Oper) (Q : Exit → Act → World → Prop) (K : List AV → List AO → Prop) (fuel : Nat) (listed : Array Bool) (L : List Ld) (t : List AV) (H : List AO) : Prop :=
  ∀ (ρ : Rho) (w : World) (a : Act), Holds H ρ w → Tm ρ t a → (∀ x ∈ L, H[x.obj]? = some x.was) → Nxt H ρ w a K (Q .normal) → wpAnyS ro n P ops Q (SL ops ρ L) fuel listed a w

theorem SL_pure {i : Nat} {o : Oper} (ho : ops[i]? = some o) (hp : isPure o.op = true) {ρ : Rho} {L : List Ld} (listed : Array Bool) (w : World) (h : SL ops ρ L (listed.setIfInBounds i true) w) : SL ops ρ L listed w := by
  obtain ⟨ρ', H', h1, h2, h3⟩ := h
  refine ⟨ρ', H', h1, h2, fun x hx hd => h3 x hx ?_⟩
  rw [depd_false] at hd ⊢
  intro j o' hj hl hp'
  by_cases hij : i = j
  · subst hij; rw [ho] at hj; cases hj; rw [hp] at hp'; cases hp'
  · rw [getD_set_ne false hij] at hl; exact hd j o' hj hl hp'

theorem pure_first (hT : TyOk P T) (hsd : noSelDef ops = true) (hQ : ∀ c a w, ¬ Q (.panic c) a w) {K : List AV → List AO → Prop} {fuel : Nat} {listed : Array Bool} {i : Nat} {o : Oper} {L : List Ld} {t : List AV} {H : List AO}
    (ho : ops[i]? = some o) (hp : isPure o.op = true) (hr : i ∈ Region.ready .any ops listed) (hf : Region.free .any ops listed i = true) (hd : depd ops i listed = false)
    {ρ : Rho} {w : World} {a : Act} (hh : Holds H ρ w) (ht : Tm ρ t a) (hL : ∀ x ∈ L, H[x.obj]? = some x.was) (hN : Nxt H ρ w a K (Q .normal))
    {X : List Ld → List AV → Prop} (hX : ∀ L t, X L t → DS ro n P ops Q K fuel (listed.setIfInBounds i true) L t H)
    (h : stepL (realE P) T ops i o L t H X) : wpAnyS ro n P ops Q (SL ops ρ L) (fuel + 1) listed a w := by
  have skip : ∀ t', Tm ρ t' a → Region.wanted o (yielded ops a.tmps) = false → X L (putA t' o.dst undefA) → wpAnyS ro n P ops Q (SL ops ρ L) (fuel + 1) listed a w := by
    intro t' ht' hw hD
    exact wpAnyS_first ho hsd hQ (fun l w h => SL_pure ho hp l w h) fuel listed a w (Region.free_spec ho hf) hr hd (.inr ⟨hw, rfl⟩) ⟨ρ, H, List.prefix_refl _, hh, fun x hx _ => hL x hx⟩
      (hX _ _ hD ρ w _ hh (ht'.put _ (undefA_R ρ)) hL (hN.put _ _))
  have go : ∀ t', Tm ρ t' a → Region.wanted o (yielded ops a.tmps) = true →
      (pureA (realE P) T o.op (evA t') H fun v => match tells o.op v with
        | true => X (addL H i L (loadsOf o.op (evA t'))) (putA t' o.dst v)
        | false => False) → wpAnyS ro n P ops Q (SL ops ρ L) (fuel + 1) listed a w := by
    intro t' ht' hw hD
    have hls := loads_some hD
    obtain ⟨v, vc, hK, hR, hfl⟩ := float_spec hT hh ht' hD
    obtain ⟨a1, a2, a3⟩ := addL_spec (H := H) (i := i) (L := L) (ks := loadsOf o.op (evA t'))
    have hL' : ∀ x ∈ addL H i L (loadsOf o.op (evA t')), H[x.obj]? = some x.was := fun x hx => (a2 x hx).elim (hL x) id
    refine wpAnyS_mono _ _ _ _ (S := SL ops ρ (addL H i L (loadsOf o.op (evA t')))) (fun l _ w ⟨ρ', H', g1, g2, g3⟩ => ⟨ρ', H', g1, g2, fun x hx => g3 x (a1 x hx)⟩) ?_
    refine wpAnyS_first ho hsd hQ (fun l w h => SL_pure ho hp l w h) fuel listed a w (Region.free_spec ho hf) hr hd (.inl ⟨hw, ?_⟩) ⟨ρ, H, List.prefix_refl _, hh, fun x hx _ => hL' x hx⟩
      (hX _ _ hK ρ w _ hh (ht'.put _ hR) hL' (hN.put _ _))
    rintro l w' hdl ⟨ρ', H', g1, g2, g3⟩
    refine hfl ρ' H' w' g1 g2 fun k hk => ?_
    obtain ⟨x, hx, e1, e2, e3⟩ := a3 k hk (hls k hk)
    have := g3 x hx (by rw [e1]; exact hdl)
    rw [e2] at this
    rw [this, e3]
  unfold stepL at h
  simp only at h
  split at h
  · rename_i hg
    exact go t ht (by simp only [Region.wanted, hg]) h
  · rename_i j want hg
    have hs := guard_spec (ops := ops) ht hg
    split at h
    · rename_i hd
      rw [hd] at hs
      exact skip t ht hs h
    · rename_i d hd
      rw [hd] at hs
      simp only at hs
      split at h
      · rename_i b hb
        rw [hb] at hs
        obtain ⟨e, hw⟩ := hs
        cases b with
        | true =>
          have ht' : Tm ρ (t.set d (sv (.bool true))) a := ht.set (by rw [e]; rfl)
          have h := br_true h rfl
          cases want with
          | true => exact go _ ht' (by rw [hw]; rfl) h
          | false => exact skip _ ht' (by rw [hw]; rfl) h
        | false =>
          have ht' : Tm ρ (t.set d (sv (.bool false))) a := ht.set (by rw [e]; rfl)
          have h := br_false h rfl
          cases want with
          | true => exact skip _ ht' (by rw [hw]; rfl) h
          | false => exact go _ ht' (by rw [hw]; rfl) h
      · exact h.elim
      · exact h.elim
      · rename_i l hb
        rw [hb] at hs
        exact skip t ht hs h

theorem act_step (hT : TyOk P T) {K : List AV → List AO → Prop} {fuel : Nat} {listed : Array Bool} {i : Nat} {o : Oper} {L : List Ld} {t : List AV} {H : List AO}
    (ho : ops[i]? = some o) (hp : isPure o.op = false) (hr : i ∈ Region.ready .any ops listed)
    {ρ : Rho} {w : World} {a : Act} (hh : Holds H ρ w) (ht : Tm ρ t a) (hN : Nxt H ρ w a K (Q .normal))
    {X : List AV → List AO → Prop} (hX : ∀ t H, X t H → keepL H (dropL (bindsOn o) L) ∧ DS ro n P ops Q K fuel (listed.setIfInBounds i true) (dropL (bindsOn o) L) t H)
    (h : stepA (realE P) T ops o t H X) :
    gStep (FW ro) n P ops Q o (fun a' w' => SL ops ρ L (listed.setIfInBounds i true) w' ∧ wpAnyS ro n P ops Q (SL ops ρ L) fuel (listed.setIfInBounds i true) a' w') a w := by
  have hlt := ready_lt hr
  have dropped : ∀ x ∈ L, ∀ l : Array Bool, (∀ k, (listed.setIfInBounds i true).getD k false = true → l.getD k false = true) → depd ops x.op l = false → x ∈ dropL (bindsOn o) L := by
    intro x hx l hl hd
    refine mem_dropL hx ?_
    rw [depd_false] at hd
    exact hd i o ho (hl i ((getD_set_iff hlt).2 (.inl rfl))) hp
  refine stepA_sound hT hh ht ?_ h
  intro t' H' ρ' a' w' hx ht' hdef hext hh'
  obtain ⟨hkeep, hD⟩ := hX _ _ hx
  refine ⟨⟨ρ', H', hext.pre, hh', fun x hx hd => keepL_mem hkeep (dropped x hx _ (fun _ h => h) hd)⟩, ?_⟩
  refine wpAnyS_mono _ _ _ _ (S := SL ops ρ' (dropL (bindsOn o) L)) ?_ (hD ρ' w' a' hh' ht' (fun x hx => keepL_mem hkeep hx) (fun t2 H2 ρ2 a2 w2 g1 g2 g3 g4 g5 => hN t2 H2 ρ2 a2 w2 g1 g2 (g3.trans hdef) (hext.trans g4) g5))
  rintro l hl w2 ⟨ρ2, H2, g1, g2, g3⟩
  exact ⟨ρ2, H2, hext.pre.trans g1, g2, fun x hx hd => g3 x (dropped x hx l hl hd) hd⟩

theorem drawA_sound (hT : TyOk P T) (hsd : noSelDef ops = true) (hQ : ∀ c a w, ¬ Q (.panic c) a w) {K : List AV → List AO → Prop} : ∀ (d : DT) (fuel : Nat) (listed : Array Bool) (L : List Ld) (t : List AV) (H : List AO),
    okT ops d fuel listed = true → drawA (realE P) T ops d L t H K → DS ro n P ops Q K fuel listed L t H
  | .done, fuel, listed, L, t, H, hok, h, ρ, w, a, hh, ht, hL, hN => by
    have hr : Region.ready .any ops listed = [] := by simpa [okT] using hok
    have hq := hN t H ρ a w h ht rfl (Ext.refl _ _ _) hh
    cases fuel with
    | zero => exact ⟨hr, hq⟩
    | succ fuel => exact ⟨fun _ => hq, by rw [hr]; simp⟩
  | .op i r, 0, listed, L, t, H, hok, h, ρ, w, a, hh, ht, hL, hN => by simp [okT] at hok
  | .op i r, fuel + 1, listed, L, t, H, hok, h, ρ, w, a, hh, ht, hL, hN => by
    simp only [okT, Bool.and_eq_true] at hok
    obtain ⟨hok1, hok2⟩ := hok
    simp only [drawA, oneD] at h
    split at h
    · exact h.elim
    · rename_i o ho
      rw [Array.getElem?_toList] at ho
      rw [isPureAt_eq ho] at hok1
      split at h
      · rename_i hp
        rw [hp] at hok1
        simp only [Bool.and_eq_true, Bool.not_eq_true'] at hok1
        obtain ⟨⟨hc, hf⟩, hd⟩ := hok1
        refine pure_first hT hsd hQ ho hp (by simpa using hc) hf hd hh ht hL hN (fun L t h => ?_) h
        exact drawA_sound hT hsd hQ r fuel _ L t H hok2 h
      · rename_i hp
        rw [hp] at hok1
        have hr : Region.ready .any ops listed = [i] := by simpa using hok1
        refine ⟨fun h0 => (by rw [hr] at h0; cases h0), fun j hj oj hoj => ?_⟩
        rw [hr] at hj
        simp at hj
        subst hj
        rw [ho] at hoj; cases hoj
        refine act_step hT ho hp (by rw [hr]; simp) hh ht hN (fun t H ⟨h1, h2⟩ => ⟨h1, ?_⟩) h
        exact drawA_sound hT hsd hQ r fuel _ _ t H hok2 h2
  | .fork i a j b, 0, listed, L, t, H, hok, h, ρ, w, a', hh, ht, hL, hN => by simp [okT] at hok
  | .fork i x j y, fuel + 1, listed, L, t, H, hok, h, ρ, w, a, hh, ht, hL, hN => by
    simp only [okT, Bool.and_eq_true, Bool.not_eq_true'] at hok
    obtain ⟨⟨⟨⟨hr, hpi⟩, hpj⟩, hok1⟩, hok2⟩ := hok
    have hr : Region.ready .any ops listed = [i, j] := by simpa using hr
    refine ⟨fun h0 => (by rw [hr] at h0; cases h0), fun k hk ok hok => ?_⟩
    rw [hr] at hk
    simp only [drawA, oneD] at h
    rcases List.mem_cons.1 hk with rfl | hk
    · have h := h.1
      split at h
      · exact h.elim
      · rename_i o ho
        rw [Array.getElem?_toList] at ho
        rw [ho] at hok; cases hok
        rw [isPureAt_eq ho] at hpi
        rw [hpi] at h
        refine act_step hT ho hpi (by rw [hr]; simp) hh ht hN (fun t H ⟨h1, h2⟩ => ⟨h1, ?_⟩) h
        exact drawA_sound hT hsd hQ x fuel _ _ t H hok1 h2
    · simp at hk
      subst hk
      have h := h.2
      split at h
      · exact h.elim
      · rename_i o ho
        rw [Array.getElem?_toList] at ho
        rw [ho] at hok; cases hok
        rw [isPureAt_eq ho] at hpj
        rw [hpj] at h
        refine act_step hT ho hpj (by rw [hr]; simp) hh ht hN (fun t H ⟨h1, h2⟩ => ⟨h1, ?_⟩) h
        exact drawA_sound hT hsd hQ y fuel _ _ t H hok2 h2
end
end Bm
