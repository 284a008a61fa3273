/- The abstract machine: operations under their guards, lists of them; soundness. -/
import Derived.Test.YtdboiflfehpjhaaBmH
set_option linter.unusedVariables false
set_option linter.unusedSimpArgs false
namespace Bm
open Go
section
variable {P : Program} {T : TypeId → TI} {ρ : Rho} {w : World} {H : List AO}

theorem opA_sound {ro : Option Nat} {n : Nat} (hT : TyOk P T) (hh : Holds H ρ w) {t : List AV} {a : Act} (ht : Tm ρ t a) {o : Oper} {K : AV → List AO → Prop}
    {next : Act → World → Prop} {Q : Exit → Act → World → Prop} (hN : Nx H ρ w a o.dst K next) (h : opA (realE P) T o.op (evA t) H K) : o.wpIn (FW ro) n P a w next Q := by
  unfold opA at h
  split at h
  · rename_i hp
    obtain ⟨v, vc, hK, hR, hr⟩ := pureA_sound hT hh ht h
    exact wpIn_value (fun c hc => by rw [hc] at hp; cases hp) hr (hN v vc H ρ w hK hR (Ext.refl _ _ _) hh)
  · exact actA_sound hT hh ht hN h

/-- What goes on behind some operations. -/
def Nxt (H : List AO) (ρ : Rho) (w : World) (a : Act) (K : List AV → List AO → Prop) (next : Act → World → Prop) : Prop :=
  ∀ (t' : List AV) (H' : List AO) (ρ' : Rho) (a' : Act) (w' : World), K t' H' → Tm ρ' t' a' → a'.defers = a.defers → Ext H ρ w H' ρ' w' → Holds H' ρ' w' → next a' w'

theorem put_defers (a : Act) (d : Option Nat) (v : Value) : (a.put d v).defers = a.defers := by cases d <;> rfl
theorem Tm.ext {ρ' : Rho} (hρ : ρ <+: ρ') {t : List AV} {a : Act} (h : Tm ρ t a) : Tm ρ' t a := All2.mono (fun _ _ => AV.R.ext hρ) h

/-- A temporary whose value is known. -/
theorem Tm.set {t : List AV} {a : Act} (h : Tm ρ t a) {d : Nat} {v : AV} (hv : v.R ρ (a.tmps.getD d undef)) : Tm ρ (t.set d v) a := by
  refine All2.of_get (by rw [List.length_set]; exact h.length) fun i x y hx hy => ?_
  rcases get_set hx with ⟨rfl, _, rfl⟩ | ⟨_, hx⟩
  · rw [Array.getD_eq_getD_getElem?, ← Array.getElem?_toList, hy] at hv; exact hv
  · obtain ⟨z, hz, hr⟩ := h.get hx
    rw [hy] at hz; cases hz; exact hr

/-- The guard of an operation. -/
theorem guard_spec {ops : Array Oper} {t : List AV} {a : Act} (ht : Tm ρ t a) {o : Oper} {j : Nat} {want : Bool} (hg : o.guard = some (j, want)) :
    match (ops.toList[j]?).bind (·.dst) with
    | none => Region.wanted o (yielded ops a.tmps) = false
    | some d => match t.getD d undefA with
      | .c (.s (.bool b)) => a.tmps.getD d undef = .bool b ∧ Region.wanted o (yielded ops a.tmps) = (b == want)
      | .tup _ => Region.wanted o (yielded ops a.tmps) = false
      | _ => True := by
  rw [Array.getElem?_toList]
  have hw : Region.wanted o (yielded ops a.tmps) = (yielded ops a.tmps j == some want) := by simp only [Region.wanted, hg]
  split
  · rename_i hn
    rw [hw]
    simp only [yielded, hn, Option.bind_none]
    rfl
  · rename_i d hd
    have hR := ht.getD d
    have hy : yielded ops a.tmps j = match a.tmps[d]? with | some (.bool b) => some b | _ => none := by simp only [yielded, hd, Option.bind_some]; rfl
    have hD : a.tmps.getD d undef = (a.tmps[d]?).getD undef := Array.getD_eq_getD_getElem?
    split
    · rename_i b hb
      rw [hb] at hR
      have e : a.tmps.getD d undef = .bool b := hR
      refine ⟨e, ?_⟩
      rw [hw, hy]
      rw [hD] at e
      cases hq : a.tmps[d]? with
      | none => rw [hq] at e; simp [undef] at e
      | some x => rw [hq] at e; simp at e; subst e; rfl
    · rename_i l hb
      rw [hb] at hR
      obtain ⟨vs, _, e⟩ := hR
      rw [hw, hy]
      rw [hD] at e
      cases hq : a.tmps[d]? with
      | none => rfl
      | some x => rw [hq] at e; simp at e; subst e; rfl
    · trivial

/-- An operation under its guard, whatever goes on. -/
def gStep (F : Fence) (n : Nat) (P : Program) (ops : Array Oper) (Q : Exit → Act → World → Prop) (o : Oper) (next : Act → World → Prop) (a : Act) (w : World) : Prop :=
  if Region.wanted o (yielded ops a.tmps) then o.wpIn F n P a w next Q else (∀ f, o.about P w a.eval = some f → F.fn f) ∧ next (a.put o.dst undef) w

theorem Nxt.nx {t : List AV} {a : Act} (ht : Tm ρ t a) {d : Option Nat} {K : List AV → List AO → Prop} {next : Act → World → Prop} (hN : Nxt H ρ w a K next) :
    Nx H ρ w a d (fun v H => K (putA t d v) H) next :=
  fun v vc H' ρ' w' hK hR hext hh' => hN _ H' ρ' _ w' hK ((ht.ext hext.pre).put d hR) (put_defers _ _ _) hext hh'

theorem stepA_sound {ro : Option Nat} {n : Nat} (hT : TyOk P T) (hh : Holds H ρ w) {t : List AV} {a : Act} (ht : Tm ρ t a) {ops : Array Oper} {o : Oper} {K : List AV → List AO → Prop}
    {next : Act → World → Prop} {Q : Exit → Act → World → Prop} (hN : Nxt H ρ w a K next) (h : stepA (realE P) T ops o t H K) : gStep (FW ro) n P ops Q o next a w := by
  unfold gStep
  have skip : ∀ t', Tm ρ t' a → K (putA t' o.dst undefA) H → (∀ f, o.about P w a.eval = some f → (FW ro).fn f) ∧ next (a.put o.dst undef) w := fun t' ht' hK =>
    ⟨fun _ _ => trivial, hN _ H ρ _ w hK (ht'.put o.dst (undefA_R ρ)) (put_defers _ _ _) (Ext.refl _ _ _) hh⟩
  unfold stepA at h
  split at h
  · rename_i hg
    rw [if_pos (by simp only [Region.wanted, hg])]
    exact opA_sound hT hh ht (hN.nx ht) h
  · rename_i j want hg
    have hs := guard_spec (ops := ops) ht hg
    split at h
    · rename_i hd
      rw [hd] at hs
      simp only at hs
      rw [if_neg (by simp [hs])]
      exact skip t ht h
    · rename_i d hd
      rw [hd] at hs
      simp only at hs
      split at h
      · rename_i b hb
        rw [hb] at hs
        obtain ⟨e, hw⟩ := hs
        cases b with
        | true =>
          have ht' : Tm ρ (t.set d (sv (.bool true))) a := ht.set (by rw [e]; rfl)
          have h := br_true h rfl
          cases want with
          | true => rw [if_pos (by rw [hw]; rfl)]; exact opA_sound hT hh ht' (hN.nx ht') h
          | false => rw [if_neg (by rw [hw]; simp)]; exact skip _ ht' h
        | false =>
          have ht' : Tm ρ (t.set d (sv (.bool false))) a := ht.set (by rw [e]; rfl)
          have h := br_false h rfl
          cases want with
          | true => rw [if_neg (by rw [hw]; simp)]; exact skip _ ht' h
          | false => rw [if_pos (by rw [hw]; rfl)]; exact opA_sound hT hh ht' (hN.nx ht') h
      · exact h.elim
      · exact h.elim
      · rename_i l hb
        rw [hb] at hs
        simp only at hs
        rw [if_neg (by simp [hs])]
        exact skip t ht h

theorem opsA_sound {ro : Option Nat} {n : Nat} (hT : TyOk P T) {ops : Array Oper} {Q : Exit → Act → World → Prop} : ∀ (r pre : List Oper) (ρ : Rho) (w : World) (H : List AO) (t : List AV) (a : Act) (K : List AV → List AO → Prop),
    ops.toList = pre ++ r → Holds H ρ w → Tm ρ t a → Nxt H ρ w a K (Q .normal) → opsA (realE P) T ops r t H K → wpOpsIn (FW ro) n P ops Q ((List.range r.length).map (pre.length + ·)) a w
  | [], pre, ρ, w, H, t, a, K, he, hh, ht, hN, h => by
    simp only [List.length_nil, List.range_zero, List.map_nil, wpOpsIn]
    exact hN t H ρ a w h ht rfl (Ext.refl _ _ _) hh
  | o :: r, pre, ρ, w, H, t, a, K, he, hh, ht, hN, h => by
    have ho : ops[pre.length]? = some o := by rw [← Array.getElem?_toList, he]; simp
    have hr : (List.range (o :: r).length).map (pre.length + ·) = pre.length :: (List.range r.length).map ((pre ++ [o]).length + ·) := by
      rw [List.length_cons, List.range_succ_eq_map, List.map_cons, List.map_map]
      simp only [Nat.add_zero, List.length_append, List.length_cons, List.length_nil, Nat.zero_add, List.cons.injEq, true_and]
      apply List.map_congr_left
      intro x _
      simp only [Function.comp]
      omega
    rw [hr]
    simp only [wpOpsIn, ho]
    refine stepA_sound hT hh ht (ro := ro) (n := n) (K := fun t H => opsA (realE P) T ops r t H K) ?_ h
    intro t' H' ρ' a' w' hK ht' hd hext hh'
    exact opsA_sound hT r (pre ++ [o]) ρ' w' H' t' a' K (by rw [he]; simp) hh' ht' (fun t2 H2 ρ2 a2 w2 g1 g2 g3 g4 g5 => hN t2 H2 ρ2 a2 w2 g1 g2 (g3.trans hd) (hext.trans g4) g5) hK
end
end Bm
