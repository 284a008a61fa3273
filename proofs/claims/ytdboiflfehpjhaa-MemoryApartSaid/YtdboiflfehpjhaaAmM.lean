/- Code: soundness of the abstract machine. -/
import Derived.Test.YtdboiflfehpjhaaAmL
set_option linter.unusedVariables false
set_option linter.unusedSimpArgs false
namespace Am
open Go
section
variable {P : Program} {T : TypeId → TI}
variable {ro : Option Nat} {n : Nat}

/-- From one world to a later one; of the places the first n0 stay. -/
structure Ex0 (n0 : Nat) (H : List AO) (ρ : Rho) (w : World) (H' : List AO) (ρ' : Rho) (w' : World) : Prop where
  pre : ρ.take n0 <+: ρ'
  len : n0 ≤ ρ'.length
  size : w.heap.size ≤ w'.heap.size
  os : w'.os = w.os
  tape : w'.tape = w.tape
  output : w'.output = w.output
  frame : ∀ b, b < w.heap.size → ¬ Owned H ρ b → w'.heap[b]? = w.heap[b]?
  back : ∀ b, b < w.heap.size → Owned H' ρ' b → Owned H ρ b

theorem take_pre {n0 : Nat} {ρ ρ' : Rho} (h : ρ.take n0 <+: ρ') (hl : n0 ≤ ρ.length) : ρ'.take n0 = ρ.take n0 := by
  obtain ⟨r, rfl⟩ := h
  have hl2 : (ρ.take n0).length = n0 := by rw [List.length_take]; omega
  rw [List.take_append_of_le_length (by omega), List.take_of_length_le (by omega)]
theorem least_of {p : Nat → Prop} (h : ∃ k, p k) : ∃ m, p m ∧ ∀ k, p k → m ≤ k := by
  obtain ⟨k, hk⟩ := h
  induction k using Nat.strongRecOn with
  | _ k ih =>
    by_cases hx : ∃ j, j < k ∧ p j
    · obtain ⟨j, hj, hp⟩ := hx; exact ih j hj hp
    · exact ⟨k, hk, fun j hj => Nat.le_of_not_lt fun h => hx ⟨j, h, hj⟩⟩
theorem Ex0.refl {n0 : Nat} {H : List AO} {ρ : Rho} {w : World} (hl : n0 ≤ ρ.length) : Ex0 n0 H ρ w H ρ w :=
  ⟨List.take_prefix _ _, hl, Nat.le_refl _, rfl, rfl, rfl, fun _ _ _ => rfl, fun _ _ h => h⟩
theorem Ex0.trans {n0 : Nat} {H H1 H2 : List AO} {ρ ρ1 ρ2 : Rho} {w w1 w2 : World} (hl : n0 ≤ ρ.length) (h : Ex0 n0 H ρ w H1 ρ1 w1) (k : Ex0 n0 H1 ρ1 w1 H2 ρ2 w2) : Ex0 n0 H ρ w H2 ρ2 w2 :=
  ⟨by have := k.pre; rw [take_pre h.pre hl] at this; exact this, k.len, Nat.le_trans h.size k.size, k.os.trans h.os, k.tape.trans h.tape, k.output.trans h.output,
   fun b hb hn => (k.frame b (Nat.lt_of_lt_of_le hb h.size) (fun ho => hn (h.back b hb ho))).trans (h.frame b hb hn),
   fun b hb ho => h.back b hb (k.back b (Nat.lt_of_lt_of_le hb h.size) ho)⟩
theorem Ext.ex0 {n0 : Nat} {H H' : List AO} {ρ ρ' : Rho} {w w' : World} (hl : n0 ≤ ρ.length) (h : Ext H ρ w H' ρ' w') : Ex0 n0 H ρ w H' ρ' w' :=
  ⟨(List.take_prefix _ _).trans h.pre, Nat.le_trans hl h.pre.length_le, h.size, h.os, h.tape, h.output, h.frame, h.back⟩
theorem Ex0.ext {H H' : List AO} {ρ ρ' : Rho} {w w' : World} (hl : ρ.length = H.length) (h : Ex0 H.length H ρ w H' ρ' w') : Ext H ρ w H' ρ' w' :=
  ⟨by have := h.pre; rw [List.take_of_length_le (by omega)] at this; exact this, h.size, h.os, h.tape, h.output, h.frame, h.back⟩

def exitOf : Ex → Exit
  | .normal => .normal
  | .ret => .ret
  | .exit i => .exit i

def NQ (n0 : Nat) (H : List AO) (ρ : Rho) (w : World) (a : Act) (K : Ex → List AV → List AO → Prop) (Q : Exit → Act → World → Prop) : Prop :=
  ∀ (e : Ex) (t' : List AV) (H' : List AO) (ρ' : Rho) (a' : Act) (w' : World), K e t' H' → Tm ρ' t' a' → a'.defers = a.defers → Ex0 n0 H ρ w H' ρ' w' → Holds H' ρ' w' → Q (exitOf e) a' w'

/-- Holds does not see what else is in the world. -/
theorem Holds.heap {H : List AO} {ρ : Rho} {w w' : World} (hh : Holds H ρ w) (he : w'.heap = w.heap) : Holds H ρ w' :=
  hh.same (by rw [he]; exact Nat.le_refl _) (fun b _ => by rw [he])

theorem wpA_sound (hT : TyOk P T) (hm : P.follows .mixedOrders = true) {hs : List (Nat × DT)} {n0 : Nat} : ∀ (c : Code) (t : List AV) (H : List AO) (K : Ex → List AV → List AO → Prop), okHints hs c = true → wpA (realE P) T hs n0 c t H K →
    ∀ (ρ : Rho) (w : World) (a : Act) (Q : Exit → Act → World → Prop), Holds H ρ w → Tm ρ t a → n0 ≤ ρ.length → NQ n0 H ρ w a K Q → c.wpIn (FW ro) n P Q a w := by
  intro c
  induction c with
  | skip => intro t H K _ h ρ w a Q hh ht hl hN; exact wpIn_skip (hN .normal t H ρ a w h ht rfl (Ex0.refl hl) hh)
  | exit id => intro t H K _ h ρ w a Q hh ht hl hN; exact wpIn_exit (hN (.exit id) t H ρ a w h ht rfl (Ex0.refl hl) hh)
  | ret => intro t H K _ h ρ w a Q hh ht hl hN; exact wpIn_ret (hN .ret t H ρ a w h ht rfl (Ex0.refl hl) hh)
  | region id ops draws =>
    intro t H K hok h ρ w a Q hh ht hl hN
    cases draws with
    | false =>
      refine wpIn_region ?_
      have := opsA_sound (ro := ro) (n := n) (P := P) (Q := Q) hT (ops := ops) ops.toList [] ρ w H t a (K .normal) (by simp) hh ht (fun t' H' ρ' a' w' g1 g2 g3 g4 g5 => hN .normal t' H' ρ' a' w' g1 g2 g3 (g4.ex0 hl) g5) h
      simpa using this
    | true =>
      simp only [okHints, okDraw, Bool.and_eq_true] at hok
      have h0 := drawA_sound (ro := ro) (n := n) (Q := fun e a w => match e with | .normal => Q .normal a w | _ => False) hT hok.1 (fun c a w h => h) (hintOf id hs) ops.size _ [] t H hok.2 h
      have hh' : Holds H ρ { w with drawn := w.drawn + 1 } := hh.heap rfl
      have hx : Ex0 n0 H ρ w H ρ { w with drawn := w.drawn + 1 } := ⟨List.take_prefix _ _, hl, Nat.le_refl _, rfl, rfl, rfl, fun _ _ _ => rfl, fun _ _ h => h⟩
      have h1 := h0 ρ { w with drawn := w.drawn + 1 } a hh' ht (fun x hx => by cases hx) (fun t' H' ρ' a' w' g1 g2 g3 g4 g5 => hN .normal t' H' ρ' a' w' g1 g2 g3 (hx.trans hl (g4.ex0 hl)) g5)
      refine wpIn_mono (wpIn_region_any hm (wpAnyS_any _ _ _ _ h1)) ?_
      intro e a w h
      cases e <;> first | exact h | exact h.elim
  | seq x y ihx ihy =>
    intro t H K hok h ρ w a Q hh ht hl hN
    simp only [okHints, Bool.and_eq_true] at hok
    refine wpIn_seq (ihx t H _ hok.1 h ρ w a _ hh ht hl ?_)
    intro e t' H' ρ' a' w' hK ht' hd hx hh'
    cases e with
    | normal =>
      exact ihy t' H' K hok.2 hK ρ' w' a' Q hh' ht' hx.len (fun e2 t2 H2 ρ2 a2 w2 g1 g2 g3 g4 g5 => hN e2 t2 H2 ρ2 a2 w2 g1 g2 (g3.trans hd) (hx.trans hl g4) g5)
    | ret => exact hN .ret t' H' ρ' a' w' hK ht' hd hx hh'
    | exit i => exact hN (.exit i) t' H' ρ' a' w' hK ht' hd hx hh'
  | cond c x y ihx ihy =>
    intro t H K hok h ρ w a Q hh ht hl hN
    simp only [okHints, Bool.and_eq_true] at hok
    have hc := ht.eval c
    simp only [wpA] at h
    split at h
    · rename_i b hb
      rw [hb] at hc
      exact wpIn_cond_split (R_bool hc) (fun e => ihx t H K hok.1 (br_true h e) ρ w a Q hh ht hl hN) (fun e => ihy t H K hok.2 (br_false h e) ρ w a Q hh ht hl hN)
    · exact h.elim
  | block id c ih =>
    intro t H K hok h ρ w a Q hh ht hl hN
    refine wpIn_block (ih t H _ hok h ρ w a _ hh ht hl ?_)
    intro e t' H' ρ' a' w' hK ht' hd hx hh'
    cases e with
    | normal => exact hN .normal t' H' ρ' a' w' hK ht' hd hx hh'
    | ret => exact hN .ret t' H' ρ' a' w' hK ht' hd hx hh'
    | exit j =>
      simp only at hK
      simp only [exitOf, Exit.inBlock]
      split at hK
      · rename_i hj
        rw [if_pos (Nat_beq hj)]
        exact hN .normal t' H' ρ' a' w' hK ht' hd hx hh'
      · rename_i hj
        rw [if_neg (fun e => by subst e; simp at hj)]
        exact hN (.exit j) t' H' ρ' a' w' hK ht' hd hx hh'
  | loop c ih =>
    intro t H K hok h ρ w a Q hh ht hl hN
    obtain ⟨I, k0, ⟨t0, H0, hwk, hI0⟩, hround⟩ := h.ex
    let Inv : Nat → Act → World → Prop := fun k a' w' => ∃ t' H' ρ', I k t' H' ∧ Holds H' ρ' w' ∧ Tm ρ' t' a' ∧ a'.defers = a.defers ∧ Ex0 n0 H ρ w H' ρ' w'
    have weak : ∀ (k : Nat) (t1 t2 : List AV) (H1 H2 : List AO) (ρ1 : Rho) (a1 : Act) (w1 : World), Wk n0 t1 H1 t2 H2 → I k t2 H2 → Holds H1 ρ1 w1 → Tm ρ1 t1 a1 → a1.defers = a.defers → Ex0 n0 H ρ w H1 ρ1 w1 → Inv k a1 w1 := by
      intro k t1 t2 H1 H2 ρ1 a1 w1 hw hI g1 g2 g3 g4
      obtain ⟨ρ2, r1, r2, r3, r4, r5⟩ := hw ρ1 w1 a1.tmps.toList g1 g2 g4.len
      exact ⟨t2, H2, ρ2, hI, r1, r2, g3, g4.trans hl ⟨r3, r4, Nat.le_refl _, rfl, rfl, rfl, fun _ _ _ => rfl, fun b _ ho => r5 b ho⟩⟩
    have hInv0 : Inv k0 a w := weak k0 t t0 H H0 ρ a w hwk hI0 hh ht rfl (Ex0.refl hl)
    classical
    let μ : Act → World → Nat := fun a' w' => if hx : ∃ k, Inv k a' w' then Classical.choose (least_of hx) else 0
    have spec : ∀ a' w', (∃ k, Inv k a' w') → Inv (μ a' w') a' w' := by
      intro a' w' hx
      simp only [μ, dif_pos hx]
      exact (Classical.choose_spec (least_of hx)).1
    have least : ∀ a' w' k, Inv k a' w' → μ a' w' ≤ k := by
      intro a' w' k hk
      have hx : ∃ k, Inv k a' w' := ⟨k, hk⟩
      simp only [μ, dif_pos hx]
      exact (Classical.choose_spec (least_of hx)).2 k hk
    refine wpIn_loop (fun a' w' => ∃ k, Inv k a' w') μ ⟨k0, hInv0⟩ fun a1 w1 hI1 => ?_
    obtain ⟨t1, H1, ρ1, hI, g1, g2, g3, g4⟩ := spec a1 w1 hI1
    refine ih t1 H1 _ hok (hround _ t1 H1 hI) ρ1 w1 a1 _ g1 g2 g4.len ?_
    intro e t2 H2 ρ2 a2 w2 hK ht2 hd hx hh2
    cases e with
    | normal =>
      obtain ⟨k', hlt, t3, H3, hwk, hI3⟩ := hK
      have := weak k' t2 t3 H2 H3 ρ2 a2 w2 hwk hI3 hh2 ht2 (hd.trans g3) (g4.trans hl hx)
      exact ⟨⟨k', this⟩, Nat.lt_of_le_of_lt (least a2 w2 k' this) hlt⟩
    | ret => exact hN .ret t2 H2 ρ2 a2 w2 hK ht2 (hd.trans g3) (g4.trans hl hx) hh2
    | exit i => exact hN (.exit i) t2 H2 ρ2 a2 w2 hK ht2 (hd.trans g3) (g4.trans hl hx) hh2
  | _ => intro t H K _ h; exact h.elim
end
end Am
