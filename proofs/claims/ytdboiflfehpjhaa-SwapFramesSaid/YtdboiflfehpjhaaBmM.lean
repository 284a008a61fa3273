/- Code: soundness of the abstract machine. -/
import Derived.Test.YtdboiflfehpjhaaBmL
import Derived.RangeFuncLeaves
set_option linter.unusedVariables false
set_option linter.unusedSimpArgs false
namespace Bm
open Go
section
variable {P : Program} {T : TypeId → TI}
variable {ro : Option Nat} {n : Nat}

/-- From one world to a later one; of the places the first n0 stay. -/
structure Ex0 (n0 : Nat) (H : List AO) (ρ : Rho) (w : World) (H' : List AO) (ρ' : Rho) (w' : World) : Prop where
  pre : ρ.take n0 <+: ρ'
  len : n0 ≤ ρ'.length
  size : w.heap.size ≤ w'.heap.size
  os : w'.os = w.os
  tape : w'.tape = w.tape
  output : w'.output = w.output
  frame : ∀ b, b < w.heap.size → ¬ Owned H ρ b → w'.heap[b]? = w.heap[b]?
  back : ∀ b, b < w.heap.size → Owned H' ρ' b → Owned H ρ b

theorem take_pre {n0 : Nat} {ρ ρ' : Rho} (h : ρ.take n0 <+: ρ') (hl : n0 ≤ ρ.length) : ρ'.take n0 = ρ.take n0 := by
  obtain ⟨r, rfl⟩ := h
  have hl2 : (ρ.take n0).length = n0 := by rw [List.length_take]; omega
  rw [List.take_append_of_le_length (by omega), List.take_of_length_le (by omega)]
theorem least_of {p : Nat → Prop} (h : ∃ k, p k) : ∃ m, p m ∧ ∀ k, p k → m ≤ k := by
  obtain ⟨k, hk⟩ := h
  induction k using Nat.strongRecOn with
  | _ k ih =>
    by_cases hx : ∃ j, j < k ∧ p j
    · obtain ⟨j, hj, hp⟩ := hx; exact ih j hj hp
    · exact ⟨k, hk, fun j hj => Nat.le_of_not_lt fun h => hx ⟨j, h, hj⟩⟩
theorem Ex0.refl {n0 : Nat} {H : List AO} {ρ : Rho} {w : World} (hl : n0 ≤ ρ.length) : Ex0 n0 H ρ w H ρ w :=
  ⟨List.take_prefix _ _, hl, Nat.le_refl _, rfl, rfl, rfl, fun _ _ _ => rfl, fun _ _ h => h⟩
theorem Ex0.trans {n0 : Nat} {H H1 H2 : List AO} {ρ ρ1 ρ2 : Rho} {w w1 w2 : World} (hl : n0 ≤ ρ.length) (h : Ex0 n0 H ρ w H1 ρ1 w1) (k : Ex0 n0 H1 ρ1 w1 H2 ρ2 w2) : Ex0 n0 H ρ w H2 ρ2 w2 :=
  ⟨by have := k.pre; rw [take_pre h.pre hl] at this; exact this, k.len, Nat.le_trans h.size k.size, k.os.trans h.os, k.tape.trans h.tape, k.output.trans h.output,
   fun b hb hn => (k.frame b (Nat.lt_of_lt_of_le hb h.size) (fun ho => hn (h.back b hb ho))).trans (h.frame b hb hn),
   fun b hb ho => h.back b hb (k.back b (Nat.lt_of_lt_of_le hb h.size) ho)⟩
theorem Ext.ex0 {n0 : Nat} {H H' : List AO} {ρ ρ' : Rho} {w w' : World} (hl : n0 ≤ ρ.length) (h : Ext H ρ w H' ρ' w') : Ex0 n0 H ρ w H' ρ' w' :=
  ⟨(List.take_prefix _ _).trans h.pre, Nat.le_trans hl h.pre.length_le, h.size, h.os, h.tape, h.output, h.frame, h.back⟩
theorem Ex0.ext {H H' : List AO} {ρ ρ' : Rho} {w w' : World} (hl : ρ.length = H.length) (h : Ex0 H.length H ρ w H' ρ' w') : Ext H ρ w H' ρ' w' :=
  ⟨by have := h.pre; rw [List.take_of_length_le (by omega)] at this; exact this, h.size, h.os, h.tape, h.output, h.frame, h.back⟩

def mark (D : Nat) : Deferred := { target := .collected D, args := #[] }
/-- The deferred calls: the marks of ranges over functions ahead of those that were there. -/
def Dfr (H : List AO) (ρ : Rho) (w : World) (s : Nat) (base ds : List Deferred) : Prop :=
  ∃ Ds : List Nat, ds = Ds.map mark ++ base ∧ Ds.Nodup ∧ ∀ D ∈ Ds, s ≤ D ∧ D < w.heap.size ∧ w.heap[D]? = some (.deferred (some [])) ∧ ¬ Owned H ρ D
theorem Dfr.of_eq {H : List AO} {ρ : Rho} {w : World} {s : Nat} {base ds : List Deferred} (h : ds = base) : Dfr H ρ w s base ds := ⟨[], by simp [h], List.nodup_nil, fun D h => by cases h⟩
theorem Dfr.trans {n0 s : Nat} {H1 H2 : List AO} {ρ1 ρ2 : Rho} {w1 w2 : World} {base d1 d2 : List Deferred} (h : Dfr H1 ρ1 w1 s base d1) (hx : Ex0 n0 H1 ρ1 w1 H2 ρ2 w2) (hs : s ≤ w1.heap.size) (k : Dfr H2 ρ2 w2 w1.heap.size d1 d2) : Dfr H2 ρ2 w2 s base d2 := by
  obtain ⟨D1, rfl, n1, f1⟩ := h
  obtain ⟨D2, rfl, n2, f2⟩ := k
  refine ⟨D2 ++ D1, by simp, ?_, fun D hD => ?_⟩
  · rw [List.nodup_append]
    exact ⟨n2, n1, fun x hx y hy e => by subst e; have := (f2 x hx).1; have := (f1 x hy).2.1; omega⟩
  · rcases List.mem_append.1 hD with hD | hD
    · obtain ⟨a, b, c, d⟩ := f2 D hD; exact ⟨by omega, b, c, d⟩
    · obtain ⟨a, b, c, d⟩ := f1 D hD
      exact ⟨a, Nat.lt_of_lt_of_le b hx.size, by rw [hx.frame D b d]; exact c, fun ho => d (hx.back D b ho)⟩
theorem Dfr.wk {H1 H2 : List AO} {ρ1 ρ2 : Rho} {w : World} {s : Nat} {base ds : List Deferred} (h : Dfr H1 ρ1 w s base ds) (hb : ∀ b, Owned H2 ρ2 b → Owned H1 ρ1 b) : Dfr H2 ρ2 w s base ds := by
  obtain ⟨D1, e, n1, f1⟩ := h
  exact ⟨D1, e, n1, fun D hD => by obtain ⟨a, b, c, d⟩ := f1 D hD; exact ⟨a, b, c, fun ho => d (hb D ho)⟩⟩

def exitOf : Ex → Exit
  | .normal => .normal
  | .ret => .ret
  | .exit i => .exit i

def NQ (n0 : Nat) (H : List AO) (ρ : Rho) (w : World) (a : Act) (K : Ex → List AV → List AO → Prop) (Q : Exit → Act → World → Prop) : Prop :=
  ∀ (e : Ex) (t' : List AV) (H' : List AO) (ρ' : Rho) (a' : Act) (w' : World), K e t' H' → Tm ρ' t' a' → Dfr H' ρ' w' w.heap.size a.defers a'.defers → Ex0 n0 H ρ w H' ρ' w' → Holds H' ρ' w' → Q (exitOf e) a' w'

/-- Holds does not see what else is in the world. -/
theorem Holds.heap {H : List AO} {ρ : Rho} {w w' : World} (hh : Holds H ρ w) (he : w'.heap = w.heap) : Holds H ρ w' :=
  hh.same (by rw [he]; exact Nat.le_refl _) (fun b _ => by rw [he])

/-- The range over a function: it is entered. -/
theorem enterLoop_run (f : FuncId) (tmps : Array Value) (ps : Array Tmp) (assign body : Code) (w : World) :
    (Instr.enterLoop f tmps ps assign body none).run P w = .ok (w.heap.size + 1, [mark w.heap.size])
      { w with heap := (w.heap.push (.deferred (some []))).push (.loop { state := .ready, pending := none, fn := f, tmps := tmps, params := ps, assign := assign, body := body, defers := w.heap.size }) } := by
  simp [Instr.enterLoop, newObj, Sem.run, mark]
  rfl
theorem endLoop_run {r : Loop} {b : Nat} {w : World} (h : w.heap[b]? = some (.loop r)) (hs : r.state ≠ .busy) :
    (Instr.endLoop b).run P w = .ok r.pending { w with heap := w.heap.setIfInBounds b (.loop { r with state := .exhausted }) } := by
  have hlt := (Array.getElem?_eq_some_iff.1 h).1
  have : (r.state == LoopState.busy) = false := by cases hq : r.state <;> simp_all
  simp [Instr.endLoop, Instr.getLoop, getObj, Sem.run, h, setObj, this]
  intro hq
  exact absurd hq hs

theorem wpA_sound (hT : TyOk P T) (hm : P.follows .mixedOrders = true) {hs : List (Nat × DT)} {n0 : Nat} : ∀ (c : Code) (t : List AV) (H : List AO) (K : Ex → List AV → List AO → Prop), okHints hs c = true → (ro = none ∨ noRF c = true) → wpA (realE P) T hs n0 c t H K →
    ∀ (ρ : Rho) (w : World) (a : Act) (Q : Exit → Act → World → Prop), Holds H ρ w → Tm ρ t a → n0 ≤ ρ.length → NQ n0 H ρ w a K Q → c.wpIn (FW ro) n P Q a w := by
  intro c
  induction c with
  | skip => intro t H K _ _ h ρ w a Q hh ht hl hN; exact wpIn_skip (hN .normal t H ρ a w h ht (.of_eq rfl) (Ex0.refl hl) hh)
  | exit id => intro t H K _ _ h ρ w a Q hh ht hl hN; exact wpIn_exit (hN (.exit id) t H ρ a w h ht (.of_eq rfl) (Ex0.refl hl) hh)
  | ret => intro t H K _ _ h ρ w a Q hh ht hl hN; exact wpIn_ret (hN .ret t H ρ a w h ht (.of_eq rfl) (Ex0.refl hl) hh)
  | region id ops draws =>
    intro t H K hok _ h ρ w a Q hh ht hl hN
    cases draws with
    | false =>
      refine wpIn_region ?_
      have := opsA_sound (ro := ro) (n := n) (P := P) (Q := Q) hT (ops := ops) ops.toList [] ρ w H t a (K .normal) (by simp) hh ht (fun t' H' ρ' a' w' g1 g2 g3 g4 g5 => hN .normal t' H' ρ' a' w' g1 g2 (.of_eq g3) (g4.ex0 hl) g5) h
      simpa using this
    | true =>
      simp only [okHints, okDraw, Bool.and_eq_true] at hok
      have h0 := drawA_sound (ro := ro) (n := n) (Q := fun e a w => match e with | .normal => Q .normal a w | _ => False) hT hok.1 (fun c a w h => h) (hintOf id hs) ops.size _ [] t H hok.2 h
      have hh' : Holds H ρ { w with drawn := w.drawn + 1 } := hh.heap rfl
      have hx : Ex0 n0 H ρ w H ρ { w with drawn := w.drawn + 1 } := ⟨List.take_prefix _ _, hl, Nat.le_refl _, rfl, rfl, rfl, fun _ _ _ => rfl, fun _ _ h => h⟩
      have h1 := h0 ρ { w with drawn := w.drawn + 1 } a hh' ht (fun x hx => by cases hx) (fun t' H' ρ' a' w' g1 g2 g3 g4 g5 => hN .normal t' H' ρ' a' w' g1 g2 (.of_eq g3) (hx.trans hl (g4.ex0 hl)) g5)
      refine wpIn_mono (wpIn_region_any hm (wpAnyS_any _ _ _ _ h1)) ?_
      intro e a w h
      cases e <;> first | exact h | exact h.elim
  | seq x y ihx ihy =>
    intro t H K hok hrf h ρ w a Q hh ht hl hN
    simp only [okHints, Bool.and_eq_true] at hok
    have r1 : ro = none ∨ noRF x = true := hrf.imp id fun h => by simp only [noRF, Bool.and_eq_true] at h; exact h.1
    have r2 : ro = none ∨ noRF y = true := hrf.imp id fun h => by simp only [noRF, Bool.and_eq_true] at h; exact h.2
    refine wpIn_seq (ihx t H _ hok.1 r1 h ρ w a _ hh ht hl ?_)
    intro e t' H' ρ' a' w' hK ht' hd hx hh'
    cases e with
    | normal =>
      exact ihy t' H' K hok.2 r2 hK ρ' w' a' Q hh' ht' hx.len (fun e2 t2 H2 ρ2 a2 w2 g1 g2 g3 g4 g5 => hN e2 t2 H2 ρ2 a2 w2 g1 g2 (hd.trans g4 hx.size g3) (hx.trans hl g4) g5)
    | ret => exact hN .ret t' H' ρ' a' w' hK ht' hd hx hh'
    | exit i => exact hN (.exit i) t' H' ρ' a' w' hK ht' hd hx hh'
  | cond c x y ihx ihy =>
    intro t H K hok hrf h ρ w a Q hh ht hl hN
    simp only [okHints, Bool.and_eq_true] at hok
    have r1 : ro = none ∨ noRF x = true := hrf.imp id fun h => by simp only [noRF, Bool.and_eq_true] at h; exact h.1
    have r2 : ro = none ∨ noRF y = true := hrf.imp id fun h => by simp only [noRF, Bool.and_eq_true] at h; exact h.2
    have hc := ht.eval c
    simp only [wpA] at h
    split at h
    · rename_i b hb
      rw [hb] at hc
      exact wpIn_cond_split (R_bool hc) (fun e => ihx t H K hok.1 r1 (br_true h e) ρ w a Q hh ht hl hN) (fun e => ihy t H K hok.2 r2 (br_false h e) ρ w a Q hh ht hl hN)
    · exact h.elim
  | block id c ih =>
    intro t H K hok hrf h ρ w a Q hh ht hl hN
    refine wpIn_block (ih t H _ hok hrf h ρ w a _ hh ht hl ?_)
    intro e t' H' ρ' a' w' hK ht' hd hx hh'
    cases e with
    | normal => exact hN .normal t' H' ρ' a' w' hK ht' hd hx hh'
    | ret => exact hN .ret t' H' ρ' a' w' hK ht' hd hx hh'
    | exit j =>
      simp only at hK
      simp only [exitOf, Exit.inBlock]
      split at hK
      · rename_i hj
        rw [if_pos (Nat_beq hj)]
        exact hN .normal t' H' ρ' a' w' hK ht' hd hx hh'
      · rename_i hj
        rw [if_neg (fun e => by subst e; simp at hj)]
        exact hN (.exit j) t' H' ρ' a' w' hK ht' hd hx hh'
  | loop c ih =>
    intro t H K hok hrf h ρ w a Q hh ht hl hN
    obtain ⟨I, k0, ⟨t0, H0, hwk, hI0⟩, hround⟩ := h.ex
    let Inv : Nat → Act → World → Prop := fun k a' w' => ∃ t' H' ρ', I k t' H' ∧ Holds H' ρ' w' ∧ Tm ρ' t' a' ∧ Dfr H' ρ' w' w.heap.size a.defers a'.defers ∧ Ex0 n0 H ρ w H' ρ' w'
    have weak : ∀ (k : Nat) (t1 t2 : List AV) (H1 H2 : List AO) (ρ1 : Rho) (a1 : Act) (w1 : World), Wk n0 t1 H1 t2 H2 → I k t2 H2 → Holds H1 ρ1 w1 → Tm ρ1 t1 a1 → Dfr H1 ρ1 w1 w.heap.size a.defers a1.defers → Ex0 n0 H ρ w H1 ρ1 w1 → Inv k a1 w1 := by
      intro k t1 t2 H1 H2 ρ1 a1 w1 hw hI g1 g2 g3 g4
      obtain ⟨ρ2, r1, r2, r3, r4, r5⟩ := hw ρ1 w1 a1.tmps.toList g1 g2 g4.len
      exact ⟨t2, H2, ρ2, hI, r1, r2, g3.wk r5, g4.trans hl ⟨r3, r4, Nat.le_refl _, rfl, rfl, rfl, fun _ _ _ => rfl, fun b _ ho => r5 b ho⟩⟩
    have hInv0 : Inv k0 a w := weak k0 t t0 H H0 ρ a w hwk hI0 hh ht (.of_eq rfl) (Ex0.refl hl)
    classical
    let μ : Act → World → Nat := fun a' w' => if hx : ∃ k, Inv k a' w' then Classical.choose (least_of hx) else 0
    have spec : ∀ a' w', (∃ k, Inv k a' w') → Inv (μ a' w') a' w' := by
      intro a' w' hx
      simp only [μ, dif_pos hx]
      exact (Classical.choose_spec (least_of hx)).1
    have least : ∀ a' w' k, Inv k a' w' → μ a' w' ≤ k := by
      intro a' w' k hk
      have hx : ∃ k, Inv k a' w' := ⟨k, hk⟩
      simp only [μ, dif_pos hx]
      exact (Classical.choose_spec (least_of hx)).2 k hk
    refine wpIn_loop (fun a' w' => ∃ k, Inv k a' w') μ ⟨k0, hInv0⟩ fun a1 w1 hI1 => ?_
    obtain ⟨t1, H1, ρ1, hI, g1, g2, g3, g4⟩ := spec a1 w1 hI1
    refine ih t1 H1 _ hok hrf (hround _ t1 H1 hI) ρ1 w1 a1 _ g1 g2 g4.len ?_
    intro e t2 H2 ρ2 a2 w2 hK ht2 hd hx hh2
    have hd2 := g3.trans hx g4.size hd
    cases e with
    | normal =>
      obtain ⟨k', hlt, t3, H3, hwk, hI3⟩ := hK
      have := weak k' t2 t3 H2 H3 ρ2 a2 w2 hwk hI3 hh2 ht2 hd2 (g4.trans hl hx)
      exact ⟨⟨k', this⟩, Nat.lt_of_le_of_lt (least a2 w2 k' this) hlt⟩
    | ret => exact hN .ret t2 H2 ρ2 a2 w2 hK ht2 hd2 (g4.trans hl hx) hh2
    | exit i => exact hN (.exit i) t2 H2 ρ2 a2 w2 hK ht2 hd2 (g4.trans hl hx) hh2
  | rangeFunc g ps assign body ih1 ih2 =>
    intro t H K hok hrf h ρ w a Q hh ht hl hN
    have hro : ro = none := hrf.resolve_right (by simp [noRF])
    subst hro
    have hg := ht.eval g
    simp only [wpA] at h
    split at h
    · rename_i f caps hgv
      rw [hgv] at hg
      obtain ⟨cs, hcs, eg⟩ := hg
      obtain ⟨R, ⟨⟨fn, hfn, hname, hbody⟩, hcall⟩, hR⟩ := h
      refine wpIn_rangeFunc fun fid _ => ?_
      let rec0 : Loop := { state := .ready, pending := none, fn := fid, tmps := a.tmps, params := ps, assign := assign, body := body, defers := w.heap.size }
      let w1 : World := { w with heap := (w.heap.push (.deferred (some []))).push (.loop rec0) }
      let ρ1 : Rho := ρ ++ [{ b := w.heap.size + 1 }]
      let H1 : List AO := H ++ [.lrec .ready t ps.toList assign body]
      have hw1 : ∀ b, b < w.heap.size → w1.heap[b]? = w.heap[b]? := by
        intro b hb
        simp only [w1]
        rw [Array.getElem?_push, if_neg (by simp; omega), Array.getElem?_push, if_neg (by omega)]
      have hD1 : w1.heap[w.heap.size]? = some (.deferred (some [])) := by
        simp only [w1]
        rw [Array.getElem?_push, if_neg (by simp), Array.getElem?_push, if_pos rfl]
      have hl1 : w1.heap[w.heap.size + 1]? = some (.loop rec0) := by
        simp only [w1]
        rw [Array.getElem?_push, if_pos (by simp)]
      have hsz1 : w1.heap.size = w.heap.size + 2 := by simp [w1]
      have hlt : ∀ b, Owned H ρ b → b < w.heap.size := fun b ⟨i, o, p, h1, h2, h3⟩ => (hh.rep i o p h1 h2).own_lt h3
      have hh1 : Holds H1 ρ1 w1 := hh.push2 (p := { b := w.heap.size + 1 }) (by omega) (fun b ho => hw1 b (hlt b ho)) (fun b hb ho => by have := hlt b ho; have hb' : b = w.heap.size + 1 := hb; omega)
        ⟨rec0, hl1, ⟨rfl, rfl⟩, ht.mono (fun _ _ => AV.R.ext (List.prefix_append _ _)), rfl, rfl, rfl⟩ (fun _ _ h => by cases h)
      have own1 : ∀ b, Owned H1 ρ1 b → Owned H ρ b ∨ b = w.heap.size + 1 := fun b ho => Owned.push hh.len ho
      have hx1 : Ex0 n0 H ρ w H1 ρ1 w1 := ⟨(List.take_prefix _ _).trans (List.prefix_append _ _), by simp [ρ1]; omega, by omega, rfl, rfl, rfl, fun b hb _ => hw1 b hb, fun b hb ho => (own1 b ho).resolve_right (by omega)⟩
      have hnD : ¬ Owned H1 ρ1 w.heap.size := fun ho => by
        rcases own1 _ ho with h | h
        · have := hlt _ h; omega
        · omega
      have hargs : All2 (AV.R ρ1) (sv (.yld H.length) :: caps.map fun i => sv (.ptr i 0)) (.func (.yield (w.heap.size + 1)) #[] #[] :: cs) :=
        ⟨⟨_, pushed hh.len, rfl⟩, All2.map_left.2 (hcs.mono fun i u ⟨p, hp, e⟩ => AV.R.ext (x := sv (.ptr i 0)) (List.prefix_append _ _) ⟨p, hp, by rw [e]; rfl⟩)⟩
      have hb : ¬ fn.body = none := by intro hq; rw [hq] at hbody; cases hbody
      have hn' : ¬ fn.name = "runtime.NumGoroutine" := by simpa using hname
      refine ⟨w.heap.size + 1, [mark w.heap.size], w1, { target := .fn (.func f) cs.toArray, args := #[.func (.yield (w.heap.size + 1)) #[] #[]] }, w1, f, (Value.func (.yield (w.heap.size + 1)) #[] #[] :: cs).toArray, w1, enterLoop_run _ _ _ _ _ _, ?_, fun _ _ => trivial, ?_, fun hd => by simp [FW] at hd, ?_⟩
      · have e1 : (a.eval (.const (.func (.yield (w.heap.size + 1)) #[] #[]))) = .func (.yield (w.heap.size + 1)) #[] #[] := rfl
        simp [resolve, rangeCall, eg, Deferred.ofValue, e1]
      · simp [invoke, callFunc, hfn, hn', hb]
      · refine callsIn_FW.2 (Calls.mono (hcall ρ1 w1 _ hh1 hargs) ?_)
        rintro e w3 ⟨r, rc, H', ρ', rfl, hr, hrc, hext, hh3⟩
        have hK := hR r H' hr
        simp only at hK
        have hxx := hx1.trans hl (hext.ex0 hx1.len)
        have hp3 : ρ'[H.length]? = some { b := w.heap.size + 1 } := by
          obtain ⟨s, hs⟩ := hext.pre
          rw [← hs, List.getElem?_append_left (by simp [ρ1, hh.len])]
          exact pushed hh.len
        have hle1 : w.heap.size < w1.heap.size := by omega
        have hD3 : w3.heap[w.heap.size]? = some (.deferred (some [])) := by rw [hext.frame _ hle1 hnD]; exact hD1
        have hnD3 : ¬ Owned H' ρ' w.heap.size := fun ho => hnD (hext.back _ hle1 ho)
        have tail : ∀ (st : RSt) (t1 : List AV) (p1 : List Nat) (a1 b1 : Code) (j : Option Code), H'[H.length]? = some (.lrec st t1 p1 a1 b1) → (∀ (s : LoopState) (q : Option Code), st.R s q → s ≠ .busy ∧ q = j) →
            (∀ (a' : Act) (w4 : World), Tm ρ' t a' → Dfr (H'.set H.length .gone) ρ' w4 w.heap.size a.defers a'.defers → Ex0 n0 H ρ w (H'.set H.length .gone) ρ' w4 → Holds (H'.set H.length .gone) ρ' w4 → (match j with | none => Q .normal a' w4 | some c => c.wpIn (FW none) n P Q a' w4)) →
            rangePost (FW none) n P (w.heap.size + 1) Q { a with defers := [mark w.heap.size] ++ a.defers } (.returned rc) w3 := by
          intro st t1 p1 a1 b1 j hi hst hgo
          obtain ⟨r0, q1, q2, q3, q4⟩ := hh3.rep _ _ _ hi hp3
          obtain ⟨q5, q6⟩ := hst _ _ q2
          have q1' : w3.heap[w.heap.size + 1]? = some (.loop r0) := q1
          obtain ⟨g1, g2⟩ := hh3.turn (o' := .gone) (w' := { w3 with heap := w3.heap.setIfInBounds (w.heap.size + 1) (.loop { r0 with state := .exhausted }) }) hi hp3 rfl (fun b h => h.elim) (by simp)
            (fun b hb' => by simp [Array.getElem?_setIfInBounds, Ne.symm hb']) rfl rfl rfl trivial (fun m todo h => by cases h) (fun ⟨l, h⟩ => by cases h)
          refine ⟨j, _, by rw [← q6]; exact endLoop_run q1' q5, ?_⟩
          refine hgo _ _ (ht.mono (fun _ _ => AV.R.ext ((List.prefix_append _ _).trans hext.pre))) ⟨[w.heap.size], rfl, by simp, fun D hD => ?_⟩ (hxx.trans hl (g2.ex0 hxx.len)) g1
          simp at hD
          subst hD
          refine ⟨Nat.le_refl _, ?_, ?_, fun ho => hnD3 (g2.back _ ?_ ho)⟩
          · have := hext.size; simp; omega
          · simp [Array.getElem?_setIfInBounds, hD3]
          · have := hext.size; omega
        split at hK
        · rename_i t1 p1 a1 b1 hi
          exact tail .ready t1 p1 a1 b1 none hi (fun s q ⟨e1, e2⟩ => ⟨by rw [e1]; simp, e2⟩) fun a' w4 k1 k2 k3 k4 => hN .normal t _ ρ' a' w4 hK k1 k2 k3 k4
        · rename_i e1 t1 p1 a1 b1 hi
          cases e1 with
          | normal => obtain ⟨r0, _, q2, _⟩ := hh3.rep _ _ _ hi hp3; exact q2.elim
          | ret => exact tail (.done .ret) t1 p1 a1 b1 (some .ret) hi (fun s q ⟨e1, e2⟩ => ⟨by rw [e1]; simp, e2⟩) fun a' w4 k1 k2 k3 k4 => wpIn_ret (hN .ret t _ ρ' a' w4 hK k1 k2 k3 k4)
          | exit i => exact tail (.done (.exit i)) t1 p1 a1 b1 (some (.exit i)) hi (fun s q ⟨e1, e2⟩ => ⟨by rw [e1]; simp, e2⟩) fun a' w4 k1 k2 k3 k4 => wpIn_exit (hN (.exit i) t _ ρ' a' w4 hK k1 k2 k3 k4)
        · exact hK.elim
    · exact h.elim
  | _ => intro t H K _ _ h; exact h.elim
end
end Bm
