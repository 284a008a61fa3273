/- The abstract machine's operations that turn nothing: soundness. -/
import Derived.Test.YtdboiflfehpjhaaBmC
set_option linter.unusedVariables false
set_option linter.unusedSimpArgs false
namespace Bm
open Go
section
variable {P : Program} {T : TypeId → TI} {ρ : Rho} {w : World} {H : List AO}

theorem svOfVal_R (ρ : Rho) : ∀ (v : Value), v.oneCell' = true → (svOfVal v).R ρ v := by
  intro v hv
  unfold svOfVal
  split <;> simp_all [SV.R, Value.oneCell']
theorem avOfVal_R (ρ : Rho) (v : Value) : (avOfVal v).R ρ v := by
  have base : v.oneCell' = true → (svOfVal v).R ρ v := svOfVal_R ρ v
  cases v with
  | agg cs =>
    simp only [avOfVal]
    split
    · rename_i hall
      rw [List.all_eq_true] at hall
      refine ⟨cs.toList, All2.map_left.2 (All2.of_get rfl fun i x y hx hy => ?_), by simp⟩
      rw [hx] at hy; cases hy
      exact svOfVal_R ρ x (hall x (List.mem_of_getElem? hx))
    · trivial
  | tuple cs =>
    simp only [avOfVal]
    split
    · rename_i hc; exact ⟨[], trivial, by rw [← hc]⟩
    · trivial
  | _ => exact base rfl
def Tm (ρ : Rho) (t : List AV) (a : Act) : Prop := All2 (AV.R ρ) t a.tmps.toList
theorem undefA_R (ρ : Rho) : undefA.R ρ undef := ⟨[], trivial, rfl⟩
theorem Tm.getD {t : List AV} {a : Act} (h : Tm ρ t a) (i : Nat) : (t.getD i undefA).R ρ (a.tmps.getD i undef) := by
  by_cases hi : i < t.length
  · obtain ⟨v, hv, hr⟩ := All2.get h (List.getElem?_eq_getElem hi)
    rw [List.getD_eq_getElem?_getD, List.getElem?_eq_getElem hi, Array.getD_eq_getD_getElem?, ← Array.getElem?_toList, hv]
    exact hr
  · have hl := All2.length h
    rw [List.getD_eq_getElem?_getD, List.getElem?_eq_none (by omega), Array.getD_eq_getD_getElem?, Array.getElem?_eq_none (by simp at hl; omega)]
    exact undefA_R ρ
theorem Tm.eval {t : List AV} {a : Act} (h : Tm ρ t a) (x : Operand) : (evA t x).R ρ (a.eval x) := by
  cases x with
  | tmp i => exact h.getD i
  | const v => exact avOfVal_R ρ v
  | global g => trivial
  | func f => exact ⟨[], trivial, rfl⟩
theorem Tm.put {t : List AV} {a : Act} (h : Tm ρ t a) (d : Option Nat) {v : AV} {vc : Value} (hv : v.R ρ vc) : Tm ρ (putA t d v) (a.put d vc) := by
  cases d with
  | none => exact h
  | some d => simp only [putA, Act.put, Tm, Array.toList_setIfInBounds]; exact All2.set h d hv

theorem br_true {b : Bool} {A B : Unit → Prop} (h : br b A B) (hb : b = true) : A () := by subst hb; exact h
theorem br_false {b : Bool} {A B : Unit → Prop} (h : br b A B) (hb : b = false) : B () := by subst hb; exact h
theorem br_mk {b : Bool} {A B : Unit → Prop} (h : b = true → A ()) (k : b = false → B ()) : br b A B := by
  cases b
  · exact k rfl
  · exact h rfl

theorem Nat_beq {a b : Nat} (h : Nat.beq a b = true) : a = b := Nat.eq_of_beq_eq_true h

theorem subL_map {α β : Type} (f : α → β) : ∀ (l : List α) (i n : Nat), subL (l.map f) i n = (subL l i n).map (List.map f)
  | l, i, 0 => by cases l <;> cases i <;> simp [subL]
  | [], i, n + 1 => by cases i <;> simp [subL]
  | x :: l, 0, n + 1 => by
    simp only [List.map_cons, subL, subL_map f l 0 n]
    cases subL l 0 n <;> rfl
  | x :: l, i + 1, n + 1 => by simp only [List.map_cons, subL, subL_map f l i (n + 1)]
theorem loadV_svs {agg : Bool} {sz : Nat} {c : VC} {off : Nat} {K : AV → Prop} : loadV (realE P) agg sz c off K →
    match agg with
      | true => ∃ cs, subL c.svs off sz = some cs ∧ K (.c (.agg cs))
      | false => ∃ x, c.svs[off]? = some x ∧ K (sv x) := by
  intro h
  cases c with
  | pv l =>
    cases agg with
    | true => obtain ⟨cs, h1, h2⟩ := h; exact ⟨_, by simp [VC.svs, subL_map, h1], h2⟩
    | false => obtain ⟨x, h1, h2⟩ := h; exact ⟨_, by simp [VC.svs, h1], h2⟩
  | fp j l =>
    cases agg with
    | true => exact h.elim
    | false => obtain ⟨x, h1, h2⟩ := h; exact ⟨_, by simp [VC.svs, h1], h2⟩
  | any l =>
    cases agg with
    | true => exact h
    | false => exact h
theorem PV.R_val {ρ : Rho} {x : PV} (h : x.ok = true) : x.sv.R ρ x.val := by
  cases x with
  | int k n => rfl
  | bool b => rfl
  | raw v => exact ⟨rfl, h⟩
theorem PVs_R {ρ : Rho} : ∀ {l : List PV}, (∀ x ∈ l, x.ok = true) → All2 (SV.R ρ) (l.map PV.sv) (l.map PV.val)
  | [], _ => trivial
  | x :: l, h => ⟨PV.R_val (h x List.mem_cons_self), PVs_R fun y hy => h y (List.mem_cons_of_mem _ hy)⟩
/-- Out of a box. -/
theorem loadF_spec (hT : TyOk P T) (hh : Holds H ρ w) {t : TypeId} (hk : (T t).known = true) {i k off : Nat} {p : Pl} {b : Nat} (hp : ρ[i]? = some p) (hb : p.bs[k]? = some b) {K : AV → Prop} (h : loadF (realE P) T t H i k off K) :
    ∃ v vc, K v ∧ v.R ρ vc ∧ (loadVar t ⟨b, off, none⟩).run P w = .ok vc w := by
  unfold loadF at h
  split at h
  · rename_i rows te ho
    obtain ⟨row, hr, h⟩ := h
    obtain ⟨_, _, hrep⟩ := hh.rep i _ p ho hp
    obtain ⟨hc, hok⟩ := hrep k b row hb hr
    split at h
    · rename_i cs hs
      obtain ⟨es, he, hR⟩ := All2.subL (PVs_R (ρ := ρ) hok) hs
      obtain ⟨hl, hg⟩ := subL_spec he
      obtain ⟨vc, h2, h3⟩ := run_loadVar_cells (P := P) (w := w) hT hk (b := b) (o := off) hR (subL_spec hs).1 (fun j v hj => by
        have hjl : j < (T t).sz := by rw [← hl]; exact (List.getElem?_eq_some_iff.1 hj).1
        rw [hg j hjl] at hj
        simpa [World.cell?, hc] using hj) (fun ha => by rw [(subL_spec hs).1]; exact (hT t hk).one ha)
      exact ⟨_, vc, h, h3, h2⟩
    · exact h.elim
  · exact h.elim
theorem loadA_spec (hT : TyOk P T) (hh : Holds H ρ w) {t : TypeId} (hk : (T t).known = true) {i off : Nat} {p : Pl} (hp : ρ[i]? = some p) {K : AV → Prop} (h : loadA (realE P) T t H i off K) :
    ∃ v vc, K v ∧ v.R ρ vc ∧ (loadVar t ⟨p.b, p.off + off, none⟩).run P w = .ok vc w := by
  have key : ∀ (o : AO) (l cs : List SV), H[i]? = some o → o.view = some l → subL l off (T t).sz = some cs → ((T t).agg = false → cs.length = 1) → K (ofCells (T t).agg cs) →
      ∃ v vc, K v ∧ v.R ρ vc ∧ (loadVar t ⟨p.b, p.off + off, none⟩).run P w = .ok vc w := by
    intro o l cs ho hv hs h1 hK
    obtain ⟨ds, hd, hc⟩ := (hh.rep i o p ho hp).view hv
    obtain ⟨es, he, hr⟩ := All2.subL hd hs
    obtain ⟨hl, hg⟩ := subL_spec he
    obtain ⟨vc, h2, h3⟩ := run_loadVar_cells (P := P) hT hk (b := p.b) (o := p.off + off) hr (subL_spec hs).1 (fun j v hj => by
      have hjl : j < (T t).sz := by rw [← hl]; exact (List.getElem?_eq_some_iff.1 hj).1
      rw [hg j hjl] at hj
      rw [Nat.add_assoc]
      exact hc _ _ hj) h1
    exact ⟨_, vc, hK, h3, h2⟩
  have get1 : ∀ (l : List SV) (o : Nat) (x : SV), l[o]? = some x → subL l o 1 = some [x] := by
    intro l
    induction l with
    | nil => intro o x h; simp at h
    | cons y l ih =>
      intro o x h
      cases o with
      | zero => simp at h; subst h; simp [subL]
      | succ o => simp only [subL]; exact ih o x (by simpa using h)
  have one : ∀ cs : List SV, cs.length = (T t).sz → (T t).agg = false → cs.length = 1 := fun cs h ha => by rw [h]; exact (hT t hk).one ha
  have vecro : ∀ (o : AO) (l : List SV), H[i]? = some o → o.view = some l →
      (match (T t).agg with
        | true => ∃ cs, subL l off (T t).sz = some cs ∧ K (.c (.agg cs))
        | false => ∃ x, l[off]? = some x ∧ K (sv x)) →
      ∃ v vc, K v ∧ v.R ρ vc ∧ (loadVar t ⟨p.b, p.off + off, none⟩).run P w = .ok vc w := by
    intro o l ho hv h
    cases ha : (T t).agg with
    | true =>
      rw [ha] at h
      obtain ⟨cs, hs, h⟩ := h
      exact key o l cs ho hv hs (fun h0 => by rw [ha] at h0; cases h0) (by rw [ha]; exact h)
    | false =>
      rw [ha] at h
      obtain ⟨x, hx, h⟩ := h
      exact key o l [x] ho hv (by rw [(hT t hk).one ha]; exact get1 l off x hx) (fun _ => rfl) (by rw [ha]; exact h)
  unfold loadA at h
  split at h
  · rename_i l e ho
    split at h
    · rename_i cs hs
      exact key _ l cs ho rfl hs (one cs (subL_spec hs).1) h
    · exact h.elim
  · rename_i c e ne ho; exact vecro _ c.svs ho rfl (loadV_svs h)
  · rename_i l ho; exact vecro _ _ ho rfl (loadV_svs (c := .pv l) h)
  · exact h.elim
end
end Bm
