/- The abstract machine's operations that turn nothing: soundness, operation by operation. -/
import Derived.Test.YtdboiflfehpjhaaBmD
set_option linter.unusedVariables false
set_option linter.unusedSimpArgs false
namespace Bm
open Go
section
variable {P : Program} {T : TypeId → TI} {ρ : Rho} {w : World} {H : List AO}

theorem R_bool {ρ : Rho} {b : Bool} {v : Value} (h : (sv (.bool b)).R ρ v) : v = .bool b := h
theorem R_int {ρ : Rho} {k : IntKind} {n : Int} {v : Value} (h : (sv (.int k n)).R ρ v) : v = .int k n := h
theorem R_ptr {ρ : Rho} {i off : Nat} {v : Value} (h : (sv (.ptr i off)).R ρ v) : ∃ p, ρ[i]? = some p ∧ v = .pointer (some ⟨p.b, p.off + off, none⟩) := h

theorem offA_real (H : List AO) (i off d : Nat) : offA (realE P) H i off d = off + d := by
  unfold offA
  split
  · rfl
  · split
    · simp
    · rfl

theorem fieldAt_sound (hT : TyOk P T) {t : TypeId} {x : Value} {i off f d n : Nat} {g : Bool} {p : Pl} (hk : (T t).kind = .struct) (hf : (T t).fields[f]? = some (d, n, g))
    (b o : Nat) : (Instr.fieldAt t (.pointer (some ⟨b, o, none⟩)) f).run P w = .ok (.pointer (some ⟨b, o + d, none⟩)) w := by
  have hkn : (T t).known = true := by simp [TI.known, hk]
  obtain ⟨ds, h1, _, h3⟩ := (hT t hkn).desc
  rw [hk] at h3
  obtain ⟨fs, rfl, _, h4⟩ := h3
  obtain ⟨fl, h5, h6, h7, ⟨inf, h8, h9⟩, _⟩ := h4 f d n g hf
  have hlt := (Array.getElem?_eq_some_iff.1 h5).1
  simp [Instr.fieldAt, run_underlying h1, h5, Instr.sureAddr, fieldPlace, Go.sizeOf, typeInfo, h8, h9, h7, add_place, h6]

theorem part_sound {t' : TypeId} {n : Nat} {g : Bool} (h1 : ∃ inf, P.info? t' = some inf ∧ inf.size = n) (h2 : ∃ d', P.underlying t' = some d' ∧ isAggD d' = g)
    {as cs : List SV} {vs : List Value} {off : Nat} (hR : All2 (SV.R ρ) as vs) (hs : subL as off n = some cs) (h1' : g = false → n = 1) :
    ∃ vc, (part t' vs.toArray off).run P w = .ok vc w ∧ (ofCells g cs).R ρ vc := by
  obtain ⟨inf, hi, hn⟩ := h1
  obtain ⟨d', hu, hg⟩ := h2
  obtain ⟨ds, hd, hr⟩ := All2.subL hR hs
  obtain ⟨hl, hget⟩ := subL_spec hd
  have hagg : (Go.isAgg t').run P w = .ok g w := by
    rw [← hg]
    cases d' <;> simp [Go.isAgg, run_underlying hu, isAggD]
  cases g with
  | true =>
    refine ⟨.agg ds.toArray, ?_, ds, hr, rfl⟩
    have : (vs.toArray.extract off (off + n)) = ds.toArray := by
      apply Array.ext'
      apply List.ext_getElem?
      intro j
      by_cases hj : j < n
      · rw [hget j hj]
        have hlt : off + j < vs.length := by
          have := hget j hj
          rw [List.getElem?_eq_getElem (by omega)] at this
          exact (List.getElem?_eq_some_iff.1 this.symm).1
        simp [List.getElem?_take, List.getElem?_drop]
        omega
      · rw [List.getElem?_eq_none (by simp; omega), List.getElem?_eq_none (by simp; omega)]
    have this2 := congrArg Array.toList this
    simp at this2
    simp [part, hagg, Go.sizeOf, typeInfo, hi, hn, this2]
  | false =>
    have hn1 := h1' rfl
    subst hn1
    have hc := (subL_spec hs).1
    match cs, ds, hc, hr, hget with
    | [x], [v], _, hr, hget =>
      refine ⟨v, ?_, hr.1⟩
      have := hget 0 (by omega)
      simp at this
      simp [part, hagg, ← this]

theorem capIds_sound {ids : List Nat} : ∀ {as : List AV} {vs : List Value}, All2 (AV.R ρ) as vs → capIds as = some ids →
    All2 (fun i u => ∃ p, ρ[i]? = some p ∧ u = .pointer (some ⟨p.b, p.off, none⟩)) ids vs := by
  induction ids with
  | nil =>
    intro as vs h hc
    match as, vs, h with
    | [], [], _ => trivial
    | a :: as, v :: vs, h =>
      exfalso
      unfold capIds at hc
      split at hc <;> simp_all
  | cons j ids ih =>
    intro as vs h hc
    match as, vs, h with
    | [], [], _ => simp [capIds] at hc
    | a :: as, v :: vs, h =>
      unfold capIds at hc
      split at hc
      · simp_all
      · rename_i i r heq
        simp only [List.cons.injEq] at heq
        obtain ⟨rfl, rfl⟩ := heq
        simp only [Option.map_eq_some_iff] at hc
        obtain ⟨l, hl, he⟩ := hc
        simp only [List.cons.injEq] at he
        obtain ⟨rfl, rfl⟩ := he
        obtain ⟨p, hp, hv⟩ := h.1
        exact ⟨⟨p, hp, by simpa using hv⟩, ih h.2 hl⟩
      · simp at hc

theorem map_eval {t : List AV} {a : Act} (ht : Tm ρ t a) (l : List Operand) : All2 (AV.R ρ) (l.map (evA t)) (l.map a.eval) := by
  induction l with
  | nil => trivial
  | cons x l ih => exact ⟨ht.eval x, ih⟩

/-! ### Building -/
theorem putL_eq {α : Type} : ∀ (l : List α) (off : Nat) (vs : List α), (putL l off vs).length = l.length
  | l, _, [] => by cases l <;> simp [putL]
  | x :: l, 0, v :: vs => by simp [putL, putL_eq l 0 vs]
  | x :: l, i + 1, v :: vs => by simp [putL, putL_eq l i (v :: vs)]
  | [], _, _ :: _ => by simp [putL]
theorem All2.putL {α β : Type} {R : α → β → Prop} : ∀ {l : List α} {m : List β}, All2 R l m → ∀ (off : Nat) {vs : List α} {us : List β}, All2 R vs us → All2 R (Bm.putL l off vs) (Bm.putL m off us)
  | [], [], _, off, [], [], _ => by simp [Bm.putL, All2]
  | [], [], _, off, _ :: _, _ :: _, _ => by simp [Bm.putL, All2]
  | x :: l, y :: m, h, off, [], [], _ => by simpa [Bm.putL] using h
  | x :: l, y :: m, h, 0, v :: vs, u :: us, k => by simp only [Bm.putL]; exact ⟨k.1, All2.putL h.2 0 k.2⟩
  | x :: l, y :: m, h, off + 1, v :: vs, u :: us, k => by simp only [Bm.putL]; exact ⟨h.1, All2.putL h.2 off k⟩
  | _, _, _, _, [], _ :: _, k => k.elim
  | _, _, _, _, _ :: _, [], k => k.elim
  | [], _ :: _, h, _, _, _, _ => h.elim
  | _ :: _, [], h, _, _, _, _ => h.elim
theorem putL_get {α : Type} : ∀ (l : List α) (off : Nat) (vs : List α) (j : Nat), off + vs.length ≤ l.length →
    (putL l off vs)[j]? = if off ≤ j ∧ j < off + vs.length then vs[j - off]? else l[j]?
  | l, off, [], j, _ => by
    have : putL l off [] = l := by cases l <;> simp [putL]
    rw [this, if_neg (by intro hh; have := hh.2; simp at this; omega)]
  | x :: l, 0, v :: vs, j, h => by
    simp only [putL]
    cases j with
    | zero => simp
    | succ j =>
      have := putL_get l 0 vs j (by simp at h; omega)
      simp only [List.getElem?_cons_succ, this]
      simp
  | x :: l, i + 1, v :: vs, j, h => by
    simp only [putL]
    cases j with
    | zero => simp
    | succ j =>
      have := putL_get l i (v :: vs) j (by simp at h ⊢; omega)
      simp only [List.getElem?_cons_succ, this]
      simp only [List.length_cons, Nat.add_sub_add_right]
      split <;> split <;> first | rfl | omega
  | [], off, v :: vs, j, h => by simp at h
theorem fold_put : ∀ (vs : List Value) (c : Array Value) (off k : Nat), off + k + vs.length ≤ c.size →
    (vs.zipIdx k).foldl (fun cs (x : Value × Nat) => cs.setIfInBounds (off + x.2) x.1) c = (putL c.toList (off + k) vs).toArray
  | [], c, off, k, _ => by
    have : putL c.toList (off + k) [] = c.toList := by cases c.toList <;> simp [putL]
    simp [this]
  | v :: vs, c, off, k, h => by
    simp only [List.length_cons] at h
    simp only [List.zipIdx_cons, List.foldl_cons]
    rw [fold_put vs (c.setIfInBounds (off + k) v) off (k + 1) (by simp; omega)]
    congr 1
    apply List.ext_getElem?
    intro j
    rw [putL_get _ _ _ _ (by simp; omega), putL_get _ _ _ _ (by simp; omega)]
    simp only [Array.toList_setIfInBounds, List.getElem?_set]
    by_cases h1 : off + k = j
    · subst h1
      rw [if_neg (by omega), if_pos (by simp)]
      simp
      omega
    · by_cases h2 : off + (k + 1) ≤ j ∧ j < off + (k + 1) + vs.length
      · rw [if_pos h2, if_pos (by simp; omega)]
        rw [show j - (off + k) = (j - (off + (k + 1))) + 1 by omega]
        simp
      · rw [if_neg h2, if_neg h1, if_neg (by intro hh; apply h2; have h3 := hh.1; have h4 := hh.2; simp only [List.length_cons] at h4; omega)]
theorem CV.R.cells {x : CV} {v : Value} (h : x.R ρ v) : All2 (SV.R ρ) x.cells v.cells.toList := by
  cases x with
  | s x =>
    have h1 := SV.R.one h
    have : v.cells = #[v] := by cases v <;> simp_all [Value.oneCell', Value.cells]
    rw [this]
    exact ⟨h, trivial⟩
  | agg l => obtain ⟨cs, hc, rfl⟩ := h; exact hc
theorem fill_sound {place : Nat → Option (Nat × Nat)} (fillX : List SV → List (Nat × AV) → Option (List SV))
    (h0 : ∀ l, fillX l [] = some l)
    (h1 : ∀ l i v r l', fillX l ((i, v) :: r) = some l' → ∃ x off sz, v = .c x ∧ place i = some (off, sz) ∧ x.cells.length = sz ∧ off + sz ≤ l.length ∧ fillX (putL l off x.cells) r = some l') :
    ∀ {ps : List (Nat × AV)} {qs : List (Nat × Value)} {l l' : List SV} {cs : Array Value}, All2 (fun p q => p.1 = q.1 ∧ p.2.R ρ q.2) ps qs → All2 (SV.R ρ) l cs.toList → fillX l ps = some l' →
      ∃ cs' : Array Value, Instr.fill place cs qs = some cs' ∧ All2 (SV.R ρ) l' cs'.toList
  | [], [], l, l', cs, _, hl, h => by rw [h0] at h; cases h; exact ⟨cs, rfl, hl⟩
  | (i, v) :: ps, (j, u) :: qs, l, l', cs, hp, hl, h => by
    obtain ⟨x, off, sz, rfl, hpl, hsz, hle, hr⟩ := h1 l i v ps l' h
    obtain ⟨⟨rfl, hv⟩, hps⟩ := hp
    have hcl := CV.R.cells hv
    have hlen := hcl.length
    have hlc := hl.length
    simp only [Array.length_toList] at hlen hlc
    have hfold := fold_put u.cells.toList cs off 0 (by simp; omega)
    obtain ⟨cs', h2, h3⟩ := fill_sound fillX h0 h1 (cs := (putL cs.toList (off + 0) u.cells.toList).toArray) hps (by simpa using All2.putL hl off hcl) hr
    refine ⟨cs', ?_, h3⟩
    simp only [Instr.fill, hpl]
    rw [if_neg (by simp; omega)]
    rw [← h2, ← hfold, ← Array.foldl_toList, Array.toList_zipIdx]
  | [], _ :: _, _, _, _, hp, _, _ => hp.elim
  | _ :: _, [], _, _, _, hp, _, _ => hp.elim
end
end Bm
