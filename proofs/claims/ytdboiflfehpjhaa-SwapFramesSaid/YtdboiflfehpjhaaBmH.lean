/- The abstract machine's operations that turn the heap, and calls: soundness. -/
import Derived.Test.YtdboiflfehpjhaaBmG2
import Derived.Laws.Append
import Derived.Laws.AppendOwn
import Derived.Laws.OwnMore
import Derived.Maps.AppendAt
import Derived.IntWalk
set_option linter.unusedVariables false
set_option linter.unusedSimpArgs false
namespace Bm
open Go

theorem callsIn_FW {ro : Option Nat} {n : Nat} {P : Program} {f : FuncId} {args : Array Value} {w : World} {R : Ending → World → Prop} : CallsIn (FW ro) n P f args w R ↔ Calls P f args w R :=
  callsIn_wide (n := n)

section
variable {P : Program} {T : TypeId → TI} {ρ : Rho} {w : World} {H : List AO}

/-- What goes on behind an operation. -/
def Nx (H : List AO) (ρ : Rho) (w : World) (a : Act) (dst : Option Nat) (K : AV → List AO → Prop) (next : Act → World → Prop) : Prop :=
  ∀ (v : AV) (vc : Value) (H' : List AO) (ρ' : Rho) (w' : World), K v H' → v.R ρ' vc → Ext H ρ w H' ρ' w' → Holds H' ρ' w' → next (a.put dst vc) w'

theorem wpIn_value {ro : Option Nat} {n : Nat} {o : Oper} {a : Act} {next : Act → World → Prop} {Q : Exit → Act → World → Prop} {vc : Value} {w' : World} (hd : ∀ c, o.op ≠ .defer c)
    (hr : (execOp a.eval o).run P w = .ok (.value vc) w') (h : next (a.put o.dst vc) w') : o.wpIn (FW ro) n P a w next Q := by
  refine ⟨fun _ _ => trivial, ?_⟩
  rw [Oper.semAt_eq _ _ _ hd, hr]
  exact h
theorem wpIn_skipV {ro : Option Nat} {n : Nat} {o : Oper} {a : Act} {next : Act → World → Prop} {Q : Exit → Act → World → Prop} {w' : World} (hd : ∀ c, o.op ≠ .defer c)
    (hr : (execOp a.eval o).run P w = .ok .skip w') (h : next (a.put o.dst undef) w') : o.wpIn (FW ro) n P a w next Q := by
  refine ⟨fun _ _ => trivial, ?_⟩
  rw [Oper.semAt_eq _ _ _ hd, hr]
  exact h

theorem pushed {p : Pl} (hp : ρ.length = H.length) : (ρ ++ [p])[H.length]? = some p := by rw [← hp]; simp

/-- A new block of cells. -/
theorem new_cells (hh : Holds H ρ w) {l : List SV} {cs : List Value} (t : TypeId) (hR : All2 (SV.R ρ) l cs) :
    Holds (H ++ [.cells l t]) (ρ ++ [{ b := w.heap.size }]) { w with heap := w.heap.push (.cells cs.toArray t) } ∧
    Ext H ρ w (H ++ [.cells l t]) (ρ ++ [{ b := w.heap.size }]) { w with heap := w.heap.push (.cells cs.toArray t) } :=
  hh.push (obj := .cells cs.toArray t) rfl rfl rfl rfl rfl ⟨rfl, cs, hR.mono (fun _ _ => SV.R.ext (List.prefix_append _ _)), by simp⟩ (fun _ h => h) (fun _ _ h => by cases h)

theorem storeCells_run : ∀ (vs : List Value) (w : World) (b off i : Nat) (cs : List Value) (t : TypeId), w.heap[b]? = some (.cells cs.toArray t (0, 0)) → (∀ v ∈ vs, v.oneCell' = true) → off + i + vs.length ≤ cs.length →
    (storeCells ⟨b, off, none⟩ vs i).run P w = .ok () { w with heap := w.heap.setIfInBounds b (.cells (putL cs (off + i) vs).toArray t (0, 0)) }
  | [], w, b, off, i, cs, t, h, _, _ => by
    have hp : putL cs (off + i) [] = cs := by cases cs <;> simp [putL]
    have : w.heap.setIfInBounds b (.cells cs.toArray t (0, 0)) = w.heap := by
      obtain ⟨hlt, hb⟩ := Array.getElem?_eq_some_iff.1 h
      rw [← hb]
      apply Array.ext
      · simp
      · intro j h1 h2
        rw [Array.getElem_setIfInBounds (by simpa using h1)]
        split
        · rename_i e; subst e; rfl
        · rfl
    simp [storeCells, hp, this]
  | v :: vs, w, b, off, i, cs, t, h, h1, h2 => by
    have hlt := (Array.getElem?_eq_some_iff.1 h).1
    have hoff : off + i < cs.length := by simp at h2; omega
    have hc : w.cell? ⟨b, off + i, none⟩ = some cs[off + i] := by simp [World.cell?, h, hoff]
    have hf : w.frozen? ⟨b, off + i, none⟩ = false := by simp [World.frozen?, h]
    have hs : w.setCell ⟨b, off + i, none⟩ v = { w with heap := w.heap.setIfInBounds b (.cells (cs.set (off + i) v).toArray t (0, 0)) } := by
      simp only [World.setCell]
      congr 1
      apply Array.ext_getElem?
      intro j
      rw [Array.getElem?_modify, Array.getElem?_setIfInBounds]
      split
      · rename_i e; subst e
        have hb := (Array.getElem?_eq_some_iff.1 h).2
        simp [hlt, hb]
      · rfl
    have ih := storeCells_run vs (w.setCell ⟨b, off + i, none⟩ v) b off (i + 1) (cs.set (off + i) v) t (by rw [hs]; simp [hlt]) (fun u hu => h1 u (List.mem_cons_of_mem _ hu)) (by simp at h2 ⊢; omega)
    simp only [storeCells, Sem.run_bind, run_store P w _ v _ (h1 v List.mem_cons_self), add_place, hc, hf, Bool.false_eq_true, if_false, Result.andThen_ok]
    rw [ih, hs]
    simp only [Array.setIfInBounds_setIfInBounds]
    congr 5
    apply List.ext_getElem?
    intro j
    rw [putL_get _ _ _ _ (by simp at h2 ⊢; omega), putL_get _ _ _ _ (by simp at h2 ⊢; omega)]
    simp only [List.getElem?_set, List.length_cons]
    by_cases hj : off + i = j
    · subst hj
      rw [if_neg (by omega), if_pos (by omega)]
      simp [hoff]
    · by_cases hj2 : off + (i + 1) ≤ j ∧ j < off + (i + 1) + vs.length
      · rw [if_pos hj2, if_pos (by omega), show j - (off + i) = (j - (off + (i + 1))) + 1 by omega]
        simp
      · rw [if_neg hj2, if_neg hj, if_neg (by omega)]
theorem putL_append {α : Type} : ∀ (l r : List α) (off : Nat) (vs : List α), off + vs.length ≤ l.length → putL (l ++ r) off vs = putL l off vs ++ r
  | l, r, off, [], _ => by
    have h : ∀ x : List α, putL x off [] = x := by intro x; cases x <;> cases off <;> simp [putL]
    rw [h, h]
  | [], r, off, v :: vs, h => by simp at h
  | x :: l, r, 0, v :: vs, h => by simp [putL, putL_append l r 0 vs (by simp at h ⊢; omega)]
  | x :: l, r, off + 1, v :: vs, h => by simp [putL, putL_append l r off (v :: vs) (by simp at h ⊢; omega)]

theorem putL_map {α β : Type} (f : α → β) : ∀ (l : List α) (off : Nat) (vs : List α), putL (l.map f) off (vs.map f) = (putL l off vs).map f
  | l, off, [] => by
    have h : ∀ {γ : Type} (x : List γ), putL x off [] = x := by intro γ x; cases x <;> cases off <;> simp [putL]
    simp [h]
  | [], off, v :: vs => by simp [putL]
  | x :: l, 0, v :: vs => by simp only [List.map_cons, putL]; rw [← putL_map f l 0 vs]
  | x :: l, off + 1, v :: vs => by simp only [List.map_cons, putL]; rw [← putL_map f l off (v :: vs)]; simp
theorem putL_one {α : Type} : ∀ (l : List α) (off : Nat) (v : α), putL l off [v] = l.set off v
  | [], off, v => by cases off <;> simp [putL]
  | x :: l, 0, v => by cases l <;> simp [putL]
  | x :: l, off + 1, v => by simp only [putL, putL_one l off v, List.set_cons_succ]
theorem repP_map (n : Nat) (z : List PV) : repL n (z.map PV.sv) = (repP n z).map PV.sv := by
  induction n with
  | zero => rfl
  | succ n ih => simp [repL, repP, ih]
theorem repO_map (j n : Nat) : repL n [SV.nilp] = (List.replicate n none).map (optSV j) := by
  induction n with
  | zero => rfl
  | succ n ih => simp [repL, ih, List.replicate_succ, optSV]
theorem zero_fill (n : Nat) (zs : List SV) (z : Array Value) (hz : All2 (SV.R ρ) zs z.toList) (hne : n = 0 ∨ 0 < z.size) :
    All2 (SV.R ρ) (repL n zs) ((Array.range (n * z.size)).map (z[· % z.size]!)).toList := by
  have hl : zs.length = z.size := by rw [hz.length]; simp
  have hlen : ∀ n, (repL n zs).length = n * zs.length := by
    intro n
    induction n with
    | zero => simp [repL]
    | succ n ih => simp [repL, ih, Nat.succ_mul, Nat.add_comm]
  have hget : ∀ (n i : Nat), i < n * zs.length → (repL n zs)[i]? = zs[i % zs.length]? := by
    intro n
    induction n with
    | zero => intro i h; simp at h
    | succ n ih =>
      intro i h
      simp only [repL]
      rcases Nat.lt_or_ge i zs.length with hi | hi
      · rw [List.getElem?_append_left hi, Nat.mod_eq_of_lt hi]
      · rw [List.getElem?_append_right hi, ih _ (by rw [Nat.succ_mul] at h; omega)]
        rw [Nat.mod_eq_sub_mod hi]
  refine All2.of_get (by simp [hlen, hl]) fun i x y hx hy => ?_
  have hi : i < n * z.size := by have := (List.getElem?_eq_some_iff.1 hy).1; simpa using this
  have hpos : 0 < z.size := by
    rcases hne with h | h
    · subst h; simp at hi
    · exact h
  rw [hget n i (by rw [hl]; exact hi), hl] at hx
  obtain ⟨u, hu, hR⟩ := hz.get hx
  have hlt : i % z.size < z.size := Nat.mod_lt _ hpos
  have : y = z[i % z.size] := by
    simp [hi] at hy
    rw [← hy]
    simp [hlt]
  rw [this]
  simp [hlt] at hu
  rw [← hu] at hR
  exact hR

theorem sub_le {α : Type} {l : List α} {off n : Nat} {cs : List α} (h : subL l off n = some cs) : off + n ≤ l.length ∨ n = 0 := by
  rcases Nat.eq_zero_or_pos n with h0 | h0
  · exact .inr h0
  · obtain ⟨h1, h2⟩ := subL_spec h
    have := h2 (n - 1) (by omega)
    rw [List.getElem?_eq_getElem (by omega)] at this
    have := (List.getElem?_eq_some_iff.1 this.symm).1
    exact .inl (by omega)
/-! ### Maps of words: stores -/
theorem noIter_spec {m : Nat} : ∀ {H : List AO}, noIter m H = true → ∀ (j : Nat) (todo : Todo), H[j]? = some (.it64 m todo) → False
  | [], _, j, todo, h => by simp at h
  | o :: H, hn, j, todo, h => by
    have tl : ∀ {j : Nat}, noIter m H = true → H[j]? = some (.it64 m todo) → False := fun hn h => noIter_spec hn _ todo h
    cases j with
    | zero =>
      simp at h
      subst h
      unfold noIter at hn
      simp at hn
    | succ j =>
      simp at h
      refine tl ?_ h
      cases o <;> simp only [noIter] at hn <;> first | exact hn | (split at hn <;> first | (cases hn; done) | exact hn)
theorem del_idx (n : Int) : ∀ {l : List (Int × Int)}, (l.map (·.1)).Nodup → match l.findIdx? (fun p => p.1 == n) with
    | some j => j < l.length ∧ (∃ v, l[j]? = some (n, v)) ∧ mdelL l n = l.eraseIdx j
    | none => mdelL l n = l ∧ ∀ v, (n, v) ∉ l
  | [], _ => by simp [mdelL]
  | p :: l, hn => by
    simp only [List.map_cons, List.nodup_cons] at hn
    have ih := del_idx n hn.2
    simp only [List.findIdx?_cons]
    by_cases hp : (p.1 == n) = true
    · have e := eq_of_beq hp
      simp only [hp, if_true]
      refine ⟨by simp, ⟨p.2, by simp [← e]⟩, ?_⟩
      have : mdelL l n = l := by
        simp only [mdelL, List.filter_eq_self]
        intro q hq
        simp only [bne_iff_ne]
        intro h
        exact hn.1 (by rw [e, ← h]; exact List.mem_map_of_mem (f := (·.1)) hq)
      simp [mdelL, e] at this ⊢
      exact this
    · have hp' : (p.1 == n) = false := by simpa using hp
      simp only [hp', Bool.false_eq_true, if_false]
      cases hf : l.findIdx? (fun p => p.1 == n) with
      | none =>
        rw [hf] at ih
        simp only [Option.map_none]
        refine ⟨?_, ?_⟩
        · have := ih.1
          simp only [mdelL] at this ⊢
          rw [List.filter_cons_of_pos (by simpa [bne_iff_ne] using hp), this]
        · intro v hv
          rcases List.mem_cons.1 hv with h | h
          · subst h; simp at hp
          · exact ih.2 v h
      | some j =>
        rw [hf] at ih
        simp only [Option.map_some]
        obtain ⟨h1, h2, h3⟩ := ih
        refine ⟨by simp; omega, by simpa using h2, ?_⟩
        simp only [mdelL] at h3 ⊢
        rw [List.filter_cons_of_pos (by simpa [bne_iff_ne] using hp), h3]
        simp
theorem mdel_perm {l l' : List (Int × Int)} (h : l'.Perm l) (n : Int) : (mdelL l' n).Perm (mdelL l n) := h.filter _
theorem mdel_nodup {l : List (Int × Int)} (h : (l.map (·.1)).Nodup) (n : Int) : ((mdelL l n).map (·.1)).Nodup := h.sublist (List.filter_sublist.map _)
theorem mput_nodup {l : List (Int × Int)} (h : (l.map (·.1)).Nodup) (n v : Int) : ((mputL l n v).map (·.1)).Nodup := by
  simp only [mputL, List.map_cons, List.nodup_cons]
  refine ⟨?_, mdel_nodup h n⟩
  simp only [List.mem_map, not_exists, not_and]
  rintro p hp e
  simp only [mdelL, List.mem_filter, bne_iff_ne] at hp
  exact hp.2 e
theorem All2.eraseIdx {α β : Type} {R : α → β → Prop} : ∀ {l : List α} {m : List β} (i : Nat), All2 R l m → All2 R (l.eraseIdx i) (m.eraseIdx i)
  | [], [], _, _ => trivial
  | _ :: _, _ :: _, 0, h => h.2
  | _ :: _, _ :: _, i + 1, h => ⟨h.1, All2.eraseIdx i h.2⟩
  | [], _ :: _, _, h => h.elim
  | _ :: _, [], _, h => h.elim
theorem setObj_run {r : Nat} {o : Obj} (h : ∃ es c, w.heap[r]? = some (.map es c)) : (setObj r o).run P w = .ok () { w with heap := w.heap.setIfInBounds r o } := by
  obtain ⟨es, c, h⟩ := h
  simp [setObj, Sem.run, h]
theorem perm_set {α : Type} {l : List α} {j : Nat} (x : α) (h : j < l.length) : (l.set j x).Perm (x :: l.eraseIdx j) := by
  induction l generalizing j with
  | nil => simp at h
  | cons y l ih =>
    cases j with
    | zero => simp
    | succ j =>
      simp only [List.set_cons_succ, List.eraseIdx_cons_succ]
      exact ((ih (by simp at h; omega)).cons y).trans (List.Perm.swap x y _)
theorem run_update64 {t k e : TypeId} (hu : P.underlying t = some (.map k e)) (hk : P.underlying k = some (.int .u64)) {r : Nat} {es : Array MapEntry} {clock : Nat} {l : List (Int × Int)}
    (hb : w.heap[r]? = some (.map es clock)) (he : Ent64 l es.toList) (hn : (l.map (·.1)).Nodup) (hc : ∀ e ∈ es.toList, e.born < clock) (hd : (es.toList.map (·.born)).Nodup) (n v : Int) :
    ∃ es' clock', (Instr.mapUpdate t (.map (some r)) (.int .u64 n) (.int .u64 v)).run P w = .ok () { w with heap := w.heap.setIfInBounds r (.map es' clock') } ∧
      Ent64 (mputL l n v) es'.toList ∧ (∀ e ∈ es'.toList, e.born < clock') ∧ (es'.toList.map (·.born)).Nodup := by
  obtain ⟨l', hp, ha⟩ := he
  have h1 := findKey64 (P := P) w hk n ha
  have h3 : ∀ b, (Instr.checkKey b 10000 k (.int .u64 n)).run P w = .ok () w := fun b => checkKey_int w b 9999 hk _
  have hn' : (l'.map (·.1)).Nodup := (hp.map _).nodup_iff.2 hn
  have hdi := del_idx n hn'
  have hperm := mdel_perm hp n
  cases hf : l'.findIdx? (fun p => p.1 == n) with
  | none =>
    rw [hf] at h1 hdi
    refine ⟨es.push { key := .int .u64 n, val := .int .u64 v, born := clock }, clock + 1, ?_, ⟨l' ++ [(n, v)], ?_, ?_⟩, ?_, ?_⟩
    · simp [Instr.mapUpdate, run_underlying hu, getObj, Sem.run, hb, h3, h1, setObj]
    · exact (List.perm_append_comm (l₁ := l') (l₂ := [(n, v)])).trans ((hdi.1 ▸ hperm).cons _)
    · simpa using All2.append ha (l' := [(n, v)]) (m' := [{ key := .int .u64 n, val := .int .u64 v, born := clock }]) ⟨⟨rfl, rfl⟩, trivial⟩
    · intro e he
      simp at he
      rcases he with he | rfl
      · exact Nat.lt_succ_of_lt (hc e (by simpa using he))
      · exact Nat.lt_succ_self _
    · simp only [Array.toList_push, List.map_append, List.map_cons, List.map_nil]
      rw [List.nodup_append]
      refine ⟨hd, by simp, ?_⟩
      intro x hx y hy e
      simp at hy
      subst hy
      simp only [List.mem_map] at hx
      obtain ⟨z, hz, rfl⟩ := hx
      have := hc z hz
      omega
  | some j =>
    rw [hf] at h1 hdi
    obtain ⟨hj, ⟨v0, hv0⟩, hde⟩ := hdi
    obtain ⟨e0, he0, hk0, hv0'⟩ := ha.get hv0
    have hjs : j < es.size := by simpa using (List.getElem?_eq_some_iff.1 he0).1
    have he0' : es[j]? = some e0 := by rw [← Array.getElem?_toList]; exact he0
    refine ⟨es.modify j fun e => { e with key := .int .u64 n, val := .int .u64 v }, clock, ?_, ⟨l'.set j (n, v), ?_, ?_⟩, ?_, ?_⟩
    · have hsame : Instr.sameBits 10000 e0.key (.int .u64 n) = true := by rw [hk0]; simp [Instr.sameBits]
      simp [Instr.mapUpdate, run_underlying hu, getObj, Sem.run, hb, h3, h1, he0', Instr.keyThatStays, hsame, setObj]
    · exact (perm_set (n, v) hj).trans ((hde ▸ hperm).cons _)
    · have : (es.modify j fun e => { e with key := Value.int .u64 n, val := Value.int .u64 v }).toList = es.toList.set j { e0 with key := .int .u64 n, val := .int .u64 v } := by
        apply List.ext_getElem?
        intro i
        rw [Array.getElem?_toList, Array.getElem?_modify, List.getElem?_set, Array.getElem?_toList]
        split
        · rename_i e; subst e
          have hq := (Array.getElem?_eq_some_iff.1 he0').2
          simp [he0', hjs, hq]
        · rfl
      rw [this]
      exact All2.set ha j ⟨rfl, rfl⟩
    · intro e he
      obtain ⟨i, hi⟩ := List.getElem?_of_mem he
      rw [Array.getElem?_toList, Array.getElem?_modify] at hi
      split at hi
      · simp only [Option.map_eq_some_iff] at hi
        obtain ⟨x, hx, rfl⟩ := hi
        exact hc x (by rw [← Array.getElem?_toList] at hx; exact List.mem_of_getElem? hx)
      · exact hc e (by rw [← Array.getElem?_toList] at hi; exact List.mem_of_getElem? hi)
    · have : (es.modify j fun e => { e with key := Value.int .u64 n, val := Value.int .u64 v }).toList.map (·.born) = es.toList.map (·.born) := by
        apply List.ext_getElem?
        intro i
        simp only [List.getElem?_map, Array.getElem?_toList, Array.getElem?_modify]
        split
        · cases es[i]? <;> rfl
        · rfl
      rw [this]
      exact hd
theorem run_delete64 {t k e : TypeId} {ats : Array TypeId} {ty : TypeId} (hat : ats[0]? = some t) (hu : P.underlying t = some (.map k e)) (hk : P.underlying k = some (.int .u64)) {r : Nat} {es : Array MapEntry} {clock : Nat} {l : List (Int × Int)}
    (hb : w.heap[r]? = some (.map es clock)) (he : Ent64 l es.toList) (hn : (l.map (·.1)).Nodup) (hc : ∀ e ∈ es.toList, e.born < clock) (hd : (es.toList.map (·.born)).Nodup) (n : Int) :
    ∃ es', (Builtin.delete_ ats ty #[.map (some r), .int .u64 n]).run P w = .ok (.tuple #[]) { w with heap := w.heap.setIfInBounds r (.map es' clock) } ∧
      Ent64 (mdelL l n) es'.toList ∧ (∀ e ∈ es'.toList, e.born < clock) ∧ (es'.toList.map (·.born)).Nodup := by
  obtain ⟨l', hp, ha⟩ := he
  have h1 := findKey64 (P := P) w hk n ha
  have h3 : ∀ b, (Instr.checkKey b 10000 k (.int .u64 n)).run P w = .ok () w := fun b => checkKey_int w b 9999 hk _
  have hn' : (l'.map (·.1)).Nodup := (hp.map _).nodup_iff.2 hn
  have hdi := del_idx n hn'
  have hperm := mdel_perm hp n
  cases hf : l'.findIdx? (fun p => p.1 == n) with
  | none =>
    rw [hf] at h1 hdi
    refine ⟨es, ?_, ⟨l', hdi.1 ▸ hperm, ha⟩, hc, hd⟩
    simp [Builtin.delete_, hat, run_underlying hu, getObj, Sem.run, hb, h3, h1, setObj]
  | some j =>
    rw [hf] at h1 hdi
    obtain ⟨hj, ⟨v0, hv0⟩, hde⟩ := hdi
    have hjs : j < es.size := by have := ha.length; simp at this; omega
    refine ⟨es.eraseIdxIfInBounds j, ?_, ⟨l'.eraseIdx j, hde ▸ hperm, ?_⟩, ?_, ?_⟩
    · simp [Builtin.delete_, hat, run_underlying hu, getObj, Sem.run, hb, h3, h1, setObj]
    · simpa [Array.eraseIdxIfInBounds, hjs] using All2.eraseIdx j ha
    · intro e he
      refine hc e ?_
      simp only [Array.eraseIdxIfInBounds, hjs, dif_pos, Array.toList_eraseIdx] at he
      exact List.mem_of_mem_eraseIdx he
    · simp only [Array.eraseIdxIfInBounds, hjs, dif_pos, Array.toList_eraseIdx]
      exact hd.sublist ((List.eraseIdx_sublist _ _).map _)
theorem find_born {es : Array MapEntry} (hd : (es.toList.map (·.born)).Nodup) {e : MapEntry} (he : e ∈ es.toList) : es.find? (fun x => x.born == e.born) = some e := by
  rw [← Array.find?_toList]
  revert hd he
  generalize es.toList = l
  intro hd he
  induction l with
  | nil => cases he
  | cons x l ih =>
    simp only [List.map_cons, List.nodup_cons] at hd
    rcases List.mem_cons.1 he with rfl | he
    · simp
    · rw [List.find?_cons_of_neg]
      · exact ih hd.2 he
      · intro h
        exact hd.1 (by rw [eq_of_beq h]; exact List.mem_map_of_mem (f := (·.born)) he)
theorem run_next64 {r : Nat} {q : Nat} {seen : Array Nat} {clock : Nat} {es : Array MapEntry} {ty : TypeId} {todo : List (Int × Int)} (hb : w.heap[r]? = some (.mapIter (some q) clock seen clock)) (hm : w.heap[q]? = some (.map es clock))
    (he : Ent64 todo (es.toList.filter fun e => !seen.contains e.born)) (hc : ∀ e ∈ es.toList, e.born < clock) (hd : (es.toList.map (·.born)).Nodup) :
    (todo = [] ∧ (Instr.next (.pointer (some ⟨r, 0, none⟩)) false ty).run P w = .ok (.tuple #[.bool false]) w) ∨
    (∃ (k v : Int) (seen' : Array Nat) (rest : List (Int × Int)) (w1 : World), todo.Perm ((k, v) :: rest) ∧ (w1.heap = w.heap ∧ w1.os = w.os ∧ w1.tape = w.tape ∧ w1.output = w.output) ∧
      (Instr.next (.pointer (some ⟨r, 0, none⟩)) false ty).run P w = .ok (.tuple #[.bool true, .int .u64 k, .int .u64 v]) { w1 with heap := w.heap.setIfInBounds r (.mapIter (some q) clock seen' clock) } ∧
      Ent64 rest (es.toList.filter fun e => !seen'.contains e.born) ∧ Cur [(k, v)] seen' es) := by
  obtain ⟨l', hp, ha⟩ := he
  have hlast : (!seen.isEmpty && !es.isEmpty && es.all (·.born ≥ clock)) = false := by
    cases hes : es.toList with
    | nil => have : es = #[] := by apply Array.ext'; simpa using hes
             simp [this]
    | cons x xs =>
      have hx := hc x (by rw [hes]; exact List.mem_cons_self)
      have : es.all (·.born ≥ clock) = false := by
        rw [← Array.all_toList, hes]
        simp
        intro h
        omega
      simp [this]
  have hold : ((es.filter fun e => !seen.contains e.born).filter (·.born < clock)) = es.filter fun e => !seen.contains e.born := by
    apply Array.ext'
    simp only [Array.toList_filter]
    rw [List.filter_eq_self]
    intro x hx
    have := hc x (List.mem_filter.1 hx).1
    simpa using this
  have hnew : ((es.filter fun e => !seen.contains e.born).filter (·.born ≥ clock)) = #[] := by
    apply Array.ext'
    simp only [Array.toList_filter]
    rw [List.filter_eq_nil_iff]
    intro x hx
    have := hc x (List.mem_filter.1 hx).1
    simpa using this
  have hlen := ha.length
  have hleft : (es.filter fun e => !seen.contains e.born).toList = es.toList.filter fun e => !seen.contains e.born := by simp
  generalize hL : (es.filter fun e => !seen.contains e.born) = L at hold hnew hleft
  rw [← hleft] at ha hlen
  have hrun : (Instr.next (.pointer (some ⟨r, 0, none⟩)) false ty).run P w =
      ((do match ((if L.isEmpty then #[none] else #[]) ++ (L ++ #[]).map some)[← choose (.mapNext ((if L.isEmpty then #[none] else #[]) ++ (L ++ #[]).map some).size)]? with
        | some (some e) =>
          setObj r (.mapIter (some q) clock (seen.push e.born) clock)
          pure (.tuple #[.bool true, e.key, e.val])
        | some none => pure (.tuple #[.bool false])
        | none => stuck "Next: no such candidate" : Sem Value)).run P w := by
    unfold Instr.next
    simp only [Sem.run_bind, getObj, Sem.run, hb, hm, Result.andThen_ok, hlast, Bool.false_eq_true, if_false, hL, hold, hnew]
    rfl
  rw [hrun]
  by_cases hemp : L = #[]
  · subst hemp
    left
    have : l' = [] := List.eq_nil_of_length_eq_zero (by simpa using hlen)
    subst this
    refine ⟨hp.symm.eq_nil, ?_⟩
    simp [Question.forced]
  · right
    have hsz : 0 < L.size := by
      rcases Nat.eq_zero_or_pos L.size with h | h
      · exact absurd (Array.eq_empty_of_size_eq_zero h) hemp
      · exact h
    have hisE : L.isEmpty = false := by simp [Array.isEmpty]; omega
    have hcand : ((if L.isEmpty then #[none] else #[]) ++ (L ++ #[]).map some) = L.map some := by rw [hisE]; simp
    simp only [hcand, Array.size_map]
    obtain ⟨idx, w1, hidx, hw1, hch⟩ : ∃ idx w1, idx < L.size ∧ (w1.heap = w.heap ∧ w1.os = w.os ∧ w1.tape = w.tape ∧ w1.output = w.output) ∧ (choose (.mapNext L.size)).run P w = .ok idx w1 := by
      by_cases hf : L.size ≤ 1
      · exact ⟨0, w, hsz, ⟨rfl, rfl, rfl, rfl⟩, by simp [Question.forced, hf]⟩
      · exact ⟨_, { w with drawn := w.drawn + 1 }, Nat.mod_lt (w.tape w.drawn (.mapNext L.size)) hsz, ⟨rfl, rfl, rfl, rfl⟩, by simp [Question.forced, hf, Question.cut]⟩
    have hlt' : idx < l'.length := by rw [hlen]; simpa using hidx
    obtain ⟨e, he, hek, hev⟩ := ha.get (List.getElem?_eq_getElem hlt')
    have hLe : L[idx]? = some e := by rw [← Array.getElem?_toList]; exact he
    have hmem : e ∈ es.toList := by
      have := List.mem_of_getElem? he
      rw [hleft] at this
      exact (List.mem_filter.1 this).1
    refine ⟨l'[idx].1, l'[idx].2, seen.push e.born, l'.eraseIdx idx, w1, ?_, hw1, ?_, ?_, e, by simp, find_born hd hmem, hek, hev⟩
    · refine hp.symm.trans ?_
      have h1 := perm_set (l := l') (j := idx) l'[idx] hlt'
      rwa [List.set_getElem_self] at h1
    · simp only [Sem.run_bind, hch, Result.andThen_ok, Array.getElem?_map, hLe, Option.map_some]
      simp only [Sem.run_bind, setObj, Sem.run, hw1.1, hb, Result.andThen_ok, hek, hev]
      rfl
    · refine ⟨l'.eraseIdx idx, .refl _, ?_⟩
      have hnodup : (L.toList.map (·.born)).Nodup := by
        rw [hleft]
        exact hd.sublist (List.filter_sublist.map _)
      have : es.toList.filter (fun x => !(seen.push e.born).contains x.born) = L.toList.eraseIdx idx := by
        have h1 : es.toList.filter (fun x => !(seen.push e.born).contains x.born) = L.toList.filter (fun x => x.born != e.born) := by
          rw [hleft, List.filter_filter]
          apply List.filter_congr
          intro x _
          simp only [Array.contains_push]
          cases seen.contains x.born <;> simp [bne, BEq.comm]
        rw [h1]
        have key : ∀ (M : List MapEntry) (i : Nat) (e : MapEntry), (M.map (·.born)).Nodup → M[i]? = some e → M.filter (fun x => x.born != e.born) = M.eraseIdx i := by
          intro M
          induction M with
          | nil => intro i e _ h; simp at h
          | cons x M ih =>
            intro i e hn h
            simp only [List.map_cons, List.nodup_cons] at hn
            cases i with
            | zero =>
              simp at h
              subst h
              simp only [List.filter_cons, bne_self_eq_false, Bool.false_eq_true, if_false, List.eraseIdx_cons_zero, List.filter_eq_self]
              intro y hy
              simp only [bne_iff_ne]
              intro hh
              exact hn.1 (by rw [← hh]; exact List.mem_map_of_mem (f := (·.born)) hy)
            | succ i =>
              simp at h
              have hne : x.born ≠ e.born := by
                intro hh
                exact hn.1 (by rw [hh]; exact List.mem_map_of_mem (f := (·.born)) (List.mem_of_getElem? h))
              rw [List.filter_cons_of_pos (by simpa [bne_iff_ne] using hne), ih i e hn.2 h]
              simp
        exact key L.toList idx e hnodup he
      rw [this]
      exact All2.eraseIdx idx ha
theorem vapp_svs {a b c : VC} (h : vapp (realE P) a b = some c) : c.svs = a.svs ++ b.svs := by
  cases a <;> cases b <;> simp only [vapp] at h
  case pv.pv => cases h; simp [VC.svs, realE]
  case fp.fp j l k m =>
    split at h
    · rename_i hj
      cases h
      rw [← Nat_beq hj]
      simp [VC.svs, realE]
    · cases h
  case any.any => cases h; rfl
  all_goals cases h
theorem actA_sound {ro : Option Nat} {n : Nat} (hT : TyOk P T) (hh : Holds H ρ w) {t : List AV} {a : Act} (ht : Tm ρ t a) {o : Oper} {K : AV → List AO → Prop}
    {next : Act → World → Prop} {Q : Exit → Act → World → Prop} (hN : Nx H ρ w a o.dst K next)
    (h : actA (realE P) T o.op (evA t) H K) : o.wpIn (FW ro) n P a w next Q := by
  cases ho : o.op with
  | alloc ty =>
    rw [ho] at h
    simp only [actA] at h
    split at h
    · rename_i hk
      obtain ⟨z, hz1, hz2, hz3⟩ := (hT ty hk).zeroV w
      obtain ⟨h1, h2⟩ := new_cells hh ty (litsR_R hz2 ρ)
      refine wpIn_value (by simp [ho]) (vc := .pointer (some ⟨w.heap.size, 0, none⟩)) (w' := { w with heap := w.heap.push (.cells z.cells.toList.toArray ty) }) ?_ (hN _ _ _ _ _ h ⟨_, pushed hh.len, rfl⟩ h2 h1)
      simp [execOp, ho, Instr.alloc, hz1, newVar, newRow]
    · exact h.elim
  | box ty x =>
    rw [ho] at h
    simp only [actA] at h
    have hx := ht.eval x
    split at h
    · rename_i v hv
      rw [hv] at hx
      obtain ⟨h1, h2⟩ := new_cells hh ty (CV.R.cells hx)
      refine wpIn_value (by simp [ho]) (vc := .pointer (some ⟨w.heap.size, 0, none⟩)) (w' := { w with heap := w.heap.push (.cells (a.eval x).cells.toList.toArray ty) }) ?_ (hN _ _ _ _ _ h ⟨_, pushed hh.len, rfl⟩ h2 h1)
      simp [execOp, ho, Instr.box, newVar, newRow]
    · exact h.elim
  | store ty x y =>
    rw [ho] at h
    simp only [actA] at h
    have hx := ht.eval x
    have hy := ht.eval y
    split at h
    · rename_i i off v hx' hy'
      rw [hx'] at hx
      rw [hy'] at hy
      obtain ⟨p, hp, e⟩ := R_ptr hx
      have hcells := CV.R.cells hy
      split at h
      · rename_i hb
        simp only [Bool.and_eq_true] at hb
        have hsz := Nat_beq hb.2
        have hone : ∀ u ∈ (a.eval y).cells.toList, u.oneCell' = true := by
          intro u hu
          obtain ⟨j, hj⟩ := List.getElem?_of_mem hu
          obtain ⟨x, _, hR⟩ := All2.get' hcells hj
          exact hR.one
        have hlen : (a.eval y).cells.toList.length = (T ty).sz := by rw [← hcells.length, hsz]
        have run : ∀ (cs : List Value) (te : TypeId), w.heap[p.b]? = some (.cells cs.toArray te (0, 0)) → p.off = 0 → off + (T ty).sz ≤ cs.length →
            (execOp a.eval o).run P w = .ok .skip { w with heap := w.heap.setIfInBounds p.b (.cells (putL cs off (a.eval y).cells.toList).toArray te (0, 0)) } := by
          intro cs te hb' h0 hle
          have := storeCells_run (P := P) (a.eval y).cells.toList w p.b off 0 cs te hb' hone (by rw [hlen]; omega)
          have hsz' : (a.eval y).cells.size = (T ty).sz := by rw [← hlen]; simp
          simp only [Nat.add_zero] at this
          simp [execOp, ho, e, h0, Instr.storeAt, Instr.sureAddr, storeVar, size_elem hT hb.1, hsz', this]
        have fin : ∀ (H : List AO) (ρ : Rho) (hh : Holds H ρ w) (hp : ρ[i]? = some p) (hN : Nx H ρ w a o.dst K next) (o1 o2 : AO) (cs rest us : List Value) (te : TypeId), H[i]? = some o1 → o1.own p p.b → (∀ b, o2.own p b → b = p.b) → p.off = 0 → w.heap[p.b]? = some (.cells (cs ++ rest).toArray te (0, 0)) →
            off + (T ty).sz ≤ cs.length → us = (a.eval y).cells.toList → (∀ w', w'.heap[p.b]? = some (.cells ((putL cs off us) ++ rest).toArray te (0, 0)) → o2.R ρ p w') →
            (∀ m todo, o2 ≠ .it64 m todo) → (∀ l, o1 ≠ .m64 l) → K undefA (H.set i o2) → o.wpIn (FW ro) n P a w next Q := by
          intro H ρ hh hp hN o1 o2 cs rest us te h1 h2 h3 h4 h5 h7 hus h8 h9 h10 hK
          subst hus
          have hlt := (Array.getElem?_eq_some_iff.1 h5).1
          have hput := putL_append cs rest off (a.eval y).cells.toList (by rw [hlen]; exact h7)
          have hr := run (cs ++ rest) te h5 h4 (by simp; omega)
          rw [hput] at hr
          obtain ⟨g1, g2⟩ := hh.turn (w' := { w with heap := w.heap.setIfInBounds p.b (.cells (putL cs off (a.eval y).cells.toList ++ rest).toArray te (0, 0)) }) h1 hp h2 h3 (by simp)
            (fun b hb' => by simp [Array.getElem?_setIfInBounds, Ne.symm hb']) rfl rfl rfl
            (h8 _ (by simp [hlt])) (fun m todo e => (h9 m todo e).elim) (fun ⟨l, e⟩ => (h10 l e).elim)
          exact wpIn_skipV (by simp [ho]) hr (hN _ _ _ _ _ hK (undefA_R ρ) g2 g1)
        have vecOf : ∀ {c : VC} {te : TypeId} {ne : Nat}, H[i]? = some (.vec c te ne) → off < c.svs.length → p.nil = false ∧ p.off = 0 ∧ ∃ cs rest : List Value, All2 (SV.R ρ) c.svs cs ∧ w.heap[p.b]? = some (.cells (cs ++ rest).toArray te (0, 0)) ∧ (cs ++ rest).length = p.cap * ne ∧ p.cap ≤ maxLen := by
          intro c te ne hi hlt
          have hrep := hh.rep i _ p hi hp
          have hnil : ¬ p.nil = true := by
            intro hn
            simp only [AO.R, hn, if_true] at hrep
            rw [hrep] at hlt
            simp at hlt
          simp only [AO.R, if_neg hnil] at hrep
          exact ⟨by simpa using hnil, hrep⟩
        split at h
        · rename_i l te hi
          split at h
          · rename_i cs hs
            obtain ⟨h0, ds, hd, hb'⟩ := hh.rep i _ p hi hp
            obtain ⟨es, hes, _⟩ := All2.subL hd hs
            have hle : off + (T ty).sz ≤ ds.length := (sub_le hes).resolve_right (by have := (hT ty hb.1).pos; omega)
            refine fin H ρ hh hp hN _ (.cells (putL l off v.cells) te) ds [] _ te hi rfl (fun _ h => h) h0 (by simpa using hb') hle rfl ?_ (by simp) (by simp) h
            intro w' h2
            exact ⟨h0, _, All2.putL hd off hcells, by simpa using h2⟩
          · exact h.elim
        · rename_i l te ne hi
          split at h
          · rename_i ps hps
            obtain ⟨ss, hss, hK⟩ := h
            have hpos := (hT ty hb.1).pos
            have hsl := (sub_le hss).resolve_right (by omega)
            obtain ⟨hnil, h0, ds, rest, hd, hb', hcap, hmx⟩ := vecOf hi (by simp [VC.svs]; omega)
            have hdl := hd.length
            simp only [VC.svs, List.length_map] at hdl
            refine fin H ρ hh hp hN _ (.vec (.pv (putL l off ps)) te ne) ds rest _ te hi ⟨hnil, rfl⟩ (fun _ h => h.2) h0 hb' (by omega) rfl ?_ (by simp) (by simp) hK
            intro w' h2
            simp only [AO.R, hnil, Bool.false_eq_true, if_false]
            refine ⟨h0, _, rest, ?_, h2, by rw [← hcap]; simp [putL_eq], hmx⟩
            have := All2.putL hd off hcells
            rw [toPVs_map hps] at this
            simpa [VC.svs, putL_map] using this
          · exact h.elim
        · rename_i j l te ne hi
          have hone' : ∀ {x : SV}, v = .s x → (T ty).sz = 1 := fun e => by rw [e] at hsz; exact hsz.symm
          have st : ∀ {x : SV} (xo : Option Nat), v = .s x → optSV j xo = x → (∃ z, l[off]? = some z ∧ K undefA (H.set i (.vec (.fp j (l.set off xo)) te ne))) → o.wpIn (FW ro) n P a w next Q := by
            rintro x xo e ex ⟨z, hz, hK⟩
            have hlt := (List.getElem?_eq_some_iff.1 hz).1
            obtain ⟨hnil, h0, ds, rest, hd, hb', hcap, hmx⟩ := vecOf hi (by simp [VC.svs]; exact hlt)
            have hdl := hd.length
            simp only [VC.svs, List.length_map] at hdl
            refine fin H ρ hh hp hN _ (.vec (.fp j (l.set off xo)) te ne) ds rest _ te hi ⟨hnil, rfl⟩ (fun _ h => h.2) h0 hb' (by rw [hone' e]; omega) rfl ?_ (by simp) (by simp) hK
            intro w' h2
            simp only [AO.R, hnil, Bool.false_eq_true, if_false]
            refine ⟨h0, _, rest, ?_, h2, by rw [← hcap]; simp [putL_eq], hmx⟩
            have := All2.putL hd off hcells
            rw [e, CV.cells, putL_one] at this
            simpa [VC.svs, ex, List.map_set] using this
          split at h
          · rename_i _ _ ; exact st none rfl rfl h
          · rename_i j' k
            split at h
            · rename_i hjj
              exact st (some k) rfl (by rw [Nat_beq hjj]; rfl) h
            · exact h.elim
          · rename_i m
            split at h
            · rename_i rows te1 cs te2 hj hm
              split at h
              · rename_i row hrow hte
                obtain ⟨z, hz, hK⟩ := h
                have e2 := Nat_beq hte
                subst e2
                have ecs := toPVs_map hrow
                subst ecs
                have hlt := (List.getElem?_eq_some_iff.1 hz).1
                obtain ⟨pm, hpm, ey⟩ : ∃ q, ρ[m]? = some q ∧ a.eval y = .pointer (some ⟨q.b, q.off + 0, none⟩) := R_ptr hy
                have hjl : j < ρ.length := by rw [hh.len]; exact (List.getElem?_eq_some_iff.1 hj).1
                obtain ⟨pj, hpj⟩ : ∃ q, ρ[j]? = some q := ⟨_, List.getElem?_eq_getElem hjl⟩
                obtain ⟨m0, f1, g1, g2⟩ := hh.absorb hj hm hpj hpm
                have hij : j ≠ i := fun e => by subst e; rw [hj] at hi; cases hi
                have him : m ≠ i := fun e => by subst e; rw [hm] at hi; cases hi
                have hil : i < H.length := (List.getElem?_eq_some_iff.1 hi).1
                obtain ⟨hnil, h0, ds, rest, hd, hb', hcap, hmx⟩ := vecOf hi (by simp [VC.svs]; exact hlt)
                have hdl := hd.length
                simp only [VC.svs, List.length_map] at hdl
                have hset : ((H.set m .gone).set j .gone ++ [AO.fam (rows ++ [row]) te1]).set i (.vec (.fp H.length (l.set off (some rows.length))) te ne) =
                    ((H.set m .gone).set j .gone).set i (.vec (.fp H.length (l.set off (some rows.length))) te ne) ++ [AO.fam (rows ++ [row]) te1] := by
                  rw [List.set_append_left _ _ (by simp; exact hil)]
                refine fin _ _ g1 (by rw [List.getElem?_append_left (by rw [hh.len]; exact hil)]; exact hp) (fun v vc H' ρ' w' k1 k2 k3 k4 => hN v vc H' ρ' w' k1 k2 (g2.trans k3) k4) (.vec (.fp j l) te ne) (.vec (.fp H.length (l.set off (some rows.length))) te ne) ds rest _ te
                  (by rw [List.getElem?_append_left (by simp; exact hil), List.getElem?_set_ne hij, List.getElem?_set_ne him]; exact hi) ⟨hnil, rfl⟩ (fun _ h => h.2) h0 hb' (by rw [hone' rfl]; omega) rfl ?_ (by simp) (by simp) (by rw [hset]; exact hK)
                intro w' h2
                simp only [AO.R, hnil, Bool.false_eq_true, if_false]
                refine ⟨h0, _, rest, ?_, h2, by rw [← hcap]; simp [putL_eq], hmx⟩
                have hpush : (ρ ++ [({ b := 0, bs := pj.bs ++ [pm.b] } : Pl)])[H.length]? = some { b := 0, bs := pj.bs ++ [pm.b] } := pushed hh.len
                have e3 : (a.eval y).cells.toList = [a.eval y] := by rw [ey]; rfl
                rw [e3, putL_one]
                have hnew : All2 (SV.R (ρ ++ [({ b := 0, bs := pj.bs ++ [pm.b] } : Pl)])) (l.map (optSV H.length)) ds := by
                  simp only [VC.svs] at hd
                  refine All2.of_get (by simpa using hdl) fun q x u hx hu => ?_
                  obtain ⟨x', hx', hR⟩ := hd.get' hu
                  simp only [List.getElem?_map, Option.map_eq_some_iff] at hx hx'
                  obtain ⟨z1, hz1, rfl⟩ := hx
                  obtain ⟨z2, hz2, rfl⟩ := hx'
                  rw [hz1] at hz2
                  cases hz2
                  cases z1 with
                  | none => exact hR
                  | some k =>
                    obtain ⟨q1, b1, hq1, hb1, rfl⟩ := hR
                    rw [hpj] at hq1
                    cases hq1
                    exact ⟨_, b1, hpush, by rw [List.getElem?_append_left (List.getElem?_eq_some_iff.1 hb1).1]; exact hb1, rfl⟩
                have := All2.set hnew off (x := optSV H.length (some rows.length)) (y := a.eval y) ⟨_, pm.b, hpush, by rw [← f1]; simp, by rw [ey, m0]⟩
                simpa [VC.svs, List.map_set] using this
              · exact h.elim
            · exact h.elim
          · exact h.elim
        · exact h.elim
      · exact h.elim
    · exact h.elim
  | buildSlice ty len parts =>
    rw [ho] at h
    simp only [actA] at h
    have hps : All2 (fun (p : Nat × AV) (q : Nat × Value) => p.1 = q.1 ∧ p.2.R ρ q.2) (parts.toList.map fun p => (p.1, evA t p.2)) (parts.map fun (i, x) => (i, a.eval x)).toList := by
      rw [Array.toList_map]
      generalize parts.toList = l
      induction l with
      | nil => trivial
      | cons x l ih => exact ⟨⟨rfl, ht.eval x.2⟩, ih⟩
    split at h
    · rename_i hk
      obtain ⟨h1, hke⟩ := TIOk.slice hT hk
      obtain ⟨z, hz1, hz2, hz3⟩ := (hT _ hke).zeroV w
      have hpos := (hT _ hke).pos
      split at h
      · rename_i hlim
        split at h
        · rename_i l hl
          have hzf : All2 (SV.R ρ) (repL len (T (T ty).elem).zero) ((Array.range (len * (T (T ty).elem).sz)).map (z.cells[· % z.cells.size]!)).toList := by
            rw [← hz3]; exact zero_fill len _ _ (litsR_R hz2 ρ) (.inr (by rw [hz3]; exact hpos))
          obtain ⟨cs', h3, h4⟩ := fillE_sound (ρ := ρ) hps hzf hl
          obtain ⟨g1, g2⟩ := new_cells hh (T ty).elem h4
          refine wpIn_value (by simp [ho]) (vc := .slice (some ⟨w.heap.size, 0, none⟩) len len) (w' := { w with heap := w.heap.push (.cells cs'.toList.toArray (T ty).elem) }) ?_ (hN _ _ _ _ _ h ⟨_, _, len, pushed hh.len, rfl, Nat.le_refl _, fun _ => rfl, fun h => by cases h⟩ g2 g1)
          simp only [Bool.and_eq_true] at hlim
          have hlim' : len * (T (T ty).elem).sz ≤ 2 ^ 24 := Nat.le_of_ble_eq_true hlim.1
          have hlen0 : 0 < len := Nat.le_of_ble_eq_true hlim.2
          have h5 : ¬ (2 ^ 24 < len * (T (T ty).elem).sz) := by omega
          simp only [Array.toList_map] at h3
          simp only [execOp, ho]
          have h6 : ¬ (len * (T (T ty).elem).sz = 0) := Nat.mul_ne_zero (by omega) (by omega)
          simp [Instr.buildSlice, run_underlying h1, size_elem hT hke, h5, h6, hz1, h3, newRow]
        · exact h.elim
      · exact h.elim
    · exact h.elim
  | makeMap ty r =>
    rw [ho] at h
    simp only [actA] at h
    split at h
    · rename_i hk
      obtain ⟨g1, g2⟩ := hh.push (p := { b := w.heap.size }) (o := .m64 []) (obj := .map #[] 0) (w' := { w with heap := w.heap.push (.map #[] 0) }) rfl rfl rfl rfl rfl
        ⟨by simp, #[], 0, by simp, ⟨[], .refl _, trivial⟩, by simp, by simp⟩ (fun _ h => h) (fun _ _ h => by cases h)
      refine wpIn_value (by simp [ho]) (vc := .map (some w.heap.size)) ?_ (hN _ _ _ _ _ h ⟨_, pushed hh.len, rfl⟩ g2 g1)
      simp [execOp, ho, Instr.makeMap]
    · exact h.elim
  | range ty x =>
    rw [ho] at h
    simp only [actA] at h
    have hx := ht.eval x
    split at h
    · rename_i i hk hx'
      rw [hx'] at hx
      obtain ⟨p, hp, e⟩ : ∃ p, ρ[i]? = some p ∧ a.eval x = .map (some p.b) := hx
      obtain ⟨kt, et, hu, _⟩ := TIOk.map64 hT hk
      split at h
      · rename_i l hl
        obtain ⟨hnd, es, clock, hb, hent, h3, h4⟩ := hh.rep i _ p hl hp
        have hlt := (Array.getElem?_eq_some_iff.1 hb).1
        have hne : p.b ≠ w.heap.size := by omega
        obtain ⟨g1, g2⟩ := hh.push (p := { b := w.heap.size }) (o := .it64 i (l, [])) (obj := .mapIter (some p.b) clock #[] clock) (w' := { w with heap := w.heap.push (.mapIter (some p.b) clock #[] clock) }) rfl rfl rfl rfl rfl
          ⟨rfl, p, #[], clock, es, by rw [List.getElem?_append_left (by rw [hh.len]; exact (List.getElem?_eq_some_iff.1 hl).1)]; exact hp, by simp, by
            rw [Array.getElem?_push, if_neg hne]; exact hb, by
              have : (es.toList.filter fun e => !(#[] : Array Nat).contains e.born) = es.toList := by simp [List.filter_eq_self]
              rw [this]; exact ⟨hent, trivial⟩⟩ (fun _ h => h) (fun m todo h => by cases h; exact ⟨l, hl⟩)
        refine wpIn_value (by simp [ho]) (vc := .pointer (some ⟨w.heap.size, 0, none⟩)) ?_ (hN _ _ _ _ _ h ⟨_, pushed hh.len, rfl⟩ g2 g1)
        simp [execOp, ho, e, Instr.range, run_underlying hu, getObj, Sem.run, hb]
      · exact h.elim
    · exact h.elim
  | mapUpdate ty m k x =>
    rw [ho] at h
    simp only [actA] at h
    have hm := ht.eval m
    have hk := ht.eval k
    have hx := ht.eval x
    split at h
    · rename_i i n v hkd hm' hk' hx'
      rw [hm'] at hm
      rw [hk'] at hk
      rw [hx'] at hx
      obtain ⟨p, hp, e⟩ : ∃ p, ρ[i]? = some p ∧ a.eval m = .map (some p.b) := hm
      have ek : a.eval k = .int .u64 n := hk
      have ex : a.eval x = .int .u64 v := hx
      obtain ⟨kt, et, hu, hku, _⟩ := TIOk.map64 hT hkd
      split at h
      · rename_i l hl hni
        obtain ⟨hnd, es, clock, hb, hent, hc, hd⟩ := hh.rep i _ p hl hp
        have hlt := (Array.getElem?_eq_some_iff.1 hb).1
        obtain ⟨es', clock', hr, g3, g4, g5⟩ := run_update64 (P := P) hu hku hb hent hnd hc hd n v
        obtain ⟨g1, g2⟩ := hh.turn (o' := .m64 (mputL l n v)) (w' := { w with heap := w.heap.setIfInBounds p.b (.map es' clock') }) hl hp rfl (fun _ h => h) (by simp)
          (fun b hb' => by simp [Array.getElem?_setIfInBounds, Ne.symm hb']) rfl rfl rfl ⟨mput_nodup hnd n v, es', clock', by simp [hlt], g3, g4, g5⟩ (fun m todo h => by cases h)
          (fun _ => ⟨⟨_, rfl⟩, noIter_spec hni⟩)
        exact wpIn_skipV (by simp [ho]) (by simp [execOp, ho, e, ek, ex, hr]) (hN _ _ _ _ _ h (undefA_R ρ) g2 g1)
      · exact h.elim
    · exact h.elim
  | next it str =>
    rw [ho] at h
    have hit := ht.eval it
    cases str with
    | true => exact h.elim
    | false =>
    simp only [actA] at h
    split at h
    · rename_i i hi'
      rw [hi'] at hit
      obtain ⟨p, hp, e⟩ := R_ptr hit
      split at h
      · rename_i m todo hi
        obtain ⟨hp0, q, seen, clock, es, hq, hb, hbm, hent, hcur⟩ := hh.rep i _ p hi hp
        obtain ⟨l, hl⟩ := hh.iter i m todo hi
        obtain ⟨_, es2, clock2, hbm2, _, hc2, hd2⟩ := hh.rep m _ q hl hq
        rw [hbm] at hbm2
        cases hbm2
        have hlt := (Array.getElem?_eq_some_iff.1 hb).1
        obtain ⟨hk0, hks⟩ := h
        have hoff : p.off + 0 = 0 := by rw [hp0]
        rcases run_next64 (P := P) (w := w) (ty := o.type) hb hbm hent hc2 hd2 with ⟨h0, hr⟩ | ⟨k, v, seen', rest, w1, hperm, hw1, hr, hent', hcur'⟩
        · exact wpIn_value (by simp [ho]) (vc := .tuple #[.bool false]) (by simp only [execOp, ho, e, hoff]; simp [hr]) (hN _ _ _ _ _ (hk0 h0) ⟨[_], ⟨rfl, trivial⟩, rfl⟩ (Ext.refl _ _ _) hh)
        · have hnem : i ≠ m := by intro e; subst e; rw [hi] at hl; cases hl
          obtain ⟨g1, g2⟩ := hh.turn (o' := .it64 m (rest, [(k, v)])) (w' := { w1 with heap := w.heap.setIfInBounds p.b (.mapIter (some q.b) clock seen' clock) }) hi hp rfl (fun _ h => h) (by simp)
            (fun b hb' => by simp [Array.getElem?_setIfInBounds, Ne.symm hb']) hw1.2.1 hw1.2.2.1 hw1.2.2.2
            ⟨hp0, q, seen', clock, es, hq, by simp [hlt], by
              have : q.b ≠ p.b := by intro e; rw [e] at hbm; rw [hb] at hbm; cases hbm
              simp [Array.getElem?_setIfInBounds, Ne.symm this, hbm], hent', hcur'⟩ (fun m' todo' h => by cases h; exact ⟨l, hl, Ne.symm hnem⟩) (fun ⟨l, h⟩ => by cases h)
          exact wpIn_value (by simp [ho]) (vc := .tuple #[.bool true, .int .u64 k, .int .u64 v]) (by simp only [execOp, ho, e, hoff]; simp [hr]) (hN _ _ _ _ _ (hks (k, v) rest hperm) ⟨[_, _, _], ⟨rfl, rfl, rfl, trivial⟩, rfl⟩ g2 g1)
      · exact h.elim
    · exact h.elim
  | makeSlice ty l c =>
    rw [ho] at h
    simp only [actA] at h
    have hl := ht.eval l
    have hc := ht.eval c
    split at h
    · rename_i k1 n1 k2 n2 hk hl' hc'
      rw [hl'] at hl
      rw [hc'] at hc
      have el := R_int hl
      have ec := R_int hc
      obtain ⟨h1, hke⟩ := TIOk.slice hT hk
      obtain ⟨inf, z0, hi1, hi2, hi3, _⟩ := (hT _ hke).inf
      obtain ⟨z, hz1, hz2, hz3⟩ := (hT _ hke).zeroV w
      have hpos := (hT _ hke).pos
      have hposb := (hT _ hke).posb
      have fin : ∀ vcs : VC, (repL n1.toNat (T (T ty).elem).zero = vcs.svs) → n1 = n2 → 0 ≤ n1 → n1 * ((T (T ty).elem).bytes : Int) ≤ 140737488355328 →
          K (sv (.vec H.length n1.toNat)) (H ++ [.vec vcs (T ty).elem (T (T ty).elem).sz]) → o.wpIn (FW ro) n P a w next Q := by
        intro vcs hvcs he h0 hle hK
        subst he
        have hn63 : n1 ≤ 140737488355328 := by
          have : n1 * 1 ≤ n1 * ((T (T ty).elem).bytes : Int) := Int.mul_le_mul_of_nonneg_left (by omega) h0
          omega
        have hw : IntKind.i64.wrap n1 = n1 := IntWalk.i64_in n1 (by constructor <;> omega)
        have hcells := zero_fill (ρ := ρ) n1.toNat _ _ (litsR_R hz2 ρ) (.inr (by rw [hz3]; exact hpos))
        rw [hvcs] at hcells
        have hnb : ¬ (281474976710656 : Int) < (T (T ty).elem).bytes * n1 := by rw [Int.mul_comm]; omega
        obtain ⟨g1, g2⟩ := hh.push (p := { b := w.heap.size, cap := n1.toNat }) (o := .vec vcs (T ty).elem (T (T ty).elem).sz)
          (obj := .cells ((Array.range (n1.toNat * z.cells.size)).map (z.cells[· % z.cells.size]!)) (T ty).elem) (w' := { w with heap := w.heap.push (.cells ((Array.range (n1.toNat * z.cells.size)).map (z.cells[· % z.cells.size]!)) (T ty).elem) }) rfl rfl rfl rfl rfl
          ⟨rfl, _, [], hcells.mono (fun _ _ => SV.R.ext (List.prefix_append _ _)), by simp; apply Array.ext'; simp, by simp [hz3], by simp only [maxLen]; omega⟩ (fun _ h => h.2) (fun _ _ h => by cases h)
        refine wpIn_value (by simp [ho]) (vc := .slice (some ⟨w.heap.size, 0, none⟩) n1.toNat n1.toNat) ?_ (hN _ _ _ _ _ hK ⟨_, pushed hh.len, .inr ⟨rfl, rfl, Nat.le_refl _, rfl⟩⟩ g2 g1)
        have hn0 : ¬ n1 < 0 := by omega
        simp only [execOp, ho, el, ec]
        by_cases hz0 : n1.toNat * (T (T ty).elem).sz = 0
        · have hr : Array.range 0 = #[] := rfl
          simp [Instr.makeSlice, run_underlying h1, asInt, asIntOf, typeInfo, hi1, hi3, hw, hn0, hnb, size_elem hT hke, newRow, hz3, hz0, hr]
        · simp [Instr.makeSlice, run_underlying h1, asInt, asIntOf, typeInfo, hi1, hi3, hw, hn0, hnb, size_elem hT hke, hz1, newRow, hz3, hz0]
      split at h
      · rename_i zs hzs
        obtain ⟨e, h0, hle, hK⟩ := h
        exact fin (.pv (repP n1.toNat zs)) (by rw [toPVs_map hzs, repP_map]; rfl) e h0 hle hK
      · rename_i _ hzs
        obtain ⟨e, h0, hle, hK⟩ := h
        exact fin (.fp (H.length + 1) (List.replicate n1.toNat none)) (by rw [hzs]; exact repO_map _ _) e h0 hle hK
      · exact h.elim
    · exact h.elim
  | call c =>
    rw [ho] at h
    simp only [actA] at h
    split at h
    · rename_i f hc
      have hf := ht.eval f
      split at h
      · rename_i g caps hg
        rw [hg] at hf
        obtain ⟨cs, hcs, ef⟩ := hf
        obtain ⟨R, hAC, hR⟩ := h
        obtain ⟨⟨fn, hfn, hname, hbody⟩, hcall⟩ := hAC
        have hargs := map_eval ht c.args.toList
        have hcaps : All2 (AV.R ρ) (caps.map fun i => sv (.ptr i 0)) cs := All2.map_left.2 (hcs.mono fun i u ⟨p, hp, e⟩ => ⟨p, hp, by rw [e]; rfl⟩)
        have hex : (execOp a.eval o).run P w = .ok (.enter g ((c.args.toList.map a.eval) ++ cs).toArray) w := by
          have hb : ¬ fn.body = none := by intro hq; rw [hq] at hbody; cases hbody
          have hn' : ¬ fn.name = "runtime.NumGoroutine" := by simpa using hname
          have harr : c.args.map a.eval ++ cs.toArray = ((c.args.toList.map a.eval) ++ cs).toArray := by apply Array.ext'; simp
          simp only [execOp, ho]
          simp [resolve, hc, ef, Deferred.ofValue, invoke, callFunc, hfn, hn', hb, harr]
        refine ⟨fun _ _ => trivial, ?_⟩
        rw [Oper.semAt_eq _ _ _ (by simp [ho]), hex]
        refine ⟨fun hd => by simp [FW] at hd, ?_⟩
        refine callsIn_FW.2 (Calls.mono (hcall ρ w _ hh (hargs.append hcaps)) ?_)
        rintro e w' ⟨r, rc, H', ρ', rfl, hr, hrc, hext, hh'⟩
        exact hN _ _ _ _ _ (hR r H' hr) hrc hext hh'
      · rename_i i hg
        rw [hg] at hf
        obtain ⟨p, hp, ef⟩ : ∃ p, ρ[i]? = some p ∧ a.eval f = .func (.yield p.b) #[] #[] := hf
        obtain ⟨R, hYC, hR⟩ := h
        have hargs := map_eval ht c.args.toList
        obtain ⟨g, tmps, assign, body, hy, hround⟩ := hYC ρ w _ p hh hargs hp
        have hex : (execOp a.eval o).run P w = .ok (.round p.b g tmps assign body) w := by
          have harr : c.args.map a.eval = (c.args.toList.map a.eval).toArray := by apply Array.ext'; simp
          simp only [execOp, ho]
          simp only [harr, resolve, hc, ef, Deferred.ofValue, invoke, Sem.run_bind, Sem.run_pure, Result.andThen_ok]
          simpa using hy
        refine ⟨fun _ _ => trivial, ?_⟩
        rw [Oper.semAt_eq _ _ _ (by simp [ho]), hex]
        refine ⟨fun hd => by simp [FW] at hd, ?_⟩
        refine RoundIn.mono (hround ro (n - 1)) ?_
        rintro e w' ⟨r, rc, H', ρ', rfl, hr, hrc, hext, hh'⟩
        exact hN _ _ _ _ _ (hR r H' hr) hrc hext hh'
      · exact h.elim
    · rename_i hc
      have hargs := map_eval ht c.args.toList
      split at h
      · rename_i s x ty ty2 hx hty
        rw [hx] at hargs
        obtain ⟨y, y', hy, g1, g2⟩ := all2_two hargs
        have harg : c.args.map a.eval = #[y, y'] := by apply Array.ext'; simpa using hy
        split at h
        · rename_i hk hty2
          obtain ⟨m, new, ys, h, g2, g3⟩ := contA_sound hh g2 h
          have e2 := Nat_beq hty2
          subst e2
          have hty' : c.argTypes = #[ty, ty] := by apply Array.ext'; simpa using hty
          obtain ⟨h1, hke⟩ := TIOk.slice hT hk
          have hpos := (hT _ hke).pos
          have run : ∀ {v v' : Value} {w' : World}, y = v → (Builtin.append_ #[ty, ty] o.type #[v, y']).run P w = .ok v' w' → (execOp a.eval o).run P w = .ok (.value v') w' := by
            intro v v' w' e hr
            subst e
            simp only [execOp, ho]
            simp [resolve, hc, invoke, harg, builtin, hty', hr]
          split at h
          · obtain ⟨hlen, hb, hK⟩ := h
            have ev : y = .slice none 0 0 := g1
            obtain ⟨v', w', r1, r3, r4, r5⟩ := append_run (P := P) (ty := o.type) hT hh hk (n := 0) (xc := []) (World.ownsRow_nil w 0 _ _) g2 g3 hlen (by simpa [realE] using hb)
            obtain ⟨p, q1, q2, q3⟩ := append_holds (v := .slice none 0 0) (xs := new) hh (Ext.refl H ρ w) (fun g hg => by cases hg) (by simpa using r3) r4 (by simpa using g2) r5
            exact wpIn_value (by simp [ho]) (run ev r1) (hN _ _ _ _ _ hK q3 q2 q1)
          · rename_i i n _
            split at h
            · rename_i old te ne hi
              split at h
              · rename_i cc hbq hcc
                simp only [Bool.and_eq_true] at hbq
                have e3 := Nat_beq hbq.1
                have e4 := Nat_beq hbq.2
                subst e3
                subst e4
                obtain ⟨hlo, hlen, hb, hK⟩ := h
                obtain ⟨p, hp, hcase⟩ : ∃ p, ρ[i]? = some p ∧ _ := g1
                have hrep := hh.rep i _ p hi hp
                obtain ⟨hd1, hd2⟩ := hh.drop i (fun l e => by rw [hi] at e; cases e)
                have hccs : cc.svs = old.svs ++ new.svs := vapp_svs hcc
                have hown : ∃ xc : List Value, All2 (SV.R ρ) old.svs xc ∧ w.ownsRow 0 (T ty).elem (T (T ty).elem).sz y n xc ∧ ∀ g, y.ownBlock = some g → (AO.vec old (T ty).elem (T (T ty).elem).sz).own p g := by
                  rcases hcase with ⟨n1, n2, rfl⟩ | ⟨n1, n2, n3, rfl⟩
                  · simp only [AO.R, n1, if_true] at hrep
                    subst n2
                    exact ⟨[], by rw [hrep]; trivial, World.ownsRow_nil w 0 _ _, fun g hg => by cases hg⟩
                  · simp only [AO.R, n1, Bool.false_eq_true, if_false] at hrep
                    obtain ⟨q0, cs, rest, q1, q2, q3, q4⟩ := hrep
                    have hcl : cs.length = n * (T (T ty).elem).sz := by rw [← q1.length]; exact hlo
                    refine ⟨cs, q1, ⟨hcl, .inr ⟨p.b, p.cap, _, rfl, Nat.zero_le _, q2, n3, q4, by simpa using q3, ?_⟩⟩, fun g hg => ?_⟩
                    · rw [← hcl]; simp
                    · simp only [Value.ownBlock, Option.some.injEq] at hg
                      exact ⟨n1, hg.symm⟩
                obtain ⟨xc, x1, x2, x3⟩ := hown
                obtain ⟨v', w', r1, r3, r4, r5⟩ := append_run (P := P) (ty := o.type) hT hh hk x2 g2 g3 hlen (by simpa [realE] using hb)
                obtain ⟨p', q1, q2, q3⟩ := append_holds (v := y) (xs := cc) hd1 hd2 (fun g hg => by
                  have hbk := x3 g hg
                  refine ⟨⟨i, _, p, hi, hp, hbk⟩, ?_⟩
                  rintro ⟨j, o2, p2, z1, z2, z3⟩
                  rcases get_set z1 with ⟨_, _, rfl⟩ | ⟨hij, z1⟩
                  · exact z3
                  · exact hij (hh.apart i j _ _ _ _ g hi hp z1 z2 hbk z3)) r3 r4 (by rw [hccs]; exact x1.append g2) r5
                rw [List.length_set] at q3
                exact wpIn_value (by simp [ho]) (run rfl r1) (hN _ _ _ _ _ hK q3 q2 q1)
              · exact h.elim
            · exact h.elim
          · exact h.elim
        · exact h.elim
      · exact h.elim
    · rename_i hc
      have hargs := map_eval ht c.args.toList
      split at h
      · rename_i i n ty tys hx hty
        rw [hx] at hargs
        obtain ⟨y, y', hy, g1, g2⟩ := all2_two hargs
        obtain ⟨p, hp, e1⟩ : ∃ p, ρ[i]? = some p ∧ y = .map (some p.b) := g1
        have e2 : y' = .int .u64 n := g2
        have harg : c.args.map a.eval = #[y, y'] := by apply Array.ext'; simpa using hy
        have hty' : c.argTypes[0]? = some ty := by rw [← Array.getElem?_toList, hty]; rfl
        split at h
        · rename_i l hk hl hni
          obtain ⟨kt, et, hu, hku, _⟩ := TIOk.map64 hT hk
          obtain ⟨hnd, es, clock, hb, hent, hcl, hd⟩ := hh.rep i _ p hl hp
          have hlt := (Array.getElem?_eq_some_iff.1 hb).1
          obtain ⟨es', hr, g3, g4, g5⟩ := run_delete64 (P := P) (ty := o.type) hty' hu hku hb hent hnd hcl hd n
          obtain ⟨g6, g7⟩ := hh.turn (o' := .m64 (mdelL l n)) (w' := { w with heap := w.heap.setIfInBounds p.b (.map es' clock) }) hl hp rfl (fun _ h => h) (by simp)
            (fun b hb' => by simp [Array.getElem?_setIfInBounds, Ne.symm hb']) rfl rfl rfl ⟨mdel_nodup hnd n, es', clock, by simp [hlt], g3, g4, g5⟩ (fun m todo h => by cases h)
            (fun _ => ⟨⟨_, rfl⟩, noIter_spec hni⟩)
          refine wpIn_value (by simp [ho]) (vc := .tuple #[]) ?_ (hN _ _ _ _ _ h (undefA_R ρ) g7 g6)
          simp only [execOp, ho]
          simp [resolve, hc, invoke, harg, builtin, e1, e2, hr]
        · exact h.elim
      · exact h.elim
    · exact h.elim
  | _ => rw [ho] at h; exact h.elim
end
end Bm
