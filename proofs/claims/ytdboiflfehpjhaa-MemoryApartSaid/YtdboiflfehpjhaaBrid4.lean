/- The law of memory: from the walk to the given statement. -/
import Derived.Test.YtdboiflfehpjhaaRows
import Derived.Test.YtdboiflfehpjhaaLaw4e
import Derived.ProofKit
import Derived.Deep.Slices
import Derived.Deep.Fields
import Derived.ChangeSame
set_option linter.unusedVariables false
set_option linter.unusedSimpArgs false
namespace Go.Proofs.Ytdboiflfehpjhaa.lawMemory
open Go Am Go.Proofs.Try Go.ChangeShapes Go.WideShapes Go.Deep Go.RowKit
theorem own : ownKnob Try.prog.godebug = none := by kernel_rfl
theorem laidOut : laidOutB Try.prog = true := by kernel_rfl
section
variable {H : Type} {enc : TypeId × Value → H} {P : Program} {w : World} {base : Nat} {spare : Nat → Bool} {held : Bool}
theorem open_fields {t e : TypeId} {fs : Array Field} {fuel : Nat} {cs : List Value} {x : DataW H × List MemPlace} (ht : P.underlying t = some (.slice e)) (he : P.underlying e = some (.struct fs))
    (hone : oneCellFields P fs = true) (hC : P.cellsOf e = fs.size) (h : DataW.trod enc P w base spare held fuel t cs = some x) :
    cs = [.slice none 0 0] ∨
    ∃ (a : Addr) (len cap : Nat), cs = [.slice (some a) len cap] ∧ len ≤ cap ∧
      ∀ i, i < len → ∀ (j : Nat) (f : Field), fs[j]? = some f → ∃ (v : Value) (y : DataW H × List MemPlace) (n : Nat), w.cell? (a.add (i * fs.size + j)) = some v ∧ DataW.trod enc P w base spare held n f.type [v] = some y := by
  rcases open_slice ht h with ⟨h0, _⟩ | ⟨a, len, cap, m, n, D, Pl, hcs, hb, hl, hm, hmm, hx, hi⟩
  · exact .inl h0
  · refine .inr ⟨a, len, cap, hcs, hl, fun i him j f hj => ?_⟩
    obtain ⟨cs', hc, ht'⟩ := hi i (by rw [hmm]; split <;> omega)
    rw [hC] at hc
    obtain ⟨ys, n', hn', hy, hlen, hyl, hf⟩ := DataW.trod_struct he ht'
    obtain ⟨_, hcl, hat⟩ := World.cells?_some hc
    obtain ⟨ho, hk⟩ := hone_of hone j f hj
    have hjl : j < fs.size := (Array.getElem?_eq_some_iff.1 hj).1
    have hcell := hat j hjl
    have hv : cs'[j]? = some (cs'[j]'(by omega)) := List.getElem?_eq_getElem (by omega)
    have h1 := hf j f hj
    rw [ho, hk] at h1
    have hone' : (cs'.drop j).take 1 = [cs'[j]'(by omega)] := by
      rw [List.drop_eq_getElem_cons (by omega)]
      rfl
    rw [hone'] at h1
    have hys : ys[j]? = some (ys[j]'(by omega)) := List.getElem?_eq_getElem (by omega)
    refine ⟨_, _, n', ?_, h1.trans hys⟩
    rw [← Go.Deep.add_add, hcell, hv]
end
def vcells (l : List Deed) : List Value := l.flatMap fun d => [.int .i64 d.k, .int .u64 d.a, .int .u64 d.v, .int .u64 d.n]
theorem vcells_R (ρ : Rho) (l : List Deed) : All2 (SV.R ρ) (dcells l) (vcells l) := by
  induction l with
  | nil => trivial
  | cons d l ih => exact ⟨rfl, rfl, rfl, rfl, ih⟩
theorem vcells_get : ∀ {l : List Deed} {j : Nat} {u : Value}, (vcells l)[j]? = some u → ∃ (i r : Nat) (d : Deed), l[i]? = some d ∧ j = i * 4 + r ∧ [Value.int .i64 d.k, .int .u64 d.a, .int .u64 d.v, .int .u64 d.n][r]? = some u
  | [], j, u, h => by simp [vcells] at h
  | d :: l, 0, u, h => ⟨0, 0, d, rfl, rfl, h⟩
  | d :: l, 1, u, h => ⟨0, 1, d, rfl, rfl, h⟩
  | d :: l, 2, u, h => ⟨0, 2, d, rfl, rfl, h⟩
  | d :: l, 3, u, h => ⟨0, 3, d, rfl, rfl, h⟩
  | d :: l, j + 4, u, h => by
    obtain ⟨i, r, e, h1, h2, h3⟩ := vcells_get (l := l) (j := j) (u := u) h
    exact ⟨i + 1, r, e, by simpa using h1, by omega, h3⟩
theorem wf_R64 {n : Int} (h : (Lit.int .u64 n).wf = true) : R64 n := by
  simp [Lit.wf] at h
  have h1 : IntKind.u64.min = 0 := by decide
  have h2 : IntKind.u64.max = 18446744073709551615 := by decide
  rw [h1, h2] at h
  exact ⟨h.1, by omega⟩
theorem deeds {H : Type} {enc : TypeId × Value → H} {w : World} {base : Nat} {spare : Nat → Bool} {held : Bool} {fuel : Nat} {cs : List Value} {x : DataW H × List MemPlace} (h : DataW.trod enc Try.prog w base spare held fuel 22 cs = some x) :
    cs = [.slice none 0 0] ∨ ∃ (a : Addr) (cap : Nat) (ds : List Deed), cs = [.slice (some a) ds.length cap] ∧ ds.length ≤ cap ∧ (∀ d ∈ ds, R64 d.a ∧ R64 d.v ∧ R64 d.n) ∧
      ∀ j u, (vcells ds)[j]? = some u → w.cell? (a.add j) = some u := by
  rcases open_fields Try.underlying22 Try.underlying33 (by kernel_rfl) (by kernel_rfl) h with h0 | ⟨a, len, cap, hcs, hle, hi⟩
  · exact .inl h0
  · have one : ∀ i, ∃ d : Deed, i < len → (R64 d.a ∧ R64 d.v ∧ R64 d.n) ∧ w.cell? (a.add (i * 4 + 0)) = some (.int .i64 d.k) ∧ w.cell? (a.add (i * 4 + 1)) = some (.int .u64 d.a) ∧
        w.cell? (a.add (i * 4 + 2)) = some (.int .u64 d.v) ∧ w.cell? (a.add (i * 4 + 3)) = some (.int .u64 d.n) := by
      intro i
      by_cases him : i < len
      · obtain ⟨v0, y0, n0, c0, t0⟩ := hi i him 0 _ rfl
        obtain ⟨v1, y1, n1, c1, t1⟩ := hi i him 1 _ rfl
        obtain ⟨v2, y2, n2, c2, t2⟩ := hi i him 2 _ rfl
        obtain ⟨v3, y3, n3, c3, t3⟩ := hi i him 3 _ rfl
        obtain ⟨q0, e0, _, w0⟩ := DataW.trod_int Try.underlying3 t0
        obtain ⟨q1, e1, _, w1⟩ := DataW.trod_int Try.underlying23 t1
        obtain ⟨q2, e2, _, w2⟩ := DataW.trod_int Try.underlying23 t2
        obtain ⟨q3, e3, _, w3⟩ := DataW.trod_int Try.underlying23 t3
        simp only [List.cons.injEq, and_true] at e0 e1 e2 e3
        subst e0; subst e1; subst e2; subst e3
        exact ⟨⟨q0, q1, q2, q3⟩, fun _ => ⟨⟨wf_R64 w1, wf_R64 w2, wf_R64 w3⟩, c0, c1, c2, c3⟩⟩
      · exact ⟨⟨0, 0, 0, 0⟩, fun h => absurd h him⟩
    obtain ⟨f, hf⟩ := Classical.skolem.1 one
    refine .inr ⟨a, cap, (List.range len).map f, by simpa using hcs, by simpa using hle, fun d hd => ?_, fun j u hj => ?_⟩
    · obtain ⟨i, hi1, rfl⟩ := List.mem_map.1 hd
      exact (hf i (List.mem_range.1 hi1)).1
    · obtain ⟨i, r, d, h1, rfl, h3⟩ := vcells_get hj
      simp only [List.getElem?_map, Option.map_eq_some_iff] at h1
      obtain ⟨k, hk, rfl⟩ := h1
      have hkl : i < len := by have := (List.getElem?_eq_some_iff.1 hk).1; simpa using this
      have hki : k = i := by have := (List.getElem?_eq_some_iff.1 hk).2; simpa using this.symm
      subst hki
      obtain ⟨_, c0, c1, c2, c3⟩ := hf k hkl
      match r, h3 with
      | 0, h3 => simp at h3; rw [← h3]; exact c0
      | 1, h3 => simp at h3; rw [← h3]; exact c1
      | 2, h3 => simp at h3; rw [← h3]; exact c2
      | 3, h3 => simp at h3; rw [← h3]; exact c3
      | r + 4, h3 => simp at h3
theorem below_of {ds : List Deed} {ρ ρ' : Rho} {W W' : World} {p : Pl} (hρ : ρ = [p]) (hh : Holds [.ro (dcells ds)] ρ W) (hh' : Holds [.ro (dcells ds)] ρ' W') (hx : Ext [.ro (dcells ds)] ρ W [.ro (dcells ds)] ρ' W') : Below W.heap.size W W' := by
  subst hρ
  refine ⟨hx.os, hx.tape, hx.output, hx.size, fun k hk => ?_⟩
  by_cases hown : Owned [.ro (dcells ds)] [p] k
  · obtain ⟨i, o, q, h1, h2, h3⟩ := hown
    cases i with
    | zero =>
      simp at h1 h2
      subst h1
      subst h2
      have hρ' : ρ'[0]? = some p := by
        obtain ⟨r, hr⟩ := hx.pre
        rw [← hr]
        rfl
      obtain ⟨_, _, g1, _⟩ := hh.rep 0 _ p rfl rfl
      obtain ⟨_, _, g2, _⟩ := hh'.rep 0 _ p rfl hρ'
      simp only [AO.blk] at h3
      split at h3
      · cases h3
      · rename_i hn
        cases h3
        have hn' : (dcells ds).isEmpty = false := by simpa using hn
        rw [(g1 hn').2, (g2 hn').2]
    | succ i => simp at h1
  · exact hx.frame k hk hown
theorem walk_of {Inv : List (Int × Int) → List (Int × Int) → Prop} (hP : Plain4 Inv) {H : Type} {enc : TypeId × Value → H} (a0 : Option Addr) (len cap : Nat) (a1 : Int) (W : World) {base : Nat} {spare : Nat → Bool} {held : Bool} (fuel : Nat) {x : DataW H × List MemPlace}
    (hf : DataW.trod enc Try.prog W base spare held fuel 22 [.slice a0 len cap] = some x) (ha : R64 a1) :
    Calls Try.prog 3 #[.slice a0 len cap, .int .u64 a1] W fun e W' => e = .returned (.bool true) ∧ Below W.heap.size W W' := by
  have key : ∀ (ds : List Deed) (p : Pl), (∀ d ∈ ds, R64 d.a ∧ R64 d.v ∧ R64 d.n) → Holds [.ro (dcells ds)] [p] W → (sv (.sl 0 0 ds.length)).R [p] (.slice a0 len cap) →
      Calls Try.prog 3 #[.slice a0 len cap, .int .u64 a1] W fun e W' => e = .returned (.bool true) ∧ Below W.heap.size W W' := by
    intro ds p hds hh hv
    refine Calls.mono ((ac3 hP ds hds a1 ha).2 [p] W [.slice a0 len cap, .int .u64 a1] hh ⟨hv, rfl, trivial⟩) ?_
    rintro e W' ⟨r, rc, H', ρ', rfl, ⟨rfl, rfl⟩, hr, hx, hh'⟩
    have : rc = .bool true := hr
    subst this
    exact ⟨rfl, below_of rfl hh hh' hx⟩
  have empty : ∀ p : Pl, Holds [.ro (dcells [])] [p] W := fun p => by
    refine ⟨rfl, fun i o q h1 h2 => ?_, fun i m todo h1 => ?_, fun i j o o' q q' b h1 h2 h3 h4 h5 h6 => ?_⟩
    · cases i with
      | zero => simp at h1; subst h1; exact ⟨[], trivial, fun h => by simp [dcells] at h, fun j v hj => by simp at hj⟩
      | succ i => simp at h1
    · cases i with
      | zero => simp at h1
      | succ i => simp at h1
    · cases i with
      | zero => simp at h1; subst h1; simp [AO.blk, dcells] at h5
      | succ i => simp at h1
  rcases deeds hf with h | ⟨a, cp, ds, h, hle, hds, hc⟩
  · simp only [List.cons.injEq, Value.slice.injEq, and_true] at h
    obtain ⟨rfl, rfl, rfl⟩ := h
    exact key [] { b := 0 } (fun d hd => by cases hd) (empty _) ⟨_, none, 0, rfl, rfl, Nat.le_refl _, fun h => absurd h (Nat.lt_irrefl _), fun _ => rfl⟩
  · simp only [List.cons.injEq, Value.slice.injEq, and_true] at h
    obtain ⟨rfl, rfl, rfl⟩ := h
    cases ds with
    | nil => exact key [] { b := 0 } (fun d hd => by cases hd) (empty _) ⟨_, some a, cap, rfl, rfl, hle, fun h => absurd h (Nat.lt_irrefl _), fun h => by cases h⟩
    | cons d ds =>
      have c0 := hc 0 (.int .i64 d.k) rfl
      have hspot : a.spot = none := by have := World.cell?_spot c0; simpa [Addr.add] using this
      have hlt : a.block < W.heap.size := by have := World.block_lt_of_cell? W _ c0; simpa [Addr.add] using this
      have ha' : a = ⟨a.block, a.off, none⟩ := by cases a; simp at hspot; simp [hspot]
      refine key (d :: ds) { b := a.block, off := a.off, obj := W.heap[a.block]? } hds ⟨rfl, fun i o q h1 h2 => ?_, fun i m todo h1 => ?_, fun i j o o' q q' b h1 h2 h3 h4 h5 h6 => ?_⟩ ⟨_, some a, cap, rfl, rfl, hle, fun _ => by rw [Nat.add_zero]; exact congrArg some ha', fun h => by cases h⟩
      · cases i with
        | zero =>
          simp at h1 h2
          subst h1
          subst h2
          refine ⟨vcells (d :: ds), vcells_R _ _, fun _ => ⟨hlt, rfl⟩, fun j v hj => ?_⟩
          have := hc j v hj
          rw [ha', add_place] at this
          exact this
        | succ i => simp at h1
      · cases i with
        | zero => simp at h1
        | succ i => simp at h1
      · have hi : i = 0 := by have := (List.getElem?_eq_some_iff.1 h1).1; simpa using this
        have hj : j = 0 := by have := (List.getElem?_eq_some_iff.1 h3).1; simpa using this
        rw [hi, hj]
set_option maxRecDepth 100000 in
set_option maxHeartbeats 1600000 in
theorem lifted {Inv : List (Int × Int) → List (Int × Int) → Prop} (hP : Plain4 Inv) (os : Os) (started : os.Started) (H : Type) (enc : TypeId × Value → H) :
    ReturnsInHanded {} Try.checked os 3 .any (Rows.memoryApartSpec.pre6 enc Try.prog Try.f3 Rows.memoryApartRow.domain false) (Rows.memoryApartSpec.post enc Try.prog Try.f3 false true false false) := by
  refine returnsInHanded_of_change (C := Try.checked) own started (by kernel_rfl) Try.func3
    (ChangeSpec.witness6 (enc := enc) (C := Try.checked) false ⟨#[], #[.slice none 0 0, .int .u64 0], []⟩ 8 (by kernel_rfl) (by kernel_rfl) (by kernel_rfl) (by kernel_rfl)) ?_
  intro W base args ds gs before hval0 hW hcnd _
  have hval : ∀ (j : Nat) t v, Try.f3.params[j]? = some t → args[j]? = some v → Value.okWide Try.prog W .any base t v := hval0
  have hW' := hW
  obtain ⟨p, q, hA0, hV, rfl, hfz, hnd⟩ := hW
  have hA : DataW.TrodAll enc Try.prog W 0 (fun _ => true) true Try.f3.params.toList args.toList ds p := hA0
  rw [Try.params3] at hA hval
  obtain ⟨v0, v1, d0, d1, p0, p1, rfl, rfl, rfl, h0, h1⟩ := trodAll_two hA
  obtain ⟨rfl, rfl⟩ := trodVars_none hV
  obtain ⟨a1, rfl, rfl, rfl, wa1⟩ := open_int Try.underlying23 (hval 1 23 v1 rfl rfl) h1
  obtain ⟨a0, len, cap, rfl⟩ := okWide_slice Try.underlying22 (hval 0 22 v0 rfl rfl)
  have h0k := h0
  obtain ⟨fuel, hf⟩ := h0
  clear hA0 hval0
  simp only [List.append_nil] at hW'
  have hlt : ∀ x ∈ p0, x.block < W.heap.size := fun x hx => by simpa using hW'.lt x (by simpa using hx)
  have walk : Calls Try.prog 3 #[.slice a0 len cap, .int .u64 a1] W fun e W' => e = .returned (.bool true) ∧ Below W.heap.size W W' := by
    exact walk_of hP a0 len cap a1 W fuel hf (wf_R64 wa1)
  refine walk.mono fun e W' ⟨he, hB⟩ => ?_
  subst he
  have hargs : DataW.Trod enc Try.prog W' 0 (fun b => decide (b < W.heap.size)) true 22 (.slice a0 len cap) d0 p0 := Below.trod laidOut (by kernel_rfl) (of_decide_eq_true (by kernel_rfl)) h0k hB hlt
  refine ⟨_, rfl, _, _, _, [], p0 ++ [], [], hW', trodAll_mk1 (shut_bool Try.underlying4 true), trodAll_mk2 hargs (shut_int Try.underlying23 wa1), rfl, hB.frame _, fun h => by cases h⟩
theorem holds {Inv : List (Int × Int) → List (Int × Int) → Prop} (hP : Plain4 Inv) : Rows.MemoryApartSaid :=
  OpenClaim.holds_of_wide 3 Try.f3 rfl rfl rfl rfl rfl rfl rfl ⟨rfl, rfl, rfl, rfl, rfl⟩ rfl rfl rfl rfl rfl (by kernel_rfl) Try.func3 (by kernel_rfl)
    (of_decide_eq_true (by kernel_rfl)) (by unfold Func.isWrapper; first | (rw [if_pos (by decide +kernel)]; kernel_rfl) | (rw [if_neg (by decide +kernel)]; exact ⟨rfl, rfl⟩))
    (fun os started H enc _ => lifted hP os started H enc)
end Go.Proofs.Ytdboiflfehpjhaa.lawMemory
