/- The machine: from a walk over what a caller hands in to the frame of the statements. -/
import Derived.Test.YtdboiflfehpjhaaBmS
import Derived.ProofKit
import Derived.Deep.Slices
import Derived.Deep.Fields
import Derived.ChangeSame
set_option linter.unusedVariables false
set_option linter.unusedSimpArgs false
namespace Bm
open Go Go.ChangeShapes Go.WideShapes Go.Deep Go.RowKit
theorem svs_R (ρ : Rho) : ∀ l : List PV, (∀ x ∈ l, x.ok = true) → All2 (SV.R ρ) (l.map PV.sv) (l.map PV.val)
  | [], _ => trivial
  | x :: l, h => ⟨by
    cases x with
    | int k n => rfl
    | bool b => rfl
    | raw v => exact ⟨rfl, h _ (List.mem_cons_self ..)⟩, svs_R ρ l fun y hy => h y (List.mem_cons_of_mem _ hy)⟩
theorem ro_empty {W : World} (p : Pl) : Holds [.ro []] [p] W := by
  refine ⟨rfl, fun i o q h1 h2 => ?_, fun i m todo h1 => ?_, fun i j o o' q q' b h1 h2 h3 h4 h5 h6 => ?_⟩
  · cases i with
    | zero => simp at h1; subst h1; exact ⟨[], trivial, fun h => by simp at h, fun j v hj => by simp at hj⟩
    | succ i => simp at h1
  · cases i with
    | zero => simp at h1
    | succ i => simp at h1
  · cases i with
    | zero => simp at h1; subst h1; simp [AO.own] at h5
    | succ i => simp at h1
theorem ro_holds {W : World} {l : List PV} {a : Addr} (hok : ∀ x ∈ l, x.ok = true) (hne : l ≠ []) (hc : ∀ (j : Nat) (v : Value), (l.map PV.val)[j]? = some v → W.cell? (a.add j) = some v) :
    Holds [.ro l] [{ b := a.block, off := a.off, obj := W.heap[a.block]? }] W ∧ a = ⟨a.block, a.off, none⟩ := by
  obtain ⟨x, r, rfl⟩ := List.exists_cons_of_ne_nil hne
  have c0 := hc 0 x.val rfl
  have hspot : a.spot = none := by have := World.cell?_spot c0; simpa [Addr.add] using this
  have hlt : a.block < W.heap.size := by have := World.block_lt_of_cell? W _ c0; simpa [Addr.add] using this
  have ha' : a = ⟨a.block, a.off, none⟩ := by cases a; simp at hspot; simp [hspot]
  refine ⟨⟨rfl, fun i o q h1 h2 => ?_, fun i m todo h1 => ?_, fun i j o o' q q' b h1 h2 h3 h4 h5 h6 => ?_⟩, ha'⟩
  · cases i with
    | zero =>
      simp at h1 h2
      subst h1
      subst h2
      refine ⟨_, svs_R _ _ hok, fun _ => ⟨hlt, rfl⟩, fun j v hj => ?_⟩
      have := hc j v hj
      rw [ha', add_place] at this
      exact this
    | succ i => simp at h1
  · cases i with
    | zero => simp at h1
    | succ i => simp at h1
  · have hi : i = 0 := by have := (List.getElem?_eq_some_iff.1 h1).1; simpa using this
    have hj : j = 0 := by have := (List.getElem?_eq_some_iff.1 h3).1; simpa using this
    rw [hi, hj]
theorem ro_below {l : List PV} {p : Pl} {ρ' : Rho} {W W' : World} (hh : Holds [.ro l] [p] W) (hh' : Holds [.ro l] ρ' W') (hx : Ext [.ro l] [p] W [.ro l] ρ' W') : Below W.heap.size W W' := by
  refine ⟨hx.os, hx.tape, hx.output, hx.size, fun k hk => ?_⟩
  by_cases hown : Owned [.ro l] [p] k
  · obtain ⟨i, o, q, h1, h2, h3⟩ := hown
    cases i with
    | zero =>
      simp at h1 h2
      subst h1
      subst h2
      have hρ' : ρ'[0]? = some p := by
        obtain ⟨r, hr⟩ := hx.pre
        rw [← hr]
        rfl
      obtain ⟨_, _, g1, _⟩ := hh.rep 0 _ p rfl rfl
      obtain ⟨_, _, g2, _⟩ := hh'.rep 0 _ p rfl hρ'
      obtain ⟨hn, rfl⟩ := h3
      rw [(g1 hn).2, (g2 hn).2]
    | succ i => simp at h1
  · exact hx.frame k hk hown
/-- The cells of a slice of structs whose fields take one cell each. -/
theorem open_fields {H : Type} {enc : TypeId × Value → H} {P : Program} {w : World} {base : Nat} {spare : Nat → Bool} {held : Bool} {t e : TypeId} {fs : Array Field} {fuel : Nat} {cs : List Value} {x : DataW H × List MemPlace} (ht : P.underlying t = some (.slice e)) (he : P.underlying e = some (.struct fs))
    (hone : oneCellFields P fs = true) (hC : P.cellsOf e = fs.size) (h : DataW.trod enc P w base spare held fuel t cs = some x) :
    cs = [.slice none 0 0] ∨
    ∃ (a : Addr) (len cap : Nat), cs = [.slice (some a) len cap] ∧ len ≤ cap ∧
      ∀ i, i < len → ∀ (j : Nat) (f : Field), fs[j]? = some f → ∃ (v : Value) (y : DataW H × List MemPlace) (n : Nat), w.cell? (a.add (i * fs.size + j)) = some v ∧ DataW.trod enc P w base spare held n f.type [v] = some y := by
  rcases open_slice ht h with ⟨h0, _⟩ | ⟨a, len, cap, m, n, D, Pl, hcs, hb, hl, hm, hmm, hx, hi⟩
  · exact .inl h0
  · refine .inr ⟨a, len, cap, hcs, hl, fun i him j f hj => ?_⟩
    obtain ⟨cs', hc, ht'⟩ := hi i (by rw [hmm]; split <;> omega)
    rw [hC] at hc
    obtain ⟨ys, n', hn', hy, hlen, hyl, hf⟩ := DataW.trod_struct he ht'
    obtain ⟨_, hcl, hat⟩ := World.cells?_some hc
    obtain ⟨ho, hk⟩ := hone_of hone j f hj
    have hjl : j < fs.size := (Array.getElem?_eq_some_iff.1 hj).1
    have hcell := hat j hjl
    have hv : cs'[j]? = some (cs'[j]'(by omega)) := List.getElem?_eq_getElem (by omega)
    have h1 := hf j f hj
    rw [ho, hk] at h1
    have hone' : (cs'.drop j).take 1 = [cs'[j]'(by omega)] := by
      rw [List.drop_eq_getElem_cons (by omega)]
      rfl
    rw [hone'] at h1
    have hys : ys[j]? = some (ys[j]'(by omega)) := List.getElem?_eq_getElem (by omega)
    refine ⟨_, _, n', ?_, h1.trans hys⟩
    rw [← Go.Deep.add_add, hcell, hv]
theorem encL_at {α : Type} {enc : α → List PV} {w : Nat} (hw : ∀ a, (enc a).length = w) (h0 : 0 < w) : ∀ {l : List α} {j : Nat} {u : Value}, ((encL enc l).map PV.val)[j]? = some u → ∃ (i r : Nat) (d : α), l[i]? = some d ∧ j = i * w + r ∧ r < w ∧ ((enc d).map PV.val)[r]? = some u
  | [], j, u, h => by simp [encL] at h
  | d :: l, j, u, h => by
    rw [show encL enc (d :: l) = enc d ++ encL enc l by simp [encL], List.map_append] at h
    by_cases hj : j < w
    · rw [List.getElem?_append_left (by simp [hw, hj])] at h
      exact ⟨0, j, d, rfl, by omega, hj, h⟩
    · rw [List.getElem?_append_right (by simp [hw]; omega)] at h
      obtain ⟨i, r, e, h1, h2, h3, h4⟩ := encL_at hw h0 (l := l) h
      refine ⟨i + 1, r, e, by simpa using h1, ?_, h3, h4⟩
      simp only [List.length_map, hw] at h2
      rw [Nat.succ_mul]; omega
/-- A slice whose elements, one by one, read as values of α. -/
theorem open_rows {α : Type} {enc : α → List PV} {w : Nat} (hw : ∀ a, (enc a).length = w) (h0 : 0 < w) (ok : α → Prop) (dflt : α) {W : World} {a : Addr} {len : Nat}
    (h : ∀ i, i < len → ∃ d : α, ok d ∧ ∀ (r : Nat) (u : Value), ((enc d).map PV.val)[r]? = some u → W.cell? (a.add (i * w + r)) = some u) :
    ∃ ds : List α, ds.length = len ∧ (∀ d ∈ ds, ok d) ∧ ∀ j u, ((encL enc ds).map PV.val)[j]? = some u → W.cell? (a.add j) = some u := by
  have one : ∀ i, ∃ d : α, i < len → ok d ∧ ∀ (r : Nat) (u : Value), ((enc d).map PV.val)[r]? = some u → W.cell? (a.add (i * w + r)) = some u := fun i => by
    by_cases hi : i < len
    · obtain ⟨d, hd⟩ := h i hi
      exact ⟨d, fun _ => hd⟩
    · exact ⟨dflt, fun h => absurd h hi⟩
  obtain ⟨f, hf⟩ := Classical.skolem.1 one
  refine ⟨(List.range len).map f, by simp, fun d hd => ?_, fun j u hj => ?_⟩
  · obtain ⟨i, hi1, rfl⟩ := List.mem_map.1 hd
    exact (hf i (List.mem_range.1 hi1)).1
  · obtain ⟨i, r, d, h1, rfl, _, h3⟩ := encL_at hw h0 hj
    simp only [List.getElem?_map, Option.map_eq_some_iff] at h1
    obtain ⟨k, hk, rfl⟩ := h1
    have hkl : i < len := by have := (List.getElem?_eq_some_iff.1 hk).1; simpa using this
    have hki : k = i := by have := (List.getElem?_eq_some_iff.1 hk).2; simpa using this.symm
    subst hki
    exact (hf k hkl).2 r u h3
end Bm
