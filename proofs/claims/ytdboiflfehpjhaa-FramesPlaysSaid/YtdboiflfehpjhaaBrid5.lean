/- The law of frames: from the walk to the given statement. -/
import Derived.Test.YtdboiflfehpjhaaRows
import Derived.Test.YtdboiflfehpjhaaLaw5c
import Derived.Test.YtdboiflfehpjhaaBmT
set_option linter.unusedVariables false
set_option linter.unusedSimpArgs false
namespace Go.Proofs.Ytdboiflfehpjhaa.lawFrames
open Go Bm Go.Proofs.Try Go.ChangeShapes Go.WideShapes Go.Deep Go.RowKit
theorem own : ownKnob Try.prog.godebug = none := by kernel_rfl
theorem laidOut : laidOutB Try.prog = true := by kernel_rfl
theorem wf_ok64 {n : Int} (h : (Lit.int .i64 n).wf = true) : ok64 n := by
  simp [Lit.wf] at h
  have h1 : IntKind.i64.min = -9223372036854775808 := by decide
  have h2 : IntKind.i64.max = 9223372036854775807 := by decide
  exact ⟨by omega, by omega⟩
theorem deeds {H : Type} {enc : TypeId × Value → H} {w : World} {base : Nat} {spare : Nat → Bool} {held : Bool} {fuel : Nat} {cs : List Value} {x : DataW H × List MemPlace} (h : DataW.trod enc Try.prog w base spare held fuel 41 cs = some x) :
    cs = [.slice none 0 0] ∨ ∃ (a : Addr) (cap : Nat) (ds : List D5), cs = [.slice (some a) ds.length cap] ∧ ds.length ≤ cap ∧ (∀ d ∈ ds, ok64 d.k ∧ ok64 d.a ∧ ok64 d.b) ∧
      ∀ j u, ((encL d5P ds).map PV.val)[j]? = some u → w.cell? (a.add j) = some u := by
  rcases open_fields Try.underlying41 Try.underlying52 (by kernel_rfl) (by kernel_rfl) h with h0 | ⟨a, len, cap, hcs, hle, hi⟩
  · exact .inl h0
  · obtain ⟨ds, hl, hok, hc⟩ := open_rows (enc := d5P) (w := 3) d5P_len (by decide) (fun d => ok64 d.k ∧ ok64 d.a ∧ ok64 d.b) ⟨0, 0, 0⟩ (W := w) (a := a) (len := len) (fun i him => by
      obtain ⟨v0, y0, n0, c0, t0⟩ := hi i him 0 _ rfl
      obtain ⟨v1, y1, n1, c1, t1⟩ := hi i him 1 _ rfl
      obtain ⟨v2, y2, n2, c2, t2⟩ := hi i him 2 _ rfl
      obtain ⟨q0, e0, _, w0⟩ := DataW.trod_int Try.underlying3 t0
      obtain ⟨q1, e1, _, w1⟩ := DataW.trod_int Try.underlying3 t1
      obtain ⟨q2, e2, _, w2⟩ := DataW.trod_int Try.underlying3 t2
      simp only [List.cons.injEq, and_true] at e0 e1 e2
      subst e0; subst e1; subst e2
      refine ⟨⟨q0, q1, q2⟩, ⟨wf_ok64 w0, wf_ok64 w1, wf_ok64 w2⟩, fun r u hr => ?_⟩
      match r, hr with
      | 0, h3 => simp [d5P, PV.val] at h3; rw [← h3]; exact c0
      | 1, h3 => simp [d5P, PV.val] at h3; rw [← h3]; exact c1
      | 2, h3 => simp [d5P, PV.val] at h3; rw [← h3]; exact c2
      | r + 3, h3 => simp [d5P] at h3)
    exact .inr ⟨a, cap, ds, by rw [hl]; exact hcs, by omega, hok, hc⟩
theorem d5_ok (ds : List D5) : ∀ x ∈ encL d5P ds, x.ok = true := by
  intro x hx
  simp only [encL, List.mem_flatMap] at hx
  obtain ⟨d, _, h⟩ := hx
  simp [d5P] at h
  rcases h with rfl | rfl | rfl <;> rfl
theorem walk_of {H : Type} {enc : TypeId × Value → H} (n : Int) (a0 : Option Addr) (len cap : Nat) (W : World) {base : Nat} {spare : Nat → Bool} {held : Bool} (fuel : Nat) {x : DataW H × List MemPlace}
    (hf : DataW.trod enc Try.prog W base spare held fuel 41 [.slice a0 len cap] = some x) (hn : ok64 n) :
    Calls Try.prog 4 #[.int .i64 n, .slice a0 len cap] W fun e W' => e = .returned (.bool true) ∧ Below W.heap.size W W' := by
  have key : ∀ (ds : List D5) (p : Pl), (∀ d ∈ ds, ok64 d.k ∧ ok64 d.a ∧ ok64 d.b) → Holds [.ro (encL d5P ds)] [p] W → (sv (.sl 0 0 ds.length)).R [p] (.slice a0 len cap) →
      Calls Try.prog 4 #[.int .i64 n, .slice a0 len cap] W fun e W' => e = .returned (.bool true) ∧ Below W.heap.size W W' := by
    intro ds p hds hh hv
    refine Calls.mono ((c_FramesPlays ds hds _ rfl _ rfl n hn).2 [p] W [.int .i64 n, .slice a0 len cap] hh ⟨rfl, hv, trivial⟩) ?_
    rintro e W' ⟨r, rc, H', ρ', rfl, ⟨rfl, rfl⟩, hr, hx, hh'⟩
    have : rc = .bool true := hr
    subst this
    exact ⟨rfl, ro_below hh hh' hx⟩
  rcases deeds hf with h | ⟨a, cp, ds, h, hle, hds, hc⟩
  · simp only [List.cons.injEq, Value.slice.injEq, and_true] at h
    obtain ⟨rfl, rfl, rfl⟩ := h
    exact key [] { b := 0 } (fun d hd => by cases hd) (ro_empty _) ⟨_, none, 0, rfl, rfl, Nat.le_refl _, fun h => absurd h (Nat.lt_irrefl _), fun _ => rfl⟩
  · simp only [List.cons.injEq, Value.slice.injEq, and_true] at h
    obtain ⟨rfl, rfl, rfl⟩ := h
    cases ds with
    | nil => exact key [] { b := 0 } (fun d hd => by cases hd) (ro_empty _) ⟨_, some a, cap, rfl, rfl, hle, fun h => absurd h (Nat.lt_irrefl _), fun h => by cases h⟩
    | cons d ds =>
      obtain ⟨hh, ha'⟩ := ro_holds (d5_ok (d :: ds)) (by simp [encL, d5P]) hc
      exact key (d :: ds) _ hds hh ⟨_, some a, cap, rfl, rfl, hle, fun _ => by rw [Nat.add_zero]; exact congrArg some ha', fun h => by cases h⟩
set_option maxRecDepth 100000 in
set_option maxHeartbeats 1600000 in
theorem lifted (os : Os) (started : os.Started) (H : Type) (enc : TypeId × Value → H) :
    ReturnsInHanded {} Try.checked os 4 .any (Rows.framesPlaysSpec.pre6 enc Try.prog Try.f4 Rows.framesPlaysRow.domain false) (Rows.framesPlaysSpec.post enc Try.prog Try.f4 false true false false) := by
  refine returnsInHanded_of_change (C := Try.checked) own started (by kernel_rfl) Try.func4
    (ChangeSpec.witness6 (enc := enc) (C := Try.checked) false ⟨#[], #[.int .i64 0, .slice none 0 0], []⟩ 8 (by kernel_rfl) (by kernel_rfl) (by kernel_rfl) (by kernel_rfl)) ?_
  intro W base args ds gs before hval0 hW hcnd _
  have hval : ∀ (j : Nat) t v, Try.f4.params[j]? = some t → args[j]? = some v → Value.okWide Try.prog W .any base t v := hval0
  have hW' := hW
  obtain ⟨p, q, hA0, hV, rfl, hfz, hnd⟩ := hW
  have hA : DataW.TrodAll enc Try.prog W 0 (fun _ => true) true Try.f4.params.toList args.toList ds p := hA0
  rw [Try.params4] at hA hval
  obtain ⟨v0, v1, d0, d1, p0, p1, rfl, rfl, rfl, h0, h1⟩ := trodAll_two hA
  obtain ⟨rfl, rfl⟩ := trodVars_none hV
  obtain ⟨a1, rfl, rfl, rfl, wa1⟩ := open_int Try.underlying3 (hval 0 3 v0 rfl rfl) h0
  obtain ⟨a0, len, cap, rfl⟩ := okWide_slice Try.underlying41 (hval 1 41 v1 rfl rfl)
  have h1k := h1
  obtain ⟨fuel, hf⟩ := h1
  clear hA0 hval0
  simp only [List.append_nil] at hW'
  have hlt : ∀ x ∈ p1, x.block < W.heap.size := fun x hx => by simpa using hW'.lt x (by simpa using hx)
  have walk : Calls Try.prog 4 #[.int .i64 a1, .slice a0 len cap] W fun e W' => e = .returned (.bool true) ∧ Below W.heap.size W W' := by
    exact walk_of a1 a0 len cap W fuel hf (wf_ok64 wa1)
  refine walk.mono fun e W' ⟨he, hB⟩ => ?_
  subst he
  have hargs : DataW.Trod enc Try.prog W' 0 (fun b => decide (b < W.heap.size)) true 41 (.slice a0 len cap) d1 p1 := Below.trod laidOut (by kernel_rfl) (of_decide_eq_true (by kernel_rfl)) h1k hB hlt
  refine ⟨_, rfl, _, _, _, [], [] ++ p1, [], hW', trodAll_mk1 (shut_bool Try.underlying4 true), trodAll_mk2 (shut_int Try.underlying3 wa1) hargs, rfl, hB.frame _, fun h => by cases h⟩
theorem framesPlays_holds : Rows.FramesPlaysSaid :=
  OpenClaim.holds_of_wide 4 Try.f4 rfl rfl rfl rfl rfl rfl rfl ⟨rfl, rfl, rfl, rfl, rfl⟩ rfl rfl rfl rfl rfl (by kernel_rfl) Try.func4 (by kernel_rfl)
    (of_decide_eq_true (by kernel_rfl)) (by unfold Func.isWrapper; first | (rw [if_pos (by decide +kernel)]; kernel_rfl) | (rw [if_neg (by decide +kernel)]; exact ⟨rfl, rfl⟩))
    (fun os started H enc _ => lifted os started H enc)
end Go.Proofs.Ytdboiflfehpjhaa.lawFrames
