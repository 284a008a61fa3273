/- The law of a TSB's frames: from the walk to the given statement. -/
import Derived.Test.YtdboiflfehpjhaaRows
import Derived.Test.YtdboiflfehpjhaaSw4
import Derived.Test.YtdboiflfehpjhaaBmT
set_option linter.unusedVariables false
set_option linter.unusedSimpArgs false
namespace Go.Proofs.Ytdboiflfehpjhaa.lawSwapFrames
open Go Bm Go.Proofs.Try Go.ChangeShapes Go.WideShapes Go.Deep Go.RowKit
theorem own : ownKnob Try.prog.godebug = none := by kernel_rfl
theorem laidOut : laidOutB Try.prog = true := by kernel_rfl
theorem wf_ok64 {n : Int} (h : (Lit.int .i64 n).wf = true) : ok64 n := by
  simp [Lit.wf] at h
  have h1 : IntKind.i64.min = -9223372036854775808 := by decide
  have h2 : IntKind.i64.max = 9223372036854775807 := by decide
  exact ⟨by omega, by omega⟩
set_option maxRecDepth 100000 in
set_option maxHeartbeats 1600000 in
theorem lifted (os : Os) (started : os.Started) (H : Type) (enc : TypeId × Value → H) :
    ReturnsInHanded {} Try.checked os 5 .any (Rows.swapFramesSpec.pre6 enc Try.prog Try.f5 Rows.swapFramesRow.domain false) (Rows.swapFramesSpec.post enc Try.prog Try.f5 false true false false) := by
  refine returnsInHanded_of_change (C := Try.checked) own started (by kernel_rfl) Try.func5
    (ChangeSpec.witness6 (enc := enc) (C := Try.checked) false ⟨#[], #[.int .i64 0, .int .i64 0], []⟩ 8 (by kernel_rfl) (by kernel_rfl) (by kernel_rfl) (by kernel_rfl)) ?_
  intro W base args ds gs before hval0 hW hcnd _
  have hval : ∀ (j : Nat) t v, Try.f5.params[j]? = some t → args[j]? = some v → Value.okWide Try.prog W .any base t v := hval0
  have hW' := hW
  obtain ⟨p, q, hA0, hV, rfl, hfz, hnd⟩ := hW
  have hA : DataW.TrodAll enc Try.prog W 0 (fun _ => true) true Try.f5.params.toList args.toList ds p := hA0
  rw [Try.params5] at hA hval
  obtain ⟨v0, v1, d0, d1, p0, p1, rfl, rfl, rfl, h0, h1⟩ := trodAll_two hA
  obtain ⟨rfl, rfl⟩ := trodVars_none hV
  obtain ⟨a1, rfl, rfl, rfl, wa1⟩ := open_int Try.underlying3 (hval 0 3 v0 rfl rfl) h0
  obtain ⟨a2, rfl, rfl, rfl, wa2⟩ := open_int Try.underlying3 (hval 1 3 v1 rfl rfl) h1
  clear hA0 hval0
  simp only [List.append_nil] at hW'
  have empty : Holds [] [] W := ⟨rfl, fun i o q h1 h2 => by simp at h1, fun i m todo h1 => by simp at h1, fun i j o o' q q' b h1 h2 h3 h4 h5 h6 => by simp at h1⟩
  have walk : Calls Try.prog 5 #[.int .i64 a1, .int .i64 a2] W fun e W' => e = .returned (.bool true) ∧ Below W.heap.size W W' := by
    refine Calls.mono ((c_SwapFrames a1 a2 (wf_ok64 wa1) (wf_ok64 wa2)).2 [] W [.int .i64 a1, .int .i64 a2] empty ⟨rfl, rfl, trivial⟩) ?_
    rintro e W' ⟨r, rc, H', ρ', rfl, ⟨rfl, rfl⟩, hr, hx, hh'⟩
    have : rc = .bool true := hr
    subst this
    exact ⟨rfl, hx.os, hx.tape, hx.output, hx.size, fun k hk => hx.frame k hk (fun ⟨i, o, q, h1, _⟩ => by simp at h1)⟩
  refine walk.mono fun e W' ⟨he, hB⟩ => ?_
  subst he
  refine ⟨_, rfl, _, _, _, [], [] ++ [], [], hW', trodAll_mk1 (shut_bool Try.underlying4 true), trodAll_mk2 (shut_int Try.underlying3 wa1) (shut_int Try.underlying3 wa2), rfl, hB.frame _, fun h => by cases h⟩
theorem swapFrames_holds : Rows.SwapFramesSaid :=
  OpenClaim.holds_of_wide 5 Try.f5 rfl rfl rfl rfl rfl rfl rfl ⟨rfl, rfl, rfl, rfl, rfl⟩ rfl rfl rfl rfl rfl (by kernel_rfl) Try.func5 (by kernel_rfl)
    (of_decide_eq_true (by kernel_rfl)) (by unfold Func.isWrapper; first | (rw [if_pos (by decide +kernel)]; kernel_rfl) | (rw [if_neg (by decide +kernel)]; exact ⟨rfl, rfl⟩))
    (fun os started H enc _ => lifted os started H enc)
end Go.Proofs.Ytdboiflfehpjhaa.lawSwapFrames
