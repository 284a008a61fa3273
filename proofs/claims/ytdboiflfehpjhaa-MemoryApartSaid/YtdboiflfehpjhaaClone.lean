/- maps.Clone, of a map of words. -/
import Derived.Test.YtdboiflfehpjhaaAmTab
import Derived.Test.YtdboiflfehpjhaaAmR
import Derived.Laws.Externs
import Derived.MapKept
import Derived.WalkKit
set_option linter.unusedVariables false
set_option linter.unusedSimpArgs false
namespace Go.Proofs.Try
open Go Am
section
variable {P : Program} (w : World)
theorem eql_map (t k e : TypeId) (p : Option Nat) (h : P.underlying t = some (.map k e)) : (binOp .eql t (.map p) (.map none)).run P w = .ok (.bool p.isNone) w := by
  have h1 : ∀ d, (Op.equalIn (d + 1) t (.map p) (.map none)).run P w = .ok p.isNone w := fun d => by
    cases p <;> simp [Op.equalIn, run_underlying h]
  simp only [binOp]
  simp [show Op.equal t (.map p) (.map none) = Op.equalIn (9999 + 1) t (.map p) (.map none) from rfl, h1]
theorem assert_map (t i k e : TypeId) (v : Value) (h : P.underlying t = some (.map k e)) : (Instr.typeAssert (.iface t v) i t false).run P w = .ok v w := by
  simp [Instr.typeAssert, run_underlying h, go_sem, Result.andThen]
theorem clone_run {r : Nat} {es : Array MapEntry} {clock : Nat} (t : TypeId) (hb : w.heap[r]? = some (.map es clock)) :
    (Extern.MapsClone.clone #[.iface t (.map (some r))]).run P w = .ok (.iface t (.map (some w.heap.size))) (w.alloc (.map es clock)) := by
  have e : Extern.MapsClone.clone #[.iface t (.map (some r))] = ((do
      let o ← getObj r
      match o with
      | .map entries clock => (do let n ← newObj (.map entries clock); pure (.iface t (.map (some n))))
      | _ => stuck "maps.clone: a map expected" : Sem Value)) := rfl
  rw [e]
  simp [MapKept.run_getObj_map hb, Result.andThen, go_sem]
end
set_option maxRecDepth 10000 in
set_option maxHeartbeats 2000000 in
theorem clone_calls (b : Nat) (es : Array MapEntry) (clock : Nat) (w : World) (hb : w.heap[b]? = some (.map es clock)) :
    Calls prog 76 #[.map (some b)] w fun e w' => e = .returned (.map (some w.heap.size)) ∧ w' = w.alloc (.map es clock) := by
  have mixed := mixed
  have hq := fun w => eql_map (P := prog) w 108 _ _ (some b) underlying108
  go_enter func76, ntmps76
  go_wp2
  rw [run_callFunc_extern func125 (by kernel_rfl) (by kernel_rfl) (by kernel_rfl) (e := Extern.MapsClone.clone) (by kernel_rfl), clone_run w 108 hb]
  simp only [Result.andThen]
  rw [Oper.upon_value]
  go_wp2
  rw [assert_map _ 108 20 _ _ _ underlying108]
  simp only [Result.andThen]
  rw [Oper.upon_value]
  go_wp2
  go_ret
  exact ⟨rfl, rfl⟩
theorem ac76 (l : List (Int × Int)) : AC prog 76 [sv (.mp 0)] [.m64 l] (fun r H => r = sv (.mp 1) ∧ H = [.m64 l, .m64 l]) := by
  refine ⟨⟨_, func76, by kernel_rfl, by kernel_rfl⟩, fun ρ w cargs hh hargs => ?_⟩
  match cargs, hargs with
  | [v], ⟨⟨p, hp, e⟩, _⟩ =>
    have e : v = .map (some p.b) := e
    subst e
    have hrep := hh.rep 0 _ p rfl hp
    obtain ⟨hnd, es, clock, hb, r⟩ := hrep
    refine Calls.mono (clone_calls p.b es clock w hb) ?_
    rintro e w' ⟨rfl, rfl⟩
    obtain ⟨g1, g2⟩ := hh.push (p := { b := w.heap.size }) (o := .m64 l) (obj := .map es clock) (w' := w.alloc (.map es clock)) rfl rfl rfl rfl rfl ⟨hnd, es, clock, heap_alloc_new w _, r⟩ (fun _ _ h => by cases h)
    exact ⟨_, _, _, _, rfl, ⟨rfl, rfl⟩, ⟨_, pushed hh.len, rfl⟩, g2, g1⟩
end Go.Proofs.Try
