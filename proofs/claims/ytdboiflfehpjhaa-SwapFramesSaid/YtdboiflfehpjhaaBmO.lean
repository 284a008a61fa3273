/- The table of types: a check of it, that the kernel carries out. -/
import Derived.Test.YtdboiflfehpjhaaBmN
set_option linter.unusedVariables false
set_option linter.unusedSimpArgs false
namespace Bm
open Go
def tlook : List (Nat × TI) → Nat → TI
  | [], _ => {}
  | (k, i) :: r, t => match Nat.beq k t with | true => i | false => tlook r t
def kindEq (a b : IntKind) : Bool := decide (a = b)
def fieldB (P : Program) (f : Field) (x : Nat × Nat × Bool) : Bool :=
  Nat.beq f.offset x.1 && !Nat.beq x.2.1 0 && (match P.info? f.type with | some inf => Nat.beq inf.size x.2.1 | none => false) &&
  (match P.underlying f.type with | some d => isAggD d == x.2.2 | none => false) && (x.2.2 || Nat.beq x.2.1 1)
def fieldsB (P : Program) : List Field → List (Nat × Nat × Bool) → Bool
  | [], [] => true
  | f :: fs, x :: xs => fieldB P f x && fieldsB P fs xs
  | _, _ => false
def isKind (P : Program) (t : TypeId) (k : IntKind) : Bool := match P.underlying t with | some (.int k') => kindEq k' k | _ => false
def zeroIs0 (P : Program) (e : TypeId) : Bool := match P.info? e with
  | some inf => match inf.zero with
    | some (.int .u64 0) => true
    | _ => false
  | none => false
def kindB (P : Program) (T : TypeId → TI) (i : TI) (d : TypeDesc) : Bool :=
  match i.kind with
  | .prim => match i.zero with
    | [.int k _] => (match d with | .int k' => kindEq k' k | _ => false)
    | [.bool _] => (match d with | .bool => true | _ => false)
    | [.nilp] => (match d with | .pointer _ => true | _ => false)
    | _ => true
  | .struct => match d with | .struct fs => fieldsB P fs.toList i.fields | _ => false
  | .array => match d with | .array n e => Nat.beq n i.len && Nat.beq e i.elem && (T i.elem).known | _ => false
  | .slice => match d with | .slice e => Nat.beq e i.elem && (T i.elem).known | _ => false
  | .map64 => match d with | .map k e => isKind P k .u64 && isKind P e .u64 && zeroIs0 P e | _ => false
  | .mapk => false
  | .other => true
def tiB (P : Program) (T : TypeId → TI) (t : TypeId) (i : TI) : Bool :=
  (match P.info? t with
    | some inf => Nat.beq inf.size i.sz && Nat.beq inf.bytes i.bytes && (match inf.zero with
      | some z => litsR i.zero z.cells.toList && Nat.beq z.cells.size i.sz
      | none => false)
    | none => false) &&
  (match P.underlying t with
    | some d => (isAggD d == i.agg) && kindB P T i d
    | none => false) &&
  (i.agg || Nat.beq i.sz 1) && !Nat.beq i.sz 0 && !Nat.beq i.bytes 0
def tabB (P : Program) (T : TypeId → TI) : List (Nat × TI) → Bool
  | [] => true
  | (t, i) :: r => tiB P T t i && tabB P T r
theorem fieldsB_spec {P : Program} : ∀ {fs : List Field} {xs : List (Nat × Nat × Bool)}, fieldsB P fs xs = true →
    fs.mapM (fun f => (P.info? f.type).map fun i => (f.offset, i.size)) = some (xs.map fun x => (x.1, x.2.1)) ∧
    ∀ (i : Nat) (off n : Nat) (g : Bool), xs[i]? = some (off, n, g) → ∃ f, fs[i]? = some f ∧
        f.offset = off ∧ n ≠ 0 ∧ (∃ inf, P.info? f.type = some inf ∧ inf.size = n) ∧ (∃ d', P.underlying f.type = some d' ∧ isAggD d' = g) ∧ (g = false → n = 1)
  | [], [], _ => ⟨by simp, fun i off n g h => by simp at h⟩
  | f :: fs, x :: xs, h => by
    simp only [fieldsB, fieldB, Bool.and_eq_true, Bool.not_eq_true', Bool.or_eq_true] at h
    obtain ⟨⟨⟨⟨⟨h1, h2⟩, h3⟩, h4⟩, h5⟩, h6⟩ := h
    obtain ⟨i1, i2⟩ := fieldsB_spec h6
    have e1 := Nat_beq h1
    split at h3
    · rename_i inf hinf
      have e3 := Nat_beq h3
      split at h4
      · rename_i d hd
        refine ⟨by simp [hinf, i1, e1, e3], fun i off n g h => ?_⟩
        cases i with
        | zero =>
          simp at h
          subst h
          refine ⟨f, rfl, e1, ?_, ⟨inf, hinf, e3⟩, ⟨d, hd, by simpa using h4⟩, fun hg => ?_⟩
          · rintro rfl; cases h2
          · rcases h5 with h5 | h5
            · rw [hg] at h5; cases h5
            · exact Nat_beq h5
        | succ i => simpa using i2 i off n g (by simpa using h)
      · cases h4
    · cases h3
  | [], _ :: _, h => by simp [fieldsB] at h
  | _ :: _, [], h => by simp [fieldsB] at h
theorem pointee_of {P : Program} {t u : TypeId} (h : P.underlying t = some (.pointer u)) : (TypeDesc.pointer u) = .pointer (P.pointee t) := by
  have := pointee_eq h
  rw [h] at this
  cases this
  rfl
theorem tiB_ok {P : Program} {T : TypeId → TI} {t : TypeId} (h : tiB P T t (T t) = true) (he : (T t).eqok = true → ∀ (w : World) (a b : List SV) (xs ys : List Value) (ρ : Rho), kindsLike (T t).zero a = true → kindsLike (T t).zero b = true → All2 (SV.R ρ) a xs → All2 (SV.R ρ) b ys →
    (Op.equal t (.agg xs.toArray) (.agg ys.toArray)).run P w = .ok (eqsL a b) w ∧ P.eqGuardType P.depth t = false) : TIOk P T t := by
  simp only [tiB, Bool.and_eq_true, Bool.not_eq_true', Bool.or_eq_true] at h
  obtain ⟨⟨⟨⟨h1, h2⟩, h3⟩, h4⟩, h5⟩ := h
  have pos : ∀ {n : Nat}, Nat.beq n 0 = false → 0 < n := by
    intro n hn
    cases n with
    | zero => cases hn
    | succ n => omega
  refine ⟨?_, ?_, fun ha => ?_, pos h4, pos h5, he⟩
  · split at h1
    · rename_i inf hinf
      simp only [Bool.and_eq_true] at h1
      obtain ⟨⟨g1, g2⟩, g3⟩ := h1
      split at g3
      · rename_i z hz
        simp only [Bool.and_eq_true] at g3
        exact ⟨inf, z, hinf, Nat_beq g1, Nat_beq g2, hz, g3.1, Nat_beq g3.2⟩
      · cases g3
    · cases h1
  · split at h2
    · rename_i d hd
      simp only [Bool.and_eq_true] at h2
      obtain ⟨g1, g2⟩ := h2
      refine ⟨d, hd, by simpa using g1, ?_⟩
      unfold kindB at g2
      split
      · rename_i hk
        rw [hk] at g2
        simp only at g2
        split
        · rename_i hz
          rw [hz] at g2
          simp only at g2
          split at g2
          · rw [of_decide_eq_true g2]
          · cases g2
        · rename_i hz
          rw [hz] at g2
          simp only at g2
          split at g2
          · rfl
          · cases g2
        · rename_i hz
          rw [hz] at g2
          simp only at g2
          split at g2
          · exact pointee_of hd
          · cases g2
        · trivial
      · rename_i hk
        rw [hk] at g2
        simp only at g2
        split at g2
        · obtain ⟨i1, i2⟩ := fieldsB_spec g2
          exact ⟨_, rfl, i1, fun i off n g hi => by
            obtain ⟨f, hf, r⟩ := i2 i off n g hi
            exact ⟨f, by rw [← Array.getElem?_toList]; exact hf, r⟩⟩
        · cases g2
      · rename_i hk
        rw [hk] at g2
        simp only at g2
        split at g2
        · simp only [Bool.and_eq_true] at g2
          rw [Nat_beq g2.1.1, Nat_beq g2.1.2]
          exact ⟨rfl, g2.2⟩
        · cases g2
      · rename_i hk
        rw [hk] at g2
        simp only at g2
        split at g2
        · simp only [Bool.and_eq_true] at g2
          rw [Nat_beq g2.1]
          exact ⟨rfl, g2.2⟩
        · cases g2
      · rename_i hk
        rw [hk] at g2
        cases g2
      · rename_i hk
        rw [hk] at g2
        simp only at g2
        split at g2
        · simp only [Bool.and_eq_true] at g2
          obtain ⟨⟨a1, a2⟩, a3⟩ := g2
          have kind : ∀ {t : TypeId}, isKind P t .u64 = true → P.underlying t = some (.int .u64) := by
            intro t ht
            unfold isKind at ht
            split at ht
            · rename_i k' hk'; rw [hk', of_decide_eq_true ht]
            · cases ht
          refine ⟨_, _, rfl, kind a1, kind a2, ?_⟩
          unfold zeroIs0 at a3
          split at a3
          · rename_i inf hinf
            split at a3
            · rename_i hz; exact ⟨inf, hinf, hz⟩
            · cases a3
          · cases a3
        · cases g2
      · trivial
    · cases h2
  · rcases h3 with h3 | h3
    · rw [ha] at h3; cases h3
    · exact Nat_beq h3
theorem tabB_mem {P : Program} {T : TypeId → TI} : ∀ {tab : List (Nat × TI)}, tabB P T tab = true → ∀ t, (tlook tab t).known = true → ∃ i, tlook tab t = i ∧ tiB P T t i = true
  | [], _, t, h => by cases h
  | (k, i) :: r, hb, t, h => by
    simp only [tabB, Bool.and_eq_true] at hb
    simp only [tlook] at h ⊢
    split at h
    · rename_i hk
      have := Nat_beq hk
      subst this
      exact ⟨i, by simp, hb.1⟩
    · rename_i hk
      obtain ⟨j, h1, h2⟩ := tabB_mem hb.2 t h
      exact ⟨j, h1, h2⟩
/-- **The table is right, if the check says so.** -/
theorem TyOk_of {P : Program} {tab : List (Nat × TI)} (h : tabB P (tlook tab) tab = true) (he : ∀ t, (tlook tab t).eqok = true → ∀ (w : World) (a b : List SV) (xs ys : List Value) (ρ : Rho), kindsLike (tlook tab t).zero a = true → kindsLike (tlook tab t).zero b = true → All2 (SV.R ρ) a xs → All2 (SV.R ρ) b ys →
    (Op.equal t (.agg xs.toArray) (.agg ys.toArray)).run P w = .ok (eqsL a b) w ∧ P.eqGuardType P.depth t = false) : TyOk P (tlook tab) := by
  intro t hk
  obtain ⟨i, h1, h2⟩ := tabB_mem h t hk
  subst h1
  exact tiB_ok h2 (he t)
end Bm
