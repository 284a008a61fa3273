/- The abstract machine's operations that turn nothing: what they say holds of the model. -/
import Derived.Test.YtdboiflfehpjhaaBmB
import Derived.Laws.Cells
import Derived.Laws.Bits
import Derived.Laws.Tables
import Derived.Laws.Pointers
import Derived.Laws.Entries
import Derived.RegionIn
import Derived.RangeFuncIn
set_option linter.unusedVariables false
set_option linter.unusedSimpArgs false
namespace Bm
open Go

def realBin : BinOp → IntKind → Int → Int → Int
  | .add, k, a, b => k.wrap (a + b)
  | .sub, k, a, b => k.wrap (a - b)
  | .mul, k, a, b => k.wrap (a * b)
  | .quo, k, a, b => k.wrap (a.tdiv b)
  | .rem, _, a, b => a.tmod b
  | .and, k, a, b => k.wrap (BitVec.ofInt k.bits a &&& BitVec.ofInt k.bits b).toNat
  | .or, k, a, b => k.wrap (BitVec.ofInt k.bits a ||| BitVec.ofInt k.bits b).toNat
  | .xor, k, a, b => k.wrap (BitVec.ofInt k.bits a ^^^ BitVec.ofInt k.bits b).toNat
  | .andNot, k, a, b => k.wrap (BitVec.ofInt k.bits a &&& ~~~(BitVec.ofInt k.bits b)).toNat
  | .shl, k, a, b => k.wrap (a * 2 ^ min b.toNat k.bits)
  | .shr, k, a, b => a.fdiv (2 ^ min b.toNat k.bits)
  | _, _, _, _ => 0
def realCmp : BinOp → Int → Int → Bool
  | .eql, a, b => a == b
  | .neq, a, b => a != b
  | .lss, a, b => decide (a < b)
  | .leq, a, b => decide (a ≤ b)
  | .gtr, a, b => decide (a > b)
  | .geq, a, b => decide (a ≥ b)
  | _, _, _ => false
def eqsL : List SV → List SV → Bool
  | .int _ a :: r, .int _ b :: r' => a == b && eqsL r r'
  | .bool a :: r, .bool b :: r' => a == b && eqsL r r'
  | [], [] => true
  | _, _ => false
def mgetL (l : List (Int × Int)) (k : Int) : Int := ((l.find? fun p => p.1 == k).map (·.2)).getD 0
def mhasL (l : List (Int × Int)) (k : Int) : Bool := l.any fun p => p.1 == k
def mdelL (l : List (Int × Int)) (k : Int) : List (Int × Int) := l.filter fun p => p.1 != k
def mputL (l : List (Int × Int)) (k v : Int) : List (Int × Int) := (k, v) :: mdelL l k

def kgetL (l : List ((Int × Int) × Int)) (a b : Int) : Int := ((l.find? fun p => p.1 == (a, b)).map (·.2)).getD 0
def khasL (l : List ((Int × Int) × Int)) (a b : Int) : Bool := l.any fun p => p.1 == (a, b)
def kdelL (l : List ((Int × Int) × Int)) (a b : Int) : List ((Int × Int) × Int) := l.filter fun p => p.1 != (a, b)
def kputL (l : List ((Int × Int) × Int)) (a b v : Int) : List ((Int × Int) × Int) := ((a, b), v) :: kdelL l a b
def repP (n : Nat) (z : List PV) : List PV := match n with | 0 => [] | n + 1 => z ++ repP n z

def CallableF (P : Program) (f : FuncId) : Prop := ∃ fn, P.funcs[f]? = some fn ∧ (fn.name == "runtime.NumGoroutine") = false ∧ fn.body.isSome = true
/-- A contract: called so, over whatever world that holds H, it returns r, and the world holds H' then, r and H' being such. -/
def AC (P : Program) (f : FuncId) (args : List AV) (H : List AO) (R : AV → List AO → Prop) : Prop :=
  CallableF P f ∧ ∀ (ρ : Rho) (w : World) (cargs : List Value), Holds H ρ w → All2 (AV.R ρ) args cargs →
    Calls P f cargs.toArray w fun e w' => ∃ (r : AV) (rc : Value) (H' : List AO) (ρ' : Rho), e = .returned rc ∧ R r H' ∧ r.R ρ' rc ∧ Ext H ρ w H' ρ' w' ∧ Holds H' ρ' w'

def FW (ro : Option Nat) : Fence := { fn := fun _ => True, depth := none, alive := false, round := ro }
/-- What a call of yield does: the record's round. -/
def YC (P : Program) (i : Nat) (args : List AV) (H : List AO) (R : AV → List AO → Prop) : Prop :=
  ∀ (ρ : Rho) (w : World) (cargs : List Value) (p : Pl), Holds H ρ w → All2 (AV.R ρ) args cargs → ρ[i]? = some p →
    ∃ (f : FuncId) (tmps : Array Value) (assign body : Code), (Instr.yield p.b cargs.toArray).run P w = .ok (.round p.b f tmps assign body) w ∧
      ∀ (ro : Option Nat) (n : Nat), RoundIn (FW ro) n P p.b f tmps assign body w fun e w' => ∃ (r : AV) (rc : Value) (H' : List AO) (ρ' : Rho), e = .returned rc ∧ R r H' ∧ r.R ρ' rc ∧ Ext H ρ w H' ρ' w' ∧ Holds H' ρ' w'

def realE (P : Program) : Ev where
  bin := realBin
  cmp := realCmp
  beq := fun a b => a == b
  eqs := eqsL
  conv := IntKind.wrap
  mn := fun a b => if b < a then b else a
  mx := fun a b => if b > a then b else a
  nat := fun n => (n : Int)
  nadd := fun a b => a + b
  nsub := fun a b => a - b
  nmul := fun a b => a * b
  idx := fun i sz off => i.toNat * sz + off
  get := fun l i K => ∃ x, l[i]? = some x ∧ K x.sv
  sub := fun l i n K => ∃ cs, subL l i n = some cs ∧ K (cs.map PV.sv)
  subP := fun l i n K => ∃ cs, subL l i n = some cs ∧ K cs
  subS := fun l i n K => ∃ cs, subL l i n = some cs ∧ K cs
  getS := fun l i K => ∃ x, l[i]? = some x ∧ K x
  put := putL
  app := fun a b => a ++ b
  rep := fun n z => repP n.toNat z
  oget := fun l i K => ∃ x, l[i]? = some x ∧ K x
  osub := fun l i n K => ∃ cs, subL l i n = some cs ∧ K cs
  oset := fun l i x => l.set i x
  oapp := fun a b => a ++ b
  orep := fun n => List.replicate n.toNat none
  rget := fun l i K => ∃ x, l[i]? = some x ∧ K x
  rlen := fun l => l.length
  rapp := fun l r => l ++ [r]
  toNat := Int.toNat
  nn := fun n => 0 ≤ n
  lt := fun n m => n < m
  le := fun n m => n ≤ m
  fit := fun n b => n * b ≤ 140737488355328
  lenOk := fun c n sz => c.svs.length = n * sz
  mget := mgetL
  mhas := mhasL
  mput := mputL
  mdel := mdelL
  mlen := fun l => l.length
  kget := kgetL
  khas := khasL
  kput := kputL
  next := fun todo K => (todo = [] → K none) ∧ ∀ e rest, todo.Perm (e :: rest) → K (some (e, rest))
  call := fun f args H k => ∃ R, AC P f args H R ∧ ∀ r H', R r H' → k r H'
  yield := fun i args H k => ∃ R, YC P i args H R ∧ ∀ r H', R r H' → k r H'

def litR : SV → Value → Bool
  | .int k n, .int k' n' => k == k' && n == n'
  | .bool b, .bool b' => b == b'
  | .nilp, .pointer none => true
  | .nils, .slice none 0 0 => true
  | .nilm, .map none => true
  | .nilf, .nilFunc => true
  | .raw (.string s), .string s' => decide (s = s')
  | _, _ => false
def litsR : List SV → List Value → Bool
  | [], [] => true
  | x :: l, v :: m => litR x v && litsR l m
  | _, _ => false
theorem litR_R {x : SV} {v : Value} (h : litR x v = true) (ρ : Rho) : x.R ρ v := by
  unfold litR at h
  split at h <;> first | (simp at h; done) | skip
  all_goals simp_all [SV.R, Value.oneCell']
theorem litsR_R : ∀ {l : List SV} {m : List Value}, litsR l m = true → ∀ ρ : Rho, All2 (SV.R ρ) l m
  | [], [], _, _ => trivial
  | x :: l, v :: m, h, ρ => by
    simp only [litsR, Bool.and_eq_true] at h
    exact ⟨litR_R h.1 ρ, litsR_R h.2 ρ⟩
  | [], _ :: _, h, _ => by simp [litsR] at h
  | _ :: _, [], h, _ => by simp [litsR] at h

def isAggD : TypeDesc → Bool
  | .struct _ => true
  | .array _ _ => true
  | _ => false
/-- What the table says of a type is so. -/
structure TIOk (P : Program) (T : TypeId → TI) (t : TypeId) : Prop where
  inf : ∃ inf z, P.info? t = some inf ∧ inf.size = (T t).sz ∧ inf.bytes = (T t).bytes ∧ inf.zero = some z ∧ litsR (T t).zero z.cells.toList = true ∧ z.cells.size = (T t).sz
  desc : ∃ d, P.underlying t = some d ∧ isAggD d = (T t).agg ∧ (match (T t).kind with
    | .prim => match (T t).zero with | [.int k _] => d = .int k | [.bool _] => d = .bool | [.nilp] => d = .pointer (P.pointee t) | _ => True
    | .struct => ∃ fs, d = .struct fs ∧ fs.toList.mapM (fun f => (P.info? f.type).map fun i => (f.offset, i.size)) = some ((T t).fields.map fun x => (x.1, x.2.1)) ∧
        ∀ (i : Nat) (off n : Nat) (g : Bool), (T t).fields[i]? = some (off, n, g) → ∃ f, fs[i]? = some f ∧
        f.offset = off ∧ n ≠ 0 ∧ (∃ inf, P.info? f.type = some inf ∧ inf.size = n) ∧ (∃ d', P.underlying f.type = some d' ∧ isAggD d' = g) ∧ (g = false → n = 1)
    | .array => d = .array (T t).len (T t).elem ∧ (T (T t).elem).known = true
    | .slice => d = .slice (T t).elem ∧ (T (T t).elem).known = true
    | .mapk => ∃ k e k1 k2 fs, d = .map k e ∧ P.underlying k = some (.struct fs) ∧ (fs[0]?).map (fun f => (f.name == "_", f.type, f.offset)) = some (false, k1, 0) ∧ (fs[1]?).map (fun f => (f.name == "_", f.type, f.offset)) = some (false, k2, 1) ∧ fs.size = 2 ∧
        P.underlying k1 = some (.int .i64) ∧ P.underlying k2 = some (.int .u64) ∧ P.underlying e = some (.int .u64) ∧ ∃ inf, P.info? e = some inf ∧ inf.zero = some (.int .u64 0)
    | .map64 => ∃ k e, d = .map k e ∧ P.underlying k = some (.int .u64) ∧ P.underlying e = some (.int .u64) ∧ ∃ inf, P.info? e = some inf ∧ inf.zero = some (.int .u64 0)
    | .other => True)
  one : (T t).agg = false → (T t).sz = 1
  pos : 0 < (T t).sz
  posb : 0 < (T t).bytes
  eq : (T t).eqok = true → ∀ (w : World) (a b : List SV) (xs ys : List Value) (ρ : Rho), kindsLike (T t).zero a = true → kindsLike (T t).zero b = true → All2 (SV.R ρ) a xs → All2 (SV.R ρ) b ys →
    (Op.equal t (.agg xs.toArray) (.agg ys.toArray)).run P w = .ok (eqsL a b) w ∧ P.eqGuardType P.depth t = false
def TyOk (P : Program) (T : TypeId → TI) : Prop := ∀ t, (T t).known = true → TIOk P T t

section
variable {P : Program} {T : TypeId → TI} {ρ : Rho} {w : World} {H : List AO}

theorem TIOk.size {t : TypeId} (h : TIOk P T t) (w : World) : (Go.sizeOf t).run P w = Result.ok (T t).sz w := by
  obtain ⟨inf, z, h1, h2, _⟩ := h.inf
  simp [Go.sizeOf, typeInfo, h1, h2]
theorem TIOk.isAgg {t : TypeId} (h : TIOk P T t) (w : World) : (isAgg t).run P w = .ok (T t).agg w := by
  obtain ⟨d, h1, h2, _⟩ := h.desc
  rw [← h2]
  cases d <;> simp [Go.isAgg, run_underlying h1, isAggD]
theorem TIOk.zeroV {t : TypeId} (h : TIOk P T t) (w : World) : ∃ z : Value, (zeroValue t).run P w = .ok z w ∧ litsR (T t).zero z.cells.toList = true ∧ z.cells.size = (T t).sz := by
  obtain ⟨inf, z, h1, h2, h3, h4, h5, h6⟩ := h.inf
  exact ⟨z, by simp [zeroValue, typeInfo, h1, h4], h5, h6⟩
theorem TIOk.bytesV {t : TypeId} (h : TIOk P T t) : ∃ inf z, P.info? t = some inf ∧ inf.size = (T t).sz ∧ inf.bytes = (T t).bytes ∧ inf.zero = some z ∧ litsR (T t).zero z.cells.toList = true ∧ z.cells.size = (T t).sz := h.inf

theorem subL_spec {α : Type} : ∀ {l : List α} {off n : Nat} {cs : List α}, subL l off n = some cs → cs.length = n ∧ ∀ j, j < n → cs[j]? = l[off + j]?
  | l, off, 0, cs, h => by simp [subL] at h; subst h; exact ⟨rfl, fun j hj => absurd hj (Nat.not_lt_zero _)⟩
  | x :: l, 0, n + 1, cs, h => by
    simp only [subL, Option.map_eq_some_iff] at h
    obtain ⟨c, hc, rfl⟩ := h
    obtain ⟨h1, h2⟩ := subL_spec hc
    refine ⟨by simp [h1], fun j hj => ?_⟩
    cases j with
    | zero => simp
    | succ j => simpa using h2 j (by omega)
  | _ :: l, i + 1, n + 1, cs, h => by
    simp only [subL] at h
    obtain ⟨h1, h2⟩ := subL_spec h
    exact ⟨h1, fun j hj => by rw [h2 j hj, show i + 1 + j = i + j + 1 by omega]; simp⟩
  | [], off, n + 1, cs, h => by cases off <;> simp [subL] at h
theorem All2.subL {α β : Type} {R : α → β → Prop} {l : List α} {m : List β} (h : All2 R l m) {off n : Nat} {cs : List α} (hs : Bm.subL l off n = some cs) :
    ∃ ds, Bm.subL m off n = some ds ∧ All2 R cs ds := by
  induction l generalizing m off n cs with
  | nil =>
    cases n with
    | zero => simp [Bm.subL] at hs; subst hs; exact ⟨[], by cases m <;> cases off <;> simp [Bm.subL], trivial⟩
    | succ n => cases off <;> simp [Bm.subL] at hs
  | cons x l ih =>
    cases m with
    | nil => exact h.elim
    | cons y m =>
      cases n with
      | zero => simp [Bm.subL] at hs; subst hs; exact ⟨[], by simp [Bm.subL], trivial⟩
      | succ n =>
        cases off with
        | zero =>
          simp only [Bm.subL, Option.map_eq_some_iff] at hs
          obtain ⟨c, hc, rfl⟩ := hs
          obtain ⟨ds, h1, h2⟩ := ih h.2 hc
          exact ⟨y :: ds, by simp [Bm.subL, h1], h.1, h2⟩
        | succ off => simp only [Bm.subL] at hs ⊢; exact ih h.2 hs
theorem add_place (b o j : Nat) : (⟨b, o, none⟩ : Addr).add j = ⟨b, o + j, none⟩ := by unfold Addr.add; split <;> simp_all

/-- The cells that an object shows to a reader. -/
def AO.view : AO → Option (List SV)
  | .cells l _ => some l
  | .vec c _ _ => some c.svs
  | .ro l => some (l.map PV.sv)
  | _ => none
theorem AO.R.view {o : AO} {p : Pl} (h : o.R ρ p w) {l : List SV} (hv : o.view = some l) :
    ∃ cs : List Value, All2 (SV.R ρ) l cs ∧ ∀ j v, cs[j]? = some v → w.cell? ⟨p.b, p.off + j, none⟩ = some v := by
  cases o <;> simp [AO.view] at hv
  case cells l' t =>
    subst hv
    obtain ⟨h0, cs, hc, e⟩ := h
    exact ⟨cs, hc, fun j v hj => by simp [World.cell?, e, h0, hj]⟩
  case vec l' t n =>
    subst hv
    simp only [AO.R] at h
    split at h
    · rw [h]; exact ⟨[], trivial, fun j v hj => by simp at hj⟩
    · obtain ⟨h0, cs, rest, hc, e, _⟩ := h
      refine ⟨cs, hc, fun j v hj => ?_⟩
      have hlt : j < cs.length := (List.getElem?_eq_some_iff.1 hj).1
      simp [World.cell?, e, h0, List.getElem?_append_left hlt, hj]
  case ro l' => subst hv; obtain ⟨cs, hc, _, e⟩ := h; exact ⟨cs, hc, e⟩

/-- Cells read as a variable of type t. -/
theorem run_loadVar_cells (hT : TyOk P T) {t : TypeId} (hk : (T t).known = true) {b o : Nat} {cs : List Value} {as : List SV} (hR : All2 (SV.R ρ) as cs) (hl : as.length = (T t).sz)
    (hc : ∀ j v, cs[j]? = some v → w.cell? ⟨b, o + j, none⟩ = some v) (hs : (T t).agg = false → as.length = 1) :
    ∃ vc, (loadVar t ⟨b, o, none⟩).run P w = .ok vc w ∧ (ofCells (T t).agg as).R ρ vc := by
  have h := hT t hk
  cases ha : (T t).agg with
  | true =>
    refine ⟨.agg cs.toArray, ?_, cs, hR, rfl⟩
    have := run_loadCells_list (P := P) w ⟨b, o, none⟩ cs (fun j v hj => by rw [add_place]; exact hc j v hj)
    rw [← hR.length, hl] at this
    simp [loadVar, h.isAgg, ha, h.size, this]
  | false =>
    have h1 := hs ha
    match as, cs, hR, h1 with
    | [x], [v], hR, _ =>
      refine ⟨v, ?_, hR.1⟩
      have := hc 0 v rfl
      rw [Nat.add_zero] at this
      simp [loadVar, h.isAgg, ha, run_load, this]
end
end Bm
