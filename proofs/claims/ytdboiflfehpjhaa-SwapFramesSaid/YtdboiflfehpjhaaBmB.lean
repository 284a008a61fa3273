/- The abstract machine: what the code does to abstract values and an abstract heap, as a function that is evaluated by cbv. -/
import Derived.Test.YtdboiflfehpjhaaBmA
import Derived.OrdersIn
import Derived.Laws.Sem
set_option linter.unusedVariables false
set_option linter.unusedSimpArgs false
namespace Bm
open Go

/-- What the evaluation leaves closed (in a proof: a variable). -/
structure Ev where
  bin : BinOp → IntKind → Int → Int → Int
  cmp : BinOp → Int → Int → Bool
  beq : Bool → Bool → Bool
  eqs : List SV → List SV → Bool
  conv : IntKind → Int → Int
  mn : Int → Int → Int
  mx : Int → Int → Int
  nat : Nat → Int
  nadd : Nat → Nat → Nat
  nsub : Nat → Nat → Nat
  nmul : Nat → Nat → Nat
  idx : Int → Nat → Nat → Nat
  get : List PV → Nat → (SV → Prop) → Prop
  sub : List PV → Nat → Nat → (List SV → Prop) → Prop
  subP : List PV → Nat → Nat → (List PV → Prop) → Prop
  subS : List SV → Nat → Nat → (List SV → Prop) → Prop
  getS : List SV → Nat → (SV → Prop) → Prop
  put : List PV → Nat → List PV → List PV
  app : List PV → List PV → List PV
  rep : Int → List PV → List PV
  oget : List (Option Nat) → Nat → (Option Nat → Prop) → Prop
  osub : List (Option Nat) → Nat → Nat → (List (Option Nat) → Prop) → Prop
  oset : List (Option Nat) → Nat → Option Nat → List (Option Nat)
  oapp : List (Option Nat) → List (Option Nat) → List (Option Nat)
  orep : Int → List (Option Nat)
  rget : List (List PV) → Nat → (List PV → Prop) → Prop
  rlen : List (List PV) → Nat
  rapp : List (List PV) → List PV → List (List PV)
  toNat : Int → Nat
  nn : Int → Prop
  lt : Int → Int → Prop
  le : Int → Int → Prop
  fit : Int → Nat → Prop
  lenOk : VC → Nat → Nat → Prop
  mget : List (Int × Int) → Int → Int
  mhas : List (Int × Int) → Int → Bool
  mput : List (Int × Int) → Int → Int → List (Int × Int)
  mdel : List (Int × Int) → Int → List (Int × Int)
  mlen : List (Int × Int) → Int
  kget : List ((Int × Int) × Int) → Int → Int → Int
  khas : List ((Int × Int) × Int) → Int → Int → Bool
  kput : List ((Int × Int) × Int) → Int → Int → Int → List ((Int × Int) × Int)
  next : List (Int × Int) → (Option ((Int × Int) × List (Int × Int)) → Prop) → Prop
  call : FuncId → List AV → List AO → (AV → List AO → Prop) → Prop
  yield : Nat → List AV → List AO → (AV → List AO → Prop) → Prop

inductive TK where
  | prim | struct | array | slice | map64 | mapk | other
structure TI where
  kind : TK := .other
  sz : Nat := 1
  bytes : Nat := 8
  zero : List SV := []
  fields : List (Nat × Nat × Bool) := []
  elem : Nat := 0
  len : Nat := 0
  eqok : Bool := false

def TI.known (t : TI) : Bool := match t.kind with | .other => false | _ => true
def TI.agg (t : TI) : Bool := match t.kind with | .struct | .array => true | _ => false

abbrev sv (x : SV) : AV := .c (.s x)
def undefA : AV := .tup []
def br (b : Bool) (A B : Unit → Prop) : Prop := match b with | true => A () | false => B ()
def svOfVal : Value → SV
  | .int k n => .int k n
  | .bool b => .bool b
  | .pointer none => .nilp
  | .slice none 0 0 => .nils
  | .nilFunc => .nilf
  | .map none => .nilm
  | v => .raw v
def avOfVal : Value → AV
  | .agg cs => match cs.toList.all Value.oneCell' with | true => .c (.agg (cs.toList.map svOfVal)) | false => .any
  | .tuple cs => match cs.toList with | [] => .tup [] | _ => .any
  | v => sv (svOfVal v)
def evA (t : List AV) : Operand → AV
  | .tmp i => t.getD i undefA
  | .const v => avOfVal v
  | .global _ => .any
  | .func f => sv (.fn f [])
def isCmp : BinOp → Bool
  | .eql | .neq | .lss | .leq | .gtr | .geq => true
  | _ => false
def isConst : Operand → Bool
  | .const _ => true
  | _ => false
def constInt : Operand → Option Int
  | .const (.int _ n) => some n
  | _ => none
/-- n cells from the place off on. -/
def subL {α : Type} : List α → Nat → Nat → Option (List α)
  | _, _, 0 => some []
  | x :: l, 0, n + 1 => (subL l 0 n).map (x :: ·)
  | _ :: l, i + 1, n + 1 => subL l i (n + 1)
  | [], _, _ + 1 => none
def putL {α : Type} : List α → Nat → List α → List α
  | l, _, [] => l
  | _ :: l, 0, v :: vs => v :: putL l 0 vs
  | x :: l, i + 1, vs => x :: putL l i vs
  | [], _, _ => []
def CV.cells : CV → List SV
  | .s x => [x]
  | .agg l => l
def ofCells (agg : Bool) (l : List SV) : AV :=
  match agg, l with
  | true, l => .c (.agg l)
  | false, [x] => sv x
  | false, _ => .any
def fillA (fs : List (Nat × Nat × Bool)) (l : List SV) : List (Nat × AV) → Option (List SV)
  | [] => some l
  | (i, .c v) :: r => match fs[i]? with
    | some (off, sz, _) => match Nat.beq v.cells.length sz && Nat.ble (off + sz) l.length with
      | true => fillA fs (putL l off v.cells) r
      | false => none
    | none => none
  | _ => none
/-- The same with elements of a size, of an array or a slice. -/
def fillE (sz : Nat) (l : List SV) : List (Nat × AV) → Option (List SV)
  | [] => some l
  | (i, .c v) :: r => match Nat.beq v.cells.length sz && Nat.ble (i * sz + sz) l.length with
    | true => fillE sz (putL l (i * sz) v.cells) r
    | false => none
  | _ => none
def repL (n : Nat) (z : List SV) : List SV := match n with | 0 => [] | n + 1 => z ++ repL n z
def offA (E : Ev) (H : List AO) (i off d : Nat) : Nat :=
  match H[i]? with
  | some (.cells _ _) => off + d
  | _ => match d with | 0 => off | d => E.nadd off d
/-- Cells that are no addresses. -/
def toPVs : List SV → Option (List PV)
  | [] => some []
  | .int k n :: r => match toPVs r with | some l => some (.int k n :: l) | none => none
  | .bool b :: r => match toPVs r with | some l => some (.bool b :: l) | none => none
  | .raw v :: r => match toPVs r with | some l => some (.raw v :: l) | none => none
  | _ :: _ => none
def vcOf (l : List SV) : VC :=
  match toPVs l with
  | some ps => .pv ps
  | none => match l with
    | [.fptr j k 0] => .fp j [some k]
    | l => .any l
def vapp (E : Ev) : VC → VC → Option VC
  | .pv a, .pv b => some (.pv (E.app a b))
  | .fp j a, .fp k b => match Nat.beq j k with | true => some (.fp j (E.oapp a b)) | false => none
  | .any a, .any b => some (.any (a ++ b))
  | _, _ => none
def loadV (E : Ev) (agg : Bool) (sz : Nat) (c : VC) (off : Nat) (K : AV → Prop) : Prop :=
  match c with
  | .pv l => match agg with
    | true => E.sub l off sz fun cs => K (.c (.agg cs))
    | false => E.get l off fun x => K (sv x)
  | .fp j l => match agg with
    | true => False
    | false => E.oget l off fun x => K (sv (optSV j x))
  | .any l => match agg with
    | true => E.subS l off sz fun cs => K (.c (.agg cs))
    | false => E.getS l off fun x => K (sv x)
def loadA (E : Ev) (T : TypeId → TI) (t : TypeId) (H : List AO) (i off : Nat) (K : AV → Prop) : Prop :=
  match H[i]? with
  | some (.cells l _) => match subL l off (T t).sz with | some cs => K (ofCells (T t).agg cs) | none => False
  | some (.vec c _ _) => loadV E (T t).agg (T t).sz c off K
  | some (.ro l) => loadV E (T t).agg (T t).sz (.pv l) off K
  | _ => False
/-- Out of a box. -/
def loadF (E : Ev) (T : TypeId → TI) (t : TypeId) (H : List AO) (i k off : Nat) (K : AV → Prop) : Prop :=
  match H[i]? with
  | some (.fam rows _) => E.rget rows k fun row => match subL (row.map PV.sv) off (T t).sz with | some cs => K (ofCells (T t).agg cs) | none => False
  | _ => False
/-- The cells of a slice. -/
def contV (E : Ev) (esz : Nat) (c : VC) (off m : Nat) (K : Nat → VC → Prop) : Prop :=
  match c with
  | .pv l => E.subP l off (E.nmul m esz) fun cs => K m (.pv cs)
  | .fp j l => E.osub l off (E.nmul m esz) fun cs => K m (.fp j cs)
  | .any l => E.subS l off (E.nmul m esz) fun cs => K m (.any cs)
def contA (E : Ev) (H : List AO) (esz : Nat) (x : AV) (K : Nat → VC → Prop) : Prop :=
  match x with
  | .c (.s (.sl i off m)) => match H[i]? with
    | some (.cells l _) => match subL l off (m * esz) with | some cs => K m (vcOf cs) | none => False
    | some (.vec c _ _) => contV E esz c off m K
    | some (.ro l) => contV E esz (.pv l) off m K
    | _ => False
  | .c (.s (.vec i m)) => match H[i]? with
    | some (.vec c _ _) => K m c
    | _ => False
  | .c (.s .nils) => K 0 (.pv [])
  | _ => False
def capIds : List AV → Option (List Nat)
  | [] => some []
  | .c (.s (.ptr i 0)) :: r => (capIds r).map (i :: ·)
  | _ => none
def noIter (m : Nat) : List AO → Bool
  | [] => true
  | .it64 k _ :: r => match Nat.beq k m with | true => false | false => noIter m r
  | _ :: r => noIter m r
def kindBeq : IntKind → IntKind → Bool
  | .i8, .i8 | .i16, .i16 | .i32, .i32 | .i64, .i64 | .u8, .u8 | .u16, .u16 | .u32, .u32 | .u64, .u64 => true
  | _, _ => false
/-- Whole numbers of the same kinds, and bools, one behind the other. -/
def kindsLike : List SV → List SV → Bool
  | [], [] => true
  | .int k _ :: r, .int k' _ :: r' => match kindBeq k k' with | true => kindsLike r r' | false => false
  | .bool _ :: r, .bool _ :: r' => kindsLike r r'
  | _, _ => false
/-- An operation that does nothing to the heap: its value, under what is asked. -/
def pureA (E : Ev) (T : TypeId → TI) (o : Op) (ev : Operand → AV) (H : List AO) (K : AV → Prop) : Prop :=
  match o with
  | .move x | .assign x => K (ev x)
  | .pick c a b => match ev c with | .c (.s (.bool x)) => br x (fun _ => K (ev a)) (fun _ => K (ev b)) | _ => False
  | .nilCheck x => match ev x with
    | .c (.s (.ptr i off)) => K (sv (.ptr i off))
    | .c (.s (.fptr i k off)) => K (sv (.fptr i k off))
    | .c (.s (.fn f cs)) => K (sv (.fn f cs))
    | .c (.s (.yld l)) => K (sv (.yld l))
    | _ => False
  | .fieldAddr t x f => match ev x, (T t).kind, (T t).fields[f]? with
    | .c (.s (.ptr i off)), .struct, some (d, _, _) => K (sv (.ptr i (offA E H i off d)))
    | .c (.s (.fptr i k off)), .struct, some (d, _, _) => K (sv (.fptr i k (off + d)))
    | _, _, _ => False
  | .field t x f => match ev x, (T t).kind, (T t).fields[f]? with
    | .c (.agg l), .struct, some (d, n, g) => match subL l d n with | some cs => K (ofCells g cs) | none => False
    | _, _, _ => False
  | .load t x => match ev x with
    | .c (.s (.ptr i off)) => match (T t).known with | true => loadA E T t H i off K | false => False
    | .c (.s (.fptr i k off)) => match (T t).known with | true => loadF E T t H i k off K | false => False
    | _ => False
  | .build t parts => match (T t).kind with
    | .struct => match fillA (T t).fields (T t).zero (parts.toList.map fun p => (p.1, ev p.2)) with | some l => K (.c (.agg l)) | none => False
    | .array => match fillE (T (T t).elem).sz (T t).zero (parts.toList.map fun p => (p.1, ev p.2)) with | some l => K (.c (.agg l)) | none => False
    | _ => False
  | .extract x i => match ev x with
    | .tup l => match l[i]? with | some v => K (.c v) | none => False
    | _ => False
  | .unOp u _ x => match u, ev x with
    | .not, .c (.s (.bool b)) => K (sv (.bool (!b)))
    | .neg, .c (.s (.int k n)) => K (sv (.int k (E.bin .sub k 0 n)))
    | _, _ => False
  | .convert s d x => match (T s).known, (T d).kind, (T d).zero, ev x with
    | true, .prim, [.int k _], .c (.s (.int _ n)) => K (sv (.int k (E.conv k n)))
    | _, _, _, _ => False
  | .makeFunc (.func f) first cap => match first.toList, capIds (cap.toList.map ev) with
    | [], some ids => K (sv (.fn f ids))
    | _, _ => False
  | .binOp op t x y _ => match ev x, ev y with
    | .c (.s (.int k a)), .c (.s (.int k' b)) => match op with
      | .shl | .shr => match constInt y with
        | some (.ofNat _) => K (sv (.int k (E.bin op k a b)))
        | some _ => False
        | none => E.nn b ∧ K (sv (.int k (E.bin op k a b)))
      | .quo | .rem => match kindBeq k k', constInt y with
        | true, some (.ofNat (_ + 1)) => K (sv (.int k (E.bin op k a b)))
        | true, none => b ≠ 0 ∧ K (sv (.int k (E.bin op k a b)))
        | _, _ => False
      | _ => match kindBeq k k', isCmp op with
        | true, true => K (sv (.bool (E.cmp op a b)))
        | true, false => K (sv (.int k (E.bin op k a b)))
        | _, _ => False
    | .c (.s (.bool a)), .c (.s (.bool b)) => match (T t).kind, (T t).zero, op with
      | .prim, [.bool _], .eql => K (sv (.bool (E.beq a b)))
      | .prim, [.bool _], .neq => K (sv (.bool (!(E.beq a b))))
      | _, _, _ => False
    | .c (.s (.ptr _ _)), .c (.s .nilp) => match (T t).kind, (T t).zero, op with
      | .prim, [.nilp], .eql => K (sv (.bool false))
      | .prim, [.nilp], .neq => K (sv (.bool true))
      | _, _, _ => False
    | .c (.s (.fptr _ _ _)), .c (.s .nilp) => match (T t).kind, (T t).zero, op with
      | .prim, [.nilp], .eql => K (sv (.bool false))
      | .prim, [.nilp], .neq => K (sv (.bool true))
      | _, _, _ => False
    | .c (.s .nilp), .c (.s (.ptr _ _)) => match (T t).kind, (T t).zero, op with
      | .prim, [.nilp], .eql => K (sv (.bool false))
      | .prim, [.nilp], .neq => K (sv (.bool true))
      | _, _, _ => False
    | .c (.s .nilp), .c (.s (.fptr _ _ _)) => match (T t).kind, (T t).zero, op with
      | .prim, [.nilp], .eql => K (sv (.bool false))
      | .prim, [.nilp], .neq => K (sv (.bool true))
      | _, _, _ => False
    | .c (.s .nilp), .c (.s .nilp) => match (T t).kind, (T t).zero, op with
      | .prim, [.nilp], .eql => K (sv (.bool true))
      | .prim, [.nilp], .neq => K (sv (.bool false))
      | _, _, _ => False
    | .c (.s (.mp _)), .c (.s .nilm) => match (T t).kind, op with
      | .map64, .eql => K (sv (.bool false))
      | .map64, .neq => K (sv (.bool true))
      | _, _ => False
    | .c (.agg a), .c (.agg b) => match (T t).eqok && (T t).known, kindsLike (T t).zero a, kindsLike (T t).zero b with
      | true, true, true => match op with
        | .eql => K (sv (.bool (E.eqs a b)))
        | .neq => K (sv (.bool (!(E.eqs a b))))
        | _ => False
      | _, _, _ => False
    | _, _ => False
  | .indexAddr t x i => match (T t).kind, ev i with
    | .slice, .c (.s (.int _ n)) => match ev x with
      | .c (.s (.sl j off m)) => E.nn n ∧ E.lt n (E.nat m) ∧ K (sv (.ptr j (E.idx n (T (T t).elem).sz off)))
      | .c (.s (.vec j m)) => E.nn n ∧ E.lt n (E.nat m) ∧ K (sv (.ptr j (E.idx n (T (T t).elem).sz 0)))
      | _ => False
    | .array, .c (.s (.int _ n)) => match ev x, constInt i with
      | .c (.s (.ptr j off)), some c => match Nat.blt c.toNat (T t).len, c with
        | true, .ofNat c => K (sv (.ptr j (off + c * (T (T t).elem).sz)))
        | _, _ => False
      | .c (.s (.ptr j off)), none => E.nn n ∧ E.lt n (E.nat (T t).len) ∧ K (sv (.ptr j (E.idx n (T (T t).elem).sz off)))
      | _, _ => False
    | _, _ => False
  | .index t x i => match (T t).kind, ev x, ev i with
    | .array, .c (.agg l), .c (.s (.int _ n)) => E.nn n ∧ E.lt n (E.nat (T t).len) ∧ E.subS l (E.idx n (T (T t).elem).sz 0) (T (T t).elem).sz fun cs => K (ofCells (T (T t).elem).agg cs)
    | _, _, _ => False
  | .slice t x lo hi mx => match (T t).kind, mx with
    | .slice, none => match ev x with
      | .c (.s (.sl j off m)) => match lo.map ev, hi.map ev with
        | none, some (.c (.s (.int _ h))) => E.nn h ∧ E.le h (E.nat m) ∧ K (sv (.sl j off (E.toNat h)))
        | some (.c (.s (.int _ l))), none => E.nn l ∧ E.le l (E.nat m) ∧ K (sv (.sl j (E.idx l (T (T t).elem).sz off) (E.nsub m (E.toNat l))))
        | _, _ => False
      | .c (.s (.vec j m)) => match lo.map ev, hi.map ev with
        | none, some (.c (.s (.int _ h))) => E.nn h ∧ E.le h (E.nat m) ∧ K (sv (.sl j 0 (E.toNat h)))
        | some (.c (.s (.int _ l))), none => E.nn l ∧ E.le l (E.nat m) ∧ K (sv (.sl j (E.idx l (T (T t).elem).sz 0) (E.nsub m (E.toNat l))))
        | _, _ => False
      | _ => False
    | _, _ => False
  | .lookup t m k ok => match (T t).kind, ev m, ev k with
    | .map64, .c (.s (.mp i)), .c (.s (.int .u64 n)) => match H[i]? with
      | some (.m64 l) => match ok with
        | false => K (sv (.int .u64 (E.mget l n)))
        | true => K (.tup [.s (.int .u64 (E.mget l n)), .s (.bool (E.mhas l n))])
      | _ => False
    | _, _, _ => False
  | .entry x => match ev x with
    | .c (.s (.ptr i 0)) => match H[i]? with
      | some (.it64 _ (_, (k, v) :: _)) => K (.tup [.s (.int .u64 k), .s (.int .u64 v)])
      | _ => False
    | _ => False
  | .call c => match c.callee, c.args.toList.map ev, c.argTypes.toList with
    | .builtin .len, [.c (.s x)], [t] => match (T t).kind, x with
      | .slice, .sl _ _ n => K (sv (.int .i64 (E.nat n)))
      | .slice, .vec _ n => K (sv (.int .i64 (E.nat n)))
      | .slice, .nils => K (sv (.int .i64 0))
      | .map64, .mp i => match H[i]? with | some (.m64 l) => K (sv (.int .i64 (E.mlen l))) | _ => False
      | _, _ => False
    | .builtin .min, [.c (.s (.int k a)), .c (.s (.int _ b))], _ => K (sv (.int k (E.mn a b)))
    | .builtin .max, [.c (.s (.int k a)), .c (.s (.int _ b))], _ => K (sv (.int k (E.mx a b)))
    | _, _, _ => False
  | _ => False
/-- Is it one of those? -/
def isPure : Op → Bool
  | .move _ | .assign _ | .pick .. | .build .. | .nilCheck _ | .fieldAddr .. | .field .. | .load .. | .extract .. | .unOp .. | .convert .. | .makeFunc .. | .binOp .. | .indexAddr .. | .index .. | .slice .. | .lookup .. | .entry _ => true
  | .call c => match c.callee with | .builtin .len | .builtin .min | .builtin .max => true | _ => false
  | _ => false
/-- An operation that turns the heap, or calls. -/
def actA (E : Ev) (T : TypeId → TI) (o : Op) (ev : Operand → AV) (H : List AO) (K : AV → List AO → Prop) : Prop :=
  match o with
  | .alloc t => match (T t).known with | true => K (sv (.ptr H.length 0)) (H ++ [.cells (T t).zero t]) | false => False
  | .box t x => match ev x with
    | .c v => K (sv (.ptr H.length 0)) (H ++ [.cells v.cells t])
    | _ => False
  | .buildSlice t n parts => match (T t).kind with
    | .slice => match Nat.ble (n * (T (T t).elem).sz) 16777216 && Nat.blt 0 n with
      | true => match fillE (T (T t).elem).sz (repL n (T (T t).elem).zero) (parts.toList.map fun p => (p.1, ev p.2)) with
        | some l => K (sv (.sl H.length 0 n)) (H ++ [.cells l (T t).elem])
        | none => False
      | false => False
    | _ => False
  | .store t a x => match ev a, ev x with
    | .c (.s (.ptr i off)), .c v => match (T t).known && Nat.beq v.cells.length (T t).sz with
      | true => match H[i]? with
        | some (.cells l e) => match subL l off (T t).sz with
          | some _ => K undefA (H.set i (.cells (putL l off v.cells) e))
          | none => False
        | some (.vec (.pv l) e ne) => match toPVs v.cells with
          | some ps => E.subP l off (T t).sz fun _ => K undefA (H.set i (.vec (.pv (E.put l off ps)) e ne))
          | none => False
        | some (.vec (.fp j l) e ne) => match v with
          | .s .nilp => E.oget l off fun _ => K undefA (H.set i (.vec (.fp j (E.oset l off none)) e ne))
          | .s (.fptr j' k 0) => match Nat.beq j j' with
            | true => E.oget l off fun _ => K undefA (H.set i (.vec (.fp j (E.oset l off (some k))) e ne))
            | false => False
          | .s (.ptr m 0) => match H[j]?, H[m]? with
            | some (.fam rows te), some (.cells cs te') => match toPVs cs, Nat.beq te te' with
              | some row, true => E.oget l off fun _ => K undefA (((H.set m .gone).set j .gone).set i (.vec (.fp H.length (E.oset l off (some (E.rlen rows)))) e ne) ++ [.fam (E.rapp rows row) te])
              | _, _ => False
            | _, _ => False
          | _ => False
        | _ => False
      | false => False
    | _, _ => False
  | .makeSlice t l c => match (T t).kind, ev l, ev c with
    | .slice, .c (.s (.int _ n)), .c (.s (.int _ m)) => match toPVs (T (T t).elem).zero, (T (T t).elem).zero with
      | some zs, _ => n = m ∧ E.nn n ∧ E.fit n (T (T t).elem).bytes ∧ K (sv (.vec H.length (E.toNat n))) (H ++ [.vec (.pv (E.rep n zs)) (T t).elem (T (T t).elem).sz])
      | none, [.nilp] => n = m ∧ E.nn n ∧ E.fit n (T (T t).elem).bytes ∧ K (sv (.vec H.length (E.toNat n))) (H ++ [.vec (.fp (H.length + 1) (E.orep n)) (T t).elem (T (T t).elem).sz])
      | _, _ => False
    | _, _, _ => False
  | .makeMap t r => match (T t).kind, r with
    | .map64, none => K (sv (.mp H.length)) (H ++ [.m64 []])
    | _, _ => False
  | .mapUpdate t m k x => match (T t).kind, ev m, ev k, ev x with
    | .map64, .c (.s (.mp i)), .c (.s (.int .u64 n)), .c (.s (.int .u64 v)) => match H[i]?, noIter i H with
      | some (.m64 l), true => K undefA (H.set i (.m64 (E.mput l n v)))
      | _, _ => False
    | _, _, _, _ => False
  | .range t x => match (T t).kind, ev x with
    | .map64, .c (.s (.mp i)) => match H[i]? with
      | some (.m64 l) => K (sv (.ptr H.length 0)) (H ++ [.it64 i (l, [])])
      | _ => False
    | _, _ => False
  | .next it false => match ev it with
    | .c (.s (.ptr i 0)) => match H[i]? with
      | some (.it64 m todo) => E.next todo.1 fun r => match r with
        | none => K (.tup [.s (.bool false)]) H
        | some ((k, v), rest) => K (.tup [.s (.bool true), .s (.int .u64 k), .s (.int .u64 v)]) (H.set i (.it64 m (rest, [(k, v)])))
      | _ => False
    | _ => False
  | .call c => match c.callee with
    | .value f => match ev f with
      | .c (.s (.fn g caps)) => E.call g (c.args.toList.map ev ++ caps.map fun i => sv (.ptr i 0)) H K
      | .c (.s (.yld i)) => E.yield i (c.args.toList.map ev) H K
      | _ => False
    | .builtin .append => match c.args.toList.map ev, c.argTypes.toList with
      | [s, x], [t, t2] => match (T t).kind, Nat.beq t t2 with
        | .slice, true => contA E H (T (T t).elem).sz x fun m new => match s with
          | .c (.s .nils) => E.lenOk new m (T (T t).elem).sz ∧ E.fit (E.nat m) (T (T t).elem).bytes ∧ K (sv (.vec H.length m)) (H ++ [.vec new (T t).elem (T (T t).elem).sz])
          | .c (.s (.vec i n)) => match H[i]? with
            | some (.vec old e ne) => match Nat.beq e (T t).elem && Nat.beq ne (T (T t).elem).sz, vapp E old new with
              | true, some c => E.lenOk old n ne ∧ E.lenOk new m ne ∧ E.fit (E.nat (E.nadd n m)) (T (T t).elem).bytes ∧ K (sv (.vec H.length (E.nadd n m))) (H.set i .gone ++ [.vec c e ne])
              | _, _ => False
            | _ => False
          | _ => False
        | _, _ => False
      | _, _ => False
    | .builtin .delete => match c.args.toList.map ev, c.argTypes.toList with
      | [.c (.s (.mp i)), .c (.s (.int .u64 n))], t :: _ => match (T t).kind, H[i]?, noIter i H with
        | .map64, some (.m64 l), true => K undefA (H.set i (.m64 (E.mdel l n)))
        | _, _, _ => False
      | _, _ => False
    | _ => False
  | _ => False
def opA (E : Ev) (T : TypeId → TI) (o : Op) (ev : Operand → AV) (H : List AO) (K : AV → List AO → Prop) : Prop :=
  match isPure o with
  | true => pureA E T o ev H fun v => K v H
  | false => actA E T o ev H K
def putA (t : List AV) : Option Nat → AV → List AV
  | none, _ => t
  | some d, v => t.set d v
/-- An operation under its guard. -/
def stepA (E : Ev) (T : TypeId → TI) (ops : Array Oper) (o : Oper) (t : List AV) (H : List AO) (K : List AV → List AO → Prop) : Prop :=
  match o.guard with
  | none => opA E T o.op (evA t) H fun v H => K (putA t o.dst v) H
  | some (j, want) => match (ops.toList[j]?).bind (·.dst) with
    | none => K (putA t o.dst undefA) H
    | some d => match t.getD d undefA with
      | .c (.s (.bool b)) => br b
          (fun _ => match want with
            | true => opA E T o.op (evA (t.set d (sv (.bool true)))) H fun v H => K (putA (t.set d (sv (.bool true))) o.dst v) H
            | false => K (putA (t.set d (sv (.bool true))) o.dst undefA) H)
          (fun _ => match want with
            | true => K (putA (t.set d (sv (.bool false))) o.dst undefA) H
            | false => opA E T o.op (evA (t.set d (sv (.bool false)))) H fun v H => K (putA (t.set d (sv (.bool false))) o.dst v) H)
      | .c _ => False
      | .any => False
      | .tup _ => K (putA t o.dst undefA) H
def opsA (E : Ev) (T : TypeId → TI) (ops : Array Oper) : List Oper → List AV → List AO → (List AV → List AO → Prop) → Prop
  | [], t, H, K => K t H
  | o :: r, t, H, K => stepA E T ops o t H fun t H => opsA E T ops r t H K
/-! Regions that draw their order -/
/-- The order that is walked: one operation behind the other; where two may come, both ways. -/
inductive DT where
  | done
  | op (i : Nat) (r : DT)
  | fork (i : Nat) (a : DT) (j : Nat) (b : DT)
/-- A read that was taken: its number, the object, what the object was. -/
structure Ld where
  op : Nat
  obj : Nat
  was : AO
/-- The objects that an operation reads. -/
def loadsOf (o : Op) (ev : Operand → AV) : List Nat :=
  match o with
  | .load _ x => match ev x with
    | .c (.s (.ptr i _)) => [i]
    | .c (.s (.fptr i _ _)) => [i]
    | _ => []
  | .lookup _ m _ _ => match ev m with
    | .c (.s (.mp i)) => [i]
    | _ => []
  | .entry x => match ev x with
    | .c (.s (.ptr i 0)) => [i]
    | _ => []
  | .call c => match c.args.toList.map ev with
    | [.c (.s (.mp i))] => [i]
    | _ => []
  | _ => []
def SV.fnl : SV → Bool
  | .sl _ _ _ => false
  | _ => true
def fnlL : List SV → Bool
  | [] => true
  | x :: l => match x.fnl with | true => fnlL l | false => false
def fnlC : List CV → Bool
  | [] => true
  | .s x :: l => match x.fnl with | true => fnlC l | false => false
  | .agg m :: l => match fnlL m with | true => fnlC l | false => false
def moves : Op → Bool
  | .move _ | .assign _ | .pick .. | .extract .. => true
  | _ => false
/-- Does the value tell the model's value? -/
def tells (o : Op) (v : AV) : Bool :=
  match moves o with
  | true => true
  | false => match v with
    | .c (.s x) => x.fnl
    | .c (.agg l) => fnlL l
    | .tup l => fnlC l
    | .any => false
def addL (H : List AO) (i : Nat) (L : List Ld) : List Nat → List Ld
  | [] => L
  | k :: r => match H[k]? with
    | some o => ⟨i, k, o⟩ :: addL H i L r
    | none => addL H i L r
def dropL (on : List Nat) : List Ld → List Ld
  | [] => []
  | x :: L => match on.contains x.op with | true => dropL on L | false => x :: dropL on L
def bindsOn (o : Oper) : List Nat := (o.after.toList.filter fun e => Region.binds .any e).map (·.on)
def keepL (H : List AO) : List Ld → Prop
  | [] => True
  | x :: L => H[x.obj]? = some x.was ∧ keepL H L
/-- An operation that does nothing to the heap. -/
def stepL (E : Ev) (T : TypeId → TI) (ops : Array Oper) (i : Nat) (o : Oper) (L : List Ld) (t : List AV) (H : List AO) (K : List Ld → List AV → Prop) : Prop :=
  let go (t : List AV) : Prop := pureA E T o.op (evA t) H fun v => match tells o.op v with
    | true => K (addL H i L (loadsOf o.op (evA t))) (putA t o.dst v)
    | false => False
  match o.guard with
  | none => go t
  | some (j, want) => match (ops.toList[j]?).bind (·.dst) with
    | none => K L (putA t o.dst undefA)
    | some d => match t.getD d undefA with
      | .c (.s (.bool b)) => br b
          (fun _ => match want with
            | true => go (t.set d (sv (.bool true)))
            | false => K L (putA (t.set d (sv (.bool true))) o.dst undefA))
          (fun _ => match want with
            | true => K L (putA (t.set d (sv (.bool false))) o.dst undefA)
            | false => go (t.set d (sv (.bool false))))
      | .c _ => False
      | .any => False
      | .tup _ => K L (putA t o.dst undefA)
def oneD (E : Ev) (T : TypeId → TI) (ops : Array Oper) (i : Nat) (L : List Ld) (t : List AV) (H : List AO) (K : List Ld → List AV → List AO → Prop) : Prop :=
  match ops.toList[i]? with
  | none => False
  | some o => match isPure o.op with
    | true => stepL E T ops i o L t H fun L t => K L t H
    | false => stepA E T ops o t H fun t H => keepL H (dropL (bindsOn o) L) ∧ K (dropL (bindsOn o) L) t H
/-- The operations of a region in a given order. -/
def drawA (E : Ev) (T : TypeId → TI) (ops : Array Oper) : DT → List Ld → List AV → List AO → (List AV → List AO → Prop) → Prop
  | .done, _, t, H, K => K t H
  | .op i r, L, t, H, K => oneD E T ops i L t H fun L t H => drawA E T ops r L t H K
  | .fork i a j b, L, t, H, K => (oneD E T ops i L t H fun L t H => drawA E T ops a L t H K) ∧ oneD E T ops j L t H fun L t H => drawA E T ops b L t H K
/-- Has an operation that turns the heap, and waits for number l, been carried out? -/
def depd (ops : Array Oper) (l : Nat) (listed : Array Bool) : Bool :=
  (List.range ops.size).any fun j => listed.getD j false && match ops[j]? with
    | some o => !isPure o.op && (bindsOn o).contains l
    | none => false
def isPureAt (ops : Array Oper) (i : Nat) : Bool := ((ops[i]?).map fun o => isPure o.op).getD false
/-- May the operations be carried out in this order, whatever order is drawn? -/
def okT (ops : Array Oper) : DT → Nat → Array Bool → Bool
  | .done, _, listed => (Region.ready .any ops listed).isEmpty
  | .op i r, fuel, listed => match fuel with
    | 0 => false
    | fuel + 1 => (match isPureAt ops i with
      | true => (Region.ready .any ops listed).contains i && Region.free .any ops listed i && !depd ops i listed
      | false => Region.ready .any ops listed == [i]) && okT ops r fuel (listed.setIfInBounds i true)
  | .fork i a j b, fuel, listed => match fuel with
    | 0 => false
    | fuel + 1 => Region.ready .any ops listed == [i, j] && !isPureAt ops i && !isPureAt ops j && okT ops a fuel (listed.setIfInBounds i true) && okT ops b fuel (listed.setIfInBounds j true)
def noSelDef (ops : Array Oper) : Bool := ops.all fun o => match o.op with | .select .. => false | .defer _ => false | _ => true
def okDraw (ops : Array Oper) (d : DT) : Bool := noSelDef ops && okT ops d ops.size (Array.replicate ops.size false)

/-- Less may be known: t', H' tell no more than t, H. -/
def Wk (n0 : Nat) (t : List AV) (H : List AO) (t' : List AV) (H' : List AO) : Prop :=
  ∀ (ρ : Rho) (w : World) (tm : List Value), Holds H ρ w → All2 (AV.R ρ) t tm → n0 ≤ ρ.length →
    ∃ ρ' : Rho, Holds H' ρ' w ∧ All2 (AV.R ρ') t' tm ∧ ρ.take n0 <+: ρ' ∧ n0 ≤ ρ'.length ∧ ∀ b, Owned H' ρ' b → Owned H ρ b
/-- A loop: what holds before each round, and how many rounds there are at most. (A structure, so that the evaluation stops here.) -/
structure LoopA (n0 : Nat) (W : List AV → List AO → (Ex → List AV → List AO → Prop) → Prop) (t : List AV) (H : List AO) (K : Ex → List AV → List AO → Prop) : Prop where
  ex : ∃ (I : Nat → List AV → List AO → Prop) (k : Nat), (∃ t0 H0, Wk n0 t H t0 H0 ∧ I k t0 H0) ∧
      ∀ k t H, I k t H → W t H fun e t' H' => match e with
        | .normal => ∃ k', k' < k ∧ ∃ t'' H'', Wk n0 t' H' t'' H'' ∧ I k' t'' H''
        | .ret => K .ret t' H'
        | .exit i => K (.exit i) t' H'
def hintOf (id : Nat) : List (Nat × DT) → DT
  | [] => .done
  | (k, d) :: r => match Nat.beq k id with | true => d | false => hintOf id r
/-- The given orders are such. -/
def okHints (hs : List (Nat × DT)) : Code → Bool
  | .region id ops true => okDraw ops (hintOf id hs)
  | .seq a b => okHints hs a && okHints hs b
  | .cond _ a b => okHints hs a && okHints hs b
  | .block _ c => okHints hs c
  | .loop c => okHints hs c
  | .rangeFunc _ _ a b => okHints hs a && okHints hs b
  | _ => true
/-- No range over a function in it. -/
def noRF : Code → Bool
  | .seq a b => noRF a && noRF b
  | .cond _ a b => noRF a && noRF b
  | .block _ c => noRF c
  | .loop c => noRF c
  | .rangeFunc _ _ _ _ => false
  | _ => true
def wpA (E : Ev) (T : TypeId → TI) (hs : List (Nat × DT)) (n0 : Nat) : Code → List AV → List AO → (Ex → List AV → List AO → Prop) → Prop
  | .skip, t, H, K => K .normal t H
  | .region _ ops false, t, H, K => opsA E T ops ops.toList t H (K .normal)
  | .region id ops true, t, H, K => drawA E T ops (hintOf id hs) [] t H (K .normal)
  | .seq a b, t, H, K => wpA E T hs n0 a t H fun e t H => match e with
    | .normal => wpA E T hs n0 b t H K
    | .ret => K .ret t H
    | .exit i => K (.exit i) t H
  | .cond c a b, t, H, K => match evA t c with
    | .c (.s (.bool x)) => br x (fun _ => wpA E T hs n0 a t H K) (fun _ => wpA E T hs n0 b t H K)
    | _ => False
  | .block id c, t, H, K => wpA E T hs n0 c t H fun e t H => match e with
    | .normal => K .normal t H
    | .ret => K .ret t H
    | .exit j => match Nat.beq j id with
      | true => K .normal t H
      | false => K (.exit j) t H
  | .loop c, t, H, K => LoopA n0 (fun t H K => wpA E T hs n0 c t H K) t H K
  | .exit id, t, H, K => K (.exit id) t H
  | .ret, t, H, K => K .ret t H
  | .rangeFunc g ps assign body, t, H, K => match evA t g with
    | .c (.s (.fn f caps)) => E.call f (sv (.yld H.length) :: caps.map fun i => sv (.ptr i 0)) (H ++ [.lrec .ready t ps.toList assign body]) fun _ H' => match H'[H.length]? with
      | some (.lrec .ready _ _ _ _) => K .normal t (H'.set H.length .gone)
      | some (.lrec (.done e) _ _ _ _) => K e t (H'.set H.length .gone)
      | _ => False
    | _ => False
  | _, _, _, _ => False
/-- The temporaries that a round begins with. -/
def setP : List Nat → List AV → List AV → List AV
  | p :: ps, v :: vs, t => setP ps vs (t.set p v)
  | _, _, t => t
/-- One round of a range over a function: what yield hands back. -/
def roundA (E : Ev) (T : TypeId → TI) (hs : List (Nat × DT)) (n0 i : Nat) (args : List AV) (H : List AO) (K : AV → List AO → Prop) : Prop :=
  match H[i]? with
  | some (.lrec .ready t ps assign body) => match Nat.beq ps.length args.length with
    | true => wpA E T hs n0 assign (setP ps args t) H fun e t1 H1 => match e with
      | .normal => match H1[i]? with
        | some (.lrec .ready t ps assign' body') => wpA E T hs n0 body t1 (H1.set i (.lrec .busy t ps assign' body')) fun e t2 H2 => match H2[i]? with
          | some (.lrec .busy t ps assign body) => match e with
            | .normal => K (sv (.bool true)) (H2.set i (.lrec .ready t ps assign body))
            | .ret => K (sv (.bool false)) (H2.set i (.lrec (.done .ret) t ps assign body))
            | .exit k => K (sv (.bool false)) (H2.set i (.lrec (.done (.exit k)) t ps assign body))
          | _ => False
        | _ => False
      | .ret => False
      | .exit _ => False
    | false => False
  | _ => False
end Bm
