/- Abstract values, an abstract heap (a list of objects), and what it means that a world holds it. No program in sight. -/
import Derived.Below
import Derived.Laws.World
import Derived.Laws.AppendOwn
set_option linter.unusedVariables false
set_option linter.unusedSimpArgs false
namespace Bm
open Go

/-- One cell's value that is no address: numbers, bools, others that are known. -/
inductive PV where
  | int (k : IntKind) (n : Int)
  | bool (b : Bool)
  | raw (v : Value)

/-- One cell's value: numbers, bools, addresses into abstract objects. -/
inductive SV where
  | int (k : IntKind) (n : Int)
  | bool (b : Bool)
  | ptr (i off : Nat)
  | fptr (i k off : Nat)
  | nilp
  | sl (i off len : Nat)
  | vec (i len : Nat)
  | nils
  | mp (i : Nat)
  | nilm
  | nilf
  | fn (f : FuncId) (caps : List Nat)
  | yld (i : Nat)
  | raw (v : Value)

inductive CV where
  | s (x : SV)
  | agg (l : List SV)

inductive AV where
  | c (x : CV)
  | tup (l : List CV)
  | any

def PV.sv : PV → SV
  | .int k n => .int k n
  | .bool b => .bool b
  | .raw v => .raw v
def PV.val : PV → Value
  | .int k n => .int k n
  | .bool b => .bool b
  | .raw v => v
def PV.ok : PV → Bool
  | .raw v => v.oneCell'
  | _ => true
/-- A box's address, or nil. -/
def optSV (j : Nat) : Option Nat → SV
  | none => .nilp
  | some k => .fptr j k 0
/-- What a slice's array holds: no addresses; addresses of the boxes of one family; others. -/
inductive VC where
  | pv (l : List PV)
  | fp (j : Nat) (l : List (Option Nat))
  | any (l : List SV)
def VC.svs : VC → List SV
  | .pv l => l.map PV.sv
  | .fp j l => l.map (optSV j)
  | .any l => l

inductive Ex where
  | normal
  | ret
  | exit (id : Nat)
/-- How a range over a function stands. -/
inductive RSt where
  | ready
  | busy
  | done (e : Ex)

/-- Of a range over a map: what is to come, and the entry at hand. -/
abbrev Todo := List (Int × Int) × List (Int × Int)
/-- An object: where it lies is told by a place. -/
inductive AO where
  | cells (l : List SV) (t : TypeId)
  | vec (c : VC) (t : TypeId) (n : Nat)
  | ro (l : List PV)
  | fam (rows : List (List PV)) (t : TypeId)
  | m64 (l : List (Int × Int))
  | it64 (m : Nat) (todo : Todo)
  | mk (l : List ((Int × Int) × Int))
  | lrec (st : RSt) (t : List AV) (ps : List Nat) (assign body : Code)
  | gone

structure Pl where
  b : Nat
  off : Nat := 0
  cap : Nat := 0
  nil : Bool := false
  obj : Option Obj := none
  bs : List Nat := []

abbrev Rho := List Pl

def All2 {α β : Type} (R : α → β → Prop) : List α → List β → Prop
  | [], [] => True
  | x :: xs, y :: ys => R x y ∧ All2 R xs ys
  | _, _ => False

section all2
variable {α β : Type} {R S : α → β → Prop}
theorem All2.mono (h : ∀ x y, R x y → S x y) : ∀ {l : List α} {m : List β}, All2 R l m → All2 S l m
  | [], [], _ => trivial
  | _ :: _, _ :: _, ⟨a, b⟩ => ⟨h _ _ a, All2.mono h b⟩
  | [], _ :: _, hh => hh.elim
  | _ :: _, [], hh => hh.elim
theorem All2.length : ∀ {l : List α} {m : List β}, All2 R l m → l.length = m.length
  | [], [], _ => rfl
  | _ :: _, _ :: _, ⟨_, b⟩ => by simp [All2.length b]
  | [], _ :: _, hh => hh.elim
  | _ :: _, [], hh => hh.elim
theorem All2.get : ∀ {l : List α} {m : List β}, All2 R l m → ∀ {i : Nat} {x : α}, l[i]? = some x → ∃ y, m[i]? = some y ∧ R x y
  | [], [], _, i, x, h => by simp at h
  | a :: l, b :: m, ⟨h1, h2⟩, 0, x, h => by simp at h; subst h; exact ⟨b, rfl, h1⟩
  | a :: l, b :: m, ⟨h1, h2⟩, i + 1, x, h => by simpa using All2.get h2 (i := i) (by simpa using h)
  | [], _ :: _, hh, _, _, _ => hh.elim
  | _ :: _, [], hh, _, _, _ => hh.elim
theorem All2.get' {l : List α} {m : List β} (h : All2 R l m) {i : Nat} {y : β} (hy : m[i]? = some y) : ∃ x, l[i]? = some x ∧ R x y := by
  have hlt : i < m.length := (List.getElem?_eq_some_iff.1 hy).1
  rw [← h.length] at hlt
  obtain ⟨y', h1, h2⟩ := h.get (List.getElem?_eq_getElem hlt)
  rw [hy] at h1
  cases h1
  exact ⟨_, List.getElem?_eq_getElem hlt, h2⟩
theorem All2.set : ∀ {l : List α} {m : List β}, All2 R l m → ∀ (i : Nat) {x : α} {y : β}, R x y → All2 R (l.set i x) (m.set i y)
  | [], [], _, _, _, _, _ => trivial
  | _ :: _, _ :: _, ⟨_, b⟩, 0, _, _, h => ⟨h, b⟩
  | _ :: _, _ :: _, ⟨a, b⟩, i + 1, _, _, h => ⟨a, All2.set b i h⟩
  | [], _ :: _, hh, _, _, _, _ => hh.elim
  | _ :: _, [], hh, _, _, _, _ => hh.elim
theorem All2.append : ∀ {l l' : List α} {m m' : List β}, All2 R l m → All2 R l' m' → All2 R (l ++ l') (m ++ m')
  | [], _, [], _, _, h => h
  | _ :: _, _, _ :: _, _, ⟨a, b⟩, h => ⟨a, All2.append b h⟩
  | [], _, _ :: _, _, hh, _ => hh.elim
  | _ :: _, _, [], _, hh, _ => hh.elim
theorem All2.take : ∀ (n : Nat) {l : List α} {m : List β}, All2 R l m → All2 R (l.take n) (m.take n)
  | 0, _, _, _ => by simp [All2]
  | n + 1, [], [], _ => trivial
  | n + 1, _ :: _, _ :: _, ⟨a, b⟩ => ⟨a, All2.take n b⟩
  | _ + 1, [], _ :: _, hh => hh.elim
  | _ + 1, _ :: _, [], hh => hh.elim
theorem All2.drop : ∀ (n : Nat) {l : List α} {m : List β}, All2 R l m → All2 R (l.drop n) (m.drop n)
  | 0, _, _, h => by simpa using h
  | n + 1, [], [], _ => trivial
  | n + 1, _ :: _, _ :: _, ⟨a, b⟩ => by simpa using All2.drop n b
  | _ + 1, [], _ :: _, hh => hh.elim
  | _ + 1, _ :: _, [], hh => hh.elim
theorem All2.replicate (n : Nat) {x : α} {y : β} (h : R x y) : All2 R (List.replicate n x) (List.replicate n y) := by
  induction n with
  | zero => trivial
  | succ n ih => exact ⟨h, ih⟩
theorem All2.of_get : ∀ {l : List α} {m : List β}, l.length = m.length → (∀ (i : Nat) (x : α) (y : β), l[i]? = some x → m[i]? = some y → R x y) → All2 R l m
  | [], [], _, _ => trivial
  | a :: l, b :: m, hl, h => ⟨h 0 a b rfl rfl, All2.of_get (by simpa using hl) fun i x y hx hy => h (i + 1) x y (by simpa using hx) (by simpa using hy)⟩
  | [], _ :: _, hl, _ => by simp at hl
  | _ :: _, [], hl, _ => by simp at hl
theorem All2.map_left {γ : Type} {R : γ → β → Prop} {f : α → γ} : ∀ {l : List α} {m : List β}, All2 R (l.map f) m ↔ All2 (fun x y => R (f x) y) l m
  | [], [] => Iff.rfl
  | _ :: _, _ :: _ => by simp only [List.map_cons, All2, All2.map_left]
  | [], _ :: _ => Iff.rfl
  | _ :: _, [] => Iff.rfl
end all2

/-- What a cell holds, the objects lying at the places ρ. -/
def SV.R (ρ : Rho) : SV → Value → Prop
  | .int k n, v => v = .int k n
  | .bool b, v => v = .bool b
  | .ptr i off, v => ∃ p, ρ[i]? = some p ∧ v = .pointer (some ⟨p.b, p.off + off, none⟩)
  | .fptr i k off, v => ∃ p b, ρ[i]? = some p ∧ p.bs[k]? = some b ∧ v = .pointer (some ⟨b, off, none⟩)
  | .nilp, v => v = .pointer none
  | .sl i off len, v => ∃ p a cap, ρ[i]? = some p ∧ v = .slice a len cap ∧ len ≤ cap ∧ (0 < len → a = some ⟨p.b, p.off + off, none⟩) ∧ (a = none → cap = 0)
  | .vec i len, v => ∃ p, ρ[i]? = some p ∧ ((p.nil = true ∧ len = 0 ∧ v = .slice none 0 0) ∨ (p.nil = false ∧ p.off = 0 ∧ len ≤ p.cap ∧ v = .slice (some ⟨p.b, 0, none⟩) len p.cap))
  | .nils, v => v = .slice none 0 0
  | .mp i, v => ∃ p, ρ[i]? = some p ∧ v = .map (some p.b)
  | .nilm, v => v = .map none
  | .nilf, v => v = .nilFunc
  | .fn f caps, v => ∃ cs : List Value, All2 (fun i u => ∃ p, ρ[i]? = some p ∧ u = .pointer (some ⟨p.b, p.off, none⟩)) caps cs ∧ v = .func (.func f) #[] cs.toArray
  | .yld i, v => ∃ p, ρ[i]? = some p ∧ v = .func (.yield p.b) #[] #[]
  | .raw u, v => v = u ∧ u.oneCell' = true

def CV.R (ρ : Rho) : CV → Value → Prop
  | .s x, v => x.R ρ v
  | .agg l, v => ∃ cs : List Value, All2 (SV.R ρ) l cs ∧ v = .agg cs.toArray

def AV.R (ρ : Rho) : AV → Value → Prop
  | .c x, v => x.R ρ v
  | .tup l, v => ∃ vs : List Value, All2 (CV.R ρ) l vs ∧ v = .tuple vs.toArray
  | .any, _ => True

theorem SV.R.one {ρ : Rho} {x : SV} {v : Value} (h : x.R ρ v) : v.oneCell' = true := by
  cases x <;> simp only [SV.R] at h
  case raw => obtain ⟨rfl, h⟩ := h; exact h
  case vec => obtain ⟨_, _, (⟨_, _, rfl⟩ | ⟨_, _, _, rfl⟩)⟩ := h <;> rfl
  case sl => obtain ⟨_, _, _, _, rfl, _⟩ := h; rfl
  case fptr => obtain ⟨_, _, _, _, rfl⟩ := h; rfl
  all_goals first
    | (subst h; rfl)
    | (obtain ⟨_, _, rfl⟩ := h; rfl)

theorem SV.R.ext {ρ ρ' : Rho} (hρ : ρ <+: ρ') {x : SV} {v : Value} (h : x.R ρ v) : x.R ρ' v := by
  have up : ∀ {i : Nat} {p : Pl}, ρ[i]? = some p → ρ'[i]? = some p := by
    intro i p hp
    obtain ⟨r, rfl⟩ := hρ
    have hi := (List.getElem?_eq_some_iff.1 hp).1
    rw [List.getElem?_append_left hi]
    exact hp
  cases x <;> simp only [SV.R] at h ⊢
  case ptr => obtain ⟨p, hp, e⟩ := h; exact ⟨p, up hp, e⟩
  case mp => obtain ⟨p, hp, e⟩ := h; exact ⟨p, up hp, e⟩
  case yld => obtain ⟨p, hp, e⟩ := h; exact ⟨p, up hp, e⟩
  case fptr => obtain ⟨p, b, hp, e⟩ := h; exact ⟨p, b, up hp, e⟩
  case sl => obtain ⟨p, a, cap, hp, e⟩ := h; exact ⟨p, a, cap, up hp, e⟩
  case vec => obtain ⟨p, hp, e⟩ := h; exact ⟨p, up hp, e⟩
  case fn => obtain ⟨cs, hc, e⟩ := h; exact ⟨cs, hc.mono (fun i u ⟨p, hp, e⟩ => ⟨p, up hp, e⟩), e⟩
  all_goals exact h

theorem CV.R.ext {ρ ρ' : Rho} (hρ : ρ <+: ρ') {x : CV} {v : Value} (h : x.R ρ v) : x.R ρ' v := by
  cases x with
  | s x => exact SV.R.ext hρ h
  | agg l => obtain ⟨cs, hc, e⟩ := h; exact ⟨cs, hc.mono (fun _ _ => SV.R.ext hρ), e⟩

theorem AV.R.ext {ρ ρ' : Rho} (hρ : ρ <+: ρ') {x : AV} {v : Value} (h : x.R ρ v) : x.R ρ' v := by
  cases x with
  | c x => exact CV.R.ext hρ h
  | tup l => obtain ⟨cs, hc, e⟩ := h; exact ⟨cs, hc.mono (fun _ _ => CV.R.ext hρ), e⟩
  | any => trivial

/-- The entries of a map of 64-bit words. -/
def Ent64 (l : List (Int × Int)) (es : List MapEntry) : Prop :=
  ∃ l' : List (Int × Int), l'.Perm l ∧ All2 (fun (p : Int × Int) (e : MapEntry) => e.key = .int .u64 p.1 ∧ e.val = .int .u64 p.2) l' es

/-- The entries of a map of words whose keys are pairs. -/
def EntK (l : List ((Int × Int) × Int)) (es : List MapEntry) : Prop :=
  ∃ l' : List ((Int × Int) × Int), l'.Perm l ∧ All2 (fun (p : (Int × Int) × Int) (e : MapEntry) => e.key = .agg #[.int .i64 p.1.1, .int .u64 p.1.2] ∧ e.val = .int .u64 p.2) l' es
/-- How the record of a range over a function stands. -/
def RSt.R : RSt → LoopState → Option Code → Prop
  | .ready, s, j => s = .ready ∧ j = none
  | .busy, s, j => s = .busy
  | .done .normal, s, j => False
  | .done .ret, s, j => s = .done ∧ j = some .ret
  | .done (.exit i), s, j => s = .done ∧ j = some (.exit i)

/-- The entry at hand. -/
def Cur (c : List (Int × Int)) (seen : Array Nat) (es : Array MapEntry) : Prop :=
  match c with
  | [] => True
  | (k, v) :: _ => ∃ e : MapEntry, seen.back? = some e.born ∧ es.find? (fun x => x.born == e.born) = some e ∧ e.key = .int .u64 k ∧ e.val = .int .u64 v
/-- The blocks that an object lies in. -/
def AO.own (p : Pl) : AO → Nat → Prop
  | .cells _ _, b => b = p.b
  | .vec _ _ _, b => p.nil = false ∧ b = p.b
  | .ro l, b => l.isEmpty = false ∧ b = p.b
  | .fam _ _, b => b ∈ p.bs
  | .m64 _, b => b = p.b
  | .it64 _ _, b => b = p.b
  | .mk _, b => b = p.b
  | .lrec _ _ _ _ _, b => b = p.b
  | .gone, _ => False

/-- The object lies at the place p. -/
def AO.R (ρ : Rho) (p : Pl) (w : World) : AO → Prop
  | .cells l t => p.off = 0 ∧ ∃ cs : List Value, All2 (SV.R ρ) l cs ∧ w.heap[p.b]? = some (.cells cs.toArray t (0, 0))
  | .vec c t n => if p.nil = true then c.svs = [] else p.off = 0 ∧ ∃ cs rest : List Value, All2 (SV.R ρ) c.svs cs ∧ w.heap[p.b]? = some (.cells (cs ++ rest).toArray t (0, 0)) ∧ (cs ++ rest).length = p.cap * n ∧ p.cap ≤ maxLen
  | .ro l => ∃ cs : List Value, All2 (SV.R ρ) (l.map PV.sv) cs ∧ (l.isEmpty = false → p.b < w.heap.size ∧ w.heap[p.b]? = p.obj) ∧ ∀ j v, cs[j]? = some v → w.cell? ⟨p.b, p.off + j, none⟩ = some v
  | .fam rows t => p.bs.length = rows.length ∧ p.bs.Nodup ∧ ∀ (k b : Nat) (row : List PV), p.bs[k]? = some b → rows[k]? = some row → w.heap[b]? = some (.cells (row.map PV.val).toArray t (0, 0)) ∧ ∀ x ∈ row, x.ok = true
  | .m64 l => (l.map (·.1)).Nodup ∧ ∃ es clock, w.heap[p.b]? = some (.map es clock) ∧ Ent64 l es.toList ∧ (∀ e ∈ es.toList, e.born < clock) ∧ (es.toList.map (·.born)).Nodup
  | .it64 m todo => p.off = 0 ∧ ∃ q seen clock es, ρ[m]? = some q ∧ w.heap[p.b]? = some (.mapIter (some q.b) clock seen clock) ∧ w.heap[q.b]? = some (.map es clock) ∧ Ent64 todo.1 (es.toList.filter fun e => !seen.contains e.born) ∧ Cur todo.2 seen es
  | .mk l => (l.map (·.1)).Nodup ∧ ∃ es clock, w.heap[p.b]? = some (.map es clock) ∧ EntK l es.toList ∧ (∀ e ∈ es.toList, e.born < clock) ∧ (es.toList.map (·.born)).Nodup
  | .lrec st t ps assign body => ∃ r : Loop, w.heap[p.b]? = some (.loop r) ∧ st.R r.state r.pending ∧ All2 (AV.R ρ) t r.tmps.toList ∧ r.params.toList = ps ∧ r.assign = assign ∧ r.body = body
  | .gone => True

theorem AO.R.ext {ρ ρ' : Rho} (hρ : ρ <+: ρ') {p : Pl} {w : World} {o : AO} (h : o.R ρ p w) : o.R ρ' p w := by
  have up : ∀ {i : Nat} {p : Pl}, ρ[i]? = some p → ρ'[i]? = some p := by
    intro i p hp
    obtain ⟨r, rfl⟩ := hρ
    have hi := (List.getElem?_eq_some_iff.1 hp).1
    rw [List.getElem?_append_left hi]
    exact hp
  cases o with
  | cells l t => obtain ⟨h0, cs, hc, e⟩ := h; exact ⟨h0, cs, hc.mono (fun _ _ => SV.R.ext hρ), e⟩
  | vec l t n =>
    simp only [AO.R] at h ⊢
    split
    · rename_i hn; rw [if_pos hn] at h; exact h
    · rename_i hn; rw [if_neg hn] at h
      obtain ⟨h0, cs, rest, hc, e⟩ := h
      exact ⟨h0, cs, rest, hc.mono (fun _ _ => SV.R.ext hρ), e⟩
  | ro l => obtain ⟨cs, hc, e⟩ := h; exact ⟨cs, hc.mono (fun _ _ => SV.R.ext hρ), e⟩
  | fam rows t => exact h
  | m64 l => exact h
  | it64 m todo => obtain ⟨h0, q, seen, clock, es, hq, e⟩ := h; exact ⟨h0, q, seen, clock, es, up hq, e⟩
  | mk l => exact h
  | lrec st t ps assign body => obtain ⟨r, h1, h2, h3, h4⟩ := h; exact ⟨r, h1, h2, h3.mono (fun _ _ => AV.R.ext hρ), h4⟩
  | gone => trivial

/-- The block b is one of the objects'. -/
def Owned (H : List AO) (ρ : Rho) (b : Nat) : Prop := ∃ (i : Nat) (o : AO) (p : Pl), H[i]? = some o ∧ ρ[i]? = some p ∧ o.own p b

/-- The world w holds the abstract heap H, at the places ρ. -/
structure Holds (H : List AO) (ρ : Rho) (w : World) : Prop where
  len : ρ.length = H.length
  rep : ∀ (i : Nat) (o : AO) (p : Pl), H[i]? = some o → ρ[i]? = some p → o.R ρ p w
  iter : ∀ (i m : Nat) (todo : Todo), H[i]? = some (.it64 m todo) → ∃ l, H[m]? = some (.m64 l)
  apart : ∀ (i j : Nat) (o o' : AO) (p p' : Pl) (b : Nat), H[i]? = some o → ρ[i]? = some p → H[j]? = some o' → ρ[j]? = some p' → o.own p b → o'.own p' b → i = j

/-- From one world to a later one: of what is not the objects' nothing has turned. -/
structure Ext (H : List AO) (ρ : Rho) (w : World) (H' : List AO) (ρ' : Rho) (w' : World) : Prop where
  pre : ρ <+: ρ'
  size : w.heap.size ≤ w'.heap.size
  os : w'.os = w.os
  tape : w'.tape = w.tape
  output : w'.output = w.output
  frame : ∀ b, b < w.heap.size → ¬ Owned H ρ b → w'.heap[b]? = w.heap[b]?
  back : ∀ b, b < w.heap.size → Owned H' ρ' b → Owned H ρ b

theorem Ext.refl (H : List AO) (ρ : Rho) (w : World) : Ext H ρ w H ρ w :=
  ⟨List.prefix_refl _, Nat.le_refl _, rfl, rfl, rfl, fun _ _ _ => rfl, fun _ _ h => h⟩
theorem Ext.trans {H H1 H2 : List AO} {ρ ρ1 ρ2 : Rho} {w w1 w2 : World} (h : Ext H ρ w H1 ρ1 w1) (k : Ext H1 ρ1 w1 H2 ρ2 w2) : Ext H ρ w H2 ρ2 w2 :=
  ⟨h.pre.trans k.pre, Nat.le_trans h.size k.size, k.os.trans h.os, k.tape.trans h.tape, k.output.trans h.output,
   fun b hb hn => (k.frame b (Nat.lt_of_lt_of_le hb h.size) (fun ho => hn (h.back b hb ho))).trans (h.frame b hb hn),
   fun b hb ho => h.back b hb (k.back b (Nat.lt_of_lt_of_le hb h.size) ho)⟩

theorem AO.R.own_lt {ρ : Rho} {p : Pl} {w : World} {o : AO} (h : o.R ρ p w) {b : Nat} (hb : o.own p b) : b < w.heap.size := by
  have lt : ∀ {b : Nat} {x : Obj}, w.heap[b]? = some x → b < w.heap.size := fun h => (Array.getElem?_eq_some_iff.1 h).1
  cases o with
  | cells l t => obtain ⟨_, _, _, h⟩ := h; cases hb; exact lt h
  | vec l t n =>
    obtain ⟨hn, rfl⟩ := hb
    simp only [AO.R, hn, Bool.false_eq_true, if_false] at h
    obtain ⟨_, _, _, _, h, _⟩ := h
    exact lt h
  | ro l =>
    obtain ⟨_, _, h, _⟩ := h
    obtain ⟨hn, rfl⟩ := hb
    exact (h hn).1
  | fam rows t =>
    obtain ⟨h1, _, h⟩ := h
    obtain ⟨k, hk⟩ := List.getElem?_of_mem hb
    have hl : k < rows.length := by rw [← h1]; exact (List.getElem?_eq_some_iff.1 hk).1
    exact lt (h k b _ hk (List.getElem?_eq_getElem hl)).1
  | m64 l => obtain ⟨_, _, _, h, _⟩ := h; cases hb; exact lt h
  | it64 m todo => obtain ⟨_, _, _, _, _, _, h, _⟩ := h; cases hb; exact lt h
  | mk l => obtain ⟨_, _, _, h, _⟩ := h; cases hb; exact lt h
  | lrec st t ps assign body => obtain ⟨r, h, _⟩ := h; cases hb; exact lt h
  | gone => exact hb.elim

/-- The object does not see what lies elsewhere (an iterator sees its map, too). -/
theorem AO.R.same {ρ : Rho} {p : Pl} {w w' : World} {o : AO} (h : o.R ρ p w) (hs : w.heap.size ≤ w'.heap.size)
    (hb : ∀ b, o.own p b → w'.heap[b]? = w.heap[b]?) (hm : ∀ m todo q, o = .it64 m todo → ρ[m]? = some q → w'.heap[q.b]? = w.heap[q.b]?) : o.R ρ p w' := by
  cases o with
  | cells l t => obtain ⟨h0, cs, hc, e⟩ := h; exact ⟨h0, cs, hc, by rw [hb p.b rfl]; exact e⟩
  | vec l t n =>
    simp only [AO.R] at h ⊢
    split
    · rename_i hn; rw [if_pos hn] at h; exact h
    · rename_i hn; rw [if_neg hn] at h
      obtain ⟨h0, cs, rest, hc, e⟩ := h
      exact ⟨h0, cs, rest, hc, by rw [hb p.b ⟨by simpa using hn, rfl⟩]; exact e.1, e.2⟩
  | ro l =>
    obtain ⟨cs, hc, hl, e⟩ := h
    cases he : l.isEmpty with
    | true =>
      have h0 : l = [] := by simpa using he
      subst h0
      cases cs with
      | nil =>
        refine ⟨[], trivial, ?_, ?_⟩
        · intro h; cases h
        · intro j v hj; simp at hj
      | cons _ _ => exact hc.elim
    | false =>
      have hbb := hb p.b ⟨he, rfl⟩
      exact ⟨cs, hc, fun h => ⟨Nat.lt_of_lt_of_le (hl he).1 hs, by rw [hbb]; exact (hl he).2⟩, fun j v hj => by rw [← e j v hj]; simp only [World.cell?, hbb]⟩
  | fam rows t => exact ⟨h.1, h.2.1, fun k b row hk hr => by rw [hb b (List.mem_of_getElem? hk)]; exact h.2.2 k b row hk hr⟩
  | m64 l => obtain ⟨hn, es, clock, e, r⟩ := h; exact ⟨hn, es, clock, by rw [hb p.b rfl]; exact e, r⟩
  | it64 m todo =>
    obtain ⟨h0, q, seen, clock, es, hq, e, e2, r⟩ := h
    exact ⟨h0, q, seen, clock, es, hq, by rw [hb p.b rfl]; exact e, by rw [hm m todo q rfl hq]; exact e2, r⟩
  | mk l => obtain ⟨hn, es, clock, e, r⟩ := h; exact ⟨hn, es, clock, by rw [hb p.b rfl]; exact e, r⟩
  | lrec st t ps assign body => obtain ⟨r, h1, h2⟩ := h; exact ⟨r, by rw [hb p.b rfl]; exact h1, h2⟩
  | gone => trivial
end Bm
