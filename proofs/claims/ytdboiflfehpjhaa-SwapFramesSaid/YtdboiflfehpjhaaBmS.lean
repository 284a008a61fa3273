/- Rules for a walk. -/
import Derived.Test.YtdboiflfehpjhaaBmR
set_option linter.unusedVariables false
set_option linter.unusedSimpArgs false
namespace Bm
open Go
section
variable {P : Program} {T : TypeId → TI} {E : Ev}
theorem get_of {get : List PV → Nat → (SV → Prop) → Prop} (hg : get = (realE P).get) {l : List PV} {i : Nat} {K : SV → Prop} (x : PV) (h : l[i]? = some x) (k : K x.sv) : get l i K := by subst hg; exact ⟨x, h, k⟩
theorem sub_of {sub : List PV → Nat → Nat → (List SV → Prop) → Prop} (hg : sub = (realE P).sub) {l : List PV} {i n : Nat} {K : List SV → Prop} (cs : List PV) (h : subL l i n = some cs) (k : K (cs.map PV.sv)) : sub l i n K := by subst hg; exact ⟨cs, h, k⟩
theorem subP_of {sub : List PV → Nat → Nat → (List PV → Prop) → Prop} (hg : sub = (realE P).subP) {l : List PV} {i n : Nat} {K : List PV → Prop} (cs : List PV) (h : subL l i n = some cs) (k : K cs) : sub l i n K := by subst hg; exact ⟨cs, h, k⟩
theorem subS_of {sub : List SV → Nat → Nat → (List SV → Prop) → Prop} (hg : sub = (realE P).subS) {l : List SV} {i n : Nat} {K : List SV → Prop} (cs : List SV) (h : subL l i n = some cs) (k : K cs) : sub l i n K := by subst hg; exact ⟨cs, h, k⟩
theorem getS_of {get : List SV → Nat → (SV → Prop) → Prop} (hg : get = (realE P).getS) {l : List SV} {i : Nat} {K : SV → Prop} (x : SV) (h : l[i]? = some x) (k : K x) : get l i K := by subst hg; exact ⟨x, h, k⟩
theorem oget_of {get : List (Option Nat) → Nat → (Option Nat → Prop) → Prop} (hg : get = (realE P).oget) {l : List (Option Nat)} {i : Nat} {K : Option Nat → Prop} (x : Option Nat) (h : l[i]? = some x) (k : K x) : get l i K := by subst hg; exact ⟨x, h, k⟩
theorem osub_of {sub : List (Option Nat) → Nat → Nat → (List (Option Nat) → Prop) → Prop} (hg : sub = (realE P).osub) {l : List (Option Nat)} {i n : Nat} {K : List (Option Nat) → Prop} (cs : List (Option Nat)) (h : subL l i n = some cs) (k : K cs) : sub l i n K := by subst hg; exact ⟨cs, h, k⟩
theorem rget_of {get : List (List PV) → Nat → (List PV → Prop) → Prop} (hg : get = (realE P).rget) {l : List (List PV)} {i : Nat} {K : List PV → Prop} (x : List PV) (h : l[i]? = some x) (k : K x) : get l i K := by subst hg; exact ⟨x, h, k⟩
theorem nn_of {nn : Int → Prop} (hg : nn = (realE P).nn) {n : Int} (h : 0 ≤ n) : nn n := by subst hg; exact h
theorem lt_of {lt : Int → Int → Prop} (hg : lt = (realE P).lt) {n m : Int} (h : n < m) : lt n m := by subst hg; exact h
theorem le_of {le : Int → Int → Prop} (hg : le = (realE P).le) {n m : Int} (h : n ≤ m) : le n m := by subst hg; exact h
theorem ltn_of {lt : Int → Int → Prop} {nat : Nat → Int} (hg : lt = (realE P).lt) (hn : ∀ n : Nat, nat n = (n : Int)) {n : Int} {m : Nat} (h : n < m) : lt n (nat m) := by subst hg; rw [hn]; exact h
theorem len_of {lenOk : VC → Nat → Nat → Prop} (hg : lenOk = (realE P).lenOk) {c : VC} {n sz : Nat} (h : c.svs.length = n * sz) : lenOk c n sz := by subst hg; exact h
theorem fit_of {fit : Int → Nat → Prop} (hg : fit = (realE P).fit) {n : Int} {b : Nat} (h : n * b ≤ 140737488355328) : fit n b := by subst hg; exact h
theorem i64_id {n : Int} (h0 : -9223372036854775808 ≤ n) (h1 : n ≤ 9223372036854775807) : IntKind.i64.wrap n = n := IntWalk.i64_in n (by constructor <;> omega)
theorem u64_md (n : Int) : IntKind.u64.wrap n = n % 18446744073709551616 := by simp [IntKind.wrap, IntKind.signed, IntKind.bits]
theorem u64_id {n : Int} (h0 : 0 ≤ n) (h1 : n < 18446744073709551616) : IntKind.u64.wrap n = n := by rw [u64_md]; omega
theorem add_i {bin : BinOp → IntKind → Int → Int → Int} (hE : bin = realBin) {a b : Int} (h0 : -9223372036854775808 ≤ a + b) (h1 : a + b ≤ 9223372036854775807) : bin .add .i64 a b = a + b := by subst hE; exact i64_id h0 h1
theorem sub_i {bin : BinOp → IntKind → Int → Int → Int} (hE : bin = realBin) {a b : Int} (h0 : -9223372036854775808 ≤ a - b) (h1 : a - b ≤ 9223372036854775807) : bin .sub .i64 a b = a - b := by subst hE; exact i64_id h0 h1
theorem mul_i {bin : BinOp → IntKind → Int → Int → Int} (hE : bin = realBin) {a b : Int} (h0 : -9223372036854775808 ≤ a * b) (h1 : a * b ≤ 9223372036854775807) : bin .mul .i64 a b = a * b := by subst hE; exact i64_id h0 h1
theorem add_u {bin : BinOp → IntKind → Int → Int → Int} (hE : bin = realBin) {a b : Int} (h0 : 0 ≤ a + b) (h1 : a + b < 18446744073709551616) : bin .add .u64 a b = a + b := by subst hE; exact u64_id h0 h1
theorem sub_u {bin : BinOp → IntKind → Int → Int → Int} (hE : bin = realBin) {a b : Int} (h0 : 0 ≤ a - b) (h1 : a - b < 18446744073709551616) : bin .sub .u64 a b = a - b := by subst hE; exact u64_id h0 h1
theorem mul_u {bin : BinOp → IntKind → Int → Int → Int} (hE : bin = realBin) {a b : Int} (h0 : 0 ≤ a * b) (h1 : a * b < 18446744073709551616) : bin .mul .u64 a b = a * b := by subst hE; exact u64_id h0 h1
theorem quo_u {bin : BinOp → IntKind → Int → Int → Int} (hE : bin = realBin) {a b : Int} (h0 : 0 ≤ a) (h1 : a < 18446744073709551616) (hb : 0 < b) : bin .quo .u64 a b = a / b := by
  subst hE
  show IntKind.u64.wrap (a.tdiv b) = _
  rw [Int.tdiv_eq_ediv_of_nonneg h0]
  exact u64_id (Int.ediv_nonneg h0 (by omega)) (Int.lt_of_le_of_lt (Int.ediv_le_self b h0) h1)
theorem rem_u {bin : BinOp → IntKind → Int → Int → Int} (hE : bin = realBin) {k : IntKind} {a b : Int} (h0 : 0 ≤ a) : bin .rem k a b = a % b := by
  subst hE
  show a.tmod b = _
  rw [Int.tmod_eq_emod_of_nonneg h0]
/-! Branches -/
theorem b_lt {cmp : BinOp → Int → Int → Bool} (hE : cmp = realCmp) {a b : Int} {A B : Unit → Prop} (h : a < b → A ()) (k : b ≤ a → B ()) : br.match_1 (fun _ => Prop) (cmp .lss a b) A B := by
  subst hE; exact bm (fun e => h (of_decide_eq_true e)) fun e => k (Int.not_lt.1 (of_decide_eq_false e))
theorem b_le {cmp : BinOp → Int → Int → Bool} (hE : cmp = realCmp) {a b : Int} {A B : Unit → Prop} (h : a ≤ b → A ()) (k : b < a → B ()) : br.match_1 (fun _ => Prop) (cmp .leq a b) A B := by
  subst hE; exact bm (fun e => h (of_decide_eq_true e)) fun e => k (Int.not_le.1 (of_decide_eq_false e))
theorem b_gt {cmp : BinOp → Int → Int → Bool} (hE : cmp = realCmp) {a b : Int} {A B : Unit → Prop} (h : b < a → A ()) (k : a ≤ b → B ()) : br.match_1 (fun _ => Prop) (cmp .gtr a b) A B := by
  subst hE; exact bm (fun e => h (of_decide_eq_true e)) fun e => k (Int.not_lt.1 (of_decide_eq_false e))
theorem b_ge {cmp : BinOp → Int → Int → Bool} (hE : cmp = realCmp) {a b : Int} {A B : Unit → Prop} (h : b ≤ a → A ()) (k : a < b → B ()) : br.match_1 (fun _ => Prop) (cmp .geq a b) A B := by
  subst hE; exact bm (fun e => h (of_decide_eq_true e)) fun e => k (Int.not_le.1 (of_decide_eq_false e))
theorem b_eq {cmp : BinOp → Int → Int → Bool} (hE : cmp = realCmp) {a b : Int} {A B : Unit → Prop} (h : a = b → A ()) (k : a ≠ b → B ()) : br.match_1 (fun _ => Prop) (cmp .eql a b) A B := by
  subst hE; exact bm (fun e => h (eq_of_beq e)) fun e => k (by simpa [realE, realCmp] using e)
theorem b_ne {cmp : BinOp → Int → Int → Bool} (hE : cmp = realCmp) {a b : Int} {A B : Unit → Prop} (h : a ≠ b → A ()) (k : a = b → B ()) : br.match_1 (fun _ => Prop) (cmp .neq a b) A B := by
  subst hE; exact bm (fun e => h (by simpa [realE, realCmp] using e)) fun e => k (by simpa [realE, realCmp] using e)
/-! Encoded lists -/
def encL {α : Type} (enc : α → List PV) (l : List α) : List PV := l.flatMap enc
theorem encL_len {α : Type} {enc : α → List PV} {w : Nat} (hw : ∀ a, (enc a).length = w) : ∀ l : List α, (encL enc l).length = l.length * w
  | [] => by simp [encL]
  | a :: l => by
    have := encL_len hw l
    simp only [encL, List.flatMap_cons, List.length_append, hw, List.length_cons] at this ⊢
    rw [this, Nat.succ_mul, Nat.add_comm]
theorem encL_app {α : Type} (enc : α → List PV) (a b : List α) : encL enc (a ++ b) = encL enc a ++ encL enc b := by simp [encL]
theorem encL_get {α : Type} {enc : α → List PV} {w : Nat} (hw : ∀ a, (enc a).length = w) : ∀ {l : List α} {i j : Nat} {a : α}, l[i]? = some a → j < w → (encL enc l)[i * w + j]? = (enc a)[j]?
  | [], i, j, a, h, _ => by simp at h
  | b :: l, 0, j, a, h, hj => by
    simp at h
    subst h
    simp only [encL, List.flatMap_cons, Nat.zero_mul, Nat.zero_add]
    rw [List.getElem?_append_left (by rw [hw]; exact hj)]
  | b :: l, i + 1, j, a, h, hj => by
    have := encL_get hw (l := l) (i := i) (j := j) (a := a) (by simpa using h) hj
    simp only [encL, List.flatMap_cons] at this ⊢
    rw [List.getElem?_append_right (by rw [hw, Nat.succ_mul]; omega), hw, ← this]
    congr 1
    rw [Nat.succ_mul]
    omega
theorem subL_app_left {α : Type} {l r : List α} {off n : Nat} (h : off + n ≤ l.length) : subL (l ++ r) off n = subL l off n := by
  rw [subL_take (by simp; omega), subL_take h, List.drop_append_of_le_length (by omega), List.take_append_of_le_length (by simp; omega)]
theorem encL_sub {α : Type} {enc : α → List PV} {w : Nat} (hw : ∀ a, (enc a).length = w) {l : List α} {i : Nat} {a : α} (h : l[i]? = some a) : subL (encL enc l) (i * w) w = some (enc a) := by
  have hl := (List.getElem?_eq_some_iff.1 h).1
  rw [subL_take (by rw [encL_len hw]; have := Nat.mul_le_mul_right w (show i + 1 ≤ l.length from hl); rw [Nat.succ_mul] at this; omega)]
  congr 1
  apply List.ext_getElem?
  intro j
  by_cases hj : j < w
  · rw [List.getElem?_take, if_pos hj, List.getElem?_drop, encL_get hw h hj]
  · rw [List.getElem?_take, if_neg hj, List.getElem?_eq_none (by rw [hw]; omega)]
theorem encL_subf {α : Type} {enc : α → List PV} {w : Nat} (hw : ∀ a, (enc a).length = w) {l : List α} {i d n : Nat} {a : α} (h : l[i]? = some a) (hd : d + n ≤ w) : subL (encL enc l) (i * w + d) n = subL (enc a) d n := by
  have hl := (List.getElem?_eq_some_iff.1 h).1
  rw [subL_take (by rw [encL_len hw]; have := Nat.mul_le_mul_right w (show i + 1 ≤ l.length from hl); rw [Nat.succ_mul] at this; omega), subL_take (by rw [hw]; exact hd)]
  congr 1
  apply List.ext_getElem?
  intro j
  by_cases hj : j < n
  · rw [List.getElem?_take, if_pos hj, List.getElem?_drop, List.getElem?_take, if_pos hj, List.getElem?_drop, Nat.add_assoc, encL_get hw h (by omega)]
  · rw [List.getElem?_take, if_neg hj, List.getElem?_take, if_neg hj]
theorem subL_one {α : Type} {l : List α} {i : Nat} {x : α} (h : l[i]? = some x) : subL l i 1 = some [x] := by
  have hl := (List.getElem?_eq_some_iff.1 h)
  rw [subL_take (by have := hl.1; omega), List.drop_eq_getElem_cons hl.1, hl.2]
  rfl
theorem pv_len {l : List PV} {n : Nat} (h : l.length = n) : (VC.pv l).svs.length = n := by simp [VC.svs, h]
theorem next_of (hE : E = realE P) {todo : List (Int × Int)} {K : Option ((Int × Int) × List (Int × Int)) → Prop} (h0 : todo = [] → K none) (h1 : ∀ k v rest, todo.Perm ((k, v) :: rest) → K (some ((k, v), rest))) : E.next todo K := by
  subst hE; exact ⟨h0, fun e rest h => h1 e.1 e.2 rest h⟩

/-- A call, told of less. -/
theorem call_wk (hE : E = realE P) {f : FuncId} {args args' : List AV} {H H' : List AO} {R K : AV → List AO → Prop} (hw : Wk H.length args H args' H') (h : AC P f args' H' R) (hk : ∀ r H'', R r H'' → Go1 (K r H'')) : E.call f args H K := by
  refine call_of hE (R := R) ⟨h.1, fun ρ w cargs hh ha => ?_⟩ (fun r H'' h => (hk r H'' h).go)
  obtain ⟨ρ1, h1, h2, h3, h4, h5⟩ := hw ρ w cargs hh ha (Nat.le_of_eq hh.len.symm)
  refine Calls.mono (h.2 ρ1 w cargs h1 h2) ?_
  rintro e w' ⟨r, rc, H2, ρ2, e1, e2, e3, e4, e5⟩
  refine ⟨r, rc, H2, ρ2, e1, e2, e3, ?_, e5⟩
  rw [List.take_of_length_le (Nat.le_of_eq hh.len)] at h3
  exact ⟨h3.trans e4.pre, e4.size, e4.os, e4.tape, e4.output, fun b hb hn => e4.frame b hb fun ho => hn (h5 b ho), fun b hb ho => h5 b (e4.back b hb ho)⟩

/-- The nil slice is a slice with nothing in it. -/
def nilS (j : Nat) : SV → SV → Prop := fun x y => y = x ∨ (x = .nils ∧ y = .vec j 0)
def nilV (j : Nat) : AV → AV → Prop
  | .c (.s x), .c (.s y) => nilS j x y
  | .c (.agg l), .c (.agg m) => All2 (nilS j) l m
  | x, y => y = x
def nilO (j : Nat) : AO → AO → Prop
  | .cells l t, .cells m u => All2 (nilS j) l m ∧ u = t
  | x, y => y = x
theorem nilS_R {j : Nat} {ρ : Rho} (hj : ρ.length = j) {x y : SV} (h : nilS j x y) {v : Value} (hx : x.R ρ v) : y.R (ρ ++ [{ b := 0, nil := true }]) v := by
  rcases h with rfl | ⟨rfl, rfl⟩
  · exact hx.ext (List.prefix_append _ _)
  · exact ⟨{ b := 0, nil := true }, by rw [← hj]; simp, .inl ⟨rfl, rfl, hx⟩⟩
theorem All2.trans3 {α β γ : Type} {R : α → β → Prop} {S : α → γ → Prop} {U : β → γ → Prop} (h : ∀ x y z, R x y → S x z → U y z) : ∀ {l : List α} {m : List β} {n : List γ}, All2 R l m → All2 S l n → All2 U m n
  | [], [], [], _, _ => trivial
  | _ :: _, _ :: _, _ :: _, ⟨a, b⟩, ⟨c, d⟩ => ⟨h _ _ _ a c, All2.trans3 h b d⟩
  | [], [], _ :: _, _, h => h.elim
  | [], _ :: _, _, h, _ => h.elim
  | _ :: _, [], _, h, _ => h.elim
  | _ :: _, _ :: _, [], _, h => h.elim
theorem nilV_R {j : Nat} {ρ : Rho} (hj : ρ.length = j) {x y : AV} (h : nilV j x y) {v : Value} (hx : x.R ρ v) : y.R (ρ ++ [{ b := 0, nil := true }]) v := by
  unfold nilV at h
  split at h
  · exact nilS_R hj h hx
  · obtain ⟨cs, h1, e⟩ := hx
    exact ⟨cs, All2.trans3 (R := nilS _) (S := SV.R ρ) (U := SV.R (ρ ++ [{ b := 0, nil := true }])) (fun _ _ _ a b => nilS_R hj a b) h h1, e⟩
  · subst h; exact hx.ext (List.prefix_append _ _)
theorem Wk_nils {n0 : Nat} {t t' : List AV} {H H' : List AO} (te : TypeId) (n : Nat) (hn : n0 ≤ H.length) (ht : All2 (nilV H.length) t t') (hH : All2 (nilO H.length) H H') : Wk n0 t H t' (H' ++ [.vec (.pv []) te n]) := by
  intro ρ w tm hh htm hl
  have hlen := hH.length
  have hpre : ρ <+: ρ ++ [({ b := 0, nil := true } : Pl)] := List.prefix_append _ _
  have back : ∀ {i : Nat} {o : AO} {p : Pl}, (H' ++ [.vec (.pv []) te n])[i]? = some o → (ρ ++ [({ b := 0, nil := true } : Pl)])[i]? = some p →
      (∃ o0, H[i]? = some o0 ∧ nilO H.length o0 o ∧ ρ[i]? = some p) ∨ (o = .vec (.pv []) te n ∧ p = { b := 0, nil := true }) := by
    intro i o p ho hp
    rcases get_push ho with ⟨hi, ho⟩ | ⟨hi, rfl⟩
    · rw [List.getElem?_append_left (by rw [hh.len]; omega)] at hp
      obtain ⟨o0, h0, hr⟩ := hH.get' ho
      exact .inl ⟨o0, h0, hr, hp⟩
    · rw [hi, ← hlen, ← hh.len] at hp
      simp at hp
      exact .inr ⟨rfl, hp.symm⟩
  have blk : ∀ {o0 o : AO} {p : Pl} {b : Nat}, nilO H.length o0 o → (o.own p b ↔ o0.own p b) := by
    intro o0 o p b h
    unfold nilO at h
    split at h
    · exact Iff.rfl
    · rw [h]
  have it : ∀ {o0 : AO} {m : Nat} {todo : Todo}, nilO H.length o0 (.it64 m todo) → o0 = .it64 m todo := by
    intro o0 m todo h
    unfold nilO at h
    split at h
    · rename_i e; cases e
    · exact h.symm
  have own : ∀ b, Owned (H' ++ [.vec (.pv []) te n]) (ρ ++ [({ b := 0, nil := true } : Pl)]) b → Owned H ρ b := by
    rintro b ⟨i, o, p, ho, hp, hb⟩
    rcases back ho hp with ⟨o0, h0, hr, hp⟩ | ⟨rfl, rfl⟩
    · exact ⟨i, o0, p, h0, hp, (blk hr).1 hb⟩
    · cases hb.1
  refine ⟨ρ ++ [{ b := 0, nil := true }], ⟨by simp [hh.len, hlen], fun i o p ho hp => ?_, fun i m todo ho => ?_, fun i j o o' p p' b h1 h2 h3 h4 h5 h6 => ?_⟩, All2.trans3 (R := nilV _) (S := AV.R ρ) (U := AV.R (ρ ++ [{ b := 0, nil := true }])) (fun _ _ _ a b => nilV_R hh.len a b) ht htm, (List.take_prefix _ _).trans hpre, by simp; omega, own⟩
  · rcases back ho hp with ⟨o0, h0, hr, hp⟩ | ⟨rfl, rfl⟩
    · have hR := hh.rep i o0 p h0 hp
      unfold nilO at hr
      split at hr
      · obtain ⟨z, cs, hc, e⟩ := hR
        obtain ⟨hr, rfl⟩ := hr
        exact ⟨z, cs, All2.trans3 (R := nilS _) (S := SV.R ρ) (U := SV.R (ρ ++ [{ b := 0, nil := true }])) (fun _ _ _ a b => nilS_R hh.len a b) hr hc, e⟩
      · subst hr; exact hR.ext hpre
    · simp [AO.R, VC.svs]
  · rcases get_push ho with ⟨hi, ho⟩ | ⟨_, e⟩
    · obtain ⟨o0, h0, hr⟩ := hH.get' ho
      have := it hr
      subst this
      obtain ⟨l, hl⟩ := hh.iter i m todo h0
      obtain ⟨o1, h1, hr1⟩ := hH.get hl
      refine ⟨l, ?_⟩
      rw [List.getElem?_append_left (List.getElem?_eq_some_iff.1 h1).1, h1]
      unfold nilO at hr1
      split at hr1
      · rename_i e; cases e
      · rw [hr1]
    · cases e
  · rcases back h1 h2 with ⟨o0, a0, ar, ap⟩ | ⟨rfl, rfl⟩
    · rcases back h3 h4 with ⟨o1, b0, br, bp⟩ | ⟨rfl, rfl⟩
      · exact hh.apart i j o0 o1 p p' b a0 ap b0 bp ((blk ar).1 h5) ((blk br).1 h6)
      · cases h6.1
    · cases h5.1
theorem All2.same {α : Type} {R : α → α → Prop} (h : ∀ x, R x x) : ∀ (l : List α), All2 R l l
  | [] => trivial
  | x :: l => ⟨h x, All2.same h l⟩
theorem nilV_refl (j : Nat) (x : AV) : nilV j x x := by
  cases x with
  | c y =>
    cases y with
    | s y => exact .inl rfl
    | agg l => exact All2.same (fun _ => .inl rfl) l
  | tup l => exact rfl
  | any => exact rfl
theorem nilO_refl (j : Nat) (x : AO) : nilO j x x := by
  cases x with
  | cells l t => exact ⟨All2.same (fun _ => .inl rfl) l, rfl⟩
  | _ => exact rfl
/-- The nil slice of a temporary. -/
theorem Wk_nilT {n0 : Nat} {t : List AV} {H : List AO} (k : Nat) (te : TypeId) (n : Nat) (hn : n0 ≤ H.length) (hk : t[k]? = some (sv .nils)) : Wk n0 t H (t.set k (sv (.vec H.length 0))) (H ++ [.vec (.pv []) te n]) := by
  refine Wk_nils te n hn ?_ (All2.same (nilO_refl _) H)
  refine All2.of_get (by simp) fun i x y hx hy => ?_
  rcases get_set hy with ⟨rfl, _, rfl⟩ | ⟨_, hy⟩
  · rw [hk] at hx; cases hx; exact .inr ⟨rfl, rfl⟩
  · rw [hx] at hy; cases hy; exact nilV_refl _ _
/-- An empty family. -/
theorem Wk_fam {n0 : Nat} {t : List AV} {H : List AO} (te : TypeId) (hn : n0 ≤ H.length) : Wk n0 t H t (H ++ [.fam [] te]) := by
  intro ρ w tm hh htm hl
  have hpre : ρ <+: ρ ++ [({ b := 0 } : Pl)] := List.prefix_append _ _
  refine ⟨ρ ++ [{ b := 0 }], hh.push2 (Nat.le_refl _) (fun _ _ => rfl) (fun b hb => by cases hb) ⟨rfl, List.nodup_nil, fun k b row h => by simp at h⟩ (fun _ _ h => by cases h), htm.mono (fun _ _ => AV.R.ext hpre), (List.take_prefix _ _).trans hpre, by simp; omega, fun b ho => ?_⟩
  rcases Owned.push hh.len ho with h | h
  · exact h
  · cases h
def mvI (i n k : Nat) : Nat := match Nat.beq k i with | true => n | false => k
theorem mvI_eq (i n : Nat) : mvI i n i = n := by simp [mvI]
theorem mvI_ne {i k : Nat} (n : Nat) (h : k ≠ i) : mvI i n k = k := by
  unfold mvI
  split
  · rename_i hk; exact absurd (Nat_beq hk) h
  · rfl
/-- A family is taken to lie elsewhere, at the end. -/
theorem Wk_move {n0 : Nat} {t : List AV} {H : List AO} (i : Nat) (rows : List (List PV)) (te : TypeId) (hn : n0 ≤ H.length) (hi : H[i]? = some (.fam rows te)) (hit : ∀ (m : Nat) (todo : Todo), AO.it64 m todo ∉ H) :
    Wk n0 t H (t.map (AV.ren (mvI i H.length))) ((H.set i .gone).map (AO.ren (mvI i H.length)) ++ [.fam rows te]) := by
  intro ρ w tm hh htm hl
  have hil : i < H.length := (List.getElem?_eq_some_iff.1 hi).1
  obtain ⟨p, hp⟩ : ∃ p, ρ[i]? = some p := ⟨_, List.getElem?_eq_getElem (by rw [hh.len]; exact hil)⟩
  have hpre : ρ <+: ρ ++ [p] := List.prefix_append _ _
  have out : ∀ (k : Nat) (q : Pl), ρ[k]? = some q → (ρ ++ [p])[mvI i H.length k]? = some q := by
    intro k q hq
    by_cases hk : k = i
    · subst hk
      rw [hp] at hq; cases hq
      rw [mvI_eq]
      exact pushed hh.len
    · rw [mvI_ne _ hk, List.getElem?_append_left (List.getElem?_eq_some_iff.1 hq).1]
      exact hq
  have back : ∀ {k : Nat} {o : AO} {q : Pl}, ((H.set i .gone).map (AO.ren (mvI i H.length)) ++ [AO.fam rows te])[k]? = some o → (ρ ++ [p])[k]? = some q →
      (o = .gone ∧ k = i) ∨ (k ≠ i ∧ ∃ o0, H[k]? = some o0 ∧ o = o0.ren (mvI i H.length) ∧ ρ[k]? = some q) ∨ (k = H.length ∧ o = .fam rows te ∧ q = p) := by
    intro k o q ho hq
    rcases get_push ho with ⟨hk, ho⟩ | ⟨hk, rfl⟩
    · simp at hk
      rw [List.getElem?_append_left (by rw [hh.len]; exact hk)] at hq
      rw [List.getElem?_map] at ho
      cases hs : (H.set i .gone)[k]? with
      | none => rw [hs] at ho; cases ho
      | some o1 =>
        rw [hs] at ho
        simp only [Option.map_some, Option.some.injEq] at ho
        rcases get_set hs with ⟨rfl, _, rfl⟩ | ⟨hne, hs⟩
        · exact .inl ⟨ho.symm, rfl⟩
        · exact .inr (.inl ⟨Ne.symm hne, o1, hs, ho.symm, hq⟩)
    · simp at hk
      rw [hk, ← hh.len] at hq
      simp at hq
      exact .inr (.inr ⟨hk, rfl, hq.symm⟩)
  have own : ∀ b, Owned ((H.set i .gone).map (AO.ren (mvI i H.length)) ++ [AO.fam rows te]) (ρ ++ [p]) b → Owned H ρ b := by
    rintro b ⟨k, o, q, ho, hq, hb⟩
    rcases back ho hq with ⟨rfl, _⟩ | ⟨_, o0, h0, rfl, h1⟩ | ⟨_, rfl, rfl⟩
    · exact hb.elim
    · exact ⟨k, o0, q, h0, h1, (AO.ren_own _ _ _ _).1 hb⟩
    · exact ⟨i, _, q, hi, hp, hb⟩
  refine ⟨ρ ++ [p], ⟨by simp [hh.len], fun k o q ho hq => ?_, fun k m todo ho => ?_, fun k j o o' q q' b h1 h2 h3 h4 h5 h6 => ?_⟩, All2.map_left.2 (htm.mono fun _ _ => AV.ren_out out), (List.take_prefix _ _).trans hpre, by simp; omega, own⟩
  · rcases back ho hq with ⟨rfl, _⟩ | ⟨_, o0, h0, rfl, h1⟩ | ⟨_, rfl, rfl⟩
    · trivial
    · exact AO.ren_out out (hh.rep k o0 q h0 h1)
    · exact (hh.rep i _ q hi hp).ext hpre
  · exfalso
    rcases get_push ho with ⟨_, ho⟩ | ⟨_, h⟩
    · rw [List.getElem?_map] at ho
      cases hs : (H.set i .gone)[k]? with
      | none => rw [hs] at ho; cases ho
      | some o1 =>
        rw [hs] at ho
        simp only [Option.map_some, Option.some.injEq] at ho
        obtain ⟨m0, rfl, _⟩ := AO.ren_it ho
        rcases get_set hs with ⟨_, _, e⟩ | ⟨_, hs⟩
        · cases e
        · exact hit _ _ (List.mem_of_getElem? hs)
    · cases h
  · rcases back h1 h2 with ⟨rfl, _⟩ | ⟨a1, o0, a2, rfl, a3⟩ | ⟨a1, rfl, rfl⟩
    · exact h5.elim
    · rcases back h3 h4 with ⟨rfl, _⟩ | ⟨b1, o1, b2, rfl, b3⟩ | ⟨b1, rfl, rfl⟩
      · exact h6.elim
      · exact hh.apart k j _ _ q q' b a2 a3 b2 b3 ((AO.ren_own _ _ _ _).1 h5) ((AO.ren_own _ _ _ _).1 h6)
      · exact (a1 (hh.apart k i _ _ q q' b a2 a3 hi hp ((AO.ren_own _ _ _ _).1 h5) h6)).elim
    · rcases back h3 h4 with ⟨rfl, _⟩ | ⟨b1, o1, b2, rfl, b3⟩ | ⟨b1, e1, e2⟩
      · exact h6.elim
      · exact (b1 (hh.apart j i _ _ q' q b b2 b3 hi hp ((AO.ren_own _ _ _ _).1 h6) h5)).elim
      · rw [a1, b1]
/-- The temporaries told of less. -/
def FgI : List AV → List AV → Prop
  | [], [] => True
  | _ :: t, .any :: t' => FgI t t'
  | x :: t, y :: t' => x = y ∧ FgI t t'
  | _, _ => False
theorem FgI_R {ρ : Rho} : ∀ {t t' : List AV} {tm : List Value}, FgI t t' → All2 (AV.R ρ) t tm → All2 (AV.R ρ) t' tm
  | [], [], [], _, _ => trivial
  | x :: t, y :: t', v :: tm, hf, ⟨hv, ht⟩ => by
    cases y with
    | any => exact ⟨trivial, FgI_R (by cases x <;> exact hf) ht⟩
    | c y => exact ⟨hf.1 ▸ hv, FgI_R hf.2 ht⟩
    | tup y => exact ⟨hf.1 ▸ hv, FgI_R hf.2 ht⟩
  | [], [], _ :: _, _, h => h.elim
  | [], _ :: _, _, h, _ => h.elim
  | _ :: _, [], _, h, _ => h.elim
  | _ :: _, _ :: _, [], _, h => h.elim
theorem Wk_fg {n0 : Nat} {t t' : List AV} {H : List AO} (h : FgI t t') : Wk n0 t H t' H :=
  fun ρ w tm hh ht hl => ⟨ρ, hh, FgI_R h ht, List.take_prefix _ _, hl, fun _ h => h⟩
/-- A loop whose rounds leave the heap as it is. -/
theorem loop_h {n0 : Nat} {W : List AV → List AO → (Ex → List AV → List AO → Prop) → Prop} {t : List AV} {H : List AO} {K : Ex → List AV → List AO → Prop} {α : Type} (ks : List Nat) (vs : α → List (Nat × AV)) (J : α → Prop) (μ : α → Nat) (a0 : α)
    (h0 : FgI t (setL (vs a0) (forget ks t))) (hJ : J a0)
    (hr : ∀ a, J a → ∀ KN : List AV → List AO → Prop, (∀ a' t', J a' → μ a' < μ a → FgI t' (setL (vs a') (forget ks t)) → KN t' H) →
      Go1 (W (setL (vs a) (forget ks t)) H fun e t' H' => match e with
        | .normal => KN t' H'
        | .ret => K .ret t' H'
        | .exit i => K (.exit i) t' H')) : LoopA n0 W t H K :=
  loop_intro ks vs (fun _ => H) J μ a0 (Wk_fg h0) hJ fun a ha KN hKN => by
    let KN' : List AV → List AO → Prop := fun t' H' => ∃ a', J a' ∧ μ a' < μ a ∧ Wk n0 t' H' (setL (vs a') (forget ks t)) H
    refine hr a ha KN fun a' t' h1 h2 h3 => hKN a' t' H h1 h2 (Wk_fg h3)
/-- The callee's walk, here. -/
theorem call_in (hE : E = realE P) (hT : TyOk P T) (hm : P.follows .mixedOrders = true) {f : FuncId} {fn : Func} {hs : List (Nat × DT)} {args : List AV} {H : List AO} {K : AV → List AO → Prop} (hf : P.funcs[f]? = some fn) (hok : okF hs fn = true)
    (h : ∀ K' : AV → List AO → Prop, (∀ r H' r' H'', WkR H.length r H' r' H'' → K r' H'' → K' r H') → Go1 (bodyA E T hs (bodyOf fn) fn.ntmps fn.results.toList args H K')) : E.call f args H K := by
  subst hE
  exact call_of rfl (AC_fn hT hm hf hok fun E K' hE hK => by subst hE; exact (h K' hK).go) fun _ _ h => h
/-- The same, what is closed being variables one by one. -/
theorem AC_fv (hT : TyOk P T) (hm : P.follows .mixedOrders = true) {f : FuncId} {fn : Func} {hs : List (Nat × DT)} {args : List AV} {H : List AO} {R : AV → List AO → Prop} (hf : P.funcs[f]? = some fn) (hok : okF hs fn = true)
    (h : ∀ (bin : BinOp → IntKind → Int → Int → Int) (cmp : BinOp → Int → Int → Bool) (beq : Bool → Bool → Bool) (eqs : List SV → List SV → Bool) (conv : IntKind → Int → Int) (mn mx : Int → Int → Int) (nat : Nat → Int) (nadd nsub nmul : Nat → Nat → Nat) (idx : Int → Nat → Nat → Nat) (get : List PV → Nat → (SV → Prop) → Prop) (sub : List PV → Nat → Nat → (List SV → Prop) → Prop) (subP : List PV → Nat → Nat → (List PV → Prop) → Prop) (subS : List SV → Nat → Nat → (List SV → Prop) → Prop) (getS : List SV → Nat → (SV → Prop) → Prop) (put : List PV → Nat → List PV → List PV) (app : List PV → List PV → List PV) (rep : Int → List PV → List PV) (oget : List (Option Nat) → Nat → (Option Nat → Prop) → Prop) (osub : List (Option Nat) → Nat → Nat → (List (Option Nat) → Prop) → Prop) (oset : List (Option Nat) → Nat → Option Nat → List (Option Nat)) (oapp : List (Option Nat) → List (Option Nat) → List (Option Nat)) (orep : Int → List (Option Nat)) (rget : List (List PV) → Nat → (List PV → Prop) → Prop) (rlen : List (List PV) → Nat) (rapp : List (List PV) → List PV → List (List PV)) (toNat : Int → Nat) (nn : Int → Prop) (lt le : Int → Int → Prop) (fit : Int → Nat → Prop) (lenOk : VC → Nat → Nat → Prop) (mget : List (Int × Int) → Int → Int) (mhas : List (Int × Int) → Int → Bool) (mput : List (Int × Int) → Int → Int → List (Int × Int)) (mdel : List (Int × Int) → Int → List (Int × Int)) (mlen : List (Int × Int) → Int) (kget : List ((Int × Int) × Int) → Int → Int → Int) (khas : List ((Int × Int) × Int) → Int → Int → Bool) (kput : List ((Int × Int) × Int) → Int → Int → Int → List ((Int × Int) × Int)) (next : List (Int × Int) → (Option ((Int × Int) × List (Int × Int)) → Prop) → Prop) (call : FuncId → List AV → List AO → (AV → List AO → Prop) → Prop) (yield : Nat → List AV → List AO → (AV → List AO → Prop) → Prop), Ev.mk bin cmp beq eqs conv mn mx nat nadd nsub nmul idx get sub subP subS getS put app rep oget osub oset oapp orep rget rlen rapp toNat nn lt le fit lenOk mget mhas mput mdel mlen kget khas kput next call yield = realE P →
      (bin = realBin ∧ cmp = realCmp ∧ (∀ a b, beq a b = (a == b)) ∧ eqs = eqsL ∧ conv = IntKind.wrap ∧ (∀ a b, mn a b = if b < a then b else a) ∧ (∀ a b, mx a b = if b > a then b else a) ∧ (∀ n : Nat, nat n = (n : Int)) ∧ (∀ a b, nadd a b = a + b) ∧ (∀ a b, nsub a b = a - b) ∧ (∀ a b, nmul a b = a * b) ∧ (∀ i sz off, idx i sz off = i.toNat * sz + off) ∧ get = (realE P).get ∧ sub = (realE P).sub ∧ subP = (realE P).subP ∧ subS = (realE P).subS ∧ getS = (realE P).getS ∧ put = putL ∧ (∀ a b, app a b = a ++ b) ∧ (∀ n z, rep n z = repP n.toNat z) ∧ oget = (realE P).oget ∧ osub = (realE P).osub ∧ (∀ l i x, oset l i x = l.set i x) ∧ (∀ a b, oapp a b = a ++ b) ∧ (∀ n, orep n = List.replicate n.toNat none) ∧ rget = (realE P).rget ∧ (∀ l, rlen l = l.length) ∧ (∀ l r, rapp l r = l ++ [r]) ∧ toNat = Int.toNat ∧ nn = (realE P).nn ∧ lt = (realE P).lt ∧ le = (realE P).le ∧ fit = (realE P).fit ∧ lenOk = (realE P).lenOk ∧ mget = mgetL ∧ mhas = mhasL ∧ mput = mputL ∧ mdel = mdelL ∧ (∀ l, mlen l = (l.length : Int)) ∧ kget = kgetL ∧ khas = khasL ∧ kput = kputL ∧ next = (realE P).next ∧ call = (realE P).call ∧ yield = (realE P).yield) →
      ∀ K : AV → List AO → Prop, (∀ r H' r' H'', WkR H.length r H' r' H'' → R r' H'' → K r H') → bodyA (Ev.mk bin cmp beq eqs conv mn mx nat nadd nsub nmul idx get sub subP subS getS put app rep oget osub oset oapp orep rget rlen rapp toNat nn lt le fit lenOk mget mhas mput mdel mlen kget khas kput next call yield) T hs (bodyOf fn) fn.ntmps fn.results.toList args H K) : AC P f args H R :=
  AC_fn hT hm hf hok fun E K hE hK => by
    subst hE
    exact h _ _ _ _ _ _ _ _ _ _ _ _ _ _ _ _ _ _ _ _ _ _ _ _ _ _ _ _ _ _ _ _ _ _ _ _ _ _ _ _ _ _ _ _ _ rfl ⟨rfl, rfl, fun _ _ => rfl, rfl, rfl, fun _ _ => rfl, fun _ _ => rfl, fun _ => rfl, fun _ _ => rfl, fun _ _ => rfl, fun _ _ => rfl, fun _ _ _ => rfl, rfl, rfl, rfl, rfl, rfl, rfl, fun _ _ => rfl, fun _ _ => rfl, rfl, rfl, fun _ _ _ => rfl, fun _ _ => rfl, fun _ => rfl, rfl, fun _ => rfl, fun _ _ => rfl, rfl, rfl, rfl, rfl, rfl, rfl, rfl, rfl, rfl, rfl, fun _ => rfl, rfl, rfl, rfl, rfl, rfl, rfl⟩ K hK
theorem call_fv {call : FuncId → List AV → List AO → (AV → List AO → Prop) → Prop} (hc : call = (realE P).call) {f : FuncId} {args0 args : List AV} {H0 H : List AO} {R K : AV → List AO → Prop} (σ : List Nat) (h : AC P f args0 H0 R) (hnd : nodupB σ = true) (hno : noOut σ 0 H = true)
    (hp : pickL H σ = some (H0.map (AO.ren (gI σ H.length)))) (ha : args = args0.map (AV.ren (gI σ H.length)))
    (hk : ∀ r H', R r H' → Go1 (K (r.ren (gI σ H.length)) (updH σ H H'))) : call f args H K := by
  subst hc
  exact call_sub rfl σ h hnd hno hp ha hk
end
end Bm
