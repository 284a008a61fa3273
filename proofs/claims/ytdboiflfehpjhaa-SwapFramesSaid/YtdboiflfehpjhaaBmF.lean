/- The abstract machine's operations that turn nothing: soundness, all of them. -/
import Derived.Test.YtdboiflfehpjhaaBmE
set_option linter.unusedVariables false
set_option linter.unusedSimpArgs false
namespace Bm
open Go
section
variable {P : Program} {T : TypeId → TI} {ρ : Rho} {w : World} {H : List AO}

theorem known_of {i : TI} {k : TK} (h : i.kind = k) (hk : k ≠ .other) : i.known = true := by
  cases k <;> simp_all [TI.known]
theorem TIOk.slice (hT : TyOk P T) {t : TypeId} (h : (T t).kind = .slice) : P.underlying t = some (.slice (T t).elem) ∧ (T (T t).elem).known = true := by
  obtain ⟨d, h1, _, h3⟩ := (hT t (known_of h (by simp))).desc
  rw [h] at h3
  exact ⟨h3.1 ▸ h1, h3.2⟩
theorem TIOk.array (hT : TyOk P T) {t : TypeId} (h : (T t).kind = .array) : P.underlying t = some (.array (T t).len (T t).elem) ∧ (T (T t).elem).known = true := by
  obtain ⟨d, h1, _, h3⟩ := (hT t (known_of h (by simp))).desc
  rw [h] at h3
  exact ⟨h3.1 ▸ h1, h3.2⟩
theorem TIOk.struct (hT : TyOk P T) {t : TypeId} (h : (T t).kind = .struct) : ∃ fs, P.underlying t = some (.struct fs) ∧ fs.toList.mapM (fun f => (P.info? f.type).map fun i => (f.offset, i.size)) = some ((T t).fields.map fun x => (x.1, x.2.1)) ∧
        ∀ (i : Nat) (off n : Nat) (g : Bool), (T t).fields[i]? = some (off, n, g) → ∃ f, fs[i]? = some f ∧
        f.offset = off ∧ n ≠ 0 ∧ (∃ inf, P.info? f.type = some inf ∧ inf.size = n) ∧ (∃ d', P.underlying f.type = some d' ∧ isAggD d' = g) ∧ (g = false → n = 1) := by
  obtain ⟨d, h1, _, h3⟩ := (hT t (known_of h (by simp))).desc
  rw [h] at h3
  obtain ⟨fs, rfl, h4⟩ := h3
  exact ⟨fs, h1, h4⟩
theorem TIOk.map64 (hT : TyOk P T) {t : TypeId} (h : (T t).kind = .map64) : ∃ k e, P.underlying t = some (.map k e) ∧ P.underlying k = some (.int .u64) ∧ P.underlying e = some (.int .u64) ∧ ∃ inf, P.info? e = some inf ∧ inf.zero = some (.int .u64 0) := by
  obtain ⟨d, h1, _, h3⟩ := (hT t (known_of h (by simp))).desc
  rw [h] at h3
  obtain ⟨k, e, rfl, h4⟩ := h3
  exact ⟨k, e, h1, h4⟩
theorem TIOk.mapk (hT : TyOk P T) {t : TypeId} (h : (T t).kind = .mapk) : ∃ k e k1 k2 fs, P.underlying t = some (.map k e) ∧ P.underlying k = some (.struct fs) ∧ (fs[0]?).map (fun f => (f.name == "_", f.type, f.offset)) = some (false, k1, 0) ∧ (fs[1]?).map (fun f => (f.name == "_", f.type, f.offset)) = some (false, k2, 1) ∧ fs.size = 2 ∧
        P.underlying k1 = some (.int .i64) ∧ P.underlying k2 = some (.int .u64) ∧ P.underlying e = some (.int .u64) ∧ ∃ inf, P.info? e = some inf ∧ inf.zero = some (.int .u64 0) := by
  obtain ⟨d, h1, _, h3⟩ := (hT t (known_of h (by simp))).desc
  rw [h] at h3
  obtain ⟨k, e, k1, k2, fs, rfl, h4⟩ := h3
  exact ⟨k, e, k1, k2, fs, h1, h4⟩
theorem size_elem (hT : TyOk P T) {t : TypeId} (h : (T t).known = true) (w : World) : (Go.sizeOf t).run P w = .ok (T t).sz w := (hT t h).size w

/-! ### Equality -/
theorem run_eqGuard_plain {op : BinOp} {t : TypeId} {x y : Operand} {a b : Value} (h1 : a ≠ .nilIface) (h2 : ∀ c, a ≠ .agg c) : (eqGuard op t x y a b).run P w = .ok () w := by
  cases op <;> simp only [eqGuard, Bool.not_true, Bool.not_false, if_true, if_false, Bool.false_eq_true] <;> first
    | rfl
    | (cases a <;> first | rfl | (exact absurd rfl h1) | (exact absurd rfl (h2 _)))
theorem run_eqGuard_agg {op : BinOp} {t : TypeId} {x y : Operand} {a b : Array Value} (h : P.eqGuardType P.depth t = false) : (eqGuard op t x y (.agg a) (.agg b)).run P w = .ok () w := by
  cases op <;> simp [eqGuard, h]

theorem binInt_sound {op : BinOp} {t : TypeId} {k : IntKind} {a b : Int} (hs : op ≠ .shl ∧ op ≠ .shr) (hb : (op = .quo ∨ op = .rem) → b ≠ 0) :
    (binOp op t (.int k a) (.int k b)).run P w = .ok (if isCmp op then .bool (realCmp op a b) else .int k (realBin op k a b)) w := by
  obtain ⟨h1, h2⟩ := hs
  cases op <;> simp_all [binOp, Op.intArith, Op.intDiv, Op.intBits, Op.intCmp, isCmp, realCmp, realBin]
theorem shift_sound {op : BinOp} {t : TypeId} {k k' : IntKind} {a b : Int} (hs : op = .shl ∨ op = .shr) (hb : 0 ≤ b) :
    (binOp op t (.int k a) (.int k' b)).run P w = .ok (.int k (realBin op k a b)) w := by
  rcases hs with rfl | rfl <;> simp [binOp, Op.shift, realBin, Int.not_lt.2 hb]

theorem pointee_eq {t u : TypeId} (h : P.underlying t = some (.pointer u)) : P.underlying t = some (.pointer (P.pointee t)) := by
  simp [Program.pointee, h]


theorem run_eql_struct (hT : TyOk P T) {t : TypeId} (hk : (T t).eqok = true) (hkn : (T t).known = true) {a b : List SV} {xs ys : List Value} (h1 : kindsLike (T t).zero a = true) (h2 : kindsLike (T t).zero b = true)
    (hx : All2 (SV.R ρ) a xs) (hy : All2 (SV.R ρ) b ys) :
    (binOp .eql t (.agg xs.toArray) (.agg ys.toArray)).run P w = .ok (.bool (eqsL a b)) w ∧ (binOp .neq t (.agg xs.toArray) (.agg ys.toArray)).run P w = .ok (.bool (!eqsL a b)) w := by
  have := ((hT t hkn).eq hk w a b xs ys ρ h1 h2 hx hy).1
  simp [binOp, this]

/-- Lists of what is evaluated. -/
theorem all2_one {α β : Type} {R : α → β → Prop} {x : α} {m : List β} (h : All2 R [x] m) : ∃ y, m = [y] ∧ R x y := by
  match m, h with
  | [y], h => exact ⟨y, rfl, h.1⟩
theorem all2_two {α β : Type} {R : α → β → Prop} {x x' : α} {m : List β} (h : All2 R [x, x'] m) : ∃ y y', m = [y, y'] ∧ R x y ∧ R x' y' := by
  match m, h with
  | [y, y'], h => exact ⟨y, y', rfl, h.1, h.2.1⟩
def Sound (P : Program) (ρ : Rho) (w : World) (o : Oper) (a : Act) (K : AV → Prop) : Prop :=
  ∃ v vc, K v ∧ v.R ρ vc ∧ (execOp a.eval o).run P w = .ok (.value vc) w
theorem Sound.mk {o : Oper} {a : Act} {K : AV → Prop} {v : AV} {vc : Value} (hK : K v) (hR : v.R ρ vc) (hr : (execOp a.eval o).run P w = .ok (.value vc) w) : Sound P ρ w o a K := ⟨v, vc, hK, hR, hr⟩

theorem prim_bool (hT : TyOk P T) {t : TypeId} {b : Bool} (hk : (T t).kind = .prim) (hz : (T t).zero = [.bool b]) : P.underlying t = some .bool := by
  obtain ⟨d, h1, _, h3⟩ := (hT t (known_of hk (by simp))).desc
  rw [hk, hz] at h3
  exact h3 ▸ h1
theorem prim_ptr (hT : TyOk P T) {t : TypeId} (hk : (T t).kind = .prim) (hz : (T t).zero = [.nilp]) : P.underlying t = some (.pointer (P.pointee t)) := by
  obtain ⟨d, h1, _, h3⟩ := (hT t (known_of hk (by simp))).desc
  rw [hk, hz] at h3
  exact h3 ▸ h1
theorem equalIn_bool (w : World) (d : Nat) {t : TypeId} (h : P.underlying t = some .bool) (a b : Bool) : (Op.equalIn (d + 1) t (.bool a) (.bool b)).run P w = .ok (a == b) w := by
  simp [Op.equalIn, run_underlying h]
theorem equalIn_map (w : World) (d : Nat) {t k e : TypeId} (h : P.underlying t = some (.map k e)) (r : Nat) : (Op.equalIn (d + 1) t (.map (some r)) (.map none)).run P w = .ok false w := by
  simp [Op.equalIn, run_underlying h]
theorem run_eql_bool (w : World) {t : TypeId} (h : P.underlying t = some .bool) (a b : Bool) : (binOp .eql t (.bool a) (.bool b)).run P w = .ok (.bool (a == b)) w ∧ (binOp .neq t (.bool a) (.bool b)).run P w = .ok (.bool (!(a == b))) w := by
  have h1 : (Op.equal t (.bool a) (.bool b)).run P w = .ok (a == b) w := equalIn_bool w 9999 h a b
  constructor <;> simp only [binOp] <;> simp [h1]
theorem run_eql_map (w : World) {t k e : TypeId} (h : P.underlying t = some (.map k e)) (r : Nat) : (binOp .eql t (.map (some r)) (.map none)).run P w = .ok (.bool false) w ∧ (binOp .neq t (.map (some r)) (.map none)).run P w = .ok (.bool true) w := by
  have h1 : (Op.equal t (.map (some r)) (.map none)).run P w = .ok false w := equalIn_map w 9999 h r
  constructor <;> simp only [binOp] <;> simp [h1]
theorem equalIn_nilp (w : World) (d : Nat) {t u : TypeId} (h : P.underlying t = some (.pointer u)) (a : Addr) : (Op.equalIn (d + 1) t (.pointer none) (.pointer (some a))).run P w = .ok false w := by
  simp [Op.equalIn, run_underlying h]
theorem run_nil_pointer (w : World) {t u : TypeId} (h : P.underlying t = some (.pointer u)) (a : Addr) : (binOp .eql t (.pointer none) (.pointer (some a))).run P w = .ok (.bool false) w ∧ (binOp .neq t (.pointer none) (.pointer (some a))).run P w = .ok (.bool true) w := by
  have h1 : (Op.equal t (.pointer none) (.pointer (some a))).run P w = .ok false w := equalIn_nilp w 9999 h a
  constructor <;> simp only [binOp] <;> simp [h1]
theorem fillE_sound {sz : Nat} {ps : List (Nat × AV)} {qs : List (Nat × Value)} {l l' : List SV} {cs : Array Value} (hp : All2 (fun p q => p.1 = q.1 ∧ p.2.R ρ q.2) ps qs) (hl : All2 (SV.R ρ) l cs.toList) (h : fillE sz l ps = some l') :
      ∃ cs' : Array Value, Instr.fill (fun i => some (i * sz, sz)) cs qs = some cs' ∧ All2 (SV.R ρ) l' cs'.toList :=
  fill_sound (fillE sz) (by simp [fillE]) (by
    intro l i v r l' hh
    unfold fillE at hh
    split at hh
    · rename_i heq; simp at heq
    · rename_i heq
      simp only [List.cons.injEq, Prod.mk.injEq] at heq
      obtain ⟨⟨rfl, rfl⟩, rfl⟩ := heq
      split at hh
      · rename_i hb
        simp only [Bool.and_eq_true] at hb
        exact ⟨_, _, sz, rfl, rfl, Nat_beq hb.1, Nat.le_of_ble_eq_true hb.2, hh⟩
      · cases hh
    · cases hh) hp hl h
theorem kindBeq_eq {k k' : IntKind} (h : kindBeq k k' = true) : k = k' := by cases k <;> cases k' <;> first | rfl | (simp [kindBeq] at h)
theorem binop_sound (hT : TyOk P T) {t : List AV} {a : Act} (ht : Tm ρ t a) {o : Oper} {op : BinOp} {ty ty' : TypeId} {x y : Operand} (ho : o.op = .binOp op ty x y ty') {K : AV → Prop}
    (h : pureA (realE P) T (.binOp op ty x y ty') (evA t) H K) : Sound P ρ w o a K := by
  have hx := ht.eval x
  have hy := ht.eval y
  have ex : ∀ vc v, a.eval x ≠ .nilIface → (∀ c, a.eval x ≠ .agg c) → K v → v.R ρ vc → (binOp op ty (a.eval x) (a.eval y)).run P w = .ok vc w → Sound P ρ w o a K := by
    intro vc v h1 h2 hK hR hr
    exact .mk hK hR (by simp [execOp, ho, run_eqGuard_plain h1 h2, hr])
  simp only [pureA] at h
  split at h
  · -- two numbers
    rename_i k m k' n h1 h2
    rw [h1] at hx
    rw [h2] at hy
    have hx' := R_int hx
    have hy' := R_int hy
    have ci : ∀ c, constInt y = some c → c = n := by
      intro c hc
      cases y with
      | const v =>
        cases v with
        | int k0 c0 =>
          simp only [constInt, Option.some.injEq] at hc
          subst hc
          simp only [Act.eval, Value.int.injEq] at hy'
          exact hy'.2
        | _ => simp [constInt] at hc
      | _ => simp [constInt] at hc
    have shift : (op = .shl ∨ op = .shr) → 0 ≤ n → K (sv (.int k (realBin op k m n))) → Sound P ρ w o a K := fun hs hb hK =>
      ex _ _ (by simp [hx']) (by simp [hx']) hK rfl (by rw [hx', hy']; exact shift_sound hs hb)
    have plain : k = k' → (op ≠ .shl ∧ op ≠ .shr) → ((op = .quo ∨ op = .rem) → n ≠ 0) → K (if isCmp op then sv (.bool (realCmp op m n)) else sv (.int k (realBin op k m n))) → Sound P ρ w o a K := by
      intro hk hs hb hK
      subst hk
      refine ex _ _ (by simp [hx']) (by simp [hx']) hK ?_ (by rw [hx', hy']; exact binInt_sound hs hb)
      split <;> rfl
    split at h
    · -- shl
      split at h
      · rename_i c hc; exact shift (.inl rfl) (by rw [← ci _ hc]; exact Int.natCast_nonneg _) h
      · exact h.elim
      · exact shift (.inl rfl) h.1 h.2
    · split at h
      · rename_i c hc; exact shift (.inr rfl) (by rw [← ci _ hc]; exact Int.natCast_nonneg _) h
      · exact h.elim
      · exact shift (.inr rfl) h.1 h.2
    · split at h
      · rename_i c hk hc; exact plain (kindBeq_eq hk) (by simp) (fun _ => by rw [← ci _ hc]; exact (by omega : ((_ + 1 : Nat) : Int) ≠ 0)) h
      · rename_i hk hc; exact plain (kindBeq_eq hk) (by simp) (fun _ => h.1) h.2
      · exact h.elim
    · split at h
      · rename_i c hk hc; exact plain (kindBeq_eq hk) (by simp) (fun _ => by rw [← ci _ hc]; exact (by omega : ((_ + 1 : Nat) : Int) ≠ 0)) h
      · rename_i hk hc; exact plain (kindBeq_eq hk) (by simp) (fun _ => h.1) h.2
      · exact h.elim
    · rename_i n1 n2 n3 n4
      split at h
      · rename_i hk hc; exact plain (kindBeq_eq hk) ⟨n1, n2⟩ (fun hh => (hh.elim n3 n4).elim) (by rw [if_pos hc]; exact h)
      · rename_i hk hc; exact plain (kindBeq_eq hk) ⟨n1, n2⟩ (fun hh => (hh.elim n3 n4).elim) (by rw [hc]; exact h)
      · exact h.elim
  · rename_i m n h1 h2
    rw [h1] at hx; rw [h2] at hy
    have hx' := R_bool hx
    have hy' := R_bool hy
    split at h
    · rename_i hk hz
      exact ex _ _ (by simp [hx']) (by simp [hx']) h rfl (by rw [hx', hy']; exact (run_eql_bool w (prim_bool hT hk hz) m n).1)
    · rename_i hk hz
      exact ex _ _ (by simp [hx']) (by simp [hx']) h rfl (by rw [hx', hy']; exact (run_eql_bool w (prim_bool hT hk hz) m n).2)
    · exact h.elim
  · rename_i i off h1 h2
    rw [h1] at hx; rw [h2] at hy
    obtain ⟨p, hp, hx'⟩ := R_ptr hx
    have hy' : a.eval y = .pointer none := hy
    split at h
    · rename_i hk hz
      exact ex (.bool false) _ (by simp [hx']) (by simp [hx']) h rfl (by rw [hx', hy']; exact run_eql_pointer_nil w ty _ (prim_ptr hT hk hz))
    · rename_i hk hz
      exact ex (.bool true) _ (by simp [hx']) (by simp [hx']) h rfl (by rw [hx', hy']; exact run_neq_pointer_nil w ty _ (prim_ptr hT hk hz))
    · exact h.elim
  · rename_i i k off h1 h2
    rw [h1] at hx; rw [h2] at hy
    obtain ⟨p, b, hp, hpb, hx'⟩ : ∃ p b, ρ[i]? = some p ∧ p.bs[k]? = some b ∧ a.eval x = .pointer (some ⟨b, off, none⟩) := hx
    have hy' : a.eval y = .pointer none := hy
    split at h
    · rename_i hk hz
      exact ex (.bool false) _ (by simp [hx']) (by simp [hx']) h rfl (by rw [hx', hy']; exact run_eql_pointer_nil w ty _ (prim_ptr hT hk hz))
    · rename_i hk hz
      exact ex (.bool true) _ (by simp [hx']) (by simp [hx']) h rfl (by rw [hx', hy']; exact run_neq_pointer_nil w ty _ (prim_ptr hT hk hz))
    · exact h.elim
  · rename_i i off h1 h2
    rw [h1] at hx; rw [h2] at hy
    obtain ⟨p, hp, hy'⟩ := R_ptr hy
    have hx' : a.eval x = .pointer none := hx
    split at h
    · rename_i hk hz
      exact ex (.bool false) _ (by simp [hx']) (by simp [hx']) h rfl (by rw [hx', hy']; exact (run_nil_pointer w (prim_ptr hT hk hz) _).1)
    · rename_i hk hz
      exact ex (.bool true) _ (by simp [hx']) (by simp [hx']) h rfl (by rw [hx', hy']; exact (run_nil_pointer w (prim_ptr hT hk hz) _).2)
    · exact h.elim
  · rename_i i k off h1 h2
    rw [h1] at hx; rw [h2] at hy
    obtain ⟨p, b, hp, hpb, hy'⟩ : ∃ p b, ρ[i]? = some p ∧ p.bs[k]? = some b ∧ a.eval y = .pointer (some ⟨b, off, none⟩) := hy
    have hx' : a.eval x = .pointer none := hx
    split at h
    · rename_i hk hz
      exact ex (.bool false) _ (by simp [hx']) (by simp [hx']) h rfl (by rw [hx', hy']; exact (run_nil_pointer w (prim_ptr hT hk hz) _).1)
    · rename_i hk hz
      exact ex (.bool true) _ (by simp [hx']) (by simp [hx']) h rfl (by rw [hx', hy']; exact (run_nil_pointer w (prim_ptr hT hk hz) _).2)
    · exact h.elim
  · rename_i h1 h2
    rw [h1] at hx; rw [h2] at hy
    have hx' : a.eval x = .pointer none := hx
    have hy' : a.eval y = .pointer none := hy
    split at h
    · rename_i hk hz
      exact ex (.bool true) _ (by simp [hx']) (by simp [hx']) h rfl (by rw [hx', hy']; exact run_eql_pointer_nil w ty _ (prim_ptr hT hk hz))
    · rename_i hk hz
      exact ex (.bool false) _ (by simp [hx']) (by simp [hx']) h rfl (by rw [hx', hy']; exact run_neq_pointer_nil w ty _ (prim_ptr hT hk hz))
    · exact h.elim
  · rename_i i h1 h2
    rw [h1] at hx; rw [h2] at hy
    obtain ⟨p, hp, hx'⟩ : ∃ p, ρ[i]? = some p ∧ a.eval x = .map (some p.b) := hx
    have hy' : a.eval y = .map none := hy
    split at h
    · rename_i hk
      obtain ⟨_, _, hu, _⟩ := TIOk.map64 hT hk
      exact ex (.bool false) _ (by simp [hx']) (by simp [hx']) h rfl (by rw [hx', hy']; exact (run_eql_map w hu _).1)
    · rename_i hk
      obtain ⟨_, _, hu, _⟩ := TIOk.map64 hT hk
      exact ex (.bool true) _ (by simp [hx']) (by simp [hx']) h rfl (by rw [hx', hy']; exact (run_eql_map w hu _).2)
    · exact h.elim
  · rename_i l l' h1 h2
    rw [h1] at hx; rw [h2] at hy
    obtain ⟨xs, hxs, hx'⟩ := hx
    obtain ⟨ys, hys, hy'⟩ := hy
    split at h
    · rename_i hk hl hl'
      simp only [Bool.and_eq_true] at hk
      have he := run_eql_struct (w := w) hT hk.1 hk.2 hl hl' hxs hys
      have hg : ∀ op', (eqGuard op' ty x y (.agg xs.toArray) (.agg ys.toArray)).run P w = .ok () w := fun op' => run_eqGuard_agg ((hT ty hk.2).eq hk.1 w l l' xs ys ρ hl hl' hxs hys).2
      split at h
      · exact .mk h rfl (by simp [execOp, ho, hx', hy', hg, he.1, realE])
      · exact .mk h rfl (by simp [execOp, ho, hx', hy', hg, he.2, realE])
      · exact h.elim
    · exact h.elim
  · exact h.elim

/-! ### Maps of words -/
theorem checkKey_int (w : World) (b : Bool) (n : Nat) {k : TypeId} {q : IntKind} (h : P.underlying k = some (.int q)) (v : Value) : (Instr.checkKey b (n + 1) k v).run P w = .ok () w := by
  simp [Instr.checkKey, run_underlying h]
theorem findNow64 (n : Int) : ∀ {l : List (Int × Int)} {es : List MapEntry} (i : Nat), All2 (fun (p : Int × Int) (e : MapEntry) => e.key = .int .u64 p.1 ∧ e.val = .int .u64 p.2) l es →
    Instr.findNow (.int .u64) (.int .u64 n) es i = some ((l.findIdx? fun p => p.1 == n).map fun j => (i + j, .int .u64 ((l[j]?.map (·.2)).getD 0)))
  | [], [], i, _ => rfl
  | p :: l, e :: es, i, ⟨⟨h1, h2⟩, h3⟩ => by
    simp only [Instr.findNow, Instr.sameNow, h1, if_true, List.findIdx?_cons]
    by_cases hn : n = p.1
    · subst hn
      simp [h2]
    · have e1 : (n == p.1) = false := beq_eq_false_iff_ne.2 hn
      have e2 : (p.1 == n) = false := beq_eq_false_iff_ne.2 (Ne.symm hn)
      simp only [e1, e2, findNow64 n (i + 1) h3, Bool.false_eq_true, if_false]
      cases l.findIdx? (fun p => p.1 == n) with
      | none => rfl
      | some j => simp [Nat.add_assoc, Nat.add_comm 1 j]
  | [], _ :: _, _, h => h.elim
  | _ :: _, [], _, h => h.elim
theorem findKey64 (w : World) {k : TypeId} (hk : P.underlying k = some (.int .u64)) (n : Int) {l : List (Int × Int)} {es : List MapEntry} (h : All2 (fun (p : Int × Int) (e : MapEntry) => e.key = .int .u64 p.1 ∧ e.val = .int .u64 p.2) l es) :
    (Instr.findKey k (.int .u64 n) es).run P w = .ok ((l.findIdx? fun p => p.1 == n).map fun j => (j, .int .u64 ((l[j]?.map (·.2)).getD 0))) w := by
  simp [Instr.findKey, run_underlying hk, findNow64 n 0 h]
theorem mget_mem : ∀ {l : List (Int × Int)} (hn : (l.map (·.1)).Nodup) {n v : Int}, (n, v) ∈ l → mgetL l n = v
  | [], _, _, _, h => by simp at h
  | p :: l, hn, n, v, h => by
    simp only [List.map_cons, List.nodup_cons] at hn
    rcases List.mem_cons.1 h with rfl | h
    · simp [mgetL]
    · have : (p.1 == n) = false := by
        rw [beq_eq_false_iff_ne]
        intro e
        exact hn.1 (e ▸ List.mem_map_of_mem (f := (·.1)) h)
      simpa [mgetL, this] using mget_mem hn.2 h
theorem mget_not {l : List (Int × Int)} {n : Int} (h : ∀ v, (n, v) ∉ l) : mgetL l n = 0 ∧ mhasL l n = false := by
  have h1 : ∀ p ∈ l, ¬ (p.1 == n) = true := fun p hp e => h p.2 (by rw [← eq_of_beq e]; exact hp)
  refine ⟨by simp only [mgetL]; rw [List.find?_eq_none.2 h1]; rfl, ?_⟩
  simp only [mhasL, List.any_eq_false]
  exact h1
theorem mhas_mem {l : List (Int × Int)} {n v : Int} (h : (n, v) ∈ l) : mhasL l n = true := List.any_eq_true.2 ⟨_, h, by simp⟩
theorem mget_perm {l l' : List (Int × Int)} (h : l'.Perm l) (hn : (l.map (·.1)).Nodup) (n : Int) : mgetL l' n = mgetL l n ∧ mhasL l' n = mhasL l n := by
  have hn' : (l'.map (·.1)).Nodup := (h.map _).nodup_iff.2 hn
  by_cases hv : ∃ v, (n, v) ∈ l
  · obtain ⟨v, hv⟩ := hv
    have hv' := h.mem_iff.2 hv
    exact ⟨(mget_mem hn' hv').trans (mget_mem hn hv).symm, (mhas_mem hv').trans (mhas_mem hv).symm⟩
  · have h1 : ∀ v, (n, v) ∉ l := fun v hh => hv ⟨v, hh⟩
    have h2 : ∀ v, (n, v) ∉ l' := fun v hh => h1 v (h.mem_iff.1 hh)
    exact ⟨(mget_not h2).1.trans (mget_not h1).1.symm, (mget_not h2).2.trans (mget_not h1).2.symm⟩
theorem find_of_idx (n : Int) : ∀ (l : List (Int × Int)), (match l.findIdx? (fun p => p.1 == n) with | some j => (true, ((l[j]?.map (·.2)).getD 0)) | none => (false, 0)) = (mhasL l n, mgetL l n)
  | [] => rfl
  | p :: l => by
    have ih := find_of_idx n l
    simp only [List.findIdx?_cons, mhasL, mgetL, List.any_cons, List.find?_cons] at ih ⊢
    by_cases hp : (p.1 == n) = true
    · simp [hp]
    · simp only [hp, Bool.false_eq_true, if_false, Bool.false_or] at ih ⊢
      rw [← ih]
      cases l.findIdx? (fun p => p.1 == n) <;> simp
theorem run_lookup64 {t k e : TypeId} (hu : P.underlying t = some (.map k e)) (hk : P.underlying k = some (.int .u64)) {inf : TypeInfo} (hi : P.info? e = some inf) (hz : inf.zero = some (.int .u64 0))
    {r : Nat} {es : Array MapEntry} {clock : Nat} {l : List (Int × Int)} (hb : w.heap[r]? = some (.map es clock)) (he : Ent64 l es.toList) (hn : (l.map (·.1)).Nodup) (n : Int) (ok : Bool) :
    (Instr.lookup t (.map (some r)) (.int .u64 n) ok).run P w = .ok (if ok then .tuple #[.int .u64 (mgetL l n), .bool (mhasL l n)] else .int .u64 (mgetL l n)) w := by
  obtain ⟨l', hp, ha⟩ := he
  have h1 := findKey64 (P := P) w hk n ha
  have h2 := find_of_idx n l'
  rw [(mget_perm hp hn n).1, (mget_perm hp hn n).2] at h2
  have h3 : ∀ b, (Instr.checkKey b 10000 k (.int .u64 n)).run P w = .ok () w := fun b => checkKey_int w b 9999 hk _
  cases hf : l'.findIdx? (fun p => p.1 == n) with
  | none =>
    rw [hf] at h1 h2
    simp only [Prod.mk.injEq] at h2
    simp [Instr.lookup, run_underlying hu, getObj, Sem.run, hb, h3, h1, zeroValue, typeInfo, hi, hz, ← h2.1, ← h2.2]
  | some j =>
    rw [hf] at h1 h2
    simp only [Prod.mk.injEq] at h2
    simp [Instr.lookup, run_underlying hu, getObj, Sem.run, hb, h3, h1, ← h2.1, ← h2.2]

theorem run_entry64 {r q : Nat} {clock : Nat} {seen : Array Nat} {es : Array MapEntry} {k v : Int} {c : List (Int × Int)} (hb : w.heap[r]? = some (.mapIter (some q) clock seen clock)) (hm : w.heap[q]? = some (.map es clock))
    (hc : Cur ((k, v) :: c) seen es) : (Instr.entry (.pointer (some ⟨r, 0, none⟩))).run P w = .ok (.tuple #[.int .u64 k, .int .u64 v]) w := by
  obtain ⟨e, h1, h2, h3, h4⟩ := hc
  unfold Instr.entry
  simp only [Sem.run_bind, getObj, Sem.run, hb, hm, Result.andThen_ok, h1]
  simp [h2, h3, h4]
theorem pureA_sound (hT : TyOk P T) (hh : Holds H ρ w) {t : List AV} {a : Act} (ht : Tm ρ t a) {o : Oper} {K : AV → Prop}
    (h : pureA (realE P) T o.op (evA t) H K) : Sound P ρ w o a K := by
  cases ho : o.op with
  | move x => rw [ho] at h; exact .mk h (ht.eval x) (by simp [execOp, ho])
  | assign x => rw [ho] at h; exact .mk h (ht.eval x) (by simp [execOp, ho])
  | entry x =>
    rw [ho] at h
    simp only [pureA] at h
    have hx := ht.eval x
    split at h
    · rename_i i hx'
      rw [hx'] at hx
      obtain ⟨p, hp, e⟩ : ∃ p, ρ[i]? = some p ∧ a.eval x = .pointer (some ⟨p.b, p.off + 0, none⟩) := hx
      split at h
      · rename_i m td k v c hi
        obtain ⟨hp0, q, seen, clock, es, hq, hb, hbm, hent, hcur⟩ := hh.rep i _ p hi hp
        have hoff : p.off + 0 = 0 := by rw [hp0]
        exact .mk h ⟨[_, _], ⟨rfl, rfl, trivial⟩, rfl⟩ (by simp only [execOp, ho, e, hoff]; simp [run_entry64 hb hbm hcur])
      · exact h.elim
    · exact h.elim
  | pick c x y =>
    rw [ho] at h
    simp only [pureA] at h
    have hc := ht.eval c
    split at h
    · rename_i b hb
      rw [hb] at hc
      have hc' := R_bool hc
      cases b with
      | true => exact .mk h (ht.eval x) (by simp [execOp, ho, hc', asBool])
      | false => exact .mk h (ht.eval y) (by simp [execOp, ho, hc', asBool])
    · exact h.elim
  | nilCheck x =>
    rw [ho] at h
    simp only [pureA] at h
    have hx := ht.eval x
    split at h
    · rename_i i off hb
      rw [hb] at hx
      obtain ⟨p, hp, e⟩ := R_ptr hx
      exact .mk h ⟨p, hp, e⟩ (by simp [execOp, ho, e])
    · rename_i i k off hb
      rw [hb] at hx
      have hx' := hx
      obtain ⟨p, b, hp, hpb, e⟩ : ∃ p b, ρ[i]? = some p ∧ p.bs[k]? = some b ∧ a.eval x = .pointer (some ⟨b, off, none⟩) := hx
      exact .mk h hx' (by simp [execOp, ho, e])
    · rename_i f cs hb
      rw [hb] at hx
      have hx' := hx
      obtain ⟨vs, hv, e⟩ := hx
      exact .mk h hx' (by simp [execOp, ho, e])
    · rename_i l hb
      rw [hb] at hx
      have hx' := hx
      obtain ⟨p, hp, e⟩ : ∃ p, ρ[l]? = some p ∧ a.eval x = .func (.yield p.b) #[] #[] := hx
      exact .mk h hx' (by simp [execOp, ho, e])
    · exact h.elim
  | fieldAddr ty x f =>
    rw [ho] at h
    simp only [pureA] at h
    have hx := ht.eval x
    split at h
    · rename_i i off d n g hb hk hf
      rw [hb] at hx
      obtain ⟨p, hp, e⟩ := R_ptr hx
      rw [offA_real] at h
      exact .mk h ⟨p, hp, rfl⟩ (by simp [execOp, ho, e, fieldAt_sound (p := p) (i := i) (off := off) (x := .nilIface) hT hk hf, Nat.add_assoc])
    · rename_i i k off d n g hb hk hf
      rw [hb] at hx
      obtain ⟨p, b, hp, hpb, e⟩ : ∃ p b, ρ[i]? = some p ∧ p.bs[k]? = some b ∧ a.eval x = .pointer (some ⟨b, off, none⟩) := hx
      exact .mk h ⟨p, b, hp, hpb, rfl⟩ (by simp [execOp, ho, e, fieldAt_sound (p := p) (i := i) (off := off) (x := .nilIface) hT hk hf])
    · exact h.elim
  | load ty x =>
    rw [ho] at h
    simp only [pureA] at h
    have hx := ht.eval x
    split at h
    · rename_i i off hb
      rw [hb] at hx
      obtain ⟨p, hp, e⟩ := R_ptr hx
      split at h
      · rename_i hk
        obtain ⟨v, vc, hK, hR, hr⟩ := loadA_spec hT hh hk hp h
        exact .mk hK hR (by simp [execOp, ho, e, Instr.loadAt, Instr.sureAddr, hr])
      · exact h.elim
    · rename_i i k off hb
      rw [hb] at hx
      obtain ⟨p, b, hp, hpb, e⟩ : ∃ p b, ρ[i]? = some p ∧ p.bs[k]? = some b ∧ a.eval x = .pointer (some ⟨b, off, none⟩) := hx
      split at h
      · rename_i hk
        obtain ⟨v, vc, hK, hR, hr⟩ := loadF_spec hT hh hk hp hpb h
        exact .mk hK hR (by simp [execOp, ho, e, Instr.loadAt, Instr.sureAddr, hr])
      · exact h.elim
    · exact h.elim
  | extract x i =>
    rw [ho] at h
    simp only [pureA] at h
    have hx := ht.eval x
    split at h
    · rename_i l hb
      rw [hb] at hx
      obtain ⟨vs, hv, e⟩ := hx
      split at h
      · rename_i v hi
        obtain ⟨u, hu, hr⟩ := hv.get hi
        exact .mk h hr (by simp [execOp, ho, e, Instr.extract, hu])
      · exact h.elim
    · exact h.elim
  | unOp u ty x =>
    rw [ho] at h
    simp only [pureA] at h
    have hx := ht.eval x
    split at h
    · rename_i b hb
      rw [hb] at hx
      exact .mk h rfl (by simp [execOp, ho, R_bool hx, Op.unary])
    · rename_i k n hb
      rw [hb] at hx
      exact .mk h rfl (by simp [execOp, ho, R_int hx, Op.unary, Op.intArith, realE, realBin])
    · exact h.elim
  | convert s d x =>
    rw [ho] at h
    simp only [pureA] at h
    have hx := ht.eval x
    split at h
    · rename_i k z k' n hs hk hz hb
      rw [hb] at hx
      obtain ⟨d1, h1, _⟩ := (hT s hs).desc
      obtain ⟨d2, h2, _, h3⟩ := (hT d (known_of hk (by simp))).desc
      rw [hk, hz] at h3
      simp only at h3
      subst h3
      refine .mk h rfl ?_
      simp [execOp, ho, R_int hx, convert, run_underlying h1, run_underlying h2]
      cases d1 <;> simp [Conv.intToInt, realE]
    · exact h.elim
  | makeFunc f first cap =>
    rw [ho] at h
    cases f with
    | func f =>
      simp only [pureA] at h
      split at h
      · rename_i ids h1 h2
        have h3 := capIds_sound (map_eval ht cap.toList) h2
        refine .mk h ⟨_, h3, rfl⟩ ?_
        have : first = #[] := by apply Array.ext'; simpa using h1
        simp [execOp, ho, Instr.makeFunc, this]
        apply Array.ext'
        simp
      · exact h.elim
    | _ => exact h.elim
  | binOp op ty x y ty' => rw [ho] at h; exact binop_sound hT ht ho h
  | field ty x f =>
    rw [ho] at h
    simp only [pureA] at h
    have hx := ht.eval x
    split at h
    · rename_i l d n g hb hk hf
      rw [hb] at hx
      obtain ⟨cs, hcs, e⟩ := hx
      obtain ⟨fs, h1, _, h2⟩ := TIOk.struct hT hk
      obtain ⟨fl, h3, h4, h5, h6, h7, h8⟩ := h2 f d n g hf
      split at h
      · rename_i ss hs
        obtain ⟨vc, hr, hR⟩ := part_sound (w := w) h6 h7 hcs hs h8
        exact .mk h hR (by simp [execOp, ho, e, Instr.field, run_underlying h1, h3, asAgg, h4, hr])
      · exact h.elim
    · exact h.elim
  | build ty parts =>
    rw [ho] at h
    simp only [pureA] at h
    have hps : All2 (fun (p : Nat × AV) (q : Nat × Value) => p.1 = q.1 ∧ p.2.R ρ q.2) (parts.toList.map fun p => (p.1, evA t p.2)) (parts.map fun (i, x) => (i, a.eval x)).toList := by
      rw [Array.toList_map]
      generalize parts.toList = l
      induction l with
      | nil => trivial
      | cons x l ih => exact ⟨⟨rfl, ht.eval x.2⟩, ih⟩
    split at h
    · rename_i hk
      obtain ⟨fs, h1, hm, h2⟩ := TIOk.struct hT hk
      obtain ⟨z, hz1, hz2, hz3⟩ := (hT ty (known_of hk (by simp))).zeroV w
      split at h
      · rename_i l hl
        have hm := run_places w _ _ hm
        obtain ⟨cs', h3, h4⟩ := fill_sound (ρ := ρ) (place := ((((T ty).fields.map fun x => (x.1, x.2.1)).toArray)[·]?)) (fillA (T ty).fields) (by simp [fillA])
          (by
            intro l i v r l' hh
            unfold fillA at hh
            split at hh
            · rename_i heq; simp at heq
            · rename_i heq
              simp only [List.cons.injEq, Prod.mk.injEq] at heq
              obtain ⟨⟨rfl, rfl⟩, rfl⟩ := heq
              split at hh
              · rename_i off sz g hf
                split at hh
                · rename_i hb
                  simp only [Bool.and_eq_true] at hb
                  exact ⟨_, off, sz, rfl, by simp [hf], Nat_beq hb.1, Nat.le_of_ble_eq_true hb.2, hh⟩
                · cases hh
              · cases hh
            · cases hh) hps (litsR_R hz2 ρ) hl
        refine .mk (vc := .agg cs') h ⟨cs'.toList, h4, by simp⟩ ?_
        simp only [execOp, ho]
        simp at h3
        simp [Instr.build, hz1, run_underlying h1, Array.mapM_eq_mapM_toList, hm, h3]
      · exact h.elim
    · rename_i hk
      obtain ⟨h1, hke⟩ := TIOk.array hT hk
      obtain ⟨z, hz1, hz2, hz3⟩ := (hT ty (known_of hk (by simp))).zeroV w
      split at h
      · rename_i l hl
        obtain ⟨cs', h3, h4⟩ := fillE_sound (ρ := ρ) hps (litsR_R hz2 ρ) hl
        refine .mk (vc := .agg cs') h ⟨cs'.toList, h4, by simp⟩ ?_
        simp only [execOp, ho]
        simp at h3
        simp [Instr.build, hz1, run_underlying h1, size_elem hT hke, h3]
      · exact h.elim
    · exact h.elim
  | indexAddr ty x i =>
    rw [ho] at h
    simp only [pureA] at h
    have hx := ht.eval x
    have hi := ht.eval i
    split at h
    · rename_i k n hk hi'
      rw [hi'] at hi
      have hi2 := R_int hi
      obtain ⟨h1, hke⟩ := TIOk.slice hT hk
      split at h
      · rename_i j off m hb
        rw [hb] at hx
        obtain ⟨p, ad, cap, hp, e, hle, had, _⟩ := hx
        obtain ⟨h2, h3, hK⟩ := h
        have h2 : 0 ≤ n := h2
        have h3' : n < (m : Int) := h3
        have hm : 0 < m := by omega
        have e' := had hm
        subst e'
        refine .mk (vc := .pointer (some ⟨p.b, p.off + off + n.toNat * (T (T ty).elem).sz, none⟩)) hK ⟨p, hp, ?_⟩ ?_
        · show Value.pointer _ = _
          rw [show p.off + off + n.toNat * (T (T ty).elem).sz = p.off + (n.toNat * (T (T ty).elem).sz + off) by omega]
          rfl
        · simp [execOp, ho, e, hi2, Instr.indexAt, asIntOf, run_underlying h1, h2, h3', size_elem hT hke, add_place]
      · rename_i j m hb
        rw [hb] at hx
        obtain ⟨p, hp, hv⟩ := hx
        obtain ⟨h2, h3, hK⟩ := h
        have h2 : 0 ≤ n := h2
        have h3' : n < (m : Int) := h3
        have hm : 0 < m := by omega
        rcases hv with ⟨_, h0, _⟩ | ⟨_, hoff, hle, e⟩
        · omega
        · refine .mk (vc := .pointer (some ⟨p.b, 0 + n.toNat * (T (T ty).elem).sz, none⟩)) hK ⟨p, hp, ?_⟩ ?_
          · show Value.pointer _ = _
            rw [hoff]
            rfl
          · simp [execOp, ho, e, hi2, Instr.indexAt, asIntOf, run_underlying h1, h2, h3', size_elem hT hke, add_place]
      · exact h.elim
    · rename_i k n hk hi'
      rw [hi'] at hi
      have hi2 := R_int hi
      obtain ⟨h1, hke⟩ := TIOk.array hT hk
      have fin : ∀ (j off : Nat) (p : Pl), ρ[j]? = some p → a.eval x = .pointer (some ⟨p.b, p.off + off, none⟩) → 0 ≤ n → n < ((T ty).len : Int) →
          K (sv (.ptr j (off + n.toNat * (T (T ty).elem).sz))) → Sound P ρ w o a K := by
        intro j off p hp e h2 h3 hK
        refine .mk (vc := .pointer (some ⟨p.b, p.off + off + n.toNat * (T (T ty).elem).sz, none⟩)) hK ⟨p, hp, by rw [Nat.add_assoc]⟩ ?_
        simp [execOp, ho, e, hi2, Instr.indexAt, asIntOf, run_underlying h1, h2, h3, size_elem hT hke, add_place, Instr.sureAddr]
      split at h
      · rename_i j off c hb hc
        rw [hb] at hx
        obtain ⟨p, hp, e⟩ := R_ptr hx
        split at h
        · rename_i c' hlt
          have hn : n = (c' : Int) := by
            cases i with
            | const v =>
              cases v with
              | int k0 c0 =>
                simp only [constInt, Option.some.injEq] at hc
                simp only [Act.eval, Value.int.injEq] at hi2
                rw [← hi2.2, hc]; rfl
              | _ => simp [constInt] at hc
            | _ => simp [constInt] at hc
          have hlt' := Nat.le_of_ble_eq_true hlt
          simp at hlt'
          refine fin j off p hp e (by omega) (by omega) ?_
          rw [hn]
          simpa using h
        · exact h.elim
      · rename_i j off hb hc
        rw [hb] at hx
        obtain ⟨p, hp, e⟩ := R_ptr hx
        obtain ⟨h2, h3, hK⟩ := h
        refine fin j off p hp e h2 h3 ?_
        rw [Nat.add_comm]
        exact hK
      · exact h.elim
    · exact h.elim
  | index ty x i =>
    rw [ho] at h
    simp only [pureA] at h
    have hx := ht.eval x
    have hi := ht.eval i
    split at h
    · rename_i l k n hk hx' hi'
      rw [hi'] at hi
      rw [hx'] at hx
      have hi2 := R_int hi
      obtain ⟨cs, hcs, e⟩ := hx
      obtain ⟨h1, hke⟩ := TIOk.array hT hk
      obtain ⟨h2, h3, hK⟩ := h
      have h2 : 0 ≤ n := h2
      have h3' : n < ((T ty).len : Int) := h3
      have hE := hT _ hke
      obtain ⟨inf, z, hf1, hf2, _⟩ := hE.inf
      obtain ⟨d', hd1, hd2, _⟩ := hE.desc
      obtain ⟨ss, hs, hK⟩ := hK
      obtain ⟨vc, hr, hR⟩ := part_sound (w := w) ⟨inf, hf1, hf2⟩ ⟨d', hd1, hd2⟩ hcs (off := n.toNat * (T (T ty).elem).sz) hs hE.one
      exact .mk hK hR (by simp [execOp, ho, e, hi2, Instr.index, asIntOf, run_underlying h1, h2, h3', size_elem hT hke, hr])
    · exact h.elim
  | slice ty x lo hi mx =>
    rw [ho] at h
    simp only [pureA] at h
    have hx := ht.eval x
    split at h
    · rename_i hk
      obtain ⟨h1, hke⟩ := TIOk.slice hT hk
      have fin : ∀ (j off m : Nat), (sv (.sl j off m)).R ρ (a.eval x) → (match lo.map (evA t), hi.map (evA t) with
          | none, some (.c (.s (.int _ h))) => 0 ≤ h ∧ h ≤ ((m : Nat) : Int) ∧ K (sv (.sl j off h.toNat))
          | some (.c (.s (.int _ l))), none => 0 ≤ l ∧ l ≤ ((m : Nat) : Int) ∧ K (sv (.sl j (l.toNat * (T (T ty).elem).sz + off) (m - l.toNat)))
          | _, _ => False) → Sound P ρ w o a K := by
        intro j off m hx hq
        obtain ⟨p, ad, cap, hp, e, hle, had, hnn⟩ := hx
        split at hq
        · rename_i k n hlo hhi
          simp only [Option.map_eq_none_iff] at hlo
          simp only [Option.map_eq_some_iff] at hhi
          obtain ⟨hi', rfl, hh⟩ := hhi
          have hv := ht.eval hi'
          rw [hh] at hv
          have hv' := R_int hv
          obtain ⟨h2, h3, hK⟩ := hq
          have h4 : n ≤ (cap : Int) := by omega
          subst hlo
          refine .mk (vc := .slice (if cap = 0 then ad else ad) n.toNat cap) hK ⟨p, ad, cap, hp, by simp, by omega, fun hn => had (by omega), fun hn => hnn (by simpa using hn)⟩ ?_
          simp only [execOp, ho, Option.map_none, Option.map_some, hv', e]
          simp [Instr.sliceAt, Instr.slice, run_underlying h1, Instr.sliceBounds, Instr.sliceBound, asIntOf, h2, h4, size_elem hT hke]
          intro _
          cases ad <;> simp [Addr.add]
        · rename_i k n hlo hhi
          simp only [Option.map_eq_none_iff] at hhi
          simp only [Option.map_eq_some_iff] at hlo
          obtain ⟨lo', rfl, hh⟩ := hlo
          have hv := ht.eval lo'
          rw [hh] at hv
          have hv' := R_int hv
          obtain ⟨h2, h3, hK⟩ := hq
          subst hhi
          refine .mk (vc := .slice (if cap = n.toNat then ad else ad.map (·.add (n.toNat * (T (T ty).elem).sz))) (m - n.toNat) (cap - n.toNat)) hK ⟨p, _, _, hp, rfl, by omega, fun hn => ?_, fun hn => ?_⟩ ?_
          · rw [if_neg (by omega), had (by omega)]
            simp only [Option.map_some, add_place, Option.some.injEq, Addr.mk.injEq, true_and, and_true]
            omega
          · split at hn
            · omega
            · have := hnn (by simpa using hn); omega
          · simp only [execOp, ho, Option.map_none, Option.map_some, hv', e]
            simp [Instr.sliceAt, Instr.slice, run_underlying h1, Instr.sliceBounds, Instr.sliceBound, asIntOf, h2, h3, size_elem hT hke]
        · exact hq.elim
      split at h
      · rename_i j off m hb
        rw [hb] at hx
        exact fin j off m hx h
      · rename_i j m hb
        rw [hb] at hx
        refine fin j 0 m ?_ h
        obtain ⟨p, hp, hv⟩ := hx
        rcases hv with ⟨_, h0, e⟩ | ⟨_, hoff, hle, e⟩
        · exact ⟨p, none, 0, hp, by rw [e, h0], by omega, fun hm => by omega, fun _ => rfl⟩
        · exact ⟨p, _, p.cap, hp, e, hle, fun _ => by simp [hoff], fun h => by cases h⟩
      · exact h.elim
    · exact h.elim
  | lookup ty x k ok =>
    rw [ho] at h
    simp only [pureA] at h
    have hx := ht.eval x
    have hk' := ht.eval k
    split at h
    · rename_i i n hk hx' hn
      rw [hx'] at hx
      rw [hn] at hk'
      obtain ⟨p, hp, e⟩ : ∃ p, ρ[i]? = some p ∧ a.eval x = .map (some p.b) := hx
      have hk2 : a.eval k = .int .u64 n := hk'
      obtain ⟨kt, et, hu, hku, heu, inf, hinf, hzero⟩ := TIOk.map64 hT hk
      split at h
      · rename_i l hl
        obtain ⟨hnd, es, clock, hb, hent, _, _⟩ := hh.rep i _ p hl hp
        have hr := run_lookup64 (P := P) (w := w) hu hku hinf hzero hb hent hnd n
        split at h
        · exact .mk h rfl (by simp [execOp, ho, e, hk2, (hr false).trans rfl, realE])
        · exact .mk (vc := .tuple #[.int .u64 (mgetL l n), .bool (mhasL l n)]) h ⟨[_, _], ⟨rfl, rfl, trivial⟩, rfl⟩ (by simp [execOp, ho, e, hk2, (hr true).trans rfl])
      · exact h.elim
    · exact h.elim
  | call c =>
    rw [ho] at h
    simp only [pureA] at h
    have ha := map_eval ht c.args.toList
    split at h
    · rename_i x ty hc hx hty
      rw [hx] at ha
      obtain ⟨y, hy, hR⟩ := all2_one ha
      have hargs : c.args.map a.eval = #[y] := by apply Array.ext'; simpa using hy
      have hex : (execOp a.eval o).run P w = (builtin .len c.argTypes o.type (c.args.map fun | .const _ => true | _ => false) #[y]).run P w := by
        simp [execOp, ho, resolve, hc, invoke, hargs]
        rfl
      have hty' : c.argTypes[0]? = some ty := by rw [← Array.getElem?_toList, hty]; rfl
      split at h
      · rename_i i off n hk
        obtain ⟨h1, _⟩ := TIOk.slice hT hk
        obtain ⟨p, ad, cap, hp, e, _⟩ := hR
        exact .mk h rfl (by rw [hex]; simp [builtin, Builtin.len_, hty', run_underlying h1, e, goInt, realE])
      · rename_i i n hk
        obtain ⟨h1, _⟩ := TIOk.slice hT hk
        obtain ⟨p, hp, hv⟩ := hR
        rcases hv with ⟨_, h0, e⟩ | ⟨_, _, _, e⟩
        · exact .mk h rfl (by rw [hex]; simp [builtin, Builtin.len_, hty', run_underlying h1, e, goInt, realE, h0])
        · exact .mk h rfl (by rw [hex]; simp [builtin, Builtin.len_, hty', run_underlying h1, e, goInt, realE])
      · rename_i hk
        obtain ⟨h1, _⟩ := TIOk.slice hT hk
        have e : y = .slice none 0 0 := hR
        exact .mk h rfl (by rw [hex]; simp [builtin, Builtin.len_, hty', run_underlying h1, e, goInt])
      · rename_i i hk
        obtain ⟨kt, et, hu, _⟩ := TIOk.map64 hT hk
        split at h
        · rename_i l hl
          obtain ⟨p, hp, e⟩ : ∃ p, ρ[i]? = some p ∧ y = .map (some p.b) := hR
          obtain ⟨hnd, es, clock, hb, ⟨l', hl', hall⟩, _, _⟩ := hh.rep i _ p hl hp
          have hlen : es.size = l.length := by rw [← hl'.length_eq, hall.length]; simp
          exact .mk h rfl (by rw [hex]; simp [builtin, Builtin.len_, hty', run_underlying hu, e, goInt, realE, getObj, Sem.run, hb, hlen])
        · exact h.elim
      · exact h.elim
    · rename_i k m k' n hc hx
      rw [hx] at ha
      obtain ⟨y, y', hy, h1, h2⟩ := all2_two ha
      have hargs : c.args.map a.eval = #[y, y'] := by apply Array.ext'; simpa using hy
      have e1 : y = .int k m := h1
      have e2 : y' = .int k' n := h2
      exact .mk h rfl (by simp [execOp, ho, resolve, hc, invoke, hargs, builtin, Builtin.min_, e1, e2, Builtin.min2, realE])
    · rename_i k m k' n hc hx
      rw [hx] at ha
      obtain ⟨y, y', hy, h1, h2⟩ := all2_two ha
      have hargs : c.args.map a.eval = #[y, y'] := by apply Array.ext'; simpa using hy
      have e1 : y = .int k m := h1
      have e2 : y' = .int k' n := h2
      exact .mk h rfl (by simp [execOp, ho, resolve, hc, invoke, hargs, builtin, Builtin.max_, e1, e2, Builtin.max2, realE])
    · exact h.elim
  | _ => rw [ho] at h; exact h.elim
end
end Bm
