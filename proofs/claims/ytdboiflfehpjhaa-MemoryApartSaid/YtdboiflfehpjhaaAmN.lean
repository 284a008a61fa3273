/- Functions: a contract from the abstract machine's walk; weakening. -/
import Derived.Test.YtdboiflfehpjhaaAmM
set_option linter.unusedVariables false
set_option linter.unusedSimpArgs false
namespace Am
open Go
/-- The results of a function. -/
def resL (E : Ev) (T : TypeId → TI) : List ResultVar → List AV → List AO → (List CV → Prop) → Prop
  | [], _, _, K => K []
  | .tmp i :: r, t, H, K => match t.getD i undefA with
    | .c x => resL E T r t H fun l => K (x :: l)
    | _ => False
  | .cell i ty :: r, t, H, K => match t.getD i undefA with
    | .c (.s (.ptr j off)) => match (T ty).known with
      | true => loadA E T ty H j off fun v => match v with
        | .c x => resL E T r t H fun l => K (x :: l)
        | _ => False
      | false => False
    | _ => False
def resA (E : Ev) (T : TypeId → TI) (rs : List ResultVar) (t : List AV) (H : List AO) (K : AV → Prop) : Prop :=
  resL E T rs t H fun l => match l with
    | [x] => K (.c x)
    | l => K (.tup l)
/-- The body's walk. -/
def bodyA (E : Ev) (T : TypeId → TI) (hs : List (Nat × DT)) (c : Code) (ntmps : Nat) (rs : List ResultVar) (args : List AV) (H : List AO) (K : AV → List AO → Prop) : Prop :=
  wpA E T hs H.length c (args ++ List.replicate (ntmps - args.length) undefA) H fun e t H => match e with
    | .exit _ => False
    | .normal => resA E T rs t H fun r => K r H
    | .ret => resA E T rs t H fun r => K r H
/-- A value and a heap told of less. -/
def WkR (n0 : Nat) (r : AV) (H : List AO) (r' : AV) (H' : List AO) : Prop := Wk n0 [r] H [r'] H'
section
variable {P : Program} {T : TypeId → TI}

def resOne (tmps : Array Value) (r : ResultVar) : Sem Value :=
  match r with
  | .tmp t => pure (tmps.getD t undef)
  | .cell x t => do loadVar t (← asAddr (tmps.getD x undef))
theorem results_eq (fn : Func) (tmps : Array Value) : results fn tmps = (do let vs ← fn.results.mapM (resOne tmps); pure (if h : vs.size = 1 then vs[0] else .tuple vs)) := rfl
theorem resL_sound (hT : TyOk P T) {H : List AO} {ρ : Rho} {w : World} (hh : Holds H ρ w) {t : List AV} {a : Act} (ht : Tm ρ t a) : ∀ {rs : List ResultVar} {K : List CV → Prop}, resL (realE P) T rs t H K →
    ∃ l vs, K l ∧ All2 (CV.R ρ) l vs ∧ (rs.mapM (resOne a.tmps)).run P w = .ok vs w
  | [], K, h => ⟨[], [], h, trivial, by simp⟩
  | .tmp i :: rs, K, h => by
    simp only [resL] at h
    have hR := ht.getD i
    split at h
    · rename_i x hx
      rw [hx] at hR
      obtain ⟨l, vs, h1, h2, h3⟩ := resL_sound hT hh ht h
      exact ⟨x :: l, _ :: vs, h1, ⟨hR, h2⟩, by simp [resOne, h3]⟩
    · exact h.elim
  | .cell i ty :: rs, K, h => by
    simp only [resL] at h
    have hR := ht.getD i
    split at h
    · rename_i j off hx
      rw [hx] at hR
      obtain ⟨p, hp, e⟩ := R_ptr hR
      split at h
      · rename_i hk
        obtain ⟨v, vc, hK, hRv, hl⟩ := loadA_spec hT hh hk hp h
        cases v with
        | c x =>
          obtain ⟨l, vs, h1, h2, h3⟩ := resL_sound hT hh ht hK
          refine ⟨x :: l, vc :: vs, h1, ⟨hRv, h2⟩, ?_⟩
          simp [resOne, e, asAddr, hl, h3]
        | tup l => exact hK.elim
        | any => exact hK.elim
      · exact h.elim
    · exact h.elim
theorem resA_sound (hT : TyOk P T) {H : List AO} {ρ : Rho} {w : World} (hh : Holds H ρ w) {t : List AV} {a : Act} (ht : Tm ρ t a) {fn : Func} {K : AV → Prop} (h : resA (realE P) T fn.results.toList t H K) :
    ∃ r rc, K r ∧ r.R ρ rc ∧ (results fn a.tmps).run P w = .ok rc w := by
  obtain ⟨l, vs, h1, h2, h3⟩ := resL_sound hT hh ht h
  have hm : (fn.results.mapM (resOne a.tmps)).run P w = .ok vs.toArray w := by
    have : fn.results = fn.results.toList.toArray := by simp
    rw [this, List.mapM_toArray]
    simp [h3]
  have hr : (results fn a.tmps).run P w = .ok (if h : vs.toArray.size = 1 then vs.toArray[0] else .tuple vs.toArray) w := by
    rw [results_eq, Sem.run_bind, hm]
    simp
  match l, vs, h1, h2, hr with
  | [], [], h1, _, hr => exact ⟨.tup [], _, h1, ⟨[], trivial, rfl⟩, hr⟩
  | [x], [v], h1, h2, hr => exact ⟨.c x, _, h1, h2.1, hr⟩
  | x :: y :: l, u :: v :: vs, h1, h2, hr =>
    have : ¬ (u :: v :: vs).toArray.size = 1 := by simp
    rw [dif_neg this] at hr
    exact ⟨.tup (x :: y :: l), _, h1, ⟨_, h2, rfl⟩, hr⟩

/-- **A contract from the body's walk.** -/
theorem AC_body (hT : TyOk P T) (hm : P.follows .mixedOrders = true) {f : FuncId} {fn : Func} {c : Code} {hs : List (Nat × DT)} {args : List AV} {H : List AO} {R : AV → List AO → Prop}
    (hf : P.funcs[f]? = some fn) (hb : fn.body = some c) (hname : (fn.name == "runtime.NumGoroutine") = false) (hok : okHints hs c = true)
    (h : ∀ (E : Ev) (K : AV → List AO → Prop), E = realE P → (∀ r H' r' H'', WkR H.length r H' r' H'' → R r' H'' → K r H') → bodyA E T hs c fn.ntmps fn.results.toList args H K) : AC P f args H R := by
  refine ⟨⟨fn, hf, hname, by simp [hb]⟩, fun ρ w cargs hh hargs => ?_⟩
  have h := h (realE P) (fun r H' => ∃ r' H'', WkR H.length r H' r' H'' ∧ R r' H'') rfl (fun r H' r' H'' h1 h2 => ⟨r', H'', h1, h2⟩)
  refine (callsIn_FW (ro := none) (n := 0)).1 (callsIn_of_wp hf hb trivial ?_)
  have hl : H.length ≤ ρ.length := Nat.le_of_eq hh.len.symm
  have ht : Tm ρ (args ++ List.replicate (fn.ntmps - args.length) undefA) { tmps := cargs.toArray ++ Array.replicate (fn.ntmps - cargs.toArray.size) undef, defers := [] } := by
    have hal := hargs.length
    simp only [Tm, Array.toList_append, Array.toList_replicate, List.size_toArray]
    rw [hal]
    exact hargs.append (All2.replicate _ (undefA_R ρ))
  refine wpA_sound hT hm c _ H _ hok h ρ w _ _ hh ht hl ?_
  intro e t' H' ρ' a' w' hK ht' hd hx hh'
  have fin : resA (realE P) T fn.results.toList t' H' (fun r => ∃ r' H'', WkR H.length r H' r' H'' ∧ R r' H'') →
      a'.defers = [] ∧ ∃ v, (results fn a'.tmps).run P w' = .ok v w' ∧ ∃ (r : AV) (rc : Value) (H'' : List AO) (ρ'' : Rho), Ending.returned v = .returned rc ∧ R r H'' ∧ r.R ρ'' rc ∧ Ext H ρ w H'' ρ'' w' ∧ Holds H'' ρ'' w' := by
    intro hr
    obtain ⟨r, rc, ⟨r', H'', hwk, hR⟩, hrc, hrun⟩ := resA_sound hT hh' ht' hr
    obtain ⟨ρ2, q1, q2, q3, q4, q5⟩ := hwk ρ' w' [rc] hh' ⟨hrc, trivial⟩ hx.len
    refine ⟨hd, rc, hrun, r', rc, H'', ρ2, rfl, hR, q2.1, ?_, q1⟩
    exact (hx.trans hl ⟨q3, q4, Nat.le_refl _, rfl, rfl, rfl, fun _ _ _ => rfl, fun b _ ho => q5 b ho⟩).ext hh.len
  cases e with
  | normal => exact fin hK
  | ret => exact fin hK
  | exit i => exact hK.elim

def bodyOf (fn : Func) : Code := fn.body.getD .skip
def okF (hs : List (Nat × DT)) (fn : Func) : Bool := fn.body.isSome && !(fn.name == "runtime.NumGoroutine") && okHints hs (bodyOf fn)
theorem AC_fn (hT : TyOk P T) (hm : P.follows .mixedOrders = true) {f : FuncId} {fn : Func} {hs : List (Nat × DT)} {args : List AV} {H : List AO} {R : AV → List AO → Prop}
    (hf : P.funcs[f]? = some fn) (hok : okF hs fn = true)
    (h : ∀ (E : Ev) (K : AV → List AO → Prop), E = realE P → (∀ r H' r' H'', WkR H.length r H' r' H'' → R r' H'' → K r H') → bodyA E T hs (bodyOf fn) fn.ntmps fn.results.toList args H K) : AC P f args H R := by
  simp only [okF, Bool.and_eq_true, Bool.not_eq_true'] at hok
  obtain ⟨⟨h1, h2⟩, h3⟩ := hok
  obtain ⟨c, hc⟩ := Option.isSome_iff_exists.1 h1
  have hb : bodyOf fn = c := by simp [bodyOf, hc]
  rw [hb] at h h3
  exact AC_body hT hm hf hc h2 h3 h
theorem AC.mono {f : FuncId} {args : List AV} {H : List AO} {R R' : AV → List AO → Prop} (h : AC P f args H R) (hr : ∀ r H', R r H' → R' r H') : AC P f args H R' :=
  ⟨h.1, fun ρ w cargs hh ha => Calls.mono (h.2 ρ w cargs hh ha) fun e w' ⟨r, rc, H', ρ', e1, e2, e3⟩ => ⟨r, rc, H', ρ', e1, hr _ _ e2, e3⟩⟩

/-- A call, from its contract. -/
theorem call_of {E : Ev} (hE : E = realE P) {f : FuncId} {args : List AV} {H : List AO} {R K : AV → List AO → Prop} (h : AC P f args H R) (hk : ∀ r H', R r H' → K r H') : E.call f args H K := by
  subst hE
  exact ⟨R, h, hk⟩

theorem Wk.refl {n0 : Nat} {t : List AV} {H : List AO} : Wk n0 t H t H :=
  fun ρ w tm hh ht hl => ⟨ρ, hh, ht, List.take_prefix _ _, hl, fun _ h => h⟩
theorem Wk.trans {n0 : Nat} {t t1 t2 : List AV} {H H1 H2 : List AO} (h : Wk n0 t H t1 H1) (k : Wk n0 t1 H1 t2 H2) : Wk n0 t H t2 H2 := by
  intro ρ w tm hh ht hl
  obtain ⟨ρ1, a1, a2, a3, a4, a5⟩ := h ρ w tm hh ht hl
  obtain ⟨ρ2, b1, b2, b3, b4, b5⟩ := k ρ1 w tm a1 a2 a4
  exact ⟨ρ2, b1, b2, by rw [take_pre a3 hl] at b3; exact b3, b4, fun b hb => a5 b (b5 b hb)⟩
end
end Am
