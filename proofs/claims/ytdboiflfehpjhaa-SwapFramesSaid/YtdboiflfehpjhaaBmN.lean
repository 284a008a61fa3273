/- Functions: a contract from the abstract machine's walk; weakening. -/
import Derived.Test.YtdboiflfehpjhaaBmM
set_option linter.unusedVariables false
set_option linter.unusedSimpArgs false
namespace Bm
open Go
/-- The results of a function. -/
def resL (E : Ev) (T : TypeId → TI) : List ResultVar → List AV → List AO → (List CV → Prop) → Prop
  | [], _, _, K => K []
  | .tmp i :: r, t, H, K => match t.getD i undefA with
    | .c x => resL E T r t H fun l => K (x :: l)
    | _ => False
  | .cell i ty :: r, t, H, K => match t.getD i undefA with
    | .c (.s (.ptr j off)) => match (T ty).known with
      | true => loadA E T ty H j off fun v => match v with
        | .c x => resL E T r t H fun l => K (x :: l)
        | _ => False
      | false => False
    | _ => False
def resA (E : Ev) (T : TypeId → TI) (rs : List ResultVar) (t : List AV) (H : List AO) (K : AV → Prop) : Prop :=
  resL E T rs t H fun l => match l with
    | [x] => K (.c x)
    | l => K (.tup l)
/-- The body's walk. -/
def bodyA (E : Ev) (T : TypeId → TI) (hs : List (Nat × DT)) (c : Code) (ntmps : Nat) (rs : List ResultVar) (args : List AV) (H : List AO) (K : AV → List AO → Prop) : Prop :=
  wpA E T hs H.length c (args ++ List.replicate (ntmps - args.length) undefA) H fun e t H => match e with
    | .exit _ => False
    | .normal => resA E T rs t H fun r => K r H
    | .ret => resA E T rs t H fun r => K r H
/-- A value and a heap told of less. -/
def WkR (n0 : Nat) (r : AV) (H : List AO) (r' : AV) (H' : List AO) : Prop := Wk n0 [r] H [r'] H'
section
variable {P : Program} {T : TypeId → TI}

def resOne (tmps : Array Value) (r : ResultVar) : Sem Value :=
  match r with
  | .tmp t => pure (tmps.getD t undef)
  | .cell x t => do loadVar t (← asAddr (tmps.getD x undef))
theorem results_eq (fn : Func) (tmps : Array Value) : results fn tmps = (do let vs ← fn.results.mapM (resOne tmps); pure (if h : vs.size = 1 then vs[0] else .tuple vs)) := rfl
theorem resL_sound (hT : TyOk P T) {H : List AO} {ρ : Rho} {w : World} (hh : Holds H ρ w) {t : List AV} {a : Act} (ht : Tm ρ t a) : ∀ {rs : List ResultVar} {K : List CV → Prop}, resL (realE P) T rs t H K →
    ∃ l vs, K l ∧ All2 (CV.R ρ) l vs ∧ (rs.mapM (resOne a.tmps)).run P w = .ok vs w
  | [], K, h => ⟨[], [], h, trivial, by simp⟩
  | .tmp i :: rs, K, h => by
    simp only [resL] at h
    have hR := ht.getD i
    split at h
    · rename_i x hx
      rw [hx] at hR
      obtain ⟨l, vs, h1, h2, h3⟩ := resL_sound hT hh ht h
      exact ⟨x :: l, _ :: vs, h1, ⟨hR, h2⟩, by simp [resOne, h3]⟩
    · exact h.elim
  | .cell i ty :: rs, K, h => by
    simp only [resL] at h
    have hR := ht.getD i
    split at h
    · rename_i j off hx
      rw [hx] at hR
      obtain ⟨p, hp, e⟩ := R_ptr hR
      split at h
      · rename_i hk
        obtain ⟨v, vc, hK, hRv, hl⟩ := loadA_spec hT hh hk hp h
        cases v with
        | c x =>
          obtain ⟨l, vs, h1, h2, h3⟩ := resL_sound hT hh ht hK
          refine ⟨x :: l, vc :: vs, h1, ⟨hRv, h2⟩, ?_⟩
          simp [resOne, e, asAddr, hl, h3]
        | tup l => exact hK.elim
        | any => exact hK.elim
      · exact h.elim
    · exact h.elim
theorem resA_sound (hT : TyOk P T) {H : List AO} {ρ : Rho} {w : World} (hh : Holds H ρ w) {t : List AV} {a : Act} (ht : Tm ρ t a) {fn : Func} {K : AV → Prop} (h : resA (realE P) T fn.results.toList t H K) :
    ∃ r rc, K r ∧ r.R ρ rc ∧ (results fn a.tmps).run P w = .ok rc w := by
  obtain ⟨l, vs, h1, h2, h3⟩ := resL_sound hT hh ht h
  have hm : (fn.results.mapM (resOne a.tmps)).run P w = .ok vs.toArray w := by
    have : fn.results = fn.results.toList.toArray := by simp
    rw [this, List.mapM_toArray]
    simp [h3]
  have hr : (results fn a.tmps).run P w = .ok (if h : vs.toArray.size = 1 then vs.toArray[0] else .tuple vs.toArray) w := by
    rw [results_eq, Sem.run_bind, hm]
    simp
  match l, vs, h1, h2, hr with
  | [], [], h1, _, hr => exact ⟨.tup [], _, h1, ⟨[], trivial, rfl⟩, hr⟩
  | [x], [v], h1, h2, hr => exact ⟨.c x, _, h1, h2.1, hr⟩
  | x :: y :: l, u :: v :: vs, h1, h2, hr =>
    have : ¬ (u :: v :: vs).toArray.size = 1 := by simp
    rw [dif_neg this] at hr
    exact ⟨.tup (x :: y :: l), _, h1, ⟨_, h2, rfl⟩, hr⟩

/-- The marks are taken, one behind the other. -/
theorem leaves_marks {fn : Func} {tmps : Array Value} {R : Ending → World → Prop} : ∀ (Ds : List Nat) (w : World), Ds.Nodup → (∀ D ∈ Ds, D < w.heap.size ∧ w.heap[D]? = some (.deferred (some []))) →
    (∀ w2 : World, w2.heap.size = w.heap.size → w2.os = w.os → w2.tape = w.tape → w2.output = w.output → (∀ b, b ∉ Ds → w2.heap[b]? = w.heap[b]?) → ∃ v, (results fn tmps).run P w2 = .ok v w2 ∧ R (.returned v) w2) →
    LeavesInM (FW none) 0 P fn tmps R (Ds.map mark ++ []) .returning w
  | [], w, _, _, h => h w rfl rfl rfl rfl (fun _ _ => rfl)
  | D :: Ds, w, hn, hd, h => by
    rw [List.nodup_cons] at hn
    obtain ⟨h1, h2⟩ := hd D List.mem_cons_self
    refine ⟨by simp, .inl ⟨D, { w with heap := w.heap.setIfInBounds D (.deferred none) }, rfl, ?_, leaves_marks Ds _ hn.2 (fun E hE => ?_) fun w2 g1 g2 g3 g4 g5 => h w2 (by rw [g1]; simp) g2 g3 g4 fun b hb => ?_⟩⟩
    · simp [Instr.takeDeferred, getObj, Sem.run, h2, setObj]
    · have hne : D ≠ E := fun e => hn.1 (e ▸ hE)
      obtain ⟨h3, h4⟩ := hd E (List.mem_cons_of_mem _ hE)
      refine ⟨by simpa using h3, ?_⟩
      simp [Array.getElem?_setIfInBounds, hne, h4]
    · rw [g5 b (fun hb' => hb (List.mem_cons_of_mem _ hb'))]
      have hne : D ≠ b := fun e => hb (e ▸ List.mem_cons_self)
      simp [Array.getElem?_setIfInBounds, hne]
/-- **A contract from the body's walk.** -/
theorem AC_body (hT : TyOk P T) (hm : P.follows .mixedOrders = true) {f : FuncId} {fn : Func} {c : Code} {hs : List (Nat × DT)} {args : List AV} {H : List AO} {R : AV → List AO → Prop}
    (hf : P.funcs[f]? = some fn) (hb : fn.body = some c) (hname : (fn.name == "runtime.NumGoroutine") = false) (hok : okHints hs c = true)
    (h : ∀ (E : Ev) (K : AV → List AO → Prop), E = realE P → (∀ r H' r' H'', WkR H.length r H' r' H'' → R r' H'' → K r H') → bodyA E T hs c fn.ntmps fn.results.toList args H K) : AC P f args H R := by
  refine ⟨⟨fn, hf, hname, by simp [hb]⟩, fun ρ w cargs hh hargs => ?_⟩
  have h := h (realE P) (fun r H' => ∃ r' H'', WkR H.length r H' r' H'' ∧ R r' H'') rfl (fun r H' r' H'' h1 h2 => ⟨r', H'', h1, h2⟩)
  refine (callsIn_FW (ro := none) (n := 0)).1 (callsIn_of_wp_marks hf hb trivial ?_)
  have hl : H.length ≤ ρ.length := Nat.le_of_eq hh.len.symm
  have ht : Tm ρ (args ++ List.replicate (fn.ntmps - args.length) undefA) { tmps := cargs.toArray ++ Array.replicate (fn.ntmps - cargs.toArray.size) undef, defers := [] } := by
    have hal := hargs.length
    simp only [Tm, Array.toList_append, Array.toList_replicate, List.size_toArray]
    rw [hal]
    exact hargs.append (All2.replicate _ (undefA_R ρ))
  refine wpA_sound hT hm c _ H _ hok (.inl rfl) h ρ w _ _ hh ht hl ?_
  intro e t' H' ρ' a' w' hK ht' hd hx hh'
  have fin : resA (realE P) T fn.results.toList t' H' (fun r => ∃ r' H'', WkR H.length r H' r' H'' ∧ R r' H'') →
      LeavesInM (FW none) 0 P fn a'.tmps (fun e w' => ∃ (r : AV) (rc : Value) (H' : List AO) (ρ' : Rho), e = .returned rc ∧ R r H' ∧ r.R ρ' rc ∧ Ext H ρ w H' ρ' w' ∧ Holds H' ρ' w') a'.defers .returning w' := by
    intro hr
    obtain ⟨Ds, hds, hnd, hD⟩ := hd
    rw [hds]
    refine leaves_marks Ds w' hnd (fun D h => ⟨(hD D h).2.1, (hD D h).2.2.1⟩) fun w2 g1 g2 g3 g4 g5 => ?_
    have hh2 : Holds H' ρ' w2 := hh'.same (Nat.le_of_eq g1.symm) fun b hb => g5 b fun hbD => (hD b hbD).2.2.2 hb
    obtain ⟨r, rc, ⟨r', H'', hwk, hR⟩, hrc, hrun⟩ := resA_sound hT hh2 ht' hr
    obtain ⟨ρ2, q1, q2, q3, q4, q5⟩ := hwk ρ' w2 [rc] hh2 ⟨hrc, trivial⟩ hx.len
    refine ⟨rc, hrun, r', rc, H'', ρ2, rfl, hR, q2.1, ?_, q1⟩
    have hx2 : Ex0 H.length H ρ w H' ρ' w2 := ⟨hx.pre, hx.len, by rw [g1]; exact hx.size, g2.trans hx.os, g3.trans hx.tape, g4.trans hx.output, fun b hb hn => by rw [g5 b fun hbD => by have := (hD b hbD).1; omega]; exact hx.frame b hb hn, fun b hb ho => hx.back b hb ho⟩
    exact (hx2.trans hl ⟨q3, q4, Nat.le_refl _, rfl, rfl, rfl, fun _ _ _ => rfl, fun b _ ho => q5 b ho⟩).ext hh.len
  cases e with
  | normal => exact fin hK
  | ret => exact fin hK
  | exit i => exact hK.elim

def bodyOf (fn : Func) : Code := fn.body.getD .skip
def okF (hs : List (Nat × DT)) (fn : Func) : Bool := fn.body.isSome && !(fn.name == "runtime.NumGoroutine") && okHints hs (bodyOf fn)
theorem AC_fn (hT : TyOk P T) (hm : P.follows .mixedOrders = true) {f : FuncId} {fn : Func} {hs : List (Nat × DT)} {args : List AV} {H : List AO} {R : AV → List AO → Prop}
    (hf : P.funcs[f]? = some fn) (hok : okF hs fn = true)
    (h : ∀ (E : Ev) (K : AV → List AO → Prop), E = realE P → (∀ r H' r' H'', WkR H.length r H' r' H'' → R r' H'' → K r H') → bodyA E T hs (bodyOf fn) fn.ntmps fn.results.toList args H K) : AC P f args H R := by
  simp only [okF, Bool.and_eq_true, Bool.not_eq_true'] at hok
  obtain ⟨⟨h1, h2⟩, h3⟩ := hok
  obtain ⟨c, hc⟩ := Option.isSome_iff_exists.1 h1
  have hb : bodyOf fn = c := by simp [bodyOf, hc]
  rw [hb] at h h3
  exact AC_body hT hm hf hc h2 h3 h
theorem AC.mono {f : FuncId} {args : List AV} {H : List AO} {R R' : AV → List AO → Prop} (h : AC P f args H R) (hr : ∀ r H', R r H' → R' r H') : AC P f args H R' :=
  ⟨h.1, fun ρ w cargs hh ha => Calls.mono (h.2 ρ w cargs hh ha) fun e w' ⟨r, rc, H', ρ', e1, e2, e3⟩ => ⟨r, rc, H', ρ', e1, hr _ _ e2, e3⟩⟩

/-- A call, from its contract. -/
theorem call_of {E : Ev} (hE : E = realE P) {f : FuncId} {args : List AV} {H : List AO} {R K : AV → List AO → Prop} (h : AC P f args H R) (hk : ∀ r H', R r H' → K r H') : E.call f args H K := by
  subst hE
  exact ⟨R, h, hk⟩

/-! ### A round -/
theorem setP_sound {ρ : Rho} : ∀ {ps : List Nat} {args : List AV} {cargs : List Value} {t : List AV} {tm : Array Value}, All2 (AV.R ρ) args cargs → All2 (AV.R ρ) t tm.toList →
    All2 (AV.R ρ) (setP ps args t) ((ps.zip cargs).foldl (fun t (p : Nat × Value) => t.setIfInBounds p.1 p.2) tm).toList
  | [], _, _, _, _, _, h => by simpa [setP] using h
  | p :: ps, [], [], _, _, _, h => by simpa [setP] using h
  | p :: ps, v :: vs, u :: us, t, tm, ⟨h1, h2⟩, h => by
    simp only [setP, List.zip_cons_cons, List.foldl_cons]
    exact setP_sound h2 (by rw [Array.toList_setIfInBounds]; exact All2.set h p h1)
  | _ :: _, [], _ :: _, _, _, h, _ => h.elim
  | _ :: _, _ :: _, [], _, _, h, _ => h.elim
theorem getLoop_run {r : Loop} {b : Nat} {w : World} (h : w.heap[b]? = some (.loop r)) : (Instr.getLoop b).run P w = .ok r w := by
  simp [Instr.getLoop, getObj, Sem.run, h]
theorem setLoop_run {r r' : Loop} {b : Nat} {w : World} (h : w.heap[b]? = some (.loop r)) : (setObj b (.loop r')).run P w = .ok () { w with heap := w.heap.setIfInBounds b (.loop r') } := by
  simp [setObj, Sem.run, h]
theorem beginRound_run {r : Loop} {b : Nat} {w : World} (h : w.heap[b]? = some (.loop r)) (hs : r.state = .ready) : (Instr.beginRound b).run P w = .ok () { w with heap := w.heap.setIfInBounds b (.loop { r with state := .busy }) } := by
  simp [Instr.beginRound, getLoop_run h, setLoop_run h, hs]
theorem endRound_run {r : Loop} {b : Nat} {w : World} (h : w.heap[b]? = some (.loop r)) (j : Option Code) : (Instr.endRound b j).run P w = .ok (.bool j.isNone) { w with heap := w.heap.setIfInBounds b (.loop { r with state := if j.isNone then .ready else .done, pending := j }) } := by
  simp [Instr.endRound, getLoop_run h, setLoop_run h]

/-- **A call of yield, from the walk of the round.** -/
theorem yield_of {E : Ev} (hE : E = realE P) (hT : TyOk P T) (hm : P.follows .mixedOrders = true) {hs : List (Nat × DT)} {i : Nat} {args : List AV} {H : List AO} {K : AV → List AO → Prop} {t : List AV} {ps : List Nat} {assign body : Code}
    (hi : H[i]? = some (.lrec .ready t ps assign body)) (hok1 : okHints hs assign = true) (hok2 : okHints hs body = true) (hf1 : noRF assign = true) (hf2 : noRF body = true)
    (h : ∀ K' : AV → List AO → Prop, (∀ r H' r' H'', WkR H.length r H' r' H'' → K r' H'' → K' r H') → roundA E T hs H.length i args H K') : E.yield i args H K := by
  subst hE
  refine ⟨K, fun ρ w cargs p hh hargs hp => ?_, fun r H' h => h⟩
  have h := h (fun r H' => ∃ r' H'', WkR H.length r H' r' H'' ∧ K r' H'') (fun r H' r' H'' h1 h2 => ⟨r', H'', h1, h2⟩)
  simp only [roundA, hi] at h
  split at h
  · rename_i hlen
    have hlen := Nat_beq hlen
    obtain ⟨r, q1, ⟨q2, q3⟩, q4, q5, q6, q7⟩ := hh.rep i _ p hi hp
    have hal := hargs.length
    have hsz : cargs.toArray.size = r.params.size := by
      have : r.params.size = ps.length := by rw [← q5]; simp
      simp [this]; omega
    refine ⟨r.fn, (r.params.zip cargs.toArray).foldl (fun tmps (x : Nat × Value) => tmps.setIfInBounds x.1 x.2) r.tmps, r.assign, r.body, by unfold Instr.yield; simp only [Sem.run_bind, getLoop_run q1, Result.andThen_ok]; rw [if_neg (by simp [hsz])]; rfl, fun ro n => ?_⟩
    have hl : H.length ≤ ρ.length := Nat.le_of_eq hh.len.symm
    have hil : i < H.length := (List.getElem?_eq_some_iff.1 hi).1
    have keepP : ∀ {ρ1 : Rho}, ρ.take H.length <+: ρ1 → ρ1[i]? = some p := by
      intro ρ1 hpre
      obtain ⟨s, rfl⟩ := hpre
      rw [List.getElem?_append_left (by rw [List.length_take]; omega), List.getElem?_take, if_pos hil]
      exact hp
    have htm : All2 (AV.R ρ) (setP ps args t) ((r.params.zip cargs.toArray).foldl (fun tmps (x : Nat × Value) => tmps.setIfInBounds x.1 x.2) r.tmps).toList := by
      have := setP_sound (ps := ps) hargs q4
      rw [← q5] at this
      rw [← Array.foldl_toList, Array.toList_zip]
      rw [← q5]
      simpa using this
    rw [q6, q7]
    refine roundIn_of_wpIn trivial ?_
    refine wpA_sound (ro := some p.b) hT hm assign _ H _ hok1 (.inr hf1) h ρ w _ _ hh htm hl ?_
    intro e t1 H1 ρ1 a1 w1 hK ht1 hd1 hx1 hh1
    cases e with
    | ret => exact hK.elim
    | exit j => exact hK.elim
    | normal =>
      simp only at hK
      split at hK
      · rename_i t0 ps0 as0 b0 hi1
        have hp1 := keepP hx1.pre
        obtain ⟨r1, g1, ⟨g2, g3⟩, g4, g5, g6, g7⟩ := hh1.rep i _ p hi1 hp1
        have hlt1 := (Array.getElem?_eq_some_iff.1 g1).1
        obtain ⟨b1, b2⟩ := hh1.turn (o' := .lrec .busy t0 ps0 as0 b0) (w' := { w1 with heap := w1.heap.setIfInBounds p.b (.loop { r1 with state := .busy }) }) hi1 hp1 rfl (fun _ h => h) (by simp)
          (fun b hb' => by simp [Array.getElem?_setIfInBounds, Ne.symm hb']) rfl rfl rfl ⟨{ r1 with state := .busy }, by simp [hlt1], rfl, g4, g5, g6, g7⟩ (fun m todo h => by cases h) (fun ⟨l, h⟩ => by cases h)
        have hx2 := hx1.trans hl (b2.ex0 hx1.len)
        refine ⟨_, beginRound_run g1 g2, ?_⟩
        refine wpA_sound (ro := some p.b) hT hm body _ _ _ hok2 (.inr hf2) hK ρ1 _ _ _ b1 ht1 hx1.len ?_
        intro e t2 H2 ρ2 a2 w2 hK2 ht2 hd2 hx3 hh2
        have hx4 := hx2.trans hl hx3
        split at hK2
        · rename_i t3 ps3 as3 b3 hi2
          have hp2 := keepP hx4.pre
          obtain ⟨r2, c1, c2, c4, c5, c6, c7⟩ := hh2.rep i _ p hi2 hp2
          have hlt2 := (Array.getElem?_eq_some_iff.1 c1).1
          have fin : ∀ (st : RSt) (j : Option Code), st.R (if j.isNone then .ready else .done) j → (∃ r' H'', WkR H.length (sv (.bool j.isNone)) (H2.set i (.lrec st t3 ps3 as3 b3)) r' H'' ∧ K r' H'') →
              ∃ v w', (Instr.endRound p.b j).run P w2 = .ok v w' ∧ ∃ (r : AV) (rc : Value) (H' : List AO) (ρ' : Rho), Ending.returned v = .returned rc ∧ K r H' ∧ r.R ρ' rc ∧ Ext H ρ w H' ρ' w' ∧ Holds H' ρ' w' := by
            rintro st j hst ⟨r', H'', hwk, hKr⟩
            obtain ⟨d1, d2⟩ := hh2.turn (o' := .lrec st t3 ps3 as3 b3) (w' := { w2 with heap := w2.heap.setIfInBounds p.b (.loop { r2 with state := if j.isNone then .ready else .done, pending := j }) }) hi2 hp2 rfl (fun _ h => h) (by simp)
              (fun b hb' => by simp [Array.getElem?_setIfInBounds, Ne.symm hb']) rfl rfl rfl ⟨{ r2 with state := if j.isNone then .ready else .done, pending := j }, by simp [hlt2], hst, c4, c5, c6, c7⟩ (fun m todo h => by cases h) (fun ⟨l, h⟩ => by cases h)
            have hx5 := hx4.trans hl (d2.ex0 hx4.len)
            obtain ⟨ρ3, z1, z2, z3, z4, z5⟩ := hwk ρ2 _ [.bool j.isNone] d1 ⟨rfl, trivial⟩ hx5.len
            exact ⟨_, _, endRound_run c1 j, r', _, H'', ρ3, rfl, hKr, z2.1, (hx5.trans hl ⟨z3, z4, Nat.le_refl _, rfl, rfl, rfl, fun _ _ _ => rfl, fun b _ ho => z5 b ho⟩).ext hh.len, z1⟩
          cases e with
          | normal => exact fin .ready none ⟨rfl, rfl⟩ hK2
          | ret => exact fin (.done .ret) (some .ret) ⟨rfl, rfl⟩ hK2
          | exit k => exact fin (.done (.exit k)) (some (.exit k)) ⟨rfl, rfl⟩ hK2
        · exact hK2.elim
      · exact hK.elim
  · exact h.elim

theorem Wk.refl {n0 : Nat} {t : List AV} {H : List AO} : Wk n0 t H t H :=
  fun ρ w tm hh ht hl => ⟨ρ, hh, ht, List.take_prefix _ _, hl, fun _ h => h⟩
theorem Wk.trans {n0 : Nat} {t t1 t2 : List AV} {H H1 H2 : List AO} (h : Wk n0 t H t1 H1) (k : Wk n0 t1 H1 t2 H2) : Wk n0 t H t2 H2 := by
  intro ρ w tm hh ht hl
  obtain ⟨ρ1, a1, a2, a3, a4, a5⟩ := h ρ w tm hh ht hl
  obtain ⟨ρ2, b1, b2, b3, b4, b5⟩ := k ρ1 w tm a1 a2 a4
  exact ⟨ρ2, b1, b2, by rw [take_pre a3 hl] at b3; exact b3, b4, fun b hb => a5 b (b5 b hb)⟩
end
end Bm
