/- Regions that draw their order: soundness. -/
import Derived.Test.YtdboiflfehpjhaaBmJ
set_option linter.unusedVariables false
set_option linter.unusedSimpArgs false
namespace Bm
open Go
section
variable {P : Program} {T : TypeId → TI} {ρ : Rho} {w : World} {H : List AO}

theorem fnl_R {x : SV} (h : x.fnl = true) {u v : Value} (hu : x.R ρ u) (hv : x.R ρ v) : u = v := by
  cases x <;> simp only [SV.R] at hu hv
  case sl => cases h
  case ptr => obtain ⟨p, hp, rfl⟩ := hu; obtain ⟨q, hq, rfl⟩ := hv; rw [hp] at hq; cases hq; rfl
  case fptr => obtain ⟨p, b, hp, hb, rfl⟩ := hu; obtain ⟨q, c, hq, hc, rfl⟩ := hv; rw [hp] at hq; cases hq; rw [hb] at hc; cases hc; rfl
  case yld => obtain ⟨p, hp, rfl⟩ := hu; obtain ⟨q, hq, rfl⟩ := hv; rw [hp] at hq; cases hq; rfl
  case mp => obtain ⟨p, hp, rfl⟩ := hu; obtain ⟨q, hq, rfl⟩ := hv; rw [hp] at hq; cases hq; rfl
  case vec =>
    obtain ⟨p, hp, hu⟩ := hu
    obtain ⟨q, hq, hv⟩ := hv
    rw [hp] at hq; cases hq
    rcases hu with ⟨a1, a2, rfl⟩ | ⟨a1, a2, a3, rfl⟩ <;> rcases hv with ⟨b1, b2, rfl⟩ | ⟨b1, b2, b3, rfl⟩
    · rfl
    · rw [a1] at b1; cases b1
    · rw [a1] at b1; cases b1
    · rfl
  case fn =>
    obtain ⟨cs, h1, rfl⟩ := hu
    obtain ⟨ds, h2, rfl⟩ := hv
    have : cs = ds := by
      apply List.ext_getElem?
      intro i
      cases hc : cs[i]? with
      | none =>
        have := h1.length
        have := h2.length
        rw [List.getElem?_eq_none_iff] at hc
        rw [List.getElem?_eq_none (by omega)]
      | some c =>
        obtain ⟨k, hk, p, hp, rfl⟩ := h1.get' hc
        obtain ⟨d, hd, q, hq, rfl⟩ := h2.get hk
        rw [hp] at hq; cases hq
        exact hd.symm
    rw [this]
  case raw => rw [hu.1, hv.1]
  all_goals rw [hu, hv]
theorem fnlL_R : ∀ {l : List SV} {us vs : List Value}, fnlL l = true → All2 (SV.R ρ) l us → All2 (SV.R ρ) l vs → us = vs
  | [], [], [], _, _, _ => rfl
  | x :: l, u :: us, v :: vs, h, ⟨h1, h2⟩, ⟨h3, h4⟩ => by
    simp only [fnlL] at h
    split at h
    · rename_i hx; rw [fnl_R hx h1 h3, fnlL_R h h2 h4]
    · cases h
  | [], [], _ :: _, _, _, h => h.elim
  | [], _ :: _, _, _, h, _ => h.elim
  | _ :: _, [], _, _, h, _ => h.elim
  | _ :: _, _ :: _, [], _, _, h => h.elim
theorem fnlC_R : ∀ {l : List CV} {us vs : List Value}, fnlC l = true → All2 (CV.R ρ) l us → All2 (CV.R ρ) l vs → us = vs
  | [], [], [], _, _, _ => rfl
  | .s x :: l, u :: us, v :: vs, h, ⟨h1, h2⟩, ⟨h3, h4⟩ => by
    simp only [fnlC] at h
    split at h
    · rename_i hx; rw [fnl_R hx h1 h3, fnlC_R h h2 h4]
    · cases h
  | .agg m :: l, u :: us, v :: vs, h, ⟨⟨cs, h1, e1⟩, h2⟩, ⟨⟨ds, h3, e3⟩, h4⟩ => by
    simp only [fnlC] at h
    split at h
    · rename_i hx; rw [e1, e3, fnlL_R hx h1 h3, fnlC_R h h2 h4]
    · cases h
  | [], [], _ :: _, _, _, h => h.elim
  | [], _ :: _, _, _, h, _ => h.elim
  | _ :: _, [], _, _, h, _ => h.elim
  | _ :: _, _ :: _, [], _, _, h => h.elim

/-- What an operation yields that only reads: the same wherever what it reads is the same. -/
theorem float_spec (hT : TyOk P T) (hh : Holds H ρ w) {t : List AV} {a : Act} (ht : Tm ρ t a) {o : Oper} {K : AV → Prop}
    (h : pureA (realE P) T o.op (evA t) H fun v => match tells o.op v with | true => K v | false => False) :
    ∃ v vc, K v ∧ v.R ρ vc ∧ ∀ (ρ' : Rho) (H' : List AO) (w' : World), ρ <+: ρ' → Holds H' ρ' w' → (∀ k ∈ loadsOf o.op (evA t), H'[k]? = H[k]?) → (execOp a.eval o).run P w' = .ok (.value vc) w' := by
  cases hm : moves o.op with
  | true =>
    have key : ∀ (v : AV) (vc : Value), (match tells o.op v with | true => K v | false => False) → v.R ρ vc → (∀ w, (execOp a.eval o).run P w = .ok (.value vc) w) →
        ∃ v vc, K v ∧ v.R ρ vc ∧ ∀ (ρ' : Rho) (H' : List AO) (w' : World), ρ <+: ρ' → Holds H' ρ' w' → (∀ k ∈ loadsOf o.op (evA t), H'[k]? = H[k]?) → (execOp a.eval o).run P w' = .ok (.value vc) w' := by
      intro v vc hK hR hr
      have : tells o.op v = true := by simp [tells, hm]
      rw [this] at hK
      exact ⟨v, vc, hK, hR, fun _ _ w' _ _ _ => hr w'⟩
    cases ho : o.op with
    | move x =>
      rw [ho] at h
      rw [ho] at key
      exact key _ _ h (ht.eval x) (fun w => by simp [execOp, ho])
    | assign x =>
      rw [ho] at h
      rw [ho] at key
      exact key _ _ h (ht.eval x) (fun w => by simp [execOp, ho])
    | pick c x y =>
      rw [ho] at h
      rw [ho] at key
      simp only [pureA] at h
      have hc := ht.eval c
      split at h
      · rename_i b hb
        rw [hb] at hc
        have hc' := R_bool hc
        cases b with
        | true => exact key _ _ (br_true h rfl) (ht.eval x) (fun w => by simp [execOp, ho, hc', asBool])
        | false => exact key _ _ (br_false h rfl) (ht.eval y) (fun w => by simp [execOp, ho, hc', asBool])
      · exact h.elim
    | extract x i =>
      rw [ho] at h
      rw [ho] at key
      simp only [pureA] at h
      have hx := ht.eval x
      split at h
      · rename_i l hb
        rw [hb] at hx
        obtain ⟨vs, hv, e⟩ := hx
        split at h
        · rename_i v hi
          obtain ⟨u, hu, hr⟩ := hv.get hi
          exact key _ _ h hr (fun w => by simp [execOp, ho, e, Instr.extract, hu])
        · exact h.elim
      · exact h.elim
    | _ => rw [ho] at hm; cases hm
  | false =>
    obtain ⟨v, hK, hl⟩ := pureA_local h
    obtain ⟨v0, vc, e0, hR, _⟩ := pureA_sound hT hh ht (hl H fun _ _ => rfl)
    subst e0
    split at hK
    · rename_i htell
      refine ⟨v0, vc, hK, hR, fun ρ' H' w' hρ hh' hsame => ?_⟩
      obtain ⟨v1, vc1, e1, hR1, hr1⟩ := pureA_sound hT hh' (ht.ext hρ) (hl H' hsame)
      subst e1
      have hR' := AV.R.ext hρ hR
      have : vc1 = vc := by
        simp only [tells, hm] at htell
        cases v1 with
        | c x =>
          cases x with
          | s x => exact fnl_R htell hR1 hR'
          | agg l =>
            obtain ⟨cs, h1, e1⟩ := hR1
            obtain ⟨ds, h2, e2⟩ := hR'
            rw [e1, e2, fnlL_R htell h1 h2]
        | tup l =>
          obtain ⟨cs, h1, e1⟩ := hR1
          obtain ⟨ds, h2, e2⟩ := hR'
          rw [e1, e2, fnlC_R htell h1 h2]
        | any => cases htell
      rw [← this]
      exact hr1
    · exact hK.elim

/-! ### Whatever order -/
variable {ro : Option Nat} {n : Nat} {ops : Array Oper} {Q : Exit → Act → World → Prop}

theorem gStep_mono {o : Oper} {K K' : Act → World → Prop} {a : Act} {w : World} (h : ∀ a w, K a w → K' a w) (hh : gStep (FW ro) n P ops Q o K a w) : gStep (FW ro) n P ops Q o K' a w := by
  unfold gStep at *
  split
  · rename_i hw; rw [if_pos hw] at hh; exact Oper.wpIn_mono h hh
  · rename_i hw; rw [if_neg hw] at hh; exact ⟨hh.1, h _ _ hh.2⟩

def wpAnyS (ro : Option Nat) (n : Nat) (P : Program) (ops : Array Oper) (Q : Exit → Act → World → Prop) (S : Array Bool → World → Prop) : Nat → Array Bool → Act → World → Prop
  | 0, listed, a, w => Region.ready .any ops listed = [] ∧ Q .normal a w
  | fuel + 1, listed, a, w =>
    (Region.ready .any ops listed = [] → Q .normal a w) ∧
    ∀ i ∈ Region.ready .any ops listed, ∀ o, ops[i]? = some o → gStep (FW ro) n P ops Q o (fun a' w' => S (listed.setIfInBounds i true) w' ∧ wpAnyS ro n P ops Q S fuel (listed.setIfInBounds i true) a' w') a w

theorem wpAnyS_any {S : Array Bool → World → Prop} : ∀ (fuel : Nat) (listed : Array Bool) (a : Act) (w : World), wpAnyS ro n P ops Q S fuel listed a w → wpAnyIn (FW ro) n P .any ops Q fuel listed a w
  | 0, _, _, _, h => h
  | fuel + 1, listed, a, w, h => ⟨h.1, fun i hi => by
    obtain ⟨_, o, ho, _⟩ := mem_ready.1 hi
    have := h.2 i hi o ho
    simp only [wpOpIn, ho]
    exact gStep_mono (fun a' w' h' => wpAnyS_any fuel _ a' w' h'.2) this⟩

theorem wpAnyS_mono {S S' : Array Bool → World → Prop} : ∀ (fuel : Nat) (listed : Array Bool) (a : Act) (w : World),
    (∀ listed' : Array Bool, (∀ k, listed.getD k false = true → listed'.getD k false = true) → ∀ w, S listed' w → S' listed' w) → wpAnyS ro n P ops Q S fuel listed a w → wpAnyS ro n P ops Q S' fuel listed a w
  | 0, _, _, _, _, h => h
  | fuel + 1, listed, a, w, hS, h => ⟨h.1, fun i hi o ho => by
    refine gStep_mono (fun a' w' h' => ?_) (h.2 i hi o ho)
    have up : ∀ k, listed.getD k false = true → (listed.setIfInBounds i true).getD k false = true := fun k hk => getD_set_true hk
    exact ⟨hS _ up _ h'.1, wpAnyS_mono fuel _ a' w' (fun l hl => hS l fun k hk => hl k (up k hk)) h'.2⟩⟩

theorem noSelDef_sel (h : noSelDef ops = true) {j : Nat} {o : Oper} (ho : ops[j]? = some o) : (∀ cs b, o.op ≠ .select cs b) ∧ ∀ c, o.op ≠ .defer c := by
  have := Array.all_eq_true_iff_forall_mem.1 h o (Array.mem_of_getElem? ho)
  constructor
  · intro cs b e; rw [e] at this; cases this
  · intro c e; rw [e] at this; cases this

theorem put_step {oi oj : Oper} {v : Value} (hap : oi.apart ops oj = true) (hsi : ∀ cs b, oi.op ≠ .select cs b) (hsj : ∀ cs b, oj.op ≠ .select cs b) (hdj : ∀ c, oj.op ≠ .defer c)
    (hQ : ∀ c a w, ¬ Q (.panic c) a w) {K : Act → World → Prop} {a : Act} {w : World} (h : gStep (FW ro) n P ops Q oj K (a.put oi.dst v) w) :
    gStep (FW ro) n P ops Q oj (fun a' w' => (execOp a'.eval oi = execOp a.eval oi ∧ Region.wanted oi (yielded ops a'.tmps) = Region.wanted oi (yielded ops a.tmps)) ∧ K (a'.put oi.dst v) w') a w := by
  obtain ⟨h1, h2, h3⟩ := Oper.apart_spec hap
  have keep : ∀ u, execOp (a.put oj.dst u).eval oi = execOp a.eval oi ∧ Region.wanted oi (yielded ops (a.put oj.dst u).tmps) = Region.wanted oi (yielded ops a.tmps) := fun u =>
    ⟨execOp_put oi hsi a oj.dst u h3, wanted_put oi a oj.dst u h3⟩
  unfold gStep at *
  rw [wanted_put oj a oi.dst v h1] at h
  split
  · rename_i hw
    rw [if_pos hw] at h
    refine ⟨fun _ _ => trivial, ?_⟩
    have h := h.2
    rw [Oper.semAt_eq _ _ _ hdj, execOp_put oj hsj a oi.dst v h1] at h
    rw [Oper.semAt_eq _ _ _ hdj]
    generalize (execOp a.eval oj).run P w = r at *
    cases r with
    | ok x w' =>
      cases x <;> simp only [Oper.uponIn] at h ⊢
      case value u => exact ⟨keep u, by rw [← Act.put_comm a v u h2]; exact h⟩
      case skip => exact ⟨keep _, by rw [← Act.put_comm a v undef h2]; exact h⟩
      case defer d =>
        refine ⟨?_, ?_⟩
        · have e : ({ a with defers := d :: a.defers }.put oj.dst undef).tmps = (a.put oj.dst undef).tmps := by cases oj.dst <;> rfl
          have e2 : ({ a with defers := d :: a.defers }.put oj.dst undef).eval = (a.put oj.dst undef).eval := by funext x; cases x <;> simp [Act.eval, e]
          rw [e, e2]
          exact keep undef
        · rw [← Act.put_comm _ v undef h2, ← Act.put_defers]
          exact h
      case enter f args =>
        refine ⟨h.1, CallsIn.mono h.2 fun e w'' he => ?_⟩
        cases e with
        | returned u => exact ⟨keep u, by rw [← Act.put_comm a v u h2]; exact he⟩
        | panicked c => exact (hQ _ _ _ he).elim
        | outgrown => exact he
      case row row args => exact ⟨h.1, RowsIn.mono h.2 fun u w'' he => ⟨keep u, by rw [← Act.put_comm a v u h2]; exact he⟩⟩
      case round l f tmps assign body =>
        refine ⟨h.1, RoundIn.mono h.2 fun e w'' he => ?_⟩
        cases e with
        | returned u => exact ⟨keep u, by rw [← Act.put_comm a v u h2]; exact he⟩
        | panicked c => exact (hQ _ _ _ he).elim
        | outgrown => exact he
    | halt x w' =>
      cases x <;> simp only [Oper.uponIn] at h ⊢
      case panic u => exact (hQ _ _ _ h).elim
  · rename_i hw
    rw [if_neg hw] at h
    exact ⟨fun _ _ => trivial, keep _, by rw [← Act.put_comm a v undef h2]; exact h.2⟩

/-- In every world that meets S, as long as no operation that waits for it has turned the heap, the operation yields v. -/
def Yl (P : Program) (ops : Array Oper) (S : Array Bool → World → Prop) (i : Nat) (o : Oper) (v : Value) (a : Act) : Prop :=
  (Region.wanted o (yielded ops a.tmps) = true ∧ ∀ listed w, depd ops i listed = false → S listed w → (execOp a.eval o).run P w = .ok (.value v) w) ∨
  (Region.wanted o (yielded ops a.tmps) = false ∧ v = undef)

theorem Yl.step {S : Array Bool → World → Prop} {i : Nat} {o : Oper} {v : Value} {a : Act} {w : World} {listed : Array Bool} (hdo : ∀ c, o.op ≠ .defer c) (hy : Yl P ops S i o v a) (hd : depd ops i listed = false) (hS : S listed w)
    {K : Act → World → Prop} (h : K (a.put o.dst v) w) : gStep (FW ro) n P ops Q o K a w := by
  unfold gStep
  rcases hy with ⟨hw, hv⟩ | ⟨hw, rfl⟩
  · rw [if_pos hw]; exact wpIn_value hdo (hv listed w hd hS) h
  · rw [if_neg (by simp [hw])]; exact ⟨fun _ _ => trivial, h⟩

theorem mem_bindsOn {o : Oper} {l : Nat} : l ∈ bindsOn o ↔ ∃ e ∈ o.after, Region.binds .any e = true ∧ e.on = l := by
  simp only [bindsOn, List.mem_map, List.mem_filter, Array.mem_toList_iff]
  constructor
  · rintro ⟨e, ⟨h1, h2⟩, h3⟩; exact ⟨e, h1, h2, h3⟩
  · rintro ⟨e, h1, h2, h3⟩; exact ⟨e, ⟨h1, h2⟩, h3⟩
theorem depd_false {l : Nat} {listed : Array Bool} : depd ops l listed = false ↔ ∀ (j : Nat) (o : Oper), ops[j]? = some o → listed.getD j false = true → isPure o.op = false → l ∉ bindsOn o := by
  unfold depd
  rw [List.any_eq_false]
  constructor
  · intro h j o ho hl hp hm
    have hlt : j < ops.size := (Array.getElem?_eq_some_iff.1 ho).1
    have := h j (List.mem_range.2 hlt)
    simp [ho, hp, hm] at this
    simp at hl
    rw [hl] at this
    cases this
  · intro h j hj
    cases ho : ops[j]? with
    | none => simp
    | some o =>
      cases hl : listed.getD j false with
      | false => simp
      | true =>
        cases hp : isPure o.op with
        | true => simp [hp]
        | false => simp [hp, h j o ho hl hp]
theorem getD_set_iff {listed : Array Bool} {i j : Nat} (hi : i < listed.size) : (listed.setIfInBounds i true).getD j false = true ↔ j = i ∨ listed.getD j false = true := by
  by_cases hij : i = j
  · subst hij; simp [hi]
  · rw [getD_set_ne false hij]
    constructor
    · exact .inr
    · rintro (h | h)
      · exact absurd h.symm hij
      · exact h
theorem ready_lt {i : Nat} {listed : Array Bool} (h : i ∈ Region.ready .any ops listed) : i < listed.size := by
  have := (mem_ready.1 h).1
  rcases Nat.lt_or_ge i listed.size with h' | h'
  · exact h'
  · simp [Array.getElem?_eq_none h'] at this
theorem getD_lt {i : Nat} {listed : Array Bool} (h : listed.getD i false = true) : listed.getD i true = true := by
  rcases Nat.lt_or_ge i listed.size with h' | h'
  · simpa [h'] using h
  · simp [Array.getElem?_eq_none h']

theorem wpAnyS_first {S : Array Bool → World → Prop} {i : Nat} {oi : Oper} {v : Value} (hi : ops[i]? = some oi) (hsd : noSelDef ops = true) (hQ : ∀ c a w, ¬ Q (.panic c) a w)
    (hSi : ∀ (listed : Array Bool) w, S (listed.setIfInBounds i true) w → S listed w) :
    ∀ (fuel : Nat) (listed : Array Bool) (a : Act) (w : World),
      (∀ j oj, ops[j]? = some oj → j ≠ i → listed.getD j true = false → (∀ e ∈ oj.after, Region.binds .any e = true → e.on ≠ i) → oi.apart ops oj = true) →
      i ∈ Region.ready .any ops listed → depd ops i listed = false → Yl P ops S i oi v a → S (listed.setIfInBounds i true) w →
      wpAnyS ro n P ops Q S fuel (listed.setIfInBounds i true) (a.put oi.dst v) w → wpAnyS ro n P ops Q S (fuel + 1) listed a w := by
  intro fuel
  induction fuel with
  | zero =>
    intro listed a w _ hr hd hy hS h
    refine ⟨fun h0 => (by rw [h0] at hr; cases hr), fun j hj o ho => ?_⟩
    by_cases hji : j = i
    · subst hji
      rw [hi] at ho; cases ho
      exact hy.step (noSelDef_sel hsd hi).2 hd (hSi _ _ hS) ⟨hS, h⟩
    · have := ready_mono hj hji
      rw [h.1] at this
      cases this
  | succ fuel ih =>
    intro listed a w hfree hr hd hy hS h
    refine ⟨fun h0 => (by rw [h0] at hr; cases hr), fun j hj oj hoj => ?_⟩
    by_cases hji : j = i
    · subst hji
      rw [hi] at hoj; cases hoj
      exact hy.step (noSelDef_sel hsd hi).2 hd (hSi _ _ hS) ⟨hS, h⟩
    · have h1 := h.2 j (ready_mono hj hji) oj hoj
      obtain ⟨hjun, oj', hoj', hall⟩ := mem_ready.1 hj
      rw [hoj] at hoj'; cases hoj'
      have hnot : ∀ e ∈ oj.after, Region.binds .any e = true → e.on ≠ i := fun e he hb heq => by
        have h1 := hall e he hb
        have h0 := (mem_ready.1 hr).1
        rw [heq] at h1
        rw [getD_lt h1] at h0
        cases h0
      have h2 := put_step (hfree j oj hoj hji hjun hnot) (noSelDef_sel hsd hi).1 (noSelDef_sel hsd hoj).1 (noSelDef_sel hsd hoj).2 hQ h1
      refine gStep_mono (fun a' w' h3 => ?_) h2
      obtain ⟨⟨hk1, hk2⟩, hS3, h3⟩ := h3
      rw [Array.setIfInBounds_comm _ _ (Ne.symm hji)] at hS3 h3
      refine ⟨hSi _ _ hS3, ih (listed.setIfInBounds j true) a' w' ?_ (ready_mono hr (Ne.symm hji)) ?_ ?_ hS3 h3⟩
      · intro k ok hk hki hun hno
        refine hfree k ok hk hki ?_ hno
        by_cases hjk : j = k
        · subst hjk; exact hjun
        · rw [getD_set_ne true hjk] at hun; exact hun
      · rw [depd_false] at hd ⊢
        intro k ok hk hl hp
        rcases (getD_set_iff (ready_lt hj)).1 hl with rfl | hl
        · rw [hoj] at hk; cases hk
          intro hm
          obtain ⟨e, he, hb, hon⟩ := mem_bindsOn.1 hm
          exact hnot e he hb hon
        · exact hd k ok hk hl hp
      · unfold Yl at hy ⊢
        rw [hk1, hk2]
        exact hy

/-! ### The walk -/
def SL (ops : Array Oper) (ρ : Rho) (L : List Ld) (listed : Array Bool) (w : World) : Prop :=
  ∃ ρ' H', ρ <+: ρ' ∧ Holds H' ρ' w ∧ ∀ x ∈ L, depd ops x.op listed = false → H'[x.obj]? = some x.was

theorem mem_dropL {on : List Nat} {x : Ld} : ∀ {L : List Ld}, x ∈ L → x.op ∉ on → x ∈ dropL on L
  | y :: L, h, hn => by
    simp only [dropL]
    split
    · rename_i hc
      rcases List.mem_cons.1 h with rfl | h
      · simp at hc; exact (hn hc).elim
      · exact mem_dropL h hn
    · rcases List.mem_cons.1 h with rfl | h
      · exact List.mem_cons_self
      · exact List.mem_cons_of_mem _ (mem_dropL h hn)
theorem keepL_mem {H : List AO} {x : Ld} : ∀ {L : List Ld}, keepL H L → x ∈ L → H[x.obj]? = some x.was
  | y :: L, h, hx => by
    rcases List.mem_cons.1 hx with rfl | hx
    · exact h.1
    · exact keepL_mem h.2 hx
theorem addL_spec {H : List AO} {i : Nat} {L : List Ld} : ∀ {ks : List Nat}, (∀ x ∈ L, x ∈ addL H i L ks) ∧ (∀ x ∈ addL H i L ks, x ∈ L ∨ H[x.obj]? = some x.was) ∧
    ∀ k ∈ ks, (∃ o, H[k]? = some o) → ∃ x ∈ addL H i L ks, x.op = i ∧ x.obj = k ∧ H[k]? = some x.was
  | [] => ⟨fun x h => h, fun x h => .inl h, fun k h => by cases h⟩
  | k :: ks => by
    obtain ⟨h1, h2, h3⟩ := addL_spec (H := H) (i := i) (L := L) (ks := ks)
    simp only [addL]
    cases hk : H[k]? with
    | none =>
      refine ⟨h1, h2, fun j hj ⟨o, ho⟩ => ?_⟩
      rcases List.mem_cons.1 hj with rfl | hj
      · rw [hk] at ho; cases ho
      · exact h3 j hj ⟨o, ho⟩
    | some o =>
      refine ⟨fun x hx => List.mem_cons_of_mem _ (h1 x hx), fun x hx => ?_, fun j hj ho => ?_⟩
      · rcases List.mem_cons.1 hx with rfl | hx
        · exact .inr hk
        · exact h2 x hx
      · rcases List.mem_cons.1 hj with rfl | hj
        · exact ⟨_, List.mem_cons_self, rfl, rfl, hk⟩
        · obtain ⟨x, hx, h⟩ := h3 j hj ho
          exact ⟨x, List.mem_cons_of_mem _ hx, h⟩

theorem isPureAt_eq {i : Nat} {o : Oper} (ho : ops[i]? = some o) : isPureAt ops i = isPure o.op := by simp [isPureAt, ho]

theorem loads_some {o : Op} {t : List AV} {K : AV → Prop} (h : pureA (realE P) T o (evA t) H K) : ∀ k ∈ loadsOf o (evA t), ∃ x, H[k]? = some x := by
  intro k hk
  cases o with
  | load ty x =>
    simp only [pureA] at h
    simp only [loadsOf] at hk
    split at h
    · rename_i i off hx
      rw [hx] at hk
      simp at hk
      subst hk
      split at h
      · unfold loadA at h
        split at h
        · rename_i l e ho; exact ⟨_, ho⟩
        · rename_i l e ne ho; exact ⟨_, ho⟩
        · rename_i l ho; exact ⟨_, ho⟩
        · exact h.elim
      · exact h.elim
    · rename_i i k2 off hx
      rw [hx] at hk
      simp at hk
      subst hk
      split at h
      · unfold loadF at h
        split at h
        · rename_i rows e ho; exact ⟨_, ho⟩
        · exact h.elim
      · exact h.elim
    · exact h.elim
  | lookup ty m x ok =>
    simp only [pureA] at h
    simp only [loadsOf] at hk
    split at h
    · rename_i i n h1 h2 h3
      rw [h2] at hk
      simp at hk
      subst hk
      split at h
      · rename_i l hl; exact ⟨_, hl⟩
      · exact h.elim
    · exact h.elim
  | entry x =>
    simp only [pureA] at h
    simp only [loadsOf] at hk
    split at h
    · rename_i i h2
      rw [h2] at hk
      simp at hk
      subst hk
      split at h
      · rename_i l hl; exact ⟨_, hl⟩
      · exact h.elim
    · exact h.elim
  | call c =>
    simp only [pureA] at h
    simp only [loadsOf] at hk
    split at h
    · rename_i x ty h1 h2 h3
      rw [h2] at hk
      split at hk
      · rename_i i he
        cases he
        simp at hk
        subst hk
        split at h
        · rename_i hq; cases hq
        · rename_i hq; cases hq
        · rename_i hq; cases hq
        · rename_i j hj hq
          cases hq
          split at h
          · rename_i l hl; exact ⟨_, hl⟩
          · exact h.elim
        · exact h.elim
      · cases hk
    · rename_i h1 h2
      rw [h2] at hk
      cases hk
    · rename_i h1 h2
      rw [h2] at hk
      cases hk
    · exact h.elim
  | _ => cases hk

theorem Nxt.put {a : Act} {K : List AV → List AO → Prop} {next : Act → World → Prop} (hN : Nxt H ρ w a K next) (d : Option Nat) (v : Value) : Nxt H ρ w (a.put d v) K next :=
  fun t' H' ρ' a' w' h1 h2 h3 => hN t' H' ρ' a' w' h1 h2 (h3.trans (put_defers _ _ _))
end
end Bm
