/- A contract over a small heap holds over any heap that has it as a part. -/
import Derived.Test.YtdboiflfehpjhaaBmP
set_option linter.unusedVariables false
set_option linter.unusedSimpArgs false
namespace Bm
open Go
/-- Where number i of the part lies: what is new comes last. -/
def gI (σ : List Nat) (N : Nat) (i : Nat) : Nat := match σ[i]? with | some j => j | none => N + (i - σ.length)
def SV.ren (g : Nat → Nat) : SV → SV
  | .ptr i off => .ptr (g i) off
  | .fptr i k off => .fptr (g i) k off
  | .sl i off len => .sl (g i) off len
  | .vec i len => .vec (g i) len
  | .mp i => .mp (g i)
  | .fn f caps => .fn f (caps.map g)
  | .yld i => .yld (g i)
  | .int k n => .int k n
  | .bool b => .bool b
  | .nilp => .nilp
  | .nils => .nils
  | .nilm => .nilm
  | .nilf => .nilf
  | .raw v => .raw v
def CV.ren (g : Nat → Nat) : CV → CV
  | .s x => .s (x.ren g)
  | .agg l => .agg (l.map (SV.ren g))
def AV.ren (g : Nat → Nat) : AV → AV
  | .c x => .c (x.ren g)
  | .tup l => .tup (l.map (CV.ren g))
  | .any => .any
def VC.ren (g : Nat → Nat) : VC → VC
  | .pv l => .pv l
  | .fp j l => .fp (g j) l
  | .any l => .any (l.map (SV.ren g))
def AO.ren (g : Nat → Nat) : AO → AO
  | .cells l t => .cells (l.map (SV.ren g)) t
  | .vec c t n => .vec (c.ren g) t n
  | .ro l => .ro l
  | .fam rows t => .fam rows t
  | .m64 l => .m64 l
  | .it64 m todo => .it64 (g m) todo
  | .mk l => .mk l
  | .lrec st t ps a b => .lrec st (t.map (AV.ren g)) ps a b
  | .gone => .gone
def pickL (H : List AO) : List Nat → Option (List AO)
  | [] => some []
  | i :: r => match H[i]? with
    | some o => match pickL H r with | some l => some (o :: l) | none => none
    | none => none
def updL : List Nat → List AO → List AO → List AO
  | s :: σ, o :: os, H => updL σ os (H.set s o)
  | _, _, H => H
def updH (σ : List Nat) (H H' : List AO) : List AO := updL σ (H'.map (AO.ren (gI σ H.length))) H ++ (H'.drop σ.length).map (AO.ren (gI σ H.length))
def nodupB : List Nat → Bool
  | [] => true
  | x :: l => !l.contains x && nodupB l
/-- No range outside the part goes over a map of the part. -/
def noOut (σ : List Nat) : Nat → List AO → Bool
  | _, [] => true
  | k, .it64 m _ :: H => (!σ.contains m || σ.contains k) && noOut σ (k + 1) H
  | k, _ :: H => noOut σ (k + 1) H

theorem nodupB_spec : ∀ {l : List Nat}, nodupB l = true → l.Nodup
  | [], _ => List.nodup_nil
  | x :: l, h => by
    simp only [nodupB, Bool.and_eq_true, Bool.not_eq_true'] at h
    rw [List.nodup_cons]
    exact ⟨by simpa using h.1, nodupB_spec h.2⟩
theorem noOut_spec {σ : List Nat} : ∀ {H : List AO} {k : Nat}, noOut σ k H = true → ∀ (i m : Nat) (todo : Todo), H[i]? = some (.it64 m todo) → m ∈ σ → k + i ∈ σ
  | [], k, _, i, m, todo, h, _ => by simp at h
  | o :: H, k, hn, i, m, todo, h, hm => by
    have tail : noOut σ (k + 1) H = true ∧ ((∃ m' t', o = .it64 m' t') → ∀ m' t', o = .it64 m' t' → m' ∈ σ → k ∈ σ) := by
      cases o <;> simp only [noOut, Bool.and_eq_true, Bool.or_eq_true, Bool.not_eq_true'] at hn <;> refine ⟨by first | exact hn | exact hn.2, ?_⟩
      case it64 m' t' =>
        intro _ m2 t2 e hm2
        cases e
        rcases hn.1 with h | h
        · simp at h; exact (h hm2).elim
        · simpa using h
      all_goals (rintro ⟨_, _, e⟩; cases e)
    cases i with
    | zero =>
      simp at h
      subst h
      exact tail.2 ⟨_, _, rfl⟩ m todo rfl hm
    | succ i =>
      have := noOut_spec tail.1 i m todo (by simpa using h) hm
      rwa [show k + 1 + i = k + (i + 1) by omega] at this
theorem pickL_spec {H : List AO} : ∀ {σ : List Nat} {l : List AO}, pickL H σ = some l → l.length = σ.length ∧ ∀ (k i : Nat), σ[k]? = some i → H[i]? = l[k]? ∧ i < H.length
  | [], l, h => by simp [pickL] at h; subst h; exact ⟨rfl, fun k i h => by simp at h⟩
  | j :: σ, l, h => by
    simp only [pickL] at h
    split at h
    · rename_i o ho
      split at h
      · rename_i l' hl
        cases h
        obtain ⟨h1, h2⟩ := pickL_spec hl
        refine ⟨by simp [h1], fun k i hk => ?_⟩
        cases k with
        | zero => simp at hk; subst hk; exact ⟨by simpa using ho, (List.getElem?_eq_some_iff.1 ho).1⟩
        | succ k => simpa using h2 k i (by simpa using hk)
      · cases h
    · cases h
theorem updL_length : ∀ (σ : List Nat) (os H : List AO), (updL σ os H).length = H.length
  | [], os, H => by cases os <;> rfl
  | s :: σ, [], H => rfl
  | s :: σ, o :: os, H => by simp [updL, updL_length σ os]
theorem updL_get : ∀ {σ : List Nat} {os H : List AO}, σ.Nodup → σ.length ≤ os.length → (∀ i ∈ σ, i < H.length) → ∀ (k : Nat), (k ∉ σ → (updL σ os H)[k]? = H[k]?) ∧ ∀ (m : Nat), σ[m]? = some k → (updL σ os H)[k]? = os[m]?
  | [], os, H, _, _, _, k => ⟨fun _ => by cases os <;> rfl, fun m h => by simp at h⟩
  | s :: σ, [], H, _, hl, _, k => by simp at hl
  | s :: σ, o :: os, H, hn, hl, hb, k => by
    rw [List.nodup_cons] at hn
    obtain ⟨h1, h2⟩ := updL_get (σ := σ) (os := os) (H := H.set s o) hn.2 (by simpa using hl) (fun i hi => by rw [List.length_set]; exact hb i (List.mem_cons_of_mem _ hi)) k
    simp only [updL]
    refine ⟨fun hk => ?_, fun m hm => ?_⟩
    · rw [h1 (fun h => hk (List.mem_cons_of_mem _ h)), List.getElem?_set_ne]
      intro e
      exact hk (by rw [← e]; exact List.mem_cons_self)
    · cases m with
      | zero =>
        simp at hm
        subst hm
        rw [h1 hn.1]
        simp [hb s List.mem_cons_self]
      | succ m => simpa using h2 m (by simpa using hm)

section
variable {P : Program}
/-- What is needed of the renaming, both ways. -/
structure Fits (g : Nat → Nat) (ρ ρ2 : Rho) : Prop where
  inn : ∀ i p, ρ2[g i]? = some p → ρ[i]? = some p
theorem SV.ren_in {g : Nat → Nat} {ρ ρ2 : Rho} (h : ∀ (i : Nat) (p : Pl), ρ2[g i]? = some p → ρ[i]? = some p) {x : SV} {v : Value} (hr : (x.ren g).R ρ2 v) : x.R ρ v := by
  cases x <;> simp only [SV.ren, SV.R] at hr ⊢
  case ptr => obtain ⟨p, hp, e⟩ := hr; exact ⟨p, h _ _ hp, e⟩
  case fptr => obtain ⟨p, b, hp, e⟩ := hr; exact ⟨p, b, h _ _ hp, e⟩
  case yld => obtain ⟨p, hp, e⟩ := hr; exact ⟨p, h _ _ hp, e⟩
  case sl => obtain ⟨p, a, cap, hp, e⟩ := hr; exact ⟨p, a, cap, h _ _ hp, e⟩
  case vec => obtain ⟨p, hp, e⟩ := hr; exact ⟨p, h _ _ hp, e⟩
  case mp => obtain ⟨p, hp, e⟩ := hr; exact ⟨p, h _ _ hp, e⟩
  case fn => obtain ⟨cs, hc, e⟩ := hr; exact ⟨cs, (All2.map_left.1 hc).mono fun i u ⟨p, hp, e⟩ => ⟨p, h _ _ hp, e⟩, e⟩
  all_goals exact hr
theorem SV.ren_out {g : Nat → Nat} {ρ ρ2 : Rho} (h : ∀ (i : Nat) (p : Pl), ρ[i]? = some p → ρ2[g i]? = some p) {x : SV} {v : Value} (hr : x.R ρ v) : (x.ren g).R ρ2 v := by
  cases x <;> simp only [SV.ren, SV.R] at hr ⊢
  case ptr => obtain ⟨p, hp, e⟩ := hr; exact ⟨p, h _ _ hp, e⟩
  case fptr => obtain ⟨p, b, hp, e⟩ := hr; exact ⟨p, b, h _ _ hp, e⟩
  case yld => obtain ⟨p, hp, e⟩ := hr; exact ⟨p, h _ _ hp, e⟩
  case sl => obtain ⟨p, a, cap, hp, e⟩ := hr; exact ⟨p, a, cap, h _ _ hp, e⟩
  case vec => obtain ⟨p, hp, e⟩ := hr; exact ⟨p, h _ _ hp, e⟩
  case mp => obtain ⟨p, hp, e⟩ := hr; exact ⟨p, h _ _ hp, e⟩
  case fn => obtain ⟨cs, hc, e⟩ := hr; exact ⟨cs, All2.map_left.2 (hc.mono fun i u ⟨p, hp, e⟩ => ⟨p, h _ _ hp, e⟩), e⟩
  all_goals exact hr
theorem CV.ren_in {g : Nat → Nat} {ρ ρ2 : Rho} (h : ∀ (i : Nat) (p : Pl), ρ2[g i]? = some p → ρ[i]? = some p) {x : CV} {v : Value} (hr : (x.ren g).R ρ2 v) : x.R ρ v := by
  cases x with
  | s x => exact SV.ren_in h hr
  | agg l => obtain ⟨cs, hc, e⟩ := hr; exact ⟨cs, (All2.map_left.1 hc).mono fun _ _ => SV.ren_in h, e⟩
theorem CV.ren_out {g : Nat → Nat} {ρ ρ2 : Rho} (h : ∀ (i : Nat) (p : Pl), ρ[i]? = some p → ρ2[g i]? = some p) {x : CV} {v : Value} (hr : x.R ρ v) : (x.ren g).R ρ2 v := by
  cases x with
  | s x => exact SV.ren_out h hr
  | agg l => obtain ⟨cs, hc, e⟩ := hr; exact ⟨cs, All2.map_left.2 (hc.mono fun _ _ => SV.ren_out h), e⟩
theorem AV.ren_in {g : Nat → Nat} {ρ ρ2 : Rho} (h : ∀ (i : Nat) (p : Pl), ρ2[g i]? = some p → ρ[i]? = some p) {x : AV} {v : Value} (hr : (x.ren g).R ρ2 v) : x.R ρ v := by
  cases x with
  | c x => exact CV.ren_in h hr
  | tup l => obtain ⟨cs, hc, e⟩ := hr; exact ⟨cs, (All2.map_left.1 hc).mono fun _ _ => CV.ren_in h, e⟩
  | any => trivial
theorem AV.ren_out {g : Nat → Nat} {ρ ρ2 : Rho} (h : ∀ (i : Nat) (p : Pl), ρ[i]? = some p → ρ2[g i]? = some p) {x : AV} {v : Value} (hr : x.R ρ v) : (x.ren g).R ρ2 v := by
  cases x with
  | c x => exact CV.ren_out h hr
  | tup l => obtain ⟨cs, hc, e⟩ := hr; exact ⟨cs, All2.map_left.2 (hc.mono fun _ _ => CV.ren_out h), e⟩
  | any => trivial
theorem VC.ren_svs (g : Nat → Nat) (c : VC) : (c.ren g).svs = c.svs.map (SV.ren g) := by
  cases c with
  | pv l =>
    simp only [VC.ren, VC.svs, List.map_map]
    apply List.map_congr_left
    intro x _
    cases x <;> rfl
  | fp j l =>
    simp only [VC.ren, VC.svs, List.map_map]
    apply List.map_congr_left
    intro x _
    cases x <;> rfl
  | any l => rfl
theorem AO.ren_in {g : Nat → Nat} {ρ ρ2 : Rho} (h : ∀ (i : Nat) (p : Pl), ρ2[g i]? = some p → ρ[i]? = some p) {o : AO} {p : Pl} {w : World} (hr : (o.ren g).R ρ2 p w) : o.R ρ p w := by
  cases o with
  | cells l t => obtain ⟨h0, cs, hc, e⟩ := hr; exact ⟨h0, cs, (All2.map_left.1 hc).mono fun _ _ => SV.ren_in h, e⟩
  | vec l t n =>
    simp only [AO.ren, AO.R, VC.ren_svs] at hr ⊢
    split
    · rename_i hn; rw [if_pos hn] at hr; simpa using hr
    · rename_i hn; rw [if_neg hn] at hr
      obtain ⟨h0, cs, rest, hc, e⟩ := hr
      exact ⟨h0, cs, rest, (All2.map_left.1 hc).mono fun _ _ => SV.ren_in h, e⟩
  | ro l =>
    obtain ⟨cs, hc, e1, e⟩ := hr
    obtain ⟨rfl, hok⟩ := PVs_inv hc
    exact ⟨_, PVs_R hok, e1, e⟩
  | fam rows t => exact hr
  | m64 l => exact hr
  | it64 m todo => obtain ⟨h0, q, seen, clock, es, hq, e⟩ := hr; exact ⟨h0, q, seen, clock, es, h _ _ hq, e⟩
  | mk l => exact hr
  | lrec st t ps a b => obtain ⟨r, h1, h2, h3, h4⟩ := hr; exact ⟨r, h1, h2, (All2.map_left.1 h3).mono fun _ _ => AV.ren_in h, h4⟩
  | gone => trivial
theorem AO.ren_out {g : Nat → Nat} {ρ ρ2 : Rho} (h : ∀ (i : Nat) (p : Pl), ρ[i]? = some p → ρ2[g i]? = some p) {o : AO} {p : Pl} {w : World} (hr : o.R ρ p w) : (o.ren g).R ρ2 p w := by
  cases o with
  | cells l t => obtain ⟨h0, cs, hc, e⟩ := hr; exact ⟨h0, cs, All2.map_left.2 (hc.mono fun _ _ => SV.ren_out h), e⟩
  | vec l t n =>
    simp only [AO.ren, AO.R, VC.ren_svs] at hr ⊢
    split
    · rename_i hn; rw [if_pos hn] at hr; simpa using hr
    · rename_i hn; rw [if_neg hn] at hr
      obtain ⟨h0, cs, rest, hc, e⟩ := hr
      exact ⟨h0, cs, rest, All2.map_left.2 (hc.mono fun _ _ => SV.ren_out h), e⟩
  | ro l =>
    obtain ⟨cs, hc, e1, e⟩ := hr
    obtain ⟨rfl, hok⟩ := PVs_inv hc
    exact ⟨_, PVs_R hok, e1, e⟩
  | fam rows t => exact hr
  | m64 l => exact hr
  | it64 m todo => obtain ⟨h0, q, seen, clock, es, hq, e⟩ := hr; exact ⟨h0, q, seen, clock, es, h _ _ hq, e⟩
  | mk l => exact hr
  | lrec st t ps a b => obtain ⟨r, h1, h2, h3, h4⟩ := hr; exact ⟨r, h1, h2, All2.map_left.2 (h3.mono fun _ _ => AV.ren_out h), h4⟩
  | gone => trivial
theorem AO.ren_own (g : Nat → Nat) (o : AO) (p : Pl) (b : Nat) : (o.ren g).own p b ↔ o.own p b := by
  cases o <;> exact Iff.rfl
theorem AO.ren_m64 {g : Nat → Nat} {o : AO} {l : List (Int × Int)} (h : o.ren g = .m64 l) : o = .m64 l := by cases o <;> simp [AO.ren] at h; rw [h]
theorem AO.ren_it {g : Nat → Nat} {o : AO} {m : Nat} {todo : Todo} (h : o.ren g = .it64 m todo) : ∃ m0, o = .it64 m0 todo ∧ m = g m0 := by
  cases o <;> simp [AO.ren] at h
  obtain ⟨h1, h2⟩ := h
  exact ⟨_, by rw [h2], h1.symm⟩

/-- **The part.** -/
theorem AC_sub {f : FuncId} {args0 : List AV} {H0 : List AO} {R : AV → List AO → Prop} (h : AC P f args0 H0 R) (σ : List Nat) (H : List AO) (hnd : nodupB σ = true) (hno : noOut σ 0 H = true)
    (hp : pickL H σ = some (H0.map (AO.ren (gI σ H.length)))) :
    AC P f (args0.map (AV.ren (gI σ H.length))) H (fun r2 H2 => ∃ r H', R r H' ∧ r2 = r.ren (gI σ H.length) ∧ H2 = updH σ H H') := by
  refine ⟨h.1, fun ρ2 w cargs hh hargs => ?_⟩
  have hnd := nodupB_spec hnd
  obtain ⟨hpl, hpg⟩ := pickL_spec hp
  rw [List.length_map] at hpl
  have hσ : ∀ i ∈ σ, i < H.length := fun i hi => by
    obtain ⟨k, hk⟩ := List.getElem?_of_mem hi
    exact (hpg k i hk).2
  let g := gI σ H.length
  let ρ : Rho := σ.map fun i => ρ2.getD i { b := 0 }
  have hρl : ρ.length = σ.length := by simp [ρ]
  have gin : ∀ (k i : Nat), σ[k]? = some i → g k = i := fun k i hk => by simp [g, gI, hk]
  have gout : ∀ k, σ.length ≤ k → g k = H.length + (k - σ.length) := fun k hk => by simp [g, gI, List.getElem?_eq_none hk]
  have ρget : ∀ (k i : Nat), σ[k]? = some i → ρ[k]? = ρ2[i]? := fun k i hk => by
    have hi := (hpg k i hk).2
    have : i < ρ2.length := by rw [hh.len]; exact hi
    simp [ρ, hk, this]
  have inn : ∀ (i : Nat) (p : Pl), ρ2[g i]? = some p → ρ[i]? = some p := by
    intro i p hi
    rcases Nat.lt_or_ge i σ.length with hl | hl
    · obtain ⟨j, hj⟩ : ∃ j, σ[i]? = some j := ⟨_, List.getElem?_eq_getElem hl⟩
      rw [gin i j hj] at hi
      rw [ρget i j hj]
      exact hi
    · rw [gout i hl, List.getElem?_eq_none (by rw [hh.len]; omega)] at hi
      cases hi
  -- the part as the part of a world
  have H0get : ∀ (k : Nat) (o : AO), H0[k]? = some o → ∃ i, σ[k]? = some i ∧ H[i]? = some (o.ren g) := by
    intro k o ho
    have hk : k < σ.length := by rw [← hpl]; exact (List.getElem?_eq_some_iff.1 ho).1
    refine ⟨_, List.getElem?_eq_getElem hk, ?_⟩
    rw [(hpg k _ (List.getElem?_eq_getElem hk)).1, List.getElem?_map, ho]
    rfl
  have hh0 : Holds H0 ρ w := by
    refine ⟨by rw [hρl, hpl], fun k o p ho hpk => ?_, fun k m todo ho => ?_, fun k k' o o' p p' b h1 h2 h3 h4 h5 h6 => ?_⟩
    · obtain ⟨i, hi, hHi⟩ := H0get k o ho
      rw [ρget k i hi] at hpk
      exact AO.ren_in inn (hh.rep i _ p hHi hpk)
    · obtain ⟨i, hi, hHi⟩ := H0get k _ ho
      obtain ⟨l, hl⟩ := hh.iter i (g m) todo hHi
      have hlt := (List.getElem?_eq_some_iff.1 hl).1
      have hm : m < σ.length := by
        rcases Nat.lt_or_ge m σ.length with hm | hm
        · exact hm
        · rw [gout m hm] at hlt; omega
      obtain ⟨j, hj⟩ : ∃ j, σ[m]? = some j := ⟨_, List.getElem?_eq_getElem hm⟩
      rw [gin m j hj, (hpg m j hj).1, List.getElem?_map] at hl
      cases hq : H0[m]? with
      | none => rw [hq] at hl; cases hl
      | some o =>
        rw [hq] at hl
        simp only [Option.map_some, Option.some.injEq] at hl
        exact ⟨l, by rw [AO.ren_m64 hl]⟩
    · obtain ⟨i, hi, hHi⟩ := H0get k o h1
      obtain ⟨i', hi', hHi'⟩ := H0get k' o' h3
      rw [ρget k i hi] at h2
      rw [ρget k' i' hi'] at h4
      have := hh.apart i i' _ _ p p' b hHi h2 hHi' h4 ((AO.ren_own _ _ _ _).2 h5) ((AO.ren_own _ _ _ _).2 h6)
      subst this
      have hk := (List.getElem?_eq_some_iff.1 hi).1
      have hk' := (List.getElem?_eq_some_iff.1 hi').1
      exact (List.getElem?_inj hk hnd).1 (hi.trans hi'.symm)
  have up0 : ∀ b, Owned H0 ρ b → ∃ (i : Nat) (o : AO) (p : Pl), i ∈ σ ∧ H[i]? = some o ∧ ρ2[i]? = some p ∧ o.own p b := by
    rintro b ⟨k, o, p, ho, hpk, hb⟩
    obtain ⟨i, hi, hHi⟩ := H0get k o ho
    rw [ρget k i hi] at hpk
    exact ⟨i, _, p, List.mem_of_getElem? hi, hHi, hpk, (AO.ren_own _ _ _ _).2 hb⟩
  have hargs0 : All2 (AV.R ρ) args0 cargs := (All2.map_left.1 hargs).mono fun _ _ => AV.ren_in inn
  refine Calls.mono (h.2 ρ w cargs hh0 hargs0) ?_
  rintro e w' ⟨r, rc, H', ρ', rfl, hr, hrc, hext, hh'⟩
  let ρ2' : Rho := ρ2 ++ ρ'.drop σ.length
  have hl' : σ.length ≤ ρ'.length := by rw [← hρl]; exact hext.pre.length_le
  have out : ∀ (i : Nat) (p : Pl), ρ'[i]? = some p → ρ2'[g i]? = some p := by
    intro i p hi
    rcases Nat.lt_or_ge i σ.length with hl | hl
    · obtain ⟨j, hj⟩ : ∃ j, σ[i]? = some j := ⟨_, List.getElem?_eq_getElem hl⟩
      rw [gin i j hj]
      have hj2 : j < ρ2.length := by rw [hh.len]; exact (hpg i j hj).2
      rw [List.getElem?_append_left hj2, ← ρget i j hj, ← hi]
      obtain ⟨s, hs⟩ := hext.pre
      rw [← hs, List.getElem?_append_left (by rw [hρl]; exact hl)]
    · rw [gout i hl, List.getElem?_append_right (by rw [hh.len]; omega), hh.len, List.getElem?_drop]
      rw [show σ.length + (H.length + (i - σ.length) - H.length) = i by omega]
      exact hi
  have hlen' : H'.length = ρ'.length := hh'.len.symm
  -- an object of the new heap is one of the part's, or one outside
  have hos : σ.length ≤ (H'.map (AO.ren g)).length := by rw [List.length_map]; omega
  have objs : ∀ (i : Nat) (o : AO) (p : Pl), (updH σ H H')[i]? = some o → ρ2'[i]? = some p →
      (∃ k o', H'[k]? = some o' ∧ ρ'[k]? = some p ∧ o = o'.ren g ∧ i = g k) ∨ (i ∉ σ ∧ H[i]? = some o ∧ ρ2[i]? = some p) := by
    intro i o p ho hpi
    unfold updH at ho
    rcases Nat.lt_or_ge i H.length with hi | hi
    · rw [List.getElem?_append_left (by rw [updL_length]; exact hi)] at ho
      have hp2 : ρ2[i]? = some p := by
        rw [List.getElem?_append_left (by rw [hh.len]; exact hi)] at hpi
        exact hpi
      obtain ⟨u1, u2⟩ := updL_get hnd hos hσ i
      by_cases hm : i ∈ σ
      · obtain ⟨k, hk⟩ := List.getElem?_of_mem hm
        have hks := (List.getElem?_eq_some_iff.1 hk).1
        rw [u2 k hk, List.getElem?_map] at ho
        cases hq : H'[k]? with
        | none => rw [hq] at ho; cases ho
        | some o' =>
          rw [hq] at ho
          simp only [Option.map_some, Option.some.injEq] at ho
          refine .inl ⟨k, o', hq, ?_, ho.symm, (gin k i hk).symm⟩
          obtain ⟨s, hs⟩ := hext.pre
          rw [← hs, List.getElem?_append_left (by rw [hρl]; exact hks), ρget k i hk]
          exact hp2
      · rw [u1 hm] at ho
        exact .inr ⟨hm, ho, hp2⟩
    · rw [List.getElem?_append_right (by rw [updL_length]; exact hi), updL_length, List.getElem?_map, List.getElem?_drop] at ho
      rw [List.getElem?_append_right (by rw [hh.len]; exact hi), hh.len, List.getElem?_drop] at hpi
      cases hq : H'[σ.length + (i - H.length)]? with
      | none => rw [hq] at ho; cases ho
      | some o' =>
        rw [hq] at ho
        simp only [Option.map_some, Option.some.injEq] at ho
        refine .inl ⟨_, o', hq, hpi, ho.symm, ?_⟩
        rw [gout _ (by omega)]
        omega
  have objOf : ∀ (k : Nat) (o : AO), H'[k]? = some o → (updH σ H H')[g k]? = some (o.ren g) := by
    intro k o ho
    unfold updH
    rcases Nat.lt_or_ge k σ.length with hk | hk
    · obtain ⟨j, hj⟩ : ∃ j, σ[k]? = some j := ⟨_, List.getElem?_eq_getElem hk⟩
      rw [gin k j hj, List.getElem?_append_left (by rw [updL_length]; exact (hpg k j hj).2), (updL_get hnd hos hσ j).2 k hj, List.getElem?_map, ho]
      rfl
    · rw [gout k hk, List.getElem?_append_right (by rw [updL_length]; omega), updL_length, List.getElem?_map, List.getElem?_drop,
        show σ.length + (H.length + (k - σ.length) - H.length) = k by omega, ho]
      rfl
  have outside : ∀ (i : Nat) (o : AO) (p : Pl) (b : Nat), i ∉ σ → H[i]? = some o → ρ2[i]? = some p → o.own p b → ¬ Owned H0 ρ b ∧ b < w.heap.size := by
    intro i o p b hi ho hpi hb
    refine ⟨fun hown => ?_, (hh.rep i o p ho hpi).own_lt hb⟩
    obtain ⟨j, o', p', hj, ho', hp', hb'⟩ := up0 b hown
    have := hh.apart i j o o' p p' b ho hpi ho' hp' hb hb'
    subst this
    exact hi hj
  have notH' : ∀ b, b < w.heap.size → ¬ Owned H0 ρ b → ¬ Owned H' ρ' b := fun b hb hn ho => hn (hext.back b hb ho)
  refine ⟨r.ren g, rc, updH σ H H', ρ2', rfl, ⟨r, H', hr, rfl, rfl⟩, AV.ren_out out hrc, ?_, ?_⟩
  · refine ⟨List.prefix_append _ _, hext.size, hext.os, hext.tape, hext.output, fun b hb hn => hext.frame b hb fun ho => hn ?_, fun b hb ho => ?_⟩
    · obtain ⟨i, o, p, _, h1, h2, h3⟩ := up0 b ho
      exact ⟨i, o, p, h1, h2, h3⟩
    · obtain ⟨i, o, p, h1, h2, h3⟩ := ho
      rcases objs i o p h1 h2 with ⟨k, o', k1, k2, rfl, k4⟩ | ⟨k1, k2, k3⟩
      · rw [AO.ren_own] at h3
        obtain ⟨i, o, p, _, h1, h2, h3⟩ := up0 b (hext.back b hb ⟨k, o', p, k1, k2, h3⟩)
        exact ⟨i, o, p, h1, h2, h3⟩
      · exact ⟨i, o, p, k2, k3, h3⟩
  · refine ⟨?_, fun i o p h1 h2 => ?_, fun i m todo h1 => ?_, fun i j o o' p p' b h1 h2 h3 h4 h5 h6 => ?_⟩
    · simp only [updH, ρ2', List.length_append, updL_length, List.length_map, List.length_drop, hh.len, hlen']
    · rcases objs i o p h1 h2 with ⟨k, o', k1, k2, rfl, k4⟩ | ⟨k1, k2, k3⟩
      · exact AO.ren_out out (hh'.rep k o' p k1 k2)
      · refine AO.R.ext (List.prefix_append _ _) ((hh.rep i o p k2 k3).same hext.size (fun b hb => ?_) (fun m todo q e hq => ?_))
        · obtain ⟨q1, q2⟩ := outside i o p b k1 k2 k3 hb
          exact hext.frame b q2 q1
        · subst e
          obtain ⟨l, hl⟩ := hh.iter i m todo k2
          have hm : m ∉ σ := fun hm => k1 (by have := noOut_spec hno i m todo k2 hm; rwa [Nat.zero_add] at this)
          obtain ⟨q1, q2⟩ := outside m _ q q.b hm hl hq rfl
          exact hext.frame q.b q2 q1
    · have hi2 : i < ρ2'.length := by
        have := (List.getElem?_eq_some_iff.1 h1).1
        simp only [updH, List.length_append, updL_length, List.length_map, List.length_drop] at this
        simp only [ρ2', List.length_append, List.length_drop, hh.len]
        omega
      rcases objs i _ _ h1 (List.getElem?_eq_getElem hi2) with ⟨k, o', k1, k2, k3, k4⟩ | ⟨k1, k2, k3⟩
      · obtain ⟨m0, rfl, rfl⟩ := AO.ren_it k3.symm
        obtain ⟨l, hl⟩ := hh'.iter k m0 todo k1
        exact ⟨l, objOf m0 _ hl⟩
      · obtain ⟨l, hl⟩ := hh.iter i m todo k2
        have hm : m ∉ σ := fun hm => k1 (by have := noOut_spec hno i m todo k2 hm; rwa [Nat.zero_add] at this)
        refine ⟨l, ?_⟩
        unfold updH
        rw [List.getElem?_append_left (by rw [updL_length]; exact (List.getElem?_eq_some_iff.1 hl).1), (updL_get hnd hos hσ m).1 hm]
        exact hl
    · rcases objs i o p h1 h2 with ⟨k, o1, k1, k2, rfl, k4⟩ | ⟨k1, k2, k3⟩ <;> rcases objs j o' p' h3 h4 with ⟨l, o2, l1, l2, rfl, l4⟩ | ⟨l1, l2, l3⟩
      · rw [AO.ren_own] at h5 h6
        have := hh'.apart k l o1 o2 p p' b k1 k2 l1 l2 h5 h6
        rw [k4, l4, this]
      · rw [AO.ren_own] at h5
        obtain ⟨q1, q2⟩ := outside j o' p' b l1 l2 l3 h6
        exact (notH' b q2 q1 ⟨k, o1, p, k1, k2, h5⟩).elim
      · rw [AO.ren_own] at h6
        obtain ⟨q1, q2⟩ := outside i o p b k1 k2 k3 h5
        exact (notH' b q2 q1 ⟨l, o2, p', l1, l2, h6⟩).elim
      · exact hh.apart i j o o' p p' b k2 k3 l2 l3 h5 h6

/-- What is to be shown next. (A structure, so that nothing unfolds it by the way.) -/
structure Go1 (p : Prop) : Prop where
  go : p
theorem call_go {E : Ev} (hE : E = realE P) {f : FuncId} {args : List AV} {H : List AO} {R K : AV → List AO → Prop} (h : AC P f args H R) (hk : ∀ r H', R r H' → Go1 (K r H')) : E.call f args H K :=
  call_of hE h fun r H' hr => (hk r H' hr).go
/-- The same, the result and the heap named. -/
theorem call_subE {E : Ev} (hE : E = realE P) {f : FuncId} {args0 args : List AV} {H0 H : List AO} {R K : AV → List AO → Prop} (σ : List Nat) (h : AC P f args0 H0 R) (hnd : nodupB σ = true) (hno : noOut σ 0 H = true)
    (hp : pickL H σ = some (H0.map (AO.ren (gI σ H.length)))) (ha : args = args0.map (AV.ren (gI σ H.length)))
    (hk : ∀ r H', R r H' → ∀ r2 H2, r2 = r.ren (gI σ H.length) → H2 = updH σ H H' → Go1 (K r2 H2)) : E.call f args H K := by
  subst ha
  refine call_of hE (AC_sub h σ H hnd hno hp) ?_
  rintro r2 H2 ⟨r, H', hr, h1, h2⟩
  exact (hk r H' hr r2 H2 h1 h2).go
/-- A call, from a contract over a part of the heap. -/
theorem call_sub {E : Ev} (hE : E = realE P) {f : FuncId} {args0 args : List AV} {H0 H : List AO} {R K : AV → List AO → Prop} (σ : List Nat) (h : AC P f args0 H0 R) (hnd : nodupB σ = true) (hno : noOut σ 0 H = true)
    (hp : pickL H σ = some (H0.map (AO.ren (gI σ H.length)))) (ha : args = args0.map (AV.ren (gI σ H.length)))
    (hk : ∀ r H', R r H' → Go1 (K (r.ren (gI σ H.length)) (updH σ H H'))) : E.call f args H K := by
  subst ha
  refine call_of hE (AC_sub h σ H hnd hno hp) ?_
  rintro r2 H2 ⟨r, H', hr, rfl, rfl⟩
  exact (hk r H' hr).go
end
end Bm
