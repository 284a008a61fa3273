/- Rules for a walk. -/
import Derived.Test.YtdboiflfehpjhaaAmR
set_option linter.unusedVariables false
set_option linter.unusedSimpArgs false
namespace Am
open Go
section
variable {P : Program} {T : TypeId → TI} {E : Ev}
theorem get_of (hE : E = realE P) {l : List SV} {i : Nat} {K : SV → Prop} (x : SV) (h : l[i]? = some x) (k : K x) : E.get l i K := by subst hE; exact ⟨x, h, k⟩
theorem sub_of (hE : E = realE P) {l : List SV} {i n : Nat} {K : List SV → Prop} (cs : List SV) (h : subL l i n = some cs) (k : K cs) : E.sub l i n K := by subst hE; exact ⟨cs, h, k⟩
theorem next_of (hE : E = realE P) {todo : List (Int × Int)} {K : Option ((Int × Int) × List (Int × Int)) → Prop} (h0 : todo = [] → K none) (h1 : ∀ k v rest, todo.Perm ((k, v) :: rest) → K (some ((k, v), rest))) : E.next todo K := by
  subst hE; exact ⟨h0, fun e rest h => h1 e.1 e.2 rest h⟩

/-- A call, told of less. -/
theorem call_wk (hE : E = realE P) {f : FuncId} {args args' : List AV} {H H' : List AO} {R K : AV → List AO → Prop} (hw : Wk H.length args H args' H') (h : AC P f args' H' R) (hk : ∀ r H'', R r H'' → Go1 (K r H'')) : E.call f args H K := by
  refine call_of hE (R := R) ⟨h.1, fun ρ w cargs hh ha => ?_⟩ (fun r H'' h => (hk r H'' h).go)
  obtain ⟨ρ1, h1, h2, h3, h4, h5⟩ := hw ρ w cargs hh ha (Nat.le_of_eq hh.len.symm)
  refine Calls.mono (h.2 ρ1 w cargs h1 h2) ?_
  rintro e w' ⟨r, rc, H2, ρ2, e1, e2, e3, e4, e5⟩
  refine ⟨r, rc, H2, ρ2, e1, e2, e3, ?_, e5⟩
  rw [List.take_of_length_le (Nat.le_of_eq hh.len)] at h3
  exact ⟨h3.trans e4.pre, e4.size, e4.os, e4.tape, e4.output, fun b hb hn => e4.frame b hb fun ho => hn (h5 b ho), fun b hb ho => h5 b (e4.back b hb ho)⟩

/-- The nil slice is a slice with nothing in it. -/
def nilS (j : Nat) : SV → SV → Prop := fun x y => y = x ∨ (x = .nils ∧ y = .vec j 0)
def nilV (j : Nat) : AV → AV → Prop
  | .c (.s x), .c (.s y) => nilS j x y
  | .c (.agg l), .c (.agg m) => All2 (nilS j) l m
  | x, y => y = x
def nilO (j : Nat) : AO → AO → Prop
  | .cells l t, .cells m u => All2 (nilS j) l m ∧ u = t
  | x, y => y = x
theorem nilS_R {j : Nat} {ρ : Rho} (hj : ρ.length = j) {x y : SV} (h : nilS j x y) {v : Value} (hx : x.R ρ v) : y.R (ρ ++ [{ b := 0, nil := true }]) v := by
  rcases h with rfl | ⟨rfl, rfl⟩
  · exact hx.ext (List.prefix_append _ _)
  · exact ⟨{ b := 0, nil := true }, by rw [← hj]; simp, .inl ⟨rfl, rfl, hx⟩⟩
theorem All2.trans3 {α β γ : Type} {R : α → β → Prop} {S : α → γ → Prop} {U : β → γ → Prop} (h : ∀ x y z, R x y → S x z → U y z) : ∀ {l : List α} {m : List β} {n : List γ}, All2 R l m → All2 S l n → All2 U m n
  | [], [], [], _, _ => trivial
  | _ :: _, _ :: _, _ :: _, ⟨a, b⟩, ⟨c, d⟩ => ⟨h _ _ _ a c, All2.trans3 h b d⟩
  | [], [], _ :: _, _, h => h.elim
  | [], _ :: _, _, h, _ => h.elim
  | _ :: _, [], _, h, _ => h.elim
  | _ :: _, _ :: _, [], _, h => h.elim
theorem nilV_R {j : Nat} {ρ : Rho} (hj : ρ.length = j) {x y : AV} (h : nilV j x y) {v : Value} (hx : x.R ρ v) : y.R (ρ ++ [{ b := 0, nil := true }]) v := by
  unfold nilV at h
  split at h
  · exact nilS_R hj h hx
  · obtain ⟨cs, h1, e⟩ := hx
    exact ⟨cs, All2.trans3 (R := nilS _) (S := SV.R ρ) (U := SV.R (ρ ++ [{ b := 0, nil := true }])) (fun _ _ _ a b => nilS_R hj a b) h h1, e⟩
  · subst h; exact hx.ext (List.prefix_append _ _)
theorem Wk_nils {n0 : Nat} {t t' : List AV} {H H' : List AO} (te : TypeId) (n : Nat) (hn : n0 ≤ H.length) (ht : All2 (nilV H.length) t t') (hH : All2 (nilO H.length) H H') : Wk n0 t H t' (H' ++ [.vec [] te n]) := by
  intro ρ w tm hh htm hl
  have hlen := hH.length
  have hpre : ρ <+: ρ ++ [({ b := 0, nil := true } : Pl)] := List.prefix_append _ _
  have back : ∀ {i : Nat} {o : AO} {p : Pl}, (H' ++ [.vec [] te n])[i]? = some o → (ρ ++ [({ b := 0, nil := true } : Pl)])[i]? = some p →
      (∃ o0, H[i]? = some o0 ∧ nilO H.length o0 o ∧ ρ[i]? = some p) ∨ (o = .vec [] te n ∧ p = { b := 0, nil := true }) := by
    intro i o p ho hp
    rcases get_push ho with ⟨hi, ho⟩ | ⟨hi, rfl⟩
    · rw [List.getElem?_append_left (by rw [hh.len]; omega)] at hp
      obtain ⟨o0, h0, hr⟩ := hH.get' ho
      exact .inl ⟨o0, h0, hr, hp⟩
    · rw [hi, ← hlen, ← hh.len] at hp
      simp at hp
      exact .inr ⟨rfl, hp.symm⟩
  have blk : ∀ {o0 o : AO} {p : Pl}, nilO H.length o0 o → o.blk p = o0.blk p := by
    intro o0 o p h
    unfold nilO at h
    split at h
    · rfl
    · rw [h]
  have it : ∀ {o0 : AO} {m : Nat} {todo : Todo}, nilO H.length o0 (.it64 m todo) → o0 = .it64 m todo := by
    intro o0 m todo h
    unfold nilO at h
    split at h
    · rename_i e; cases e
    · exact h.symm
  have own : ∀ b, Owned (H' ++ [.vec [] te n]) (ρ ++ [({ b := 0, nil := true } : Pl)]) b → Owned H ρ b := by
    rintro b ⟨i, o, p, ho, hp, hb⟩
    rcases back ho hp with ⟨o0, h0, hr, hp⟩ | ⟨rfl, rfl⟩
    · exact ⟨i, o0, p, h0, hp, by rw [← blk hr]; exact hb⟩
    · simp [AO.blk] at hb
  refine ⟨ρ ++ [{ b := 0, nil := true }], ⟨by simp [hh.len, hlen], fun i o p ho hp => ?_, fun i m todo ho => ?_, fun i j o o' p p' b h1 h2 h3 h4 h5 h6 => ?_⟩, All2.trans3 (R := nilV _) (S := AV.R ρ) (U := AV.R (ρ ++ [{ b := 0, nil := true }])) (fun _ _ _ a b => nilV_R hh.len a b) ht htm, (List.take_prefix _ _).trans hpre, by simp; omega, own⟩
  · rcases back ho hp with ⟨o0, h0, hr, hp⟩ | ⟨rfl, rfl⟩
    · have hR := hh.rep i o0 p h0 hp
      unfold nilO at hr
      split at hr
      · obtain ⟨z, cs, hc, e⟩ := hR
        obtain ⟨hr, rfl⟩ := hr
        exact ⟨z, cs, All2.trans3 (R := nilS _) (S := SV.R ρ) (U := SV.R (ρ ++ [{ b := 0, nil := true }])) (fun _ _ _ a b => nilS_R hh.len a b) hr hc, e⟩
      · subst hr; exact hR.ext hpre
    · simp [AO.R]
  · rcases get_push ho with ⟨hi, ho⟩ | ⟨_, e⟩
    · obtain ⟨o0, h0, hr⟩ := hH.get' ho
      have := it hr
      subst this
      obtain ⟨l, hl⟩ := hh.iter i m todo h0
      obtain ⟨o1, h1, hr1⟩ := hH.get hl
      refine ⟨l, ?_⟩
      rw [List.getElem?_append_left (List.getElem?_eq_some_iff.1 h1).1, h1]
      unfold nilO at hr1
      split at hr1
      · rename_i e; cases e
      · rw [hr1]
    · cases e
  · rcases back h1 h2 with ⟨o0, a0, ar, ap⟩ | ⟨rfl, rfl⟩
    · rcases back h3 h4 with ⟨o1, b0, br, bp⟩ | ⟨rfl, rfl⟩
      · exact hh.apart i j o0 o1 p p' b a0 ap b0 bp (by rw [← blk ar]; exact h5) (by rw [← blk br]; exact h6)
      · simp [AO.blk] at h6
    · simp [AO.blk] at h5
theorem All2.same {α : Type} {R : α → α → Prop} (h : ∀ x, R x x) : ∀ (l : List α), All2 R l l
  | [] => trivial
  | x :: l => ⟨h x, All2.same h l⟩
theorem nilV_refl (j : Nat) (x : AV) : nilV j x x := by
  cases x with
  | c y =>
    cases y with
    | s y => exact .inl rfl
    | agg l => exact All2.same (fun _ => .inl rfl) l
  | tup l => exact rfl
  | any => exact rfl
theorem nilO_refl (j : Nat) (x : AO) : nilO j x x := by
  cases x with
  | cells l t => exact ⟨All2.same (fun _ => .inl rfl) l, rfl⟩
  | _ => exact rfl
/-- The nil slice of a temporary. -/
theorem Wk_nilT {n0 : Nat} {t : List AV} {H : List AO} (k : Nat) (te : TypeId) (n : Nat) (hn : n0 ≤ H.length) (hk : t[k]? = some (sv .nils)) : Wk n0 t H (t.set k (sv (.vec H.length 0))) (H ++ [.vec [] te n]) := by
  refine Wk_nils te n hn ?_ (All2.same (nilO_refl _) H)
  refine All2.of_get (by simp) fun i x y hx hy => ?_
  rcases get_set hy with ⟨rfl, _, rfl⟩ | ⟨_, hy⟩
  · rw [hk] at hx; cases hx; exact .inr ⟨rfl, rfl⟩
  · rw [hx] at hy; cases hy; exact nilV_refl _ _
end
end Am
