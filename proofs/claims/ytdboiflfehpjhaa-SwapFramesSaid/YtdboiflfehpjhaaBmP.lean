/- Structs of whole numbers and bools are compared cell by cell. -/
import Derived.Test.YtdboiflfehpjhaaBmO
import Derived.Laws.StructEq
set_option linter.unusedVariables false
set_option linter.unusedSimpArgs false
namespace Bm
open Go
def eqFs (rec : TypeId → List SV → Bool) (P : Program) : List Field → Nat → List SV → Bool
  | [], _, zs => zs.isEmpty
  | fl :: r, off, zs => fl.name != "_" && Nat.beq fl.offset off && (match P.info? fl.type with
    | some inf => Nat.blt 0 inf.size && Nat.ble inf.size zs.length && (match P.underlying fl.type with
      | some d => isAggD d || Nat.beq inf.size 1
      | none => false) && rec fl.type (zs.take inf.size) && eqFs rec P r (off + inf.size) (zs.drop inf.size)
    | none => false)
def eqT (P : Program) : Nat → TypeId → List SV → Bool
  | 0, _, _ => false
  | f + 1, t, zs => match P.underlying t with
    | some (.int _) => (match zs with | [.int _ _] => true | _ => false)
    | some .bool => (match zs with | [.bool _] => true | _ => false)
    | some (.struct fs) => !P.stoodInHeld t && eqFs (eqT P f) P fs.toList 0 zs
    | _ => false
def eqtabB (P : Program) : List (Nat × TI) → Bool
  | [] => true
  | (t, i) :: r => (!i.eqok || (eqT P 8 t i.zero && (match P.underlying t with | some (.struct _) => true | _ => false) && !P.eqGuardType P.depth t)) && eqtabB P r
theorem kindsLike_len : ∀ {z a : List SV}, kindsLike z a = true → a.length = z.length
  | [], [], _ => rfl
  | .int k _ :: z, .int k' _ :: a, h => by
    simp only [kindsLike] at h
    split at h
    · simp [kindsLike_len h]
    · cases h
  | .bool _ :: z, .bool _ :: a, h => by simp only [kindsLike] at h; simp [kindsLike_len h]
  | [], _ :: _, h => by simp [kindsLike] at h
  | .int _ _ :: _, [], h => by simp [kindsLike] at h
  | .bool _ :: _, [], h => by simp [kindsLike] at h
  | .int _ _ :: _, x :: _, h => by cases x <;> simp [kindsLike] at h <;> exact (by split at h <;> first | (simp [kindsLike_len h]) | cases h)
  | .bool _ :: _, x :: _, h => by cases x <;> simp [kindsLike] at h <;> simp [kindsLike_len h]
  | .ptr _ _ :: _, _, h => by simp [kindsLike] at h
  | .fptr _ _ _ :: _, _, h => by simp [kindsLike] at h
  | .nilp :: _, _, h => by simp [kindsLike] at h
  | .sl _ _ _ :: _, _, h => by simp [kindsLike] at h
  | .vec _ _ :: _, _, h => by simp [kindsLike] at h
  | .nils :: _, _, h => by simp [kindsLike] at h
  | .mp _ :: _, _, h => by simp [kindsLike] at h
  | .nilm :: _, _, h => by simp [kindsLike] at h
  | .nilf :: _, _, h => by simp [kindsLike] at h
  | .fn _ _ :: _, _, h => by simp [kindsLike] at h
  | .yld _ :: _, _, h => by simp [kindsLike] at h
  | .raw _ :: _, _, h => by simp [kindsLike] at h
/-- Its first cell. -/
theorem kindsLike_cons {z0 : SV} {z a : List SV} (h : kindsLike (z0 :: z) a = true) : ∃ a0 a', a = a0 :: a' ∧ kindsLike z a' = true ∧ ((∃ k m n, z0 = .int k m ∧ a0 = .int k n) ∨ ∃ b c, z0 = .bool b ∧ a0 = .bool c) := by
  have hl := kindsLike_len h
  match a, hl with
  | a0 :: a', _ =>
    refine ⟨a0, a', rfl, ?_⟩
    cases z0 <;> cases a0 <;> simp [kindsLike] at h
    · split at h
      · rename_i hk; have := kindBeq_eq hk; subst this; exact ⟨h, .inl ⟨_, _, _, rfl, rfl⟩⟩
      · cases h
    · exact ⟨h, .inr ⟨_, _, rfl, rfl⟩⟩
theorem kindsLike_take : ∀ (n : Nat) {z a : List SV}, kindsLike z a = true → kindsLike (z.take n) (a.take n) = true ∧ kindsLike (z.drop n) (a.drop n) = true
  | 0, z, a, h => ⟨by simp [kindsLike], by simpa using h⟩
  | n + 1, [], a, h => by
    have := kindsLike_len h
    have : a = [] := List.eq_nil_of_length_eq_zero (by simpa using this)
    subst this
    exact ⟨by simp [kindsLike], by simp [kindsLike]⟩
  | n + 1, z0 :: z, a, h => by
    obtain ⟨a0, a', rfl, h1, h2⟩ := kindsLike_cons h
    obtain ⟨i1, i2⟩ := kindsLike_take n h1
    refine ⟨?_, by simpa using i2⟩
    simp only [List.take_succ_cons]
    rcases h2 with ⟨k, m, q, rfl, rfl⟩ | ⟨b, c, rfl, rfl⟩
    · have : kindBeq k k = true := by cases k <;> rfl
      simp [kindsLike, this, i1]
    · simp [kindsLike, i1]
theorem eqsL_split : ∀ (n : Nat) {z a b : List SV}, kindsLike z a = true → kindsLike z b = true → eqsL a b = (eqsL (a.take n) (b.take n) && eqsL (a.drop n) (b.drop n))
  | 0, z, a, b, _, _ => by simp [eqsL]
  | n + 1, [], a, b, ha, hb => by
    have ha := List.eq_nil_of_length_eq_zero (by simpa using kindsLike_len ha)
    have hb := List.eq_nil_of_length_eq_zero (by simpa using kindsLike_len hb)
    subst ha; subst hb
    simp [eqsL]
  | n + 1, z0 :: z, a, b, ha, hb => by
    obtain ⟨a0, a', rfl, h1, h2⟩ := kindsLike_cons ha
    obtain ⟨b0, b', rfl, h3, h4⟩ := kindsLike_cons hb
    have ih := eqsL_split n h1 h3
    rcases h2 with ⟨k, m, q, rfl, rfl⟩ | ⟨x, y, rfl, rfl⟩
    · rcases h4 with ⟨k', m', q', e, rfl⟩ | ⟨x, y, e, rfl⟩
      · simp [eqsL, ih, Bool.and_assoc]
      · cases e
    · rcases h4 with ⟨k', m', q', e, rfl⟩ | ⟨x', y', e, rfl⟩
      · cases e
      · simp [eqsL, ih, Bool.and_assoc]
section
variable {P : Program} {ρ : Rho}
theorem subL_take {α : Type} : ∀ {l : List α} {off n : Nat}, off + n ≤ l.length → subL l off n = some ((l.drop off).take n)
  | l, off, 0, _ => by cases l <;> cases off <;> simp [subL]
  | x :: l, 0, n + 1, h => by
    have := subL_take (l := l) (off := 0) (n := n) (by simp at h ⊢; omega)
    simp [subL, this]
  | x :: l, off + 1, n + 1, h => by
    have := subL_take (l := l) (off := off) (n := n + 1) (by simp at h ⊢; omega)
    simp [subL, this]
  | [], off, n + 1, h => by simp at h
theorem eqFs_sound {rec : TypeId → List SV → Bool} {d : Nat} (hrec : ∀ (t : TypeId) (zs a b : List SV) (g : Bool) (vx vy : Value) (w : World), rec t zs = true → kindsLike zs a = true → kindsLike zs b = true → (∃ d', P.underlying t = some d' ∧ isAggD d' = g) →
      (ofCells g a).R ρ vx → (ofCells g b).R ρ vy → (Op.equalIn d t vx vy).run P w = .ok (eqsL a b) w) (w : World) {a b : List SV} {xs ys : List Value} (hx : All2 (SV.R ρ) a xs) (hy : All2 (SV.R ρ) b ys) :
    ∀ (fs : List Field) (off : Nat) (zs : List SV), eqFs rec P fs off zs = true → kindsLike zs (a.drop off) = true → kindsLike zs (b.drop off) = true → (Op.eqFields d xs.toArray ys.toArray fs).run P w = .ok (eqsL (a.drop off) (b.drop off)) w
  | [], off, zs, h, ha, hb => by
    have hz : zs = [] := by simpa [eqFs] using h
    subst hz
    have ha : a.drop off = [] := List.eq_nil_of_length_eq_zero (kindsLike_len ha)
    have hb : b.drop off = [] := List.eq_nil_of_length_eq_zero (kindsLike_len hb)
    simp [Op.eqFields, ha, hb, eqsL]
  | fl :: fs, off, zs, h, ha, hb => by
    simp only [eqFs, Bool.and_eq_true, bne_iff_ne, ne_eq] at h
    obtain ⟨⟨h1, h2⟩, h3⟩ := h
    have e2 := Nat_beq h2
    split at h3
    · rename_i inf hinf
      simp only [Bool.and_eq_true] at h3
      obtain ⟨⟨⟨⟨p1, p2⟩, p3⟩, p4⟩, p5⟩ := h3
      split at p3
      · rename_i d' hd'
        have hn : inf.size ≤ zs.length := Nat.le_of_ble_eq_true p2
        have hn0 : 0 < inf.size := Nat.le_of_ble_eq_true p1
        have la := kindsLike_len ha
        have lb := kindsLike_len hb
        simp only [List.length_drop] at la lb
        have sa : subL a off inf.size = some ((a.drop off).take inf.size) := subL_take (by omega)
        have sb : subL b off inf.size = some ((b.drop off).take inf.size) := subL_take (by omega)
        have h1' : isAggD d' = false → inf.size = 1 := fun hg => by
          rw [hg] at p3
          simp only [Bool.false_or] at p3
          exact Nat_beq p3
        obtain ⟨va, ra, Ra⟩ := part_sound (w := w) (g := isAggD d') ⟨inf, hinf, rfl⟩ ⟨d', hd', rfl⟩ hx sa h1'
        obtain ⟨vb, rb, Rb⟩ := part_sound (w := w) (g := isAggD d') ⟨inf, hinf, rfl⟩ ⟨d', hd', rfl⟩ hy sb h1'
        obtain ⟨t1, t2⟩ := kindsLike_take inf.size ha
        obtain ⟨t3, t4⟩ := kindsLike_take inf.size hb
        have he := hrec fl.type _ _ _ _ va vb w p4 t1 t3 ⟨d', hd', rfl⟩ Ra Rb
        have ih := eqFs_sound hrec w hx hy fs (off + inf.size) (zs.drop inf.size) p5 (by simpa [List.drop_drop, Nat.add_comm] using t2) (by simpa [List.drop_drop, Nat.add_comm] using t4)
        rw [eqsL_split inf.size ha hb]
        simp only [Op.eqFields, if_pos h1, e2, Sem.run_bind, ra, rb, Result.andThen_ok, he]
        cases hq : eqsL ((a.drop off).take inf.size) ((b.drop off).take inf.size) with
        | false => simp
        | true =>
          simp only [Bool.not_true, Bool.false_eq_true, if_false, Bool.true_and, List.drop_drop]
          exact ih
      · cases p3
    · cases h3
theorem eqT_sound (k : Nat) : ∀ (f : Nat) (t : TypeId) (zs a b : List SV) (g : Bool) (vx vy : Value) (w : World), eqT P f t zs = true → kindsLike zs a = true → kindsLike zs b = true → (∃ d', P.underlying t = some d' ∧ isAggD d' = g) →
      (ofCells g a).R ρ vx → (ofCells g b).R ρ vy → (Op.equalIn (k + f) t vx vy).run P w = .ok (eqsL a b) w
  | 0, t, zs, a, b, g, vx, vy, w, h, _, _, _, _, _ => by cases h
  | f + 1, t, zs, a, b, g, vx, vy, w, h, ha, hb, ⟨d', hd', hg⟩, hx, hy => by
    simp only [eqT, hd'] at h
    split at h
    · rename_i q heq
      cases heq
      cases hg
      split at h
      · obtain ⟨a0, a', rfl, h1, h2⟩ := kindsLike_cons ha
        obtain ⟨b0, b', rfl, h3, h4⟩ := kindsLike_cons hb
        have ha' := List.eq_nil_of_length_eq_zero (by simpa using kindsLike_len h1)
        have hb' := List.eq_nil_of_length_eq_zero (by simpa using kindsLike_len h3)
        subst ha'; subst hb'
        rcases h2 with ⟨k1, m1, n1, e1, rfl⟩ | ⟨_, _, e1, _⟩
        · rcases h4 with ⟨k2, m2, n2, e2, rfl⟩ | ⟨_, _, e2, _⟩
          · cases e1
            cases e2
            have ex : vx = .int _ n1 := hx
            have ey : vy = .int _ n2 := hy
            rw [ex, ey, show k + (f + 1) = (k + f) + 1 by omega, run_equalIn_int w _ _ _ _ _ _ hd']
            simp [eqsL]
          · cases e1; cases e2
        · cases e1
      · cases h
    · rename_i heq
      cases heq
      cases hg
      split at h
      · obtain ⟨a0, a', rfl, h1, h2⟩ := kindsLike_cons ha
        obtain ⟨b0, b', rfl, h3, h4⟩ := kindsLike_cons hb
        have ha' := List.eq_nil_of_length_eq_zero (by simpa using kindsLike_len h1)
        have hb' := List.eq_nil_of_length_eq_zero (by simpa using kindsLike_len h3)
        subst ha'; subst hb'
        rcases h2 with ⟨_, _, _, e1, _⟩ | ⟨_, n1, e1, rfl⟩
        · cases e1
        · rcases h4 with ⟨_, _, _, e2, _⟩ | ⟨_, n2, e2, rfl⟩
          · cases e2
          · have ex : vx = .bool n1 := hx
            have ey : vy = .bool n2 := hy
            rw [ex, ey, show k + (f + 1) = (k + f) + 1 by omega, run_equalIn_bool' w _ _ _ _ hd']
            simp [eqsL]
      · cases h
    · rename_i fs heq
      cases heq
      cases hg
      simp only [Bool.and_eq_true, Bool.not_eq_true'] at h
      obtain ⟨xs, hxs, rfl⟩ := hx
      obtain ⟨ys, hys, rfl⟩ := hy
      have hf : P.fieldsOf t = fs := by simp [Program.fieldsOf, hd']
      rw [show k + (f + 1) = (k + f) + 1 by omega, run_equalIn_struct w (k + f) t _ _ (by rw [hf]; exact hd') h.1, hf]
      exact eqFs_sound (rec := eqT P f) (fun t zs a b g vx vy w => eqT_sound k f t zs a b g vx vy w) w hxs hys fs.toList 0 zs h.2 (by simpa using ha) (by simpa using hb)
    · cases h
theorem eqtab_mem : ∀ {tab : List (Nat × TI)}, eqtabB P tab = true → ∀ t, (tlook tab t).eqok = true → eqT P 8 t (tlook tab t).zero = true ∧ (∃ fs, P.underlying t = some (.struct fs)) ∧ P.eqGuardType P.depth t = false
  | [], _, t, h => by cases h
  | (k, i) :: r, hb, t, h => by
    simp only [eqtabB, Bool.and_eq_true] at hb
    simp only [tlook] at h ⊢
    split at h
    · rename_i hk
      have := Nat_beq hk
      subst this
      have h1 := hb.1
      simp only [h, Bool.not_true, Bool.false_or, Bool.and_eq_true, Bool.not_eq_true'] at h1
      obtain ⟨⟨h1, h2⟩, h3⟩ := h1
      refine ⟨h1, ?_, h3⟩
      split at h2
      · rename_i fs hfs; exact ⟨fs, hfs⟩
      · cases h2
    · rename_i hk
      exact eqtab_mem hb.2 t h
/-- **The table is right, if the two checks say so.** -/
theorem TyOk_eq {tab : List (Nat × TI)} (h : tabB P (tlook tab) tab = true) (he : eqtabB P tab = true) : TyOk P (tlook tab) :=
  TyOk_of h fun t ht w a b xs ys ρ ha hb hx hy => by
    obtain ⟨h1, ⟨fs, h2⟩, h3⟩ := eqtab_mem he t ht
    exact ⟨eqT_sound 9992 8 t _ a b true _ _ w h1 ha hb ⟨_, h2, rfl⟩ ⟨xs, hx, rfl⟩ ⟨ys, hy, rfl⟩, h3⟩
end
end Bm
