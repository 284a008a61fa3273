/- append, onto a slice that the abstract heap owns. -/
import Derived.Test.YtdboiflfehpjhaaBmG
import Derived.Laws.Append
import Derived.Laws.AppendOwn
import Derived.Laws.OwnMore
import Derived.Maps.AppendAt
set_option linter.unusedVariables false
set_option linter.unusedSimpArgs false
namespace Bm
open Go
section
variable {P : Program} {T : TypeId → TI} {ρ : Rho} {w : World} {H : List AO}

theorem pushed' {p : Pl} (hp : ρ.length = H.length) : (ρ ++ [p])[H.length]? = some p := by rw [← hp]; simp
theorem toPVs_map : ∀ {l : List SV} {ps : List PV}, toPVs l = some ps → l = ps.map PV.sv
  | [], ps, h => by cases h; rfl
  | .int k n :: r, ps, h => by
    simp only [toPVs] at h
    split at h
    · rename_i l hl; cases h; rw [toPVs_map hl]; rfl
    · cases h
  | .bool b :: r, ps, h => by
    simp only [toPVs] at h
    split at h
    · rename_i l hl; cases h; rw [toPVs_map hl]; rfl
    · cases h
  | .raw v :: r, ps, h => by
    simp only [toPVs] at h
    split at h
    · rename_i l hl; cases h; rw [toPVs_map hl]; rfl
    · cases h
  | .ptr _ _ :: _, _, h => by simp [toPVs] at h
  | .fptr _ _ _ :: _, _, h => by simp [toPVs] at h
  | .nilp :: _, _, h => by simp [toPVs] at h
  | .sl _ _ _ :: _, _, h => by simp [toPVs] at h
  | .vec _ _ :: _, _, h => by simp [toPVs] at h
  | .nils :: _, _, h => by simp [toPVs] at h
  | .mp _ :: _, _, h => by simp [toPVs] at h
  | .nilm :: _, _, h => by simp [toPVs] at h
  | .nilf :: _, _, h => by simp [toPVs] at h
  | .fn _ _ :: _, _, h => by simp [toPVs] at h
  | .yld _ :: _, _, h => by simp [toPVs] at h
theorem vcOf_svs (l : List SV) : (vcOf l).svs = l := by
  unfold vcOf
  split
  · rename_i ps h; exact (toPVs_map h).symm
  · split
    · rfl
    · rfl
/-- What a slice shows. -/
theorem contA_sound (hh : Holds H ρ w) {esz : Nat} {x : AV} {y : Value} (hx : x.R ρ y) {K : Nat → VC → Prop} (h : contA (realE P) H esz x K) :
    ∃ (m : Nat) (new : VC) (ys : List Value), K m new ∧ All2 (SV.R ρ) new.svs ys ∧ ((y = .slice none 0 0 ∧ (m = 0 ∨ new.svs = [])) ∨ ∃ a c, y = .slice (some a) m c ∧ ∀ j u, ys[j]? = some u → w.cell? (a.add j) = some u) := by
  have fromView : ∀ (o : AO) (i off : Nat) (l cs : List SV) (mm : Nat), H[i]? = some o → o.view = some l → subL l off (mm * esz) = some cs → (sv (.sl i off mm)).R ρ y →
      ∃ ys : List Value, All2 (SV.R ρ) cs ys ∧ ((y = .slice none 0 0 ∧ (mm = 0 ∨ cs = [])) ∨ ∃ a c, y = .slice (some a) mm c ∧ ∀ j u, ys[j]? = some u → w.cell? (a.add j) = some u) := by
    intro o i off l cs mm ho hv hs hR
    obtain ⟨p, a, cap, hp, rfl, hle, ha, hn⟩ := hR
    obtain ⟨ds, hd, hc⟩ := (hh.rep i o p ho hp).view hv
    obtain ⟨es, he, hr⟩ := All2.subL hd hs
    obtain ⟨hl, hg⟩ := subL_spec he
    cases a with
    | none =>
      have := hn rfl
      subst this
      have : mm = 0 := by omega
      subst this
      exact ⟨es, hr, .inl ⟨rfl, .inl rfl⟩⟩
    | some a =>
      refine ⟨es, hr, .inr ⟨a, cap, rfl, fun j u hj => ?_⟩⟩
      have hjl : j < mm * esz := by rw [← hl]; exact (List.getElem?_eq_some_iff.1 hj).1
      have hm : 0 < mm := by
        rcases Nat.eq_zero_or_pos mm with h0 | h0
        · subst h0; simp at hjl
        · exact h0
      have := ha hm
      cases this
      rw [hg j hjl] at hj
      rw [add_place, Nat.add_assoc]
      exact hc _ _ hj
  have fromV : ∀ (o : AO) (i off mm : Nat) (c : VC), H[i]? = some o → o.view = some c.svs → contV (realE P) esz c off mm K → (sv (.sl i off mm)).R ρ y →
      ∃ (m : Nat) (new : VC) (ys : List Value), K m new ∧ All2 (SV.R ρ) new.svs ys ∧ ((y = .slice none 0 0 ∧ (m = 0 ∨ new.svs = [])) ∨ ∃ a c, y = .slice (some a) m c ∧ ∀ j u, ys[j]? = some u → w.cell? (a.add j) = some u) := by
    intro o i off mm c ho hv h hx
    have fin : ∀ c' : VC, subL c.svs off (mm * esz) = some c'.svs → K mm c' → ∃ (m : Nat) (new : VC) (ys : List Value), K m new ∧ All2 (SV.R ρ) new.svs ys ∧ ((y = .slice none 0 0 ∧ (m = 0 ∨ new.svs = [])) ∨ ∃ a c, y = .slice (some a) m c ∧ ∀ j u, ys[j]? = some u → w.cell? (a.add j) = some u) := fun c' hs hK =>
      ⟨mm, c', (fromView o i off c.svs c'.svs mm ho hv hs hx).imp fun ys hy => ⟨hK, hy⟩⟩
    cases c with
    | pv l => obtain ⟨cs, hs, h⟩ := h; simp only [realE] at hs; exact fin (.pv cs) (by simp [VC.svs, subL_map, hs]) h
    | fp j l => obtain ⟨cs, hs, h⟩ := h; simp only [realE] at hs; exact fin (.fp j cs) (by simp [VC.svs, subL_map, hs]) h
    | any l => obtain ⟨cs, hs, h⟩ := h; exact fin (.any cs) hs h
  unfold contA at h
  split at h
  · rename_i i off mm
    split at h
    · rename_i l t ho
      split at h
      · rename_i cs hs
        exact ⟨mm, vcOf cs, (fromView _ i off l (vcOf cs).svs mm ho rfl (by rw [vcOf_svs]; exact hs) hx).imp fun ys hy => ⟨h, hy⟩⟩
      · exact h.elim
    · rename_i c t nn ho
      exact fromV _ i off mm c ho rfl h hx
    · rename_i l ho
      exact fromV _ i off mm (.pv l) ho rfl h hx
    · exact h.elim
  · rename_i i mm
    split at h
    · rename_i new t nn ho
      obtain ⟨p, hp, hc⟩ : ∃ p, ρ[i]? = some p ∧ _ := hx
      have hrep := hh.rep i _ p ho hp
      rcases hc with ⟨h1, h2, rfl⟩ | ⟨h1, h2, h3, rfl⟩
      · simp only [AO.R, h1, if_true] at hrep
        exact ⟨mm, new, [], h, by rw [hrep]; trivial, .inl ⟨rfl, .inr hrep⟩⟩
      · have hv : (AO.vec new t nn).view = some new.svs := rfl
        obtain ⟨ds, hd, hcc⟩ := hrep.view hv
        refine ⟨mm, new, ds, h, hd, .inr ⟨_, _, rfl, fun j u hj => ?_⟩⟩
        have := hcc j u hj
        rw [h2] at this
        rw [add_place]
        exact this
    · exact h.elim
  · exact ⟨0, .pv [], [], h, trivial, .inl ⟨hx, .inl rfl⟩⟩
  · exact h.elim

theorem append_holds {Hd : List AO} {w' : World} {v v' : Value} {n : Nat} {xs : VC} {xc : List Value} {te : TypeId} {esz : Nat} (hd : Holds Hd ρ w) (hext : Ext H ρ w Hd ρ w)
    (hvb : ∀ g, v.ownBlock = some g → Owned H ρ g ∧ ¬ Owned Hd ρ g) (hown : w'.ownsRow 0 te esz v' n xc) (hgr : w.grownBy w' v.ownBlock)
    (hx : All2 (SV.R ρ) xs.svs xc) (hloc : v'.ownBlock = v.ownBlock ∨ v'.ownBlock = some w.heap.size) :
    ∃ p, Holds (Hd ++ [.vec xs te esz]) (ρ ++ [p]) w' ∧ Ext H ρ w (Hd ++ [.vec xs te esz]) (ρ ++ [p]) w' ∧ (sv (.vec Hd.length n)).R (ρ ++ [p]) v' := by
  have owned_lt : ∀ {b : Nat}, Owned Hd ρ b → b < w.heap.size := fun ⟨i, o, p, ho, hp, hb⟩ => (hd.rep i o p ho hp).own_lt hb
  have keep : ∀ b, Owned Hd ρ b → w'.heap[b]? = w.heap[b]? := fun b ho => hgr.block b (owned_lt ho) (fun e => (hvb b e.symm).2 ho)
  have hpre : ∀ p, ρ <+: ρ ++ [p] := fun p => List.prefix_append _ _
  have main : ∀ p : Pl, (AO.vec xs te esz).R (ρ ++ [p]) p w' → (∀ b, (AO.vec xs te esz).own p b → v'.ownBlock = some b) → (sv (.vec Hd.length n)).R (ρ ++ [p]) v' →
      ∃ p, Holds (Hd ++ [.vec xs te esz]) (ρ ++ [p]) w' ∧ Ext H ρ w (Hd ++ [.vec xs te esz]) (ρ ++ [p]) w' ∧ (sv (.vec Hd.length n)).R (ρ ++ [p]) v' := by
    intro p hR hblk hv
    have notOwned : ∀ b, (AO.vec xs te esz).own p b → ¬ Owned Hd ρ b := by
      intro b hb ho
      rcases hloc with h | h
      · exact (hvb b (by rw [← h]; exact hblk b hb)).2 ho
      · rw [hblk b hb] at h
        cases h
        exact absurd (owned_lt ho) (Nat.lt_irrefl _)
    refine ⟨p, hd.push2 hgr.size keep notOwned hR (fun _ _ h => by cases h), ⟨hpre p, hgr.size, hgr.os, hgr.tape, hgr.output, fun b hb hn => ?_, fun b hb ho => ?_⟩, hv⟩
    · exact hgr.block b hb (fun e => hn (hvb b e.symm).1)
    · rcases Owned.push hd.len ho with h | h
      · exact hext.back b hb h
      · have := hblk b h
        rcases hloc with h2 | h2
        · exact (hvb b (by rw [← h2]; exact this)).1
        · rw [this] at h2; cases h2; omega
  obtain ⟨hl, hcase⟩ := hown
  rcases hcase with ⟨rfl, rfl⟩ | ⟨g, cap, cur, rfl, _, hg, hnc, hcm, hcs, htake⟩
  · have hx0 : xs.svs = [] := by
      have := hx.length
      simp at hl
      subst hl
      exact List.eq_nil_of_length_eq_zero (by simpa using this)
    exact main { b := 0, nil := true } (by simp [AO.R, hx0]) (by rintro b ⟨h, _⟩; cases h) ⟨_, pushed' hd.len, .inl ⟨rfl, rfl, rfl⟩⟩
  · refine main { b := g, cap := cap } ?_ (by rintro b ⟨_, rfl⟩; rfl) ⟨_, pushed' hd.len, .inr ⟨rfl, rfl, hnc, rfl⟩⟩
    simp only [AO.R, Bool.false_eq_true, if_false, true_and]
    refine ⟨xc, cur.toList.drop (n * esz), hx.mono (fun _ _ => SV.R.ext (hpre _)), ?_, ?_, hcm⟩
    · rw [← htake, List.take_append_drop, Array.toArray_toList]; exact hg
    · rw [← htake, List.take_append_drop, Array.length_toList]; exact hcs

theorem append_run (hT : TyOk P T) (hh : Holds H ρ w) {t ty : TypeId} (hk : (T t).kind = .slice) {v y : Value} {n m : Nat} {xc ys : List Value} {new : List SV}
    (hown : w.ownsRow 0 (T t).elem (T (T t).elem).sz v n xc) (hR : All2 (SV.R ρ) new ys) (hcase : (y = .slice none 0 0 ∧ (m = 0 ∨ new = [])) ∨ ∃ a c, y = .slice (some a) m c ∧ ∀ j u, ys[j]? = some u → w.cell? (a.add j) = some u) (hlen : new.length = m * (T (T t).elem).sz)
    (hb : ((n + m : Nat) : Int) * (T (T t).elem).bytes ≤ 140737488355328) :
    ∃ v' w', (Builtin.append_ #[t, t] ty #[v, y]).run P w = .ok v' w' ∧ w'.ownsRow 0 (T t).elem (T (T t).elem).sz v' (n + m) (xc ++ ys) ∧ w.grownBy w' v.ownBlock ∧
      (v'.ownBlock = v.ownBlock ∨ v'.ownBlock = some w.heap.size) := by
  obtain ⟨h1, hke⟩ := TIOk.slice hT hk
  obtain ⟨inf, z, hi1, hi2, hi3, hi4, _, hi6⟩ := (hT _ hke).inf
  have hpos := (hT _ hke).pos
  have hposb := (hT _ hke).posb
  have hm0 : new = [] → m = 0 := by
    intro e
    rw [e, List.length_nil] at hlen
    rcases Nat.mul_eq_zero.1 hlen.symm with h | h
    · exact h
    · omega
  rcases hcase with ⟨rfl, h0⟩ | ⟨a, c, rfl, hcell⟩
  · have hm : m = 0 := h0.elim id hm0
    subst hm
    have hnew : new = [] := List.eq_nil_of_length_eq_zero (by rw [hlen, Nat.zero_mul])
    subst hnew
    have : ys = [] := by cases ys with | nil => rfl | cons _ _ => exact hR.elim
    subst this
    exact ⟨v, w, run_append_owned_none (P := P) w 0 t ty _ inf _ h1 hi1 v n xc hown, by simpa using hown, ⟨rfl, rfl, rfl, Nat.le_refl _, fun _ _ _ => rfl⟩, .inl rfl⟩
  · have hle : (n + m) * (T (T t).elem).bytes ≤ 140737488355328 := by rw [← Int.natCast_mul] at hb; omega
    have h63 : n + m ≤ maxLen := by
      have : (n + m) * 1 ≤ (n + m) * (T (T t).elem).bytes := Nat.mul_le_mul_left _ hposb
      simp only [maxLen]
      omega
    obtain ⟨v', w', g1, g2, g3, _, g5⟩ := run_append_own_at (P := P) w 0 t ty (T t).elem inf z _ _ h1 hi1 hi4 hi2 hi3 hi6 hpos v n xc hown a m c ys
      (by rw [← hR.length]; exact hlen) hcell (fun u hu => by
        obtain ⟨j, hj⟩ := List.getElem?_of_mem hu
        obtain ⟨s, _, hs⟩ := hR.get' hj
        exact hs.one) h63 hle (Nat.zero_le _)
    exact ⟨v', w', g1, g2, g3, g5⟩
end
end Bm
