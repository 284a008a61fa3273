/- The walk: the laws of memory. -/
import Derived.Test.YtdboiflfehpjhaaMem3
import Derived.Test.YtdboiflfehpjhaaRef4c
set_option linter.unusedVariables false
set_option linter.unusedSimpArgs false
namespace Go.Proofs.Try
open Go Am
set_option maxRecDepth 100000
set_option maxHeartbeats 400000
theorem ac19 : AC prog 19 [] [] (fun r H => r = sv (.bool true) ∧ H = []) :=
  AC_fn (hs := []) tyOk mixed func19 (by kernel_rfl) fun E K hE hK => by
    cbv
    refine call_go hE (ac13 16) ?_
    rintro _ _ ⟨s, hs, rfl, rfl⟩
    have hs : s = 16 := by rw [hs]; rfl
    subst hs
    constructor
    cbv
    refine call_go hE (ac69 16 8 1 []) ?_
    rintro _ _ ⟨x, l, hx, hl, rfl, rfl⟩
    have hx : x = 0 := by rw [hx]; decide
    subst hx
    have hl : l = [(1, 1)] := by rw [hl]; rfl
    subst hl
    constructor
    cbv
    refine call_go hE (ac78 16 15 [(1, 1)]) ?_
    rintro _ _ ⟨x, y, hx, hy, rfl, rfl⟩
    have hx : x = 0 := by rw [hx]; decide
    subst hx
    have hy : y = 1 := by rw [hy]; decide
    subst hy
    constructor
    cbv
    refine bmT (by subst hE; rfl) ?_
    cbv
    refine bmT (by subst hE; rfl) ?_
    cbv
    refine bmT (by subst hE; rfl) ?_
    cbv
    refine call_go hE (ac16 16 [(1, 1)]) ?_
    rintro _ _ ⟨n, hn, rfl, rfl⟩
    have hn : n = 1 := by rw [hn]; rfl
    subst hn
    constructor
    cbv
    first
      | (refine bmT (by subst hE; rfl) ?_; cbv)
      | skip
    refine hK _ _ _ _ (Wk_of [] rfl rfl rfl ?_) ⟨rfl, rfl⟩
    subst hE
    exact ⟨rfl, trivial⟩
def rmayS (s a n al : Int) : Int := if a.tmod al ≠ 0 then 4 else if n = 0 then 0 else if a ≥ s ∨ n > s ∨ a > IntKind.u64.wrap (s - n) then 5 else 0
abbrev deedV (k a v n : Int) : AV := .c (.agg [.int .i64 k, .int .u64 a, .int .u64 v, .int .u64 n])
abbrev bothH (l bl : List (Int × Int)) : List AO := [.m64 l, .cells [.int .u64 1000, .mp 0] 110, .vec (bcells bl) 164 2]
theorem ac74 (k a v n : Int) (l bl : List (Int × Int)) (hl : bl.length ≤ 100000)
    (h1 : mayS 1000 a 1 1 = rmayS 1000 a 1 1) (h8 : mayS 1000 a 8 8 = rmayS 1000 a 8 8) (h16 : mayS 1000 a 16 16 = rmayS 1000 a 16 16)
    (hb : mayS 1000 a 1 1 = 0 → getS l a = mgetL bl a) (hw : mayS 1000 a 8 8 = 0 → mgetL l (realBin .quo .u64 a 8) = rwS bl a 8 0 0)
    (hp : mayS 1000 a 16 16 = 0 → mgetL l (realBin .quo .u64 a 8) = rwS bl a 8 0 0 ∧ mgetL l (realBin .add .u64 (realBin .quo .u64 a 8) 1) = rwS bl (realBin .add .u64 a 8) 8 0 0) :
    AC prog 74 [sv (.ptr 1 0), .c (.agg [.int .u64 1000, .vec 2 bl.length]), deedV k a v n] (bothH l bl) (fun r H => r = sv (.bool true) ∧ H = bothH l bl) :=
  AC_fn (hs := []) tyOk mixed func74 (by kernel_rfl) fun E K hE hK => by
    dsimp only [bothH, deedV] at hK ⊢
    generalize hn : bl.length = m at hl ⊢
    generalize hbc : bcells bl = bc at hK ⊢
    have hren : ∀ g, bc.map (SV.ren g) = bc := fun g => by rw [← hbc]; exact bcells_ren g bl
    cbv
    have fin : ∀ b, b = true → ∀ o1 o2, K (sv (.bool b)) [.m64 l, .cells [.int .u64 1000, .mp 0] 110, .vec bc 164 2, o1, o2] := fun b hb o1 o2 => by
      subst hb
      exact hK _ _ (sv (.bool true)) _ (Wk_of [0, 1, 2] rfl rfl (by simp [pickL, AO.ren, SV.ren, gI, hren]) (by simp [Fg, AV.ren, CV.ren, SV.ren])) ⟨rfl, rfl⟩
    refine bm (fun c3 => ?_) fun c3 => ?_
    · cbv
      refine call_subE hE [0, 1] (ac78 1000 a l) rfl rfl rfl rfl ?_
      rintro _ _ ⟨x, y, hx, hy, rfl, rfl⟩ r2 H2 e1 e2
      simp [updH, updL, AO.ren, AV.ren, CV.ren, SV.ren, gI, hren, hbc] at e1 e2
      subst e1
      subst e2
      constructor
      cbv
      refine call_subE hE [2] (ac65 1000 a 1 1 bl (by omega)) rfl rfl (by simp [pickL, AO.ren, bcells_ren, hbc, hren]) (by rw [hn]; rfl) ?_
      rintro _ _ ⟨z, hz, rfl, rfl⟩ r2 H2 e1 e2
      simp [updH, updL, AO.ren, AV.ren, CV.ren, SV.ren, gI, hren, hbc] at e1 e2
      subst e1
      subst e2
      have hz : z = x := by rw [hx, h1, hz]; rfl
      subst hz
      constructor
      cbv
      by_cases hz0 : z = 0
      · have hy : y = mgetL bl a := by rw [hy, if_pos hz0]; exact hb (by rw [← hx]; exact hz0)
        refine bmT (by subst hE; simp [realE, realCmp, realBin, hz0]) ?_
        cbv
        refine bmT (by subst hE; simp [realE, realCmp, realBin, hz0]) ?_
        cbv
        refine bmF (by subst hE; simp [realE, realCmp, realBin, hz0]) ?_
        cbv
        refine call_subE hE [2] (ac122 1000 a bl (by omega)) rfl rfl (by simp [pickL, AO.ren, bcells_ren, hbc, hren]) (by rw [hn]; rfl) ?_
        rintro _ _ ⟨x, hx, rfl, rfl⟩ r2 H2 e1 e2
        simp [updH, updL, AO.ren, AV.ren, CV.ren, SV.ren, gI, hren, hbc] at e1 e2
        subst e1
        subst e2
        have hxy : x = y := by rw [hx, hy]
        subst hxy
        constructor
        cbv
        exact fin _ (by subst hE; simp [realE, realCmp]) _ _
      · have hy : y = 0 := by rw [hy, if_neg hz0]
        refine bmT (by subst hE; simp [realE, realCmp, realBin, hz0]) ?_
        cbv
        refine bmF (by subst hE; simp [realE, realCmp, realBin, hz0]) ?_
        cbv
        refine bmT (by subst hE; simp [realE, realCmp, realBin, hz0, hy]) ?_
        cbv
        refine bmT (by subst hE; simp [realE, realCmp, realBin, hz0, hy]) ?_
        cbv
        exact fin _ rfl _ _
    · cbv
      refine bm (fun c4 => ?_) fun c4 => ?_
      · cbv
        refine call_subE hE [0, 1] (ac18 1000 a l) rfl rfl rfl rfl ?_
        rintro _ _ ⟨x, y, hx, hy, rfl, rfl⟩ r2 H2 e1 e2
        simp [updH, updL, AO.ren, AV.ren, CV.ren, SV.ren, gI, hren, hbc] at e1 e2
        subst e1
        subst e2
        constructor
        cbv
        refine call_subE hE [2] (ac65 1000 a 8 8 bl (by omega)) rfl rfl (by simp [pickL, AO.ren, bcells_ren, hbc, hren]) (by rw [hn]; rfl) ?_
        rintro _ _ ⟨z, hz, rfl, rfl⟩ r2 H2 e1 e2
        simp [updH, updL, AO.ren, AV.ren, CV.ren, SV.ren, gI, hren, hbc] at e1 e2
        subst e1
        subst e2
        have hz : z = x := by rw [hx, h8, hz]; rfl
        subst hz
        constructor
        cbv
        by_cases hz0 : z = 0
        · have hy : y = rwS bl a 8 0 0 := by rw [hy, if_pos hz0]; exact hw (by rw [← hx]; exact hz0)
          refine bmT (by subst hE; simp [realE, realCmp, realBin, hz0]) ?_
          cbv
          refine bmT (by subst hE; simp [realE, realCmp, realBin, hz0]) ?_
          cbv
          refine bmF (by subst hE; simp [realE, realCmp, realBin, hz0]) ?_
          cbv
          refine call_subE hE [2] (ac123 1000 a bl (by omega)) rfl rfl (by simp [pickL, AO.ren, bcells_ren, hbc, hren]) (by rw [hn]; rfl) ?_
          rintro _ _ ⟨x, hx, rfl, rfl⟩ r2 H2 e1 e2
          simp [updH, updL, AO.ren, AV.ren, CV.ren, SV.ren, gI, hren, hbc] at e1 e2
          subst e1
          subst e2
          have hxy : x = y := by rw [hx, hy]
          subst hxy
          constructor
          cbv
          exact fin _ (by subst hE; simp [realE, realCmp]) _ _
        · have hy : y = 0 := by rw [hy, if_neg hz0]
          refine bmT (by subst hE; simp [realE, realCmp, realBin, hz0]) ?_
          cbv
          refine bmF (by subst hE; simp [realE, realCmp, realBin, hz0]) ?_
          cbv
          refine bmT (by subst hE; simp [realE, realCmp, realBin, hz0, hy]) ?_
          cbv
          refine bmT (by subst hE; simp [realE, realCmp, realBin, hz0, hy]) ?_
          cbv
          exact fin _ rfl _ _
      · cbv
        refine call_subE hE [0, 1] (ac124 1000 a l) rfl rfl rfl rfl ?_
        rintro _ _ ⟨x, y, w, hx, hy, hw', rfl, rfl⟩ r2 H2 e1 e2
        simp [updH, updL, AO.ren, AV.ren, CV.ren, SV.ren, gI, hren, hbc] at e1 e2
        subst e1
        subst e2
        constructor
        cbv
        refine call_subE hE [2] (ac65 1000 a 16 16 bl (by omega)) rfl rfl (by simp [pickL, AO.ren, bcells_ren, hbc, hren]) (by rw [hn]; rfl) ?_
        rintro _ _ ⟨z, hz, rfl, rfl⟩ r2 H2 e1 e2
        simp [updH, updL, AO.ren, AV.ren, CV.ren, SV.ren, gI, hren, hbc] at e1 e2
        subst e1
        subst e2
        have hz : z = x := by rw [hx, h16, hz]; rfl
        subst hz
        constructor
        cbv
        by_cases hz0 : z = 0
        · have hy : y = rwS bl a 8 0 0 := by rw [hy, if_pos hz0]; exact (hp (by rw [← hx]; exact hz0)).1
          have hw2 : w = rwS bl (realBin .add .u64 a 8) 8 0 0 := by rw [hw', if_pos hz0]; exact (hp (by rw [← hx]; exact hz0)).2
          refine bmT (by subst hE; simp [realE, realCmp, realBin, hz0]) ?_
          cbv
          refine bmT (by subst hE; simp [realE, realCmp, realBin, hz0]) ?_
          cbv
          refine bmF (by subst hE; simp [realE, realCmp, realBin, hz0]) ?_
          cbv
          refine call_subE hE [2] (ac123 1000 a bl (by omega)) rfl rfl (by simp [pickL, AO.ren, bcells_ren, hbc, hren]) (by rw [hn]; rfl) ?_
          rintro _ _ ⟨x, hx, rfl, rfl⟩ r2 H2 e1 e2
          simp [updH, updL, AO.ren, AV.ren, CV.ren, SV.ren, gI, hren, hbc] at e1 e2
          subst e1
          subst e2
          have hxy : x = y := by rw [hx, hy]
          subst hxy
          constructor
          cbv
          refine bmT (by subst hE; simp [realE, realCmp, realBin, hz0]) ?_
          cbv
          refine call_subE hE [2] (ac123 1000 _ bl (by omega)) rfl rfl (by simp [pickL, AO.ren, bcells_ren, hbc, hren]) (by rw [hn]; rfl) ?_
          rintro _ _ ⟨u, hu, rfl, rfl⟩ r2 H2 e1 e2
          simp [updH, updL, AO.ren, AV.ren, CV.ren, SV.ren, gI, hren, hbc] at e1 e2
          subst e1
          subst e2
          have huw : u = w := by rw [hu, hw2]; subst hE; rfl
          subst huw
          constructor
          cbv
          exact fin _ (by subst hE; simp [realE, realCmp]) _ _
        · have hy : y = 0 := by rw [hy, if_neg hz0]
          have hw2 : w = 0 := by rw [hw', if_neg hz0]
          refine bmT (by subst hE; simp [realE, realCmp, realBin, hz0]) ?_
          cbv
          refine bmF (by subst hE; simp [realE, realCmp, realBin, hz0]) ?_
          cbv
          refine bmT (by subst hE; simp [realE, realCmp, realBin, hz0, hy]) ?_
          cbv
          refine bmT (by subst hE; simp [realE, realCmp, realBin, hz0, hy, hw2]) ?_
          cbv
          refine bmT (by subst hE; simp [realE, realCmp, realBin, hz0, hy]) ?_
          cbv
          exact fin _ rfl _ _
end Go.Proofs.Try
