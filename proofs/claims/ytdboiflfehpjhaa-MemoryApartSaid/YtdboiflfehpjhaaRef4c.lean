/- The walk: the reference of package memory, more. -/
import Derived.Test.YtdboiflfehpjhaaRef4b
set_option linter.unusedVariables false
set_option linter.unusedSimpArgs false
namespace Go.Proofs.Try
open Go Am
set_option maxRecDepth 100000
set_option maxHeartbeats 400000
def rcpS (f t c : Int) (acc : List (Int × Int)) (p : Int × Int) : List (Int × Int) := if p.1 ≥ f ∧ IntKind.u64.wrap (p.1 - f) < c then rputS acc (IntKind.u64.wrap (IntKind.u64.wrap (t + p.1) - f)) p.2 else acc
def rcopyS (l : List (Int × Int)) (f t c : Int) : List (Int × Int) := l.foldl (rcpS f t c) (rclrS l t c)
def hs72 : List (Nat × DT) := [(6, .op 0 (.op 1 (.op 2 (.op 3 (.op 4 (.op 5 (.op 6 (.op 7 (.op 8 (.op 9 (.op 10 (.op 11 (.op 12 (.op 13 (.op 14 (.op 15 (.op 16 (.op 17 (.op 18 (.done))))))))))))))))))))]
theorem ac72 (s f t c : Int) (l : List (Int × Int)) (hl : l.length ≤ 400000) : AC prog 72 [refV s l.length, u64 f, u64 t, u64 c] (refH l)
    (fun r H => ∃ l', l' = rcopyS l f t c ∧ r = .c (.agg [.int .u64 s, .vec 1 l'.length]) ∧ H = [.vec (bcells l) 164 2, .vec (bcells l') 164 2]) :=
  AC_fn (hs := hs72) tyOk mixed func72 (by kernel_rfl) fun E K hE hK => by
    have fin : ∀ l', l' = rcopyS l f t c → ∀ (o1 o2 o4 : AO), K (.c (.agg [.int .u64 s, .vec 3 l'.length])) [.vec (bcells l) 164 2, o1, o2, .vec (bcells l') 164 2, o4] := by
      intro l' hl' o1 o2 o4
      refine hK _ _ _ _ (Wk_of [0, 3] rfl rfl ?_ ?_) ⟨l', hl', rfl, rfl⟩
      · simp [pickL, AO.ren, bcells_ren]
      · simp [Fg, AV.ren, CV.ren, SV.ren, gI]
    dsimp only [refH, refV] at hK ⊢
    generalize hn : l.length = n at hl ⊢
    generalize hb : bcells l = bl at fin ⊢
    have hren : ∀ g, bl.map (SV.ren g) = bl := fun g => by rw [← hb]; exact bcells_ren g l
    cbv
    refine call_subE hE [0] (ac71 s t c l (by omega)) rfl rfl (by simp [pickL, AO.ren, bcells_ren, hb, hren]) (by rw [hn]; rfl) ?_
    rintro _ _ ⟨l0, hl0, rfl, rfl⟩ r2 H2 h2 h3
    simp [updH, updL, AO.ren, bcells_ren, AV.ren, CV.ren, SV.ren, gI, hb, hren] at h2 h3
    have hlen0 : l0.length ≤ n := by rw [hl0, ← hn]; exact List.length_filter_le _ _
    generalize hb0 : bcells l0 = b0 at h3
    generalize hn0 : l0.length = n0 at h2
    subst h2
    subst h3
    constructor
    cbv
    refine loop_intro [10, 14, 15, 16, 17, 18, 19, 20, 21, 22, 23, 24, 25, 26, 27, 28, 29, 30, 31, 32, 33, 34, 35, 36, 37, 38, 39, 40, 41, 42, 43, 44, 45, 46, 47, 48, 49, 50, 51, 52, 53, 54, 55, 56, 57, 58, 59] (fun st : Nat × List (Int × Int) => [(10, i64 st.1)])
      (fun st => [.vec bl 164 2, .cells [.int .u64 s, .vec 0 n] 28, .cells [.int .u64 0, .nils] 28, .vec (bcells st.2) 164 2, .cells [.int .u64 s, .vec 3 st.2.length] 28])
      (fun st => st.1 ≤ n ∧ st.2.length ≤ n + st.1 ∧ st.2 = (l.take st.1).foldl (rcpS f t c) l0) (fun st => n - st.1) (0, l0) ?_ ?_ ?_
    · refine Wk_of [0, 1, 2, 3, 4] rfl rfl ?_ ?_
      · have hrb : ∀ g, b0.map (SV.ren g) = b0 := fun g => by rw [← hb0]; exact bcells_ren g _
        simp [pickL, AO.ren, SV.ren, gI, hren, hb0, hn0, hrb]
      · cbv
        exact ⟨rfl, trivial⟩
    · exact ⟨Nat.zero_le _, by dsimp only; omega, rfl⟩
    · rintro ⟨i, out⟩ ⟨hi, hlen, hJ⟩ KN hKN
      dsimp only at hi hJ hlen
      generalize hm : out.length = m
      generalize ho : bcells out = bo
      have hro : ∀ g, bo.map (SV.ren g) = bo := fun g => by rw [← ho]; exact bcells_ren g out
      constructor
      cbv
      refine bm (fun h1 => ?_) fun h1 => ?_
      · cbv
        have hlt : i < n := by subst hE; simpa [realE, realCmp] using h1
        obtain ⟨p, hp⟩ : ∃ p, l[i]? = some p := ⟨_, List.getElem?_eq_getElem (by omega)⟩
        obtain ⟨g1, g2⟩ := bcells_get hp
        have g3 := bcells_sub hp
        rw [hb] at g1 g2 g3
        have htake : l.take (i + 1) = l.take i ++ [p] := by rw [List.take_add_one, hp]; rfl
        refine ⟨by subst hE; exact Int.natCast_nonneg i, by subst hE; simpa [realE] using hlt, ?_⟩
        refine get_of hE (.int .u64 p.1) (by subst hE; simpa [realE] using g1) ?_
        cbv
        refine bm (fun h2 => ?_) fun h2 => ?_
        · cbv
          refine ⟨by subst hE; exact Int.natCast_nonneg i, by subst hE; simpa [realE] using hlt, ?_⟩
          refine get_of hE (.int .u64 p.1) (by subst hE; simpa [realE] using g1) ?_
          cbv
          refine bm (fun h3 => ?_) fun h3 => ?_
          · cbv
            have hyes : p.1 ≥ f ∧ IntKind.u64.wrap (p.1 - f) < c := by subst hE; simp [realE, realCmp, realBin] at h2 h3; exact ⟨h2, h3⟩
            refine ⟨by subst hE; exact Int.natCast_nonneg i, by subst hE; simpa [realE] using hlt, ?_⟩
            refine get_of hE (.int .u64 p.1) (by subst hE; simpa [realE] using g1) ?_
            cbv
            refine ⟨by subst hE; exact Int.natCast_nonneg i, by subst hE; simpa [realE] using hlt, ?_⟩
            refine get_of hE (.int .u8 p.2) (by subst hE; simpa [realE] using g2) ?_
            cbv
            refine call_subE hE [3] (ac66 s _ _ out (by omega)) rfl rfl (by simp [pickL, AO.ren, bcells_ren, ho, hro]) (by rw [hm]; rfl) ?_
            rintro _ _ ⟨l', hl', rfl, rfl⟩ r2 H2 h4 h5
            simp [updH, updL, AO.ren, bcells_ren, AV.ren, CV.ren, SV.ren, gI, ho, hro] at h4 h5
            generalize hb2 : bcells l' = b2 at h5
            generalize hn2 : l'.length = n2 at h4
            have hle : l'.length ≤ out.length + 1 := by rw [hl']; exact rputS_len _ _ _
            subst h4
            subst h5
            constructor
            cbv
            refine hKN (i + 1, l') _ _ ⟨hlt, by dsimp only; omega, ?_⟩ (by dsimp only; omega) (Wk_of [0, 1, 2, 5, 4] rfl rfl ?_ ?_)
            · rw [htake, List.foldl_append, ← hJ]
              simp only [List.foldl_cons, List.foldl_nil, rcpS, if_pos hyes]
              rw [hl']
              subst hE
              rfl
            · have hrb : ∀ g, b2.map (SV.ren g) = b2 := fun g => by rw [← hb2]; exact bcells_ren g _
              simp [pickL, AO.ren, SV.ren, gI, hren, hb2, hn2, hrb]
            · cbv
              subst hE
              simp [realE, realBin]
              exact wrap_id (by omega) (by omega)
          · cbv
            have hno : ¬ (p.1 ≥ f ∧ IntKind.u64.wrap (p.1 - f) < c) := by subst hE; simp [realE, realCmp, realBin] at h2 h3; omega
            refine hKN (i + 1, out) _ _ ⟨hlt, by dsimp only; omega, ?_⟩ (by dsimp only; omega) (Wk_of [0, 1, 2, 3, 4] rfl rfl ?_ ?_)
            · rw [htake, List.foldl_append, ← hJ]
              simp only [List.foldl_cons, List.foldl_nil, rcpS, if_neg hno]
            · simp [pickL, AO.ren, SV.ren, gI, hren, hro, ho, hm]
            · cbv
              subst hE
              simp [realE, realBin]
              exact wrap_id (by omega) (by omega)
        · cbv
          have hno : ¬ (p.1 ≥ f ∧ IntKind.u64.wrap (p.1 - f) < c) := by subst hE; simp [realE, realCmp, realBin] at h2; omega
          refine hKN (i + 1, out) _ _ ⟨hlt, by dsimp only; omega, ?_⟩ (by dsimp only; omega) (Wk_of [0, 1, 2, 3, 4] rfl rfl ?_ ?_)
          · rw [htake, List.foldl_append, ← hJ]
            simp only [List.foldl_cons, List.foldl_nil, rcpS, if_neg hno]
          · simp [pickL, AO.ren, SV.ren, gI, hren, hro, ho, hm]
          · cbv
            subst hE
            simp [realE, realBin]
            exact wrap_id (by omega) (by omega)
      · have hge : n ≤ i := by subst hE; simpa [realE, realCmp] using h1
        have hout : out = rcopyS l f t c := by rw [hJ, List.take_of_length_le (by omega), hl0]; rfl
        cbv
        have := fin out hout (.cells [.int .u64 s, .vec 0 n] 28) (.cells [.int .u64 s, .vec 3 m] 28) (.cells [.int .u64 s, .vec 3 m] 28)
        rw [hm, ho] at this
        exact this
end Go.Proofs.Try
