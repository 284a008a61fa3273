/- The walk: the reference of package memory, more. -/
import Derived.Test.YtdboiflfehpjhaaRef4
set_option linter.unusedVariables false
set_option linter.unusedSimpArgs false
namespace Go.Proofs.Try
open Go Am
set_option maxRecDepth 100000
set_option maxHeartbeats 400000
def rwS (l : List (Int × Int)) (a : Int) : Nat → Nat → Int → Int
  | 0, _, v => v
  | k + 1, i, v => rwS l a k (i + 1) (IntKind.u64.wrap (IntKind.u64.wrap (256 * v) + IntKind.u64.wrap (mgetL l (IntKind.u64.wrap (a + (i : Int))))))
theorem ac123 (s a : Int) (l : List (Int × Int)) (hl : l.length ≤ 1000000) : AC prog 123 [refV s l.length, u64 a] (refH l) (fun r H => ∃ x, x = rwS l a 8 0 0 ∧ r = u64 x ∧ H = refH l) :=
  AC_fn (hs := []) tyOk mixed func123 (by kernel_rfl) fun E K hE hK => by
    have fin : ∀ x, x = rwS l a 8 0 0 → ∀ o, K (u64 x) [.vec (bcells l) 164 2, o] := fun x hx o => hK _ _ _ _ (Wk_of [0] rfl rfl (by simp [pickL, AO.ren, bcells_ren]) (by cbv)) ⟨x, hx, rfl, rfl⟩
    dsimp only [refH, refV] at hK ⊢
    generalize hn : l.length = n at hl ⊢
    generalize hb : bcells l = bl at fin ⊢
    have hren : ∀ g, bl.map (SV.ren g) = bl := fun g => by rw [← hb]; exact bcells_ren g l
    cbv
    refine loop_intro [5, 6, 7, 8, 9, 10, 11, 12, 13, 14, 15, 16, 17, 18, 19] (fun st : Nat × Int => [(5, u64 st.2), (6, u64 st.1)]) (fun _ => [.vec bl 164 2, .cells [.int .u64 s, .vec 0 n] 28])
      (fun st => st.1 ≤ 8 ∧ rwS l a (8 - st.1) st.1 st.2 = rwS l a 8 0 0) (fun st => 8 - st.1) (0, 0) ?_ ?_ ?_
    · refine Wk_of [0, 1] rfl rfl ?_ ?_
      · simp [pickL, AO.ren, SV.ren, gI, hren]
      · cbv
        exact ⟨rfl, trivial⟩
    · exact ⟨Nat.zero_le _, rfl⟩
    · rintro ⟨i, v⟩ ⟨hi, hJ⟩ KN hKN
      dsimp only at hi hJ
      constructor
      cbv
      refine bm (fun h1 => ?_) fun h1 => ?_
      · have hlt : i < 8 := by subst hE; simp [realE, realCmp] at h1; omega
        cbv
        refine call_subE hE [0] (ac122 s _ l (by omega)) rfl rfl (by simp [pickL, AO.ren, bcells_ren, hb, hren]) (by rw [hn]; rfl) ?_
        rintro _ _ ⟨x, hx, rfl, rfl⟩ r2 H2 h2 h3
        simp [updH, updL, AO.ren, bcells_ren, AV.ren, CV.ren, SV.ren, gI, hb, hren] at h2 h3
        subst h2
        subst h3
        constructor
        cbv
        refine hKN (i + 1, IntKind.u64.wrap (IntKind.u64.wrap (256 * v) + IntKind.u64.wrap x)) _ _ ⟨by dsimp only; omega, ?_⟩ (by dsimp only; omega) (Wk_of [0, 1] rfl rfl ?_ ?_)
        · rw [← hJ, show 8 - i = (8 - (i + 1)) + 1 by omega, hx]
          subst hE
          rfl
        · simp [pickL, AO.ren, SV.ren, gI, hren]
        · generalize hq : IntKind.u64.wrap (IntKind.u64.wrap (256 * v) + IntKind.u64.wrap x) = q at *
          dsimp only
          cbv
          subst hE
          refine ⟨congrArg (fun x => AV.c (CV.s (SV.int IntKind.u64 x))) hq, congrArg (fun x => AV.c (CV.s (SV.int IntKind.u64 x))) ?_, trivial⟩
          show IntKind.u64.wrap ((i : Int) + 1) = ((i + 1 : Nat) : Int)
          rw [u64_id (by omega) (by omega)]
          omega
      · have hi8 : i = 8 := by subst hE; simp [realE, realCmp] at h1; omega
        subst hi8
        cbv
        exact fin v hJ _
def rclrS (l : List (Int × Int)) (f n : Int) : List (Int × Int) := l.filter fun p => decide (p.1 < f) || decide (IntKind.u64.wrap (p.1 - f) ≥ n)
theorem ac71 (s f c : Int) (l : List (Int × Int)) (hl : l.length ≤ 1000000) : AC prog 71 [refV s l.length, u64 f, u64 c] (refH l)
    (fun r H => ∃ l', l' = rclrS l f c ∧ r = .c (.agg [.int .u64 s, .vec 1 l'.length]) ∧ H = [.vec (bcells l) 164 2, .vec (bcells l') 164 2]) :=
  AC_fn (hs := []) tyOk mixed func71 (by kernel_rfl) fun E K hE hK => by
    have fin : ∀ l', l' = rclrS l f c → ∀ (o1 o2 : AO), K (.c (.agg [.int .u64 s, .vec 3 l'.length])) [.vec (bcells l) 164 2, o1, o2, .vec (bcells l') 164 2] := by
      intro l' hl' o1 o2
      refine hK _ _ _ _ (Wk_of [0, 3] rfl rfl ?_ ?_) ⟨l', hl', rfl, rfl⟩
      · simp [pickL, AO.ren, bcells_ren]
      · simp [Fg, AV.ren, CV.ren, SV.ren, gI]
    dsimp only [refH, refV] at hK ⊢
    generalize hn : l.length = n at hl ⊢
    generalize hb : bcells l = bl at fin ⊢
    have hren : ∀ g, bl.map (SV.ren g) = bl := fun g => by rw [← hb]; exact bcells_ren g l
    cbv
    refine loop_intro [7, 8, 9, 10, 11, 12, 13, 14, 15, 16, 17, 18, 19, 20, 21, 22, 23, 24, 25, 26, 27, 28, 29, 30, 31, 32, 33, 34, 35, 36, 37, 38, 39, 40, 41, 42, 43] (fun st : Nat × List (Int × Int) => [(7, sv (.vec 3 st.2.length)), (8, i64 st.1)])
      (fun st => [.vec bl 164 2, .cells [.int .u64 s, .vec 0 n] 28, .cells [.int .u64 0, .nils] 28, .vec (bcells st.2) 164 2]) (fun st => st.1 ≤ n ∧ st.2 = rclrS (l.take st.1) f c) (fun st => n - st.1) (0, []) ?_ ?_ ?_
    · refine Wk.trans (Wk_nilT 7 164 2 (by simp) rfl) (Wk_of [0, 1, 2, 3] rfl rfl ?_ ?_)
      · simp [pickL, AO.ren, SV.ren, gI, hren, bcells]
      · cbv
        exact ⟨rfl, trivial⟩
    · exact ⟨Nat.zero_le _, rfl⟩
    · rintro ⟨i, out⟩ ⟨hi, hJ⟩ KN hKN
      dsimp only at hi hJ
      generalize hm : out.length = m
      generalize ho : bcells out = bo
      have hro : ∀ g, bo.map (SV.ren g) = bo := fun g => by rw [← ho]; exact bcells_ren g out
      have hml : m ≤ i := by
        rw [← hm, hJ]
        exact Nat.le_trans (List.length_filter_le _ _) (by simp; omega)
      constructor
      cbv
      refine bm (fun h1 => ?_) fun h1 => ?_
      · cbv
        have hlt : i < n := by subst hE; simpa [realE, realCmp] using h1
        obtain ⟨p, hp⟩ : ∃ p, l[i]? = some p := ⟨_, List.getElem?_eq_getElem (by omega)⟩
        obtain ⟨g1, g2⟩ := bcells_get hp
        have g3 := bcells_sub hp
        rw [hb] at g1 g2 g3
        have htake : l.take (i + 1) = l.take i ++ [p] := by rw [List.take_add_one, hp]; rfl
        have add : (decide (p.1 < f) || decide (IntKind.u64.wrap (p.1 - f) ≥ c)) = true → out ++ [p] = rclrS (l.take (i + 1)) f c := by
          intro h
          rw [htake, hJ]
          simp only [rclrS, List.filter_append, List.filter_cons, h, if_true, List.filter_nil]
        refine ⟨by subst hE; exact Int.natCast_nonneg i, by subst hE; simpa [realE] using hlt, ?_⟩
        refine get_of hE (.int .u64 p.1) (by subst hE; simpa [realE] using g1) ?_
        cbv
        refine bm (fun h2 => ?_) fun h2 => ?_
        · cbv
          refine ⟨by subst hE; exact Int.natCast_nonneg i, by subst hE; simpa [realE] using hlt, ?_⟩
          refine sub_of hE [.int .u64 p.1, .int .u8 p.2] (by subst hE; simpa [realE] using g3) ?_
          cbv
          refine ⟨by subst hE; simp [realE, ← ho, bcells_len, hm], by subst hE; simp [realE], by subst hE; simp [realE]; omega, ?_⟩
          refine hKN (i + 1, out ++ [p]) _ _ ⟨hlt, add ?_⟩ (by dsimp only; omega) (Wk_of [0, 1, 2, 5] rfl rfl ?_ ?_)
          · subst hE; simp [realE, realCmp] at h2; simp [h2]
          · subst hE
            simp [pickL, AO.ren, SV.ren, gI, hren, bcells_ren, bcells_app, ho, realE]
            rw [hro]
            rfl
          · have hm2 : (out ++ [p]).length = m + 1 := by simp [hm]
            dsimp only
            rw [hm2]
            cbv
            subst hE
            simp [realE, realBin]
            exact wrap_id (by omega) (by omega)
        · cbv
          refine ⟨by subst hE; exact Int.natCast_nonneg i, by subst hE; simpa [realE] using hlt, ?_⟩
          refine get_of hE (.int .u64 p.1) (by subst hE; simpa [realE] using g1) ?_
          cbv
          refine bm (fun h3 => ?_) fun h3 => ?_
          · cbv
            refine ⟨by subst hE; exact Int.natCast_nonneg i, by subst hE; simpa [realE] using hlt, ?_⟩
            refine sub_of hE [.int .u64 p.1, .int .u8 p.2] (by subst hE; simpa [realE] using g3) ?_
            cbv
            refine ⟨by subst hE; simp [realE, ← ho, bcells_len, hm], by subst hE; simp [realE], by subst hE; simp [realE]; omega, ?_⟩
            refine hKN (i + 1, out ++ [p]) _ _ ⟨hlt, add ?_⟩ (by dsimp only; omega) (Wk_of [0, 1, 2, 5] rfl rfl ?_ ?_)
            · subst hE; simp [realE, realCmp, realBin] at h3; simp [h3]
            · subst hE
              simp [pickL, AO.ren, SV.ren, gI, hren, bcells_ren, bcells_app, ho, realE]
              rw [hro]
              rfl
            · have hm2 : (out ++ [p]).length = m + 1 := by simp [hm]
              dsimp only
              rw [hm2]
              cbv
              subst hE
              simp [realE, realBin]
              exact wrap_id (by omega) (by omega)
          · cbv
            have hno : (decide (p.1 < f) || decide (IntKind.u64.wrap (p.1 - f) ≥ c)) = false := by subst hE; simp [realE, realCmp, realBin] at h2 h3; simp [h2, h3]
            refine hKN (i + 1, out) _ _ ⟨hlt, ?_⟩ (by dsimp only; omega) (Wk_of [0, 1, 2, 3] rfl rfl ?_ ?_)
            · rw [htake]
              simp only [rclrS, List.filter_append, List.filter_cons, hno, List.filter_nil] at hJ ⊢
              simpa using hJ
            · simp [pickL, AO.ren, SV.ren, gI, hren, hro, ho]
            · dsimp only
              rw [hm]
              cbv
              subst hE
              simp [realE, realBin]
              exact wrap_id (by omega) (by omega)
      · have hge : n ≤ i := by subst hE; simpa [realE, realCmp] using h1
        have hout : out = rclrS l f c := by rw [hJ, List.take_of_length_le (by omega)]
        cbv
        have := fin out hout (.cells [.int .u64 s, .vec 3 m] 28) (.cells [.int .u64 s, .vec 3 m] 28)
        rw [hm, ho] at this
        exact this
end Go.Proofs.Try
