/- The walk: the reference of package memory. -/
import Derived.Test.YtdboiflfehpjhaaMem
set_option linter.unusedVariables false
set_option linter.unusedSimpArgs false
namespace Go.Proofs.Try
open Go Am
set_option maxRecDepth 100000
set_option maxHeartbeats 400000
def bcells (l : List (Int × Int)) : List SV := l.flatMap fun p => [.int .u64 p.1, .int .u8 p.2]
abbrev refV (s : Int) (n : Nat) : AV := .c (.agg [.int .u64 s, .vec 0 n])
abbrev refH (l : List (Int × Int)) : List AO := [.vec (bcells l) 164 2]
theorem bcells_get : ∀ {l : List (Int × Int)} {i : Nat} {p : Int × Int}, l[i]? = some p → (bcells l)[i * 2]? = some (.int .u64 p.1) ∧ (bcells l)[i * 2 + 1]? = some (.int .u8 p.2)
  | [], i, p, h => by simp at h
  | q :: l, 0, p, h => by simp at h; subst h; exact ⟨rfl, rfl⟩
  | q :: l, i + 1, p, h => by
    obtain ⟨h1, h2⟩ := bcells_get (l := l) (i := i) (p := p) (by simpa using h)
    refine ⟨?_, ?_⟩
    · rw [show (i + 1) * 2 = i * 2 + 2 by omega]; exact h1
    · rw [show (i + 1) * 2 + 1 = (i * 2 + 1) + 2 by omega]; exact h2
theorem bcells_len (l : List (Int × Int)) : (bcells l).length = l.length * 2 := by
  induction l with
  | nil => rfl
  | cons p l ih => simp [bcells] at ih ⊢; omega
theorem wrap_id {n : Int} (h0 : 0 ≤ n) (h1 : n ≤ 1000000000) : IntKind.i64.wrap n = n := IntWalk.i64_in n (by constructor <;> omega)
theorem bcells_ren (g : Nat → Nat) (l : List (Int × Int)) : (bcells l).map (SV.ren g) = bcells l := by
  induction l with
  | nil => rfl
  | cons p l ih => simp [bcells, SV.ren] at ih ⊢; exact ih
theorem ac122 (s a : Int) (l : List (Int × Int)) (hl : l.length ≤ 1000000) : AC prog 122 [refV s l.length, u64 a] (refH l) (fun r H => ∃ x, x = mgetL l a ∧ r = sv (.int .u8 x) ∧ H = refH l) :=
  AC_fn (hs := []) tyOk mixed func122 (by kernel_rfl) fun E K hE hK => by
    have fin : ∀ x, x = mgetL l a → ∀ o, K (sv (.int .u8 x)) [.vec (bcells l) 164 2, o] := fun x hx o => hK _ _ _ _ (Wk_of [0] rfl rfl (by simp [pickL, AO.ren, bcells_ren]) (by cbv)) ⟨x, hx, rfl, rfl⟩
    dsimp only [refH, refV] at hK ⊢
    generalize hn : l.length = n at hl ⊢
    generalize hb : bcells l = bl at fin ⊢
    have hren : ∀ g, bl.map (SV.ren g) = bl := fun g => by rw [← hb]; exact bcells_ren g l
    cbv
    refine loop_intro [4, 5, 6, 7, 8, 9, 10, 11, 12, 13, 14, 15, 16, 17, 18, 19, 20, 21, 22, 23, 24, 25, 26] (fun i : Nat => [(5, i64 i)]) (fun _ => [.vec bl 164 2, .cells [.int .u64 s, .vec 0 n] 28]) (fun i => i ≤ n ∧ mgetL (l.drop i) a = mgetL l a) (fun i => n - i) 0 ?_ ?_ ?_
    · refine Wk_of [0, 1] rfl rfl ?_ ?_
      · simp [pickL, AO.ren, SV.ren, gI, hren]
      · cbv
        exact ⟨rfl, trivial⟩
    · exact ⟨Nat.zero_le _, rfl⟩
    · rintro i ⟨hi, hJ⟩ KN hKN
      constructor
      cbv
      refine bm (fun h1 => ?_) fun h1 => ?_
      · have hlt : i < n := by subst hE; simpa [realE, realCmp] using h1
        obtain ⟨p, hp⟩ : ∃ p, l[i]? = some p := ⟨_, List.getElem?_eq_getElem (by omega)⟩
        have hdrop : l.drop i = p :: l.drop (i + 1) := by
          have h := (List.getElem?_eq_some_iff.1 hp)
          rw [List.drop_eq_getElem_cons h.1, h.2]
        obtain ⟨g1, g2⟩ := bcells_get hp
        rw [hb] at g1 g2
        cbv
        refine ⟨by subst hE; exact Int.natCast_nonneg i, by subst hE; simpa [realE] using hlt, ?_⟩
        refine get_of hE (.int .u64 p.1) (by subst hE; simpa [realE] using g1) ?_
        cbv
        refine bm (fun h2 => ?_) fun h2 => ?_
        · have hpa : p.1 = a := by subst hE; simpa [realE, realCmp] using h2
          cbv
          refine ⟨by subst hE; exact Int.natCast_nonneg i, by subst hE; simpa [realE] using hlt, ?_⟩
          refine get_of hE (.int .u8 p.2) (by subst hE; simpa [realE] using g2) ?_
          cbv
          exact fin _ (by rw [← hJ, hdrop]; simp [mgetL, hpa]) _
        · have hpa : p.1 ≠ a := by subst hE; simpa [realE, realCmp] using h2
          cbv
          refine hKN (i + 1) _ _ ⟨hlt, ?_⟩ (by omega) (Wk_of [0, 1] rfl rfl ?_ ?_)
          · rw [← hJ, hdrop]; simp [mgetL, hpa]
          · simp [pickL, AO.ren, SV.ren, gI, hren]
          · cbv
            subst hE
            simp [realE, realBin]
            exact wrap_id (by omega) (by omega)
      · have hge : n ≤ i := by subst hE; simpa [realE, realCmp] using h1
        cbv
        exact fin _ (by rw [← hJ, List.drop_eq_nil_of_le (by omega)]; rfl) _
theorem bcells_sub {l : List (Int × Int)} {i : Nat} {p : Int × Int} (h : l[i]? = some p) : subL (bcells l) (i * 2) 2 = some [.int .u64 p.1, .int .u8 p.2] := by
  induction l generalizing i with
  | nil => simp at h
  | cons q l ih =>
    cases i with
    | zero => simp at h; subst h; simp [bcells, subL]
    | succ i =>
      rw [show (i + 1) * 2 = i * 2 + 2 by omega]
      exact ih (by simpa using h)
theorem bcells_app (l l' : List (Int × Int)) : bcells (l ++ l') = bcells l ++ bcells l' := by simp [bcells]
def rputS (l : List (Int × Int)) (a b : Int) : List (Int × Int) := (l.filter fun p => p.1 != a) ++ (if b = 0 then [] else [(a, b)])
theorem ac66 (s a b : Int) (l : List (Int × Int)) (hl : l.length ≤ 1000000) : AC prog 66 [refV s l.length, u64 a, sv (.int .u8 b)] (refH l)
    (fun r H => ∃ l', l' = rputS l a b ∧ r = .c (.agg [.int .u64 s, .vec 1 l'.length]) ∧ H = [.vec (bcells l) 164 2, .vec (bcells l') 164 2]) :=
  AC_fn (hs := []) tyOk mixed func66 (by kernel_rfl) fun E K hE hK => by
    have fin : ∀ l', l' = rputS l a b → ∀ (o1 o2 : AO) (σ : List AO), K (.c (.agg [.int .u64 s, .vec 3 l'.length])) ([.vec (bcells l) 164 2, o1, o2, .vec (bcells l') 164 2] ++ σ) := by
      intro l' hl' o1 o2 σ
      refine hK _ _ _ _ (Wk_of [0, 3] rfl rfl ?_ ?_) ⟨l', hl', rfl, rfl⟩
      · simp [pickL, AO.ren, bcells_ren]
      · simp [Fg, AV.ren, CV.ren, SV.ren, gI]
    dsimp only [refH, refV] at hK ⊢
    generalize hn : l.length = n at hl ⊢
    generalize hb : bcells l = bl at fin ⊢
    have hren : ∀ g, bl.map (SV.ren g) = bl := fun g => by rw [← hb]; exact bcells_ren g l
    cbv
    refine loop_intro [7, 8, 9, 10, 11, 12, 13, 14, 15, 16, 17, 18, 19, 20, 21, 22, 23, 24, 25, 26, 27, 28, 29, 30, 31] (fun st : Nat × List (Int × Int) => [(7, sv (.vec 3 st.2.length)), (8, i64 st.1)])
      (fun st => [.vec bl 164 2, .cells [.int .u64 s, .vec 0 n] 28, .cells [.int .u64 0, .nils] 28, .vec (bcells st.2) 164 2]) (fun st => st.1 ≤ n ∧ st.2 = (l.take st.1).filter fun p => p.1 != a) (fun st => n - st.1) (0, []) ?_ ?_ ?_
    · refine Wk.trans (Wk_nilT 7 164 2 (by simp) rfl) (Wk_of [0, 1, 2, 3] rfl rfl ?_ ?_)
      · simp [pickL, AO.ren, SV.ren, gI, hren, bcells]
      · cbv
        exact ⟨rfl, trivial⟩
    · exact ⟨Nat.zero_le _, rfl⟩
    · rintro ⟨i, out⟩ ⟨hi, hJ⟩ KN hKN
      dsimp only at hi hJ
      generalize hm : out.length = m
      generalize ho : bcells out = bo
      have hro : ∀ g, bo.map (SV.ren g) = bo := fun g => by rw [← ho]; exact bcells_ren g out
      have hml : m ≤ i := by
        rw [← hm, hJ]
        exact Nat.le_trans (List.length_filter_le _ _) (by simp; omega)
      constructor
      cbv
      refine bm (fun h1 => ?_) fun h1 => ?_
      · have hlt : i < n := by subst hE; simpa [realE, realCmp] using h1
        obtain ⟨p, hp⟩ : ∃ p, l[i]? = some p := ⟨_, List.getElem?_eq_getElem (by omega)⟩
        obtain ⟨g1, g2⟩ := bcells_get hp
        have g3 := bcells_sub hp
        rw [hb] at g1 g2 g3
        have htake : l.take (i + 1) = l.take i ++ [p] := by rw [List.take_add_one, hp]; rfl
        cbv
        refine ⟨by subst hE; exact Int.natCast_nonneg i, by subst hE; simpa [realE] using hlt, ?_⟩
        refine get_of hE (.int .u64 p.1) (by subst hE; simpa [realE] using g1) ?_
        cbv
        refine bm (fun h2 => ?_) fun h2 => ?_
        · have hpa : p.1 ≠ a := by subst hE; simpa [realE, realCmp] using h2
          cbv
          refine ⟨by subst hE; exact Int.natCast_nonneg i, by subst hE; simpa [realE] using hlt, ?_⟩
          refine sub_of hE [.int .u64 p.1, .int .u8 p.2] (by subst hE; simpa [realE] using g3) ?_
          cbv
          refine ⟨by subst hE; simp [realE, ← ho, bcells_len, hm], by subst hE; simp [realE], by subst hE; simp [realE]; omega, ?_⟩
          refine hKN (i + 1, out ++ [p]) _ _ ⟨hlt, ?_⟩ (by dsimp only; omega) (Wk_of [0, 1, 2, 5] rfl rfl ?_ ?_)
          · rw [htake]; simp [hJ, hpa]
          · subst hE
            simp [pickL, AO.ren, SV.ren, gI, hren, bcells_ren, bcells_app, ho, realE]
            rw [hro]
            rfl
          · have hm2 : (out ++ [p]).length = m + 1 := by simp [hm]
            dsimp only
            rw [hm2]
            cbv
            subst hE
            simp [realE, realBin]
            exact wrap_id (by omega) (by omega)
        · have hpa : p.1 = a := by subst hE; simpa [realE, realCmp] using h2
          cbv
          refine hKN (i + 1, out) _ _ ⟨hlt, ?_⟩ (by dsimp only; omega) (Wk_of [0, 1, 2, 3] rfl rfl ?_ ?_)
          · rw [htake]; simp [hJ, hpa]
          · simp [pickL, AO.ren, SV.ren, gI, hren, hro, ho]
          · dsimp only
            rw [hm]
            cbv
            subst hE
            simp [realE, realBin]
            exact wrap_id (by omega) (by omega)
      · have hge : n ≤ i := by subst hE; simpa [realE, realCmp] using h1
        have hout : out = l.filter fun p => p.1 != a := by rw [hJ, List.take_of_length_le (by omega)]
        cbv
        refine bm (fun h2 => ?_) fun h2 => ?_
        · have hb0 : b ≠ 0 := by subst hE; simpa [realE, realCmp] using h2
          cbv
          refine ⟨by subst hE; simp [realE, ← ho, bcells_len, hm], by subst hE; simp [realE], by subst hE; simp [realE]; omega, ?_⟩
          refine hK _ _ _ _ (Wk_of [0, 5] rfl rfl ?_ ?_) ⟨out ++ [(a, b)], by simp [rputS, hout, hb0], rfl, rfl⟩
          · subst hE
            simp [pickL, AO.ren, SV.ren, gI, bcells_ren, bcells_app, realE, hb]
            rw [hren, ho]
            exact ⟨rfl, rfl⟩
          · subst hE
            simp [Fg, AV.ren, CV.ren, SV.ren, gI, realE, hm]
        · have hb0 : b = 0 := by subst hE; simpa [realE, realCmp] using h2
          cbv
          have := fin out (by simp [rputS, hout, hb0]) (.cells [.int .u64 s, .vec 3 m] 28) (.cells [.int .u64 s, .vec 3 m] 28) []
          rw [hm, ho] at this
          exact this
theorem ac65 (s a n al : Int) (l : List (Int × Int)) (hal : al ≠ 0) : AC prog 65 [refV s l.length, u64 a, u64 n, u64 al] (refH l)
    (fun r H => ∃ x, x = (if a.tmod al ≠ 0 then 4 else if n = 0 then 0 else if a ≥ s ∨ n > s ∨ a > IntKind.u64.wrap (s - n) then 5 else 0) ∧ r = i64 x ∧ H = refH l) :=
  AC_fn (hs := []) tyOk mixed func65 (by kernel_rfl) fun E K hE hK => by
    have fin : ∀ x, x = (if a.tmod al ≠ 0 then 4 else if n = 0 then 0 else if a ≥ s ∨ n > s ∨ a > IntKind.u64.wrap (s - n) then 5 else 0) → ∀ o, K (sv (.int .i64 x)) [.vec (bcells l) 164 2, o] := fun x hx o =>
      hK _ _ _ _ (Wk_of [0] rfl rfl (by simp [pickL, AO.ren, bcells_ren]) (by cbv)) ⟨x, hx, rfl, rfl⟩
    dsimp only [refH, refV] at hK ⊢
    generalize hn : l.length = m at ⊢
    generalize hb : bcells l = bl at fin ⊢
    cbv
    refine ⟨hal, ?_⟩
    refine bm (fun h1 => ?_) fun h1 => ?_
    · cbv
      exact fin _ (by subst hE; simp [realE, realBin, realCmp] at h1; simp [h1]) _
    · cbv
      refine bm (fun h2 => ?_) fun h2 => ?_
      · cbv
        exact fin _ (by subst hE; simp [realE, realBin, realCmp] at h1 h2; simp [h1, h2]) _
      · cbv
        refine bm (fun h3 => ?_) fun h3 => ?_
        · cbv
          exact fin _ (by subst hE; simp [realE, realBin, realCmp] at h1 h2 h3; simp [h1, h2, h3]) _
        · cbv
          refine bm (fun h4 => ?_) fun h4 => ?_
          · cbv
            exact fin _ (by subst hE; simp [realE, realBin, realCmp] at h1 h2 h3 h4; simp [h1, h2, h4]) _
          · cbv
            refine bm (fun h5 => ?_) fun h5 => ?_
            · cbv
              exact fin _ (by subst hE; simp [realE, realBin, realCmp] at h1 h2 h3 h4 h5; simp [h1, h2, h5]) _
            · cbv
              exact fin _ (by subst hE; simp [realE, realBin, realCmp] at h1 h2 h3 h4 h5; simp [h1, h2]; omega) _
theorem ac14 (n : Int) : AC prog 14 [u64 n] [] (fun r H => ∃ s, s = (if n > 2199023255552 then 2199023255552 else n) ∧ r = .c (.agg [.int .u64 s, .nils]) ∧ H = []) :=
  AC_fn (hs := []) tyOk mixed func14 (by kernel_rfl) fun E K hE hK => by
    cbv
    refine bm (fun h1 => ?_) fun h1 => ?_
    · cbv
      exact hK _ _ _ _ (Wk_of [] rfl rfl rfl (by cbv)) ⟨2199023255552, by subst hE; simp [realE, realCmp] at h1; simp [h1], rfl, rfl⟩
    · cbv
      exact hK _ _ _ _ (Wk_of [] rfl rfl rfl (by cbv)) ⟨n, by subst hE; simp [realE, realCmp] at h1; simp; omega, rfl, rfl⟩
def rpwS (a : Int) : Nat → List (Int × Int) → Int → List (Int × Int)
  | 0, l, _ => l
  | i + 1, l, v => rpwS a i (rputS l (IntKind.u64.wrap (IntKind.u64.wrap (a + (i + 1 : Nat)) - 1)) (IntKind.u8.wrap (v.tmod 256))) (IntKind.u64.wrap (v.tdiv 256))
theorem rputS_len (l : List (Int × Int)) (a b : Int) : (rputS l a b).length ≤ l.length + 1 := by
  have := List.length_filter_le (fun p : Int × Int => p.1 != a) l
  unfold rputS
  split <;> simp <;> omega
theorem u64_id {n : Int} (h0 : 0 ≤ n) (h1 : n ≤ 1000000000) : IntKind.u64.wrap n = n := by
  have : IntKind.u64.wrap n = n % 18446744073709551616 := by simp [IntKind.wrap, IntKind.signed, IntKind.bits]
  rw [this]; omega
theorem ac68 (s a v : Int) (l : List (Int × Int)) (hl : l.length ≤ 999990) : AC prog 68 [refV s l.length, u64 a, u64 v] (refH l)
    (fun r H => ∃ l', l' = rpwS a 8 l v ∧ r = .c (.agg [.int .u64 s, .vec 1 l'.length]) ∧ H = [.vec (bcells l) 164 2, .vec (bcells l') 164 2]) :=
  AC_fn (hs := []) tyOk mixed func68 (by kernel_rfl) fun E K hE hK => by
    dsimp only [refH, refV] at hK ⊢
    generalize hn : l.length = n at hl ⊢
    generalize hb : bcells l = bl at hK ⊢
    have hren : ∀ g, bl.map (SV.ren g) = bl := fun g => by rw [← hb]; exact bcells_ren g l
    cbv
    refine loop_intro [2, 7, 8, 9, 10, 11, 12, 13, 14, 15, 16, 17, 18, 19, 20, 21, 22] (fun st : Bool × Nat × List (Int × Int) × Int => [(2, u64 st.2.2.2), (7, u64 st.2.1)])
      (fun st => match st.1 with
        | true => [.vec bl 164 2, .cells [.int .u64 s, .vec 0 n] 28, .cells [.int .u64 0, .nils] 28]
        | false => [.vec bl 164 2, .cells [.int .u64 s, .vec 3 st.2.2.1.length] 28, .cells [.int .u64 0, .nils] 28, .vec (bcells st.2.2.1) 164 2])
      (fun st => st.2.1 ≤ 8 ∧ (st.1 = true → st.2.1 = 8 ∧ st.2.2.1 = l) ∧ st.2.2.1.length + st.2.1 ≤ n + 8 ∧ rpwS a st.2.1 st.2.2.1 st.2.2.2 = rpwS a 8 l v) (fun st => st.2.1) (true, 8, l, v) ?_ ?_ ?_
    · refine Wk_of [0, 1, 2] rfl rfl ?_ ?_
      · simp [pickL, AO.ren, SV.ren, gI, hren]
      · cbv
        exact ⟨rfl, trivial⟩
    · exact ⟨Nat.le_refl _, fun _ => ⟨rfl, rfl⟩, by dsimp only; omega, rfl⟩
    · rintro ⟨first, i, cur, w⟩ ⟨hi, hfirst, hlen, hJ⟩ KN hKN
      dsimp only at hi hfirst hlen hJ
      cases first with
      | true =>
        obtain ⟨rfl, rfl⟩ := hfirst rfl
        constructor
        cbv
        refine bm (fun h1 => ?_) fun h1 => ?_
        · cbv
          refine call_subE hE [0] (ac66 s _ _ cur (by omega)) rfl rfl (by simp [pickL, AO.ren, bcells_ren, hb, hren]) (by rw [hn]; rfl) ?_
          rintro _ _ ⟨l', hl', rfl, rfl⟩ r2 H2 h2 h3
          simp [updH, updL, AO.ren, bcells_ren, AV.ren, CV.ren, SV.ren, gI, hb, hren] at h2 h3
          generalize hb' : bcells l' = b' at h3
          generalize hn' : l'.length = n' at h2
          subst h2
          subst h3
          constructor
          cbv
          have hle : l'.length ≤ cur.length + 1 := by rw [hl']; exact rputS_len _ _ _
          refine hKN (false, 7, l', IntKind.u64.wrap (w.tdiv 256)) _ _ ⟨by dsimp only; omega, by simp, by dsimp only; omega, ?_⟩ (by dsimp only; omega) (Wk_of [0, 1, 2, 3] rfl rfl ?_ ?_)
          · rw [← hJ, hl']
            subst hE
            rfl
          · have hrb : ∀ g, b'.map (SV.ren g) = b' := fun g => by rw [← hb']; exact bcells_ren g _
            simp [pickL, AO.ren, SV.ren, gI, hren, bcells_ren, hb', hn', hrb]
          · generalize hq : IntKind.u64.wrap (w.tdiv 256) = q at *
            dsimp only
            cbv
            subst hE
            exact ⟨congrArg (fun x => AV.c (CV.s (SV.int IntKind.u64 x))) hq, by rfl, trivial⟩
        · exfalso
          subst hE
          simp [realE, realCmp] at h1
      | false =>
        constructor
        dsimp only
        generalize hb' : bcells cur = b'
        generalize hn' : cur.length = n'
        have hren' : ∀ g, b'.map (SV.ren g) = b' := fun g => by rw [← hb']; exact bcells_ren g cur
        cbv
        refine bm (fun h1 => ?_) fun h1 => ?_
        · cbv
          have hi0 : 0 < i := by subst hE; simpa [realE, realCmp] using h1
          obtain ⟨k, rfl⟩ : ∃ k, i = k + 1 := ⟨i - 1, by omega⟩
          refine call_subE hE [3] (ac66 s _ _ cur (by omega)) rfl rfl (by simp [pickL, AO.ren, bcells_ren, hb', hren']) (by rw [hn']; rfl) ?_
          rintro _ _ ⟨l', hl', rfl, rfl⟩ r2 H2 h2 h3
          simp [updH, updL, AO.ren, bcells_ren, AV.ren, CV.ren, SV.ren, gI, hb', hren'] at h2 h3
          generalize hb2 : bcells l' = b2 at h3
          generalize hn2 : l'.length = n2 at h2
          subst h2
          subst h3
          constructor
          cbv
          have hle : l'.length ≤ cur.length + 1 := by rw [hl']; exact rputS_len _ _ _
          refine hKN (false, k, l', IntKind.u64.wrap (w.tdiv 256)) _ _ ⟨by dsimp only; omega, by simp, by dsimp only; omega, ?_⟩ (by dsimp only; omega) (Wk_of [0, 1, 2, 4] rfl rfl ?_ ?_)
          · rw [← hJ, hl']
            subst hE
            rfl
          · have hrb : ∀ g, b2.map (SV.ren g) = b2 := fun g => by rw [← hb2]; exact bcells_ren g _
            simp [pickL, AO.ren, SV.ren, gI, hren, bcells_ren, hb2, hn2, hrb]
          · generalize hq : IntKind.u64.wrap (w.tdiv 256) = q at *
            dsimp only
            cbv
            subst hE
            refine ⟨congrArg (fun x => AV.c (CV.s (SV.int IntKind.u64 x))) hq, congrArg (fun x => AV.c (CV.s (SV.int IntKind.u64 x))) ?_, trivial⟩
            show IntKind.u64.wrap (((k + 1 : Nat) : Int) - 1) = (k : Int)
            rw [u64_id (by omega) (by omega)]
            omega
        · have hi0 : i = 0 := by subst hE; simp [realE, realCmp] at h1; omega
          subst hi0
          cbv
          refine hK _ _ _ _ (Wk_of [0, 3] rfl rfl ?_ ?_) ⟨cur, hJ, rfl, rfl⟩
          · simp [pickL, AO.ren, SV.ren, gI, hren, bcells_ren, hb', hn', hren']
          · simp [Fg, AV.ren, CV.ren, SV.ren, gI, hn']
end Go.Proofs.Try
