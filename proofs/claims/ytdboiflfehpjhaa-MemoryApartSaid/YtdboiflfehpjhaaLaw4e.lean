/- The walk: the law of memory. -/
import Derived.Test.YtdboiflfehpjhaaLaw4d
set_option linter.unusedVariables false
set_option linter.unusedSimpArgs false
namespace Go.Proofs.Try
open Go Am
set_option maxRecDepth 100000
set_option maxHeartbeats 1000000
structure Deed where
  k : Int
  a : Int
  v : Int
  n : Int
def dcells (l : List Deed) : List SV := l.flatMap fun d => [.int .i64 d.k, .int .u64 d.a, .int .u64 d.v, .int .u64 d.n]
theorem dcells_ren (g : Nat → Nat) (l : List Deed) : (dcells l).map (SV.ren g) = dcells l := by
  induction l with
  | nil => rfl
  | cons p l ih => simp [dcells, SV.ren] at ih ⊢; exact ih
theorem dcells_sub {l : List Deed} {i : Nat} {d : Deed} (h : l[i]? = some d) : subL (dcells l) (i * 4) 4 = some [.int .i64 d.k, .int .u64 d.a, .int .u64 d.v, .int .u64 d.n] := by
  induction l generalizing i with
  | nil => simp at h
  | cons q l ih =>
    cases i with
    | zero => simp at h; subst h; simp [dcells, subL]
    | succ i =>
      rw [show (i + 1) * 4 = i * 4 + 4 by omega]
      exact ih (by simpa using h)
def R64 (n : Int) : Prop := 0 ≤ n ∧ n < 18446744073709551616
/-- What is asked of the plain law. -/
structure Plain4 (Inv : List (Int × Int) → List (Int × Int) → Prop) : Prop where
  nil : Inv [] []
  byte : ∀ l bl a, Inv l bl → R64 a → mayS 1000 a 1 1 = 0 → getS l a = mgetL bl a
  word : ∀ l bl a, Inv l bl → R64 a → mayS 1000 a 8 8 = 0 → mgetL l (realBin .quo .u64 a 8) = rwS bl a 8 0 0
  pair : ∀ l bl a, Inv l bl → R64 a → mayS 1000 a 16 16 = 0 → mgetL l (realBin .quo .u64 a 8) = rwS bl a 8 0 0 ∧ mgetL l (realBin .add .u64 (realBin .quo .u64 a 8) 1) = rwS bl (realBin .add .u64 a 8) 8 0 0
  step : ∀ k a v n l bl l' bl', Inv l bl → R64 a → R64 v → R64 n → Step k a v n l bl l' bl' → Inv l' bl'
  len : ∀ l bl, Inv l bl → bl.length ≤ 1000
  clear : ∀ (l bl d : List (Int × Int)), Inv l bl → d.Perm l → d.foldl (clrK 0 1000) l = []
def hs3 : List (Nat × DT) := [(9, .op 0 (.op 1 (.op 2 (.op 3 (.op 4 (.op 5 (.fork 6 (.op 7 (.op 8 (.op 9 (.op 10 (.op 11 (.op 12 (.done))))))) 10 (.op 6 (.op 7 (.op 8 (.op 9 (.op 11 (.op 12 (.done))))))))))))))]
theorem word_may (a : Int) (ha : R64 a) : mayS 1000 (realBin .mul .u64 (realBin .rem .u64 a 100) 8) 8 8 = 0 := by
  obtain ⟨h0, h1⟩ := ha
  show mayS 1000 (IntKind.u64.wrap (a.tmod 100 * 8)) 8 8 = 0
  have h2 : a.tmod 100 = a % 100 := Int.tmod_eq_emod_of_nonneg h0
  rw [h2, u64_in (by omega) (by omega)]
  unfold mayS
  have h3 : (a % 100 * 8).tmod 8 = 0 := by rw [Int.tmod_eq_emod_of_nonneg (by omega)]; omega
  rw [if_neg (by rw [h3]; simp), u64_in (by omega) (by omega), if_neg (by omega)]
theorem ac3 {Inv : List (Int × Int) → List (Int × Int) → Prop} (hP : Plain4 Inv) (ds : List Deed) (hds : ∀ d ∈ ds, R64 d.a ∧ R64 d.v ∧ R64 d.n) (a : Int) (ha : R64 a) :
    AC prog 3 [sv (.sl 0 0 ds.length), u64 a] [.ro (dcells ds)] (fun r H => r = sv (.bool true) ∧ H = [.ro (dcells ds)]) :=
  AC_fn (hs := hs3) tyOk mixed func3 (by kernel_rfl) fun E K hE hK => by
    generalize hN : ds.length = N
    have fin : ∀ b, b = true → ∀ o1 o2 o3 o4 o5 o6, K (sv (.bool b)) [.ro (dcells ds), o1, o2, o3, o4, o5, o6] := fun b hb o1 o2 o3 o4 o5 o6 => by
      subst hb
      refine hK _ _ _ _ (Wk_of [0] rfl rfl (by simp [pickL, AO.ren, dcells_ren]) ?_) ⟨rfl, rfl⟩
      simp [Fg, AV.ren, CV.ren, SV.ren]
    generalize hdc : dcells ds = dc at fin ⊢
    have hdr : ∀ g, dc.map (SV.ren g) = dc := fun g => by rw [← hdc]; exact dcells_ren g ds
    cbv
    refine call_subE hE [] (ac13 1000) rfl rfl rfl rfl ?_
    rintro _ _ ⟨s, hs, rfl, rfl⟩ r2 H2 e1 e2
    have hs : s = 1000 := by rw [hs]; rfl
    subst hs
    simp [updH, updL, AO.ren, AV.ren, CV.ren, SV.ren, gI] at e1 e2
    subst e1
    subst e2
    constructor
    cbv
    refine call_subE hE [] (ac13 1000) rfl rfl rfl rfl ?_
    rintro _ _ ⟨s, hs, rfl, rfl⟩ r2 H2 e1 e2
    have hs : s = 1000 := by rw [hs]; rfl
    subst hs
    simp [updH, updL, AO.ren, AV.ren, CV.ren, SV.ren, gI] at e1 e2
    subst e1
    subst e2
    constructor
    cbv
    refine call_subE hE [] (ac14 1000) rfl rfl rfl rfl ?_
    rintro _ _ ⟨s, hs, rfl, rfl⟩ r2 H2 e1 e2
    have hs : s = 1000 := by rw [hs]; rfl
    subst hs
    simp [updH, updL, AO.ren, AV.ren, CV.ren, SV.ren, gI] at e1 e2
    subst e1
    subst e2
    constructor
    cbv
    refine loop_intro [8, 9, 10, 22, 23, 24, 25, 26, 27, 28, 29, 30, 31, 32, 33, 34, 35, 36, 37, 38, 39, 40, 41, 42, 43, 44] (fun st : Nat × List (Int × Int) × List (Int × Int) => [(8, i64 st.1)])
      (fun st => [.ro dc, .m64 st.2.1, .cells [.int .u64 1000, .mp 1] 110, .m64 [], .cells [.int .u64 1000, .mp 3] 110, .cells [.int .u64 1000, .vec 6 st.2.2.length] 28, .vec (bcells st.2.2) 164 2])
      (fun st => st.1 ≤ N ∧ st.1 ≤ 20 ∧ Inv st.2.1 st.2.2) (fun st => N - st.1) (0, [], []) ?_ ?_ ?_
    · refine Wk.trans (Wk_nils (H' := [.ro dc, .m64 [], .cells [.int .u64 1000, .mp 1] 110, .m64 [], .cells [.int .u64 1000, .mp 3] 110, .cells [.int .u64 1000, .vec 6 0] 28]) 164 2 (by simp) (All2.same (nilV_refl _) _) ?_) (Wk_of [0, 1, 2, 3, 4, 5, 6] rfl rfl ?_ ?_)
      · refine ⟨rfl, rfl, ⟨⟨.inl rfl, .inl rfl, trivial⟩, rfl⟩, rfl, ⟨⟨.inl rfl, .inl rfl, trivial⟩, rfl⟩, ⟨⟨.inl rfl, .inr ⟨rfl, rfl⟩, trivial⟩, rfl⟩, trivial⟩
      · simp [pickL, AO.ren, SV.ren, gI, hdr, bcells]
      · cbv
        exact ⟨rfl, trivial⟩
    · exact ⟨Nat.zero_le _, Nat.zero_le _, hP.nil⟩
    · rintro ⟨i, l, bl⟩ ⟨hi, hi20, hI⟩ KN hKN
      dsimp only at hi hi20 hI
      have hbl := hP.len l bl hI
      generalize hn : bl.length = m at hbl
      generalize hbc : bcells bl = bc
      have hren : ∀ g, bc.map (SV.ren g) = bc := fun g => by rw [← hbc]; exact bcells_ren g bl
      constructor
      dsimp only

      cbv
      refine bm (fun h1 => ?_) fun h1 => ?_
      · cbv
        have hlt : i < N := by subst hE; simpa [realE, realCmp] using h1
        refine bm (fun h2 => ?_) fun h2 => ?_
        · cbv
          have hlt2 : i < 20 := by subst hE; simp [realE, realCmp] at h2; omega
          obtain ⟨d, hd⟩ : ∃ d, ds[i]? = some d := ⟨_, List.getElem?_eq_getElem (by omega)⟩
          obtain ⟨k, da, dv, dn⟩ := d
          obtain ⟨ra, rv, rn⟩ := hds _ (List.mem_of_getElem? hd)
          have g3 := dcells_sub hd
          rw [hdc] at g3
          dsimp only at ra rv rn g3
          have hdoes := ac15 k da dv dn l bl (by omega) ra rv rn (hP.byte l bl da hI ra) (hP.word l bl da hI ra) (hP.pair l bl da hI ra)
          refine ⟨by subst hE; exact Int.natCast_nonneg i, by subst hE; simpa [realE] using hlt, ?_⟩
          refine sub_of hE [.int .i64 k, .int .u64 da, .int .u64 dv, .int .u64 dn] (by subst hE; simpa [realE] using g3) ?_
          cbv
          refine ⟨?_, ?_⟩
          · refine call_subE hE [1, 2, 6] hdoes rfl rfl (by simp [pickL, AO.ren, SV.ren, gI, bcells_ren, hbc, hren]) (by rw [hn]; rfl) ?_
            rintro _ _ ⟨l', bl', hS, hcase⟩ r2 H2 e1 e2
            have hI' := hP.step _ _ _ _ _ _ _ _ hI ra rv rn hS
            rcases hcase with ⟨rfl, rfl, rfl⟩ | ⟨rfl, rfl⟩
            · simp [updH, updL, bcells_ren, AO.ren, AV.ren, CV.ren, SV.ren, gI, hren, hbc, hn] at e1 e2
              subst e1
              subst e2
              constructor
              cbv
              refine hKN (i + 1, l', _) _ _ ⟨hlt, by dsimp only; omega, hI'⟩ (by dsimp only; omega) (Wk_of [0, 1, 2, 3, 4, 5, 6] rfl rfl (by simp [pickL, AO.ren, SV.ren, gI, hdr, hbc, hn, hren]) ?_)
              cbv
              subst hE
              simp [realE, realBin]
              exact wrap_id (by omega) (by omega)
            · simp [updH, updL, bcells_ren, AO.ren, AV.ren, CV.ren, SV.ren, gI, hren, hbc, hn] at e1 e2
              generalize hb2 : bcells bl' = b2 at e2
              generalize hn2 : bl'.length = n2 at e1
              have hr2 : ∀ g, b2.map (SV.ren g) = b2 := fun g => by rw [← hb2]; exact bcells_ren g _
              subst e1
              subst e2
              constructor
              cbv
              refine hKN (i + 1, l', bl') _ _ ⟨hlt, by dsimp only; omega, hI'⟩ (by dsimp only; omega) (Wk_of [0, 1, 2, 3, 4, 5, 7] rfl rfl (by simp [pickL, AO.ren, SV.ren, gI, hdr, hb2, hn2, hr2]) ?_)
              cbv
              subst hE
              simp [realE, realBin]
              exact wrap_id (by omega) (by omega)
          · refine call_subE hE [1, 2, 6] hdoes rfl rfl (by simp [pickL, AO.ren, SV.ren, gI, bcells_ren, hbc, hren]) (by rw [hn]; rfl) ?_
            rintro _ _ ⟨l', bl', hS, hcase⟩ r2 H2 e1 e2
            have hI' := hP.step _ _ _ _ _ _ _ _ hI ra rv rn hS
            rcases hcase with ⟨rfl, rfl, rfl⟩ | ⟨rfl, rfl⟩
            · simp [updH, updL, bcells_ren, AO.ren, AV.ren, CV.ren, SV.ren, gI, hren, hbc, hn] at e1 e2
              subst e1
              subst e2
              constructor
              cbv
              refine hKN (i + 1, l', _) _ _ ⟨hlt, by dsimp only; omega, hI'⟩ (by dsimp only; omega) (Wk_of [0, 1, 2, 3, 4, 5, 6] rfl rfl (by simp [pickL, AO.ren, SV.ren, gI, hdr, hbc, hn, hren]) ?_)
              cbv
              subst hE
              simp [realE, realBin]
              exact wrap_id (by omega) (by omega)
            · simp [updH, updL, bcells_ren, AO.ren, AV.ren, CV.ren, SV.ren, gI, hren, hbc, hn] at e1 e2
              generalize hb2 : bcells bl' = b2 at e2
              generalize hn2 : bl'.length = n2 at e1
              have hr2 : ∀ g, b2.map (SV.ren g) = b2 := fun g => by rw [← hb2]; exact bcells_ren g _
              subst e1
              subst e2
              constructor
              cbv
              refine hKN (i + 1, l', bl') _ _ ⟨hlt, by dsimp only; omega, hI'⟩ (by dsimp only; omega) (Wk_of [0, 1, 2, 3, 4, 5, 8] rfl rfl (by simp [pickL, AO.ren, SV.ren, gI, hdr, hb2, hn2, hr2]) ?_)
              cbv
              subst hE
              simp [realE, realBin]
              exact wrap_id (by omega) (by omega)
        · cbv
          refine call_subE hE [3, 4] (ac16 1000 []) rfl rfl rfl rfl ?_
          rintro _ _ ⟨u, hu, rfl, rfl⟩ r2 H2 e1 e2
          have hu : u = 0 := by rw [hu]; rfl
          subst hu
          simp [updH, updL, AO.ren, AV.ren, CV.ren, SV.ren, gI] at e1 e2
          subst e1
          subst e2
          constructor
          cbv
          refine bmF (by subst hE; rfl) ?_
          cbv
          refine call_subE hE [1, 2] (ac17 1000 0 1000 l) rfl rfl rfl rfl ?_
          rintro _ _ ⟨x, l', hx, hl', rfl, rfl⟩ r2 H2 e1 e2
          have hx : x = 0 := by rw [hx]; decide
          subst hx
          rw [if_pos rfl] at hl'
          obtain ⟨done, hd, hl'⟩ := hl'
          rw [hP.clear l bl done hI hd] at hl'
          subst hl'
          simp [updH, updL, AO.ren, AV.ren, CV.ren, SV.ren, gI] at e1 e2
          subst e1
          subst e2
          constructor
          cbv
          refine bmF (by subst hE; rfl) ?_
          cbv
          refine call_subE hE [1, 2] (ac16 1000 []) rfl rfl rfl rfl ?_
          rintro _ _ ⟨u, hu, rfl, rfl⟩ r2 H2 e1 e2
          have hu : u = 0 := by rw [hu]; rfl
          subst hu
          simp [updH, updL, AO.ren, AV.ren, CV.ren, SV.ren, gI] at e1 e2
          subst e1
          subst e2
          constructor
          cbv
          refine bmF (by subst hE; rfl) ?_
          cbv
          refine call_subE hE [1, 2] (ac18 1000 (Ev.bin E .mul .u64 (Ev.bin E .rem .u64 a 100) 8) []) rfl rfl rfl rfl ?_
          rintro _ _ ⟨x, y, hx, hy, rfl, rfl⟩ r2 H2 e1 e2
          have hx : x = 0 := by rw [hx]; subst hE; exact word_may a ha
          subst hx
          have hy : y = 0 := by rw [hy]; rfl
          subst hy
          simp [updH, updL, AO.ren, AV.ren, CV.ren, SV.ren, gI] at e1 e2
          subst e1
          subst e2
          constructor
          cbv
          refine bmT (by subst hE; rfl) ?_
          cbv
          refine bmT (by subst hE; rfl) ?_
          cbv
          refine call_subE hE [] ac19 rfl rfl rfl rfl ?_
          rintro _ _ ⟨rfl, rfl⟩ r2 H2 e1 e2
          simp [updH, updL, AO.ren, AV.ren, CV.ren, SV.ren, gI] at e1 e2
          subst e1
          subst e2
          constructor
          cbv
          exact fin true rfl _ _ _ _ _ _
      · cbv
        refine call_subE hE [3, 4] (ac16 1000 []) rfl rfl rfl rfl ?_
        rintro _ _ ⟨u, hu, rfl, rfl⟩ r2 H2 e1 e2
        have hu : u = 0 := by rw [hu]; rfl
        subst hu
        simp [updH, updL, AO.ren, AV.ren, CV.ren, SV.ren, gI] at e1 e2
        subst e1
        subst e2
        constructor
        cbv
        refine bmF (by subst hE; rfl) ?_
        cbv
        refine call_subE hE [1, 2] (ac17 1000 0 1000 l) rfl rfl rfl rfl ?_
        rintro _ _ ⟨x, l', hx, hl', rfl, rfl⟩ r2 H2 e1 e2
        have hx : x = 0 := by rw [hx]; decide
        subst hx
        rw [if_pos rfl] at hl'
        obtain ⟨done, hd, hl'⟩ := hl'
        rw [hP.clear l bl done hI hd] at hl'
        subst hl'
        simp [updH, updL, AO.ren, AV.ren, CV.ren, SV.ren, gI] at e1 e2
        subst e1
        subst e2
        constructor
        cbv
        refine bmF (by subst hE; rfl) ?_
        cbv
        refine call_subE hE [1, 2] (ac16 1000 []) rfl rfl rfl rfl ?_
        rintro _ _ ⟨u, hu, rfl, rfl⟩ r2 H2 e1 e2
        have hu : u = 0 := by rw [hu]; rfl
        subst hu
        simp [updH, updL, AO.ren, AV.ren, CV.ren, SV.ren, gI] at e1 e2
        subst e1
        subst e2
        constructor
        cbv
        refine bmF (by subst hE; rfl) ?_
        cbv
        refine call_subE hE [1, 2] (ac18 1000 (Ev.bin E .mul .u64 (Ev.bin E .rem .u64 a 100) 8) []) rfl rfl rfl rfl ?_
        rintro _ _ ⟨x, y, hx, hy, rfl, rfl⟩ r2 H2 e1 e2
        have hx : x = 0 := by rw [hx]; subst hE; exact word_may a ha
        subst hx
        have hy : y = 0 := by rw [hy]; rfl
        subst hy
        simp [updH, updL, AO.ren, AV.ren, CV.ren, SV.ren, gI] at e1 e2
        subst e1
        subst e2
        constructor
        cbv
        refine bmT (by subst hE; rfl) ?_
        cbv
        refine bmT (by subst hE; rfl) ?_
        cbv
        refine call_subE hE [] ac19 rfl rfl rfl rfl ?_
        rintro _ _ ⟨rfl, rfl⟩ r2 H2 e1 e2
        simp [updH, updL, AO.ren, AV.ren, CV.ren, SV.ren, gI] at e1 e2
        subst e1
        subst e2
        constructor
        cbv
        exact fin true rfl _ _ _ _ _ _
end Go.Proofs.Try
