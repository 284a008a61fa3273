/- The walk: package memory, the loops. -/
import Derived.Test.YtdboiflfehpjhaaMem
set_option linter.unusedVariables false
set_option linter.unusedSimpArgs false
namespace Go.Proofs.Try
open Go Am
set_option maxRecDepth 100000
set_option maxHeartbeats 400000
def clrB (f c b : Int) : Nat → Int → List (Int × Int) → List (Int × Int)
  | 0, _, l => l
  | m + 1, a, l => clrB f c b m (a + 1) (if a ≥ f ∧ IntKind.u64.wrap (a - f) < c then putS l a 0 else l)
def lo8 (k : Int) : Int := IntKind.u64.wrap (k * 8)
def hi8 (k : Int) : Int := IntKind.u64.wrap (lo8 k + 8)
def clrK (f c : Int) (l : List (Int × Int)) (p : Int × Int) : List (Int × Int) := clrB f c (hi8 p.1) (hi8 p.1 - lo8 p.1).toNat (lo8 p.1) l
theorem u64_rng (n : Int) : 0 ≤ IntKind.u64.wrap n ∧ IntKind.u64.wrap n < 18446744073709551616 := by
  have : IntKind.u64.wrap n = n % 18446744073709551616 := by simp [IntKind.wrap, IntKind.signed, IntKind.bits]
  rw [this]; omega
theorem u64_in {n : Int} (h0 : 0 ≤ n) (h1 : n < 18446744073709551616) : IntKind.u64.wrap n = n := by
  have : IntKind.u64.wrap n = n % 18446744073709551616 := by simp [IntKind.wrap, IntKind.signed, IntKind.bits]
  rw [this]; omega
theorem ac17 (s f c : Int) (l0 : List (Int × Int)) : AC prog 17 [sv (.ptr 1 0), u64 f, u64 c] (memH s l0)
    (fun r H => ∃ x l', x = mayS s f c 1 ∧ (if x = 0 then ∃ done : List (Int × Int), done.Perm l0 ∧ l' = done.foldl (clrK f c) l0 else l' = l0) ∧ r = i64 x ∧ H = memH s l') :=
  AC_fn (hs := []) tyOk mixed func17 (by kernel_rfl) fun E K hE hK => by
    cbv
    refine call_go hE (ac75 s f c 1 l0 (by omega)) ?_
    rintro _ _ ⟨x, hx, rfl, rfl⟩
    constructor
    cbv
    refine bm (fun h1 => ?_) fun h1 => ?_
    · cbv
      exact hK _ _ _ _ Wk.refl ⟨x, l0, hx, by subst hE; simp [realE, realCmp] at h1; simp [h1], rfl, rfl⟩
    · have hx0 : x = 0 := by subst hE; simpa [realE, realCmp] using h1
      cbv
      refine call_sub hE [0] (ac76 l0) rfl rfl rfl rfl ?_
      rintro _ _ ⟨rfl, rfl⟩
      constructor
      cbv
      refine loop_intro [8, 9, 23, 24, 25, 26, 27, 28, 29, 30, 31, 32, 33, 34, 35, 36, 37, 38, 39, 40, 41, 42, 43, 44, 45, 46, 47, 48] (fun _ : List (Int × Int) × List (Int × Int) × List (Int × Int) => [])
        (fun st => [.m64 st.2.2, .cells [.int .u64 s, .mp 0] 110, .m64 l0, .it64 2 (st.1, st.2.1)]) (fun st => ∃ done : List (Int × Int), (done ++ st.1).Perm l0 ∧ st.2.2 = done.foldl (clrK f c) l0) (fun st => st.1.length) (l0, [], l0) ?_ ?_ ?_
      · refine Wk_of [0, 1, 2, 3] rfl rfl rfl ?_
        cbv
      · exact ⟨[], .refl _, rfl⟩
      · rintro ⟨todo, cur, l⟩ ⟨done, hperm, hl⟩ KN hKN
        dsimp only at hperm hl
        constructor
        cbv
        refine next_of hE (fun h0 => ?_) (fun k v rest hr => ?_)
        · cbv
          refine hK _ _ _ _ (Wk_of [0, 1] rfl rfl rfl (by cbv)) ⟨0, l, by rw [← hx0]; exact hx, ?_, rfl, rfl⟩
          rw [if_pos rfl]
          exact ⟨done, by rw [h0, List.append_nil] at hperm; exact hperm, hl⟩
        · cbv
          refine loop_intro [9, 29, 30, 31, 32, 33, 34, 35, 36, 37, 38, 39, 40, 41, 42, 43, 44, 45, 46, 47, 48] (fun st : Int × List (Int × Int) => [(9, u64 st.1)])
            (fun st => [.m64 st.2, .cells [.int .u64 s, .mp 0] 110, .m64 l0, .it64 2 (rest, [(k, v)])]) (fun st => 0 ≤ st.1 ∧ clrB f c (hi8 k) (hi8 k - st.1).toNat st.1 st.2 = clrK f c l (k, v)) (fun st => (hi8 k - st.1).toNat) (Ev.bin E .mul .u64 k 8, l) ?_ ?_ ?_
          · refine Wk_of [0, 1, 2, 3] rfl rfl rfl ?_
            cbv
          · subst hE
            exact ⟨(u64_rng _).1, rfl⟩
          · rintro ⟨a, m⟩ ⟨ha, hJ⟩ KM hKM
            dsimp only at ha hJ
            constructor
            cbv
            refine bm (fun h2 => ?_) fun h2 => ?_
            · have hlt : a < hi8 k := by subst hE; exact of_decide_eq_true h2
              have hb : hi8 k < 18446744073709551616 := (u64_rng (lo8 k + 8)).2
              have hn : (hi8 k - a).toNat = (hi8 k - (a + 1)).toNat + 1 := by omega
              cbv
              refine bm (fun h3 => ?_) fun h3 => ?_
              · cbv
                refine bm (fun h4 => ?_) fun h4 => ?_
                · have hyes : a ≥ f ∧ IntKind.u64.wrap (a - f) < c := by subst hE; exact ⟨of_decide_eq_true h3, of_decide_eq_true h4⟩
                  cbv
                  refine call_sub hE [0, 1] (ac77 s a 0 m) rfl rfl rfl rfl ?_
                  rintro _ _ ⟨m', hm', rfl, rfl⟩
                  constructor
                  cbv
                  refine hKM (a + 1, m') _ _ ⟨by dsimp only; omega, ?_⟩ (by dsimp only; omega) (Wk_of [0, 1, 2, 3] rfl rfl rfl ?_)
                  · rw [← hJ, hn, clrB, if_pos hyes, hm']
                  · generalize hq : a + 1 = q at *
                    dsimp only
                    cbv
                    subst hE
                    refine ⟨congrArg (fun x => AV.c (CV.s (SV.int IntKind.u64 x))) ?_, trivial⟩
                    show IntKind.u64.wrap (a + 1) = q
                    rw [u64_in (by omega) (by omega), hq]
                · have hno : ¬ (a ≥ f ∧ IntKind.u64.wrap (a - f) < c) := by subst hE; exact fun h => absurd h.2 (of_decide_eq_false h4)
                  cbv
                  refine hKM (a + 1, m) _ _ ⟨by dsimp only; omega, ?_⟩ (by dsimp only; omega) (Wk_of [0, 1, 2, 3] rfl rfl rfl ?_)
                  · rw [← hJ, hn, clrB, if_neg hno]
                  · generalize hq : a + 1 = q at *
                    dsimp only
                    cbv
                    subst hE
                    refine ⟨congrArg (fun x => AV.c (CV.s (SV.int IntKind.u64 x))) ?_, trivial⟩
                    show IntKind.u64.wrap (a + 1) = q
                    rw [u64_in (by omega) (by omega), hq]
              · have hno : ¬ (a ≥ f ∧ IntKind.u64.wrap (a - f) < c) := by subst hE; exact fun h => absurd h.1 (of_decide_eq_false h3)
                cbv
                refine hKM (a + 1, m) _ _ ⟨by dsimp only; omega, ?_⟩ (by dsimp only; omega) (Wk_of [0, 1, 2, 3] rfl rfl rfl ?_)
                · rw [← hJ, hn, clrB, if_neg hno]
                · generalize hq : a + 1 = q at *
                  dsimp only
                  cbv
                  subst hE
                  refine ⟨congrArg (fun x => AV.c (CV.s (SV.int IntKind.u64 x))) ?_, trivial⟩
                  show IntKind.u64.wrap (a + 1) = q
                  rw [u64_in (by omega) (by omega), hq]
            · have hge : hi8 k ≤ a := by subst hE; exact Int.not_lt.1 (of_decide_eq_false h2)
              have h0 : (hi8 k - a).toNat = 0 := by omega
              cbv
              refine hKN (rest, [(k, v)], m) _ _ ⟨done ++ [(k, v)], ?_, ?_⟩ (by have := hr.length_eq; simp at this; dsimp only; omega) (Wk_of [0, 1, 2, 3] rfl rfl rfl ?_)
              · refine (List.Perm.trans ?_ hperm)
                rw [List.append_assoc]
                exact List.Perm.append_left done hr.symm
              · rw [List.foldl_append, ← hl]
                simp only [List.foldl_cons, List.foldl_nil]
                rw [← hJ, h0]
                rfl
              · cbv
end Go.Proofs.Try
