/- The walk: package memory, Copy. -/
import Derived.Test.YtdboiflfehpjhaaMem2
set_option linter.unusedVariables false
set_option linter.unusedSimpArgs false
namespace Go.Proofs.Try
open Go Am
set_option maxRecDepth 100000
set_option maxHeartbeats 400000
theorem ac121i (s a : Int) (l : List (Int × Int)) (td : Todo) : AC prog 121 [sv (.ptr 1 0), u64 a] (memH s l ++ [.it64 0 td]) (fun r H => ∃ x, x = getS l a ∧ r = sv (.int .u8 x) ∧ H = memH s l ++ [.it64 0 td]) :=
  AC_fn (hs := hs121) tyOk mixed func121 (by kernel_rfl) fun E K hE hK => by
    cbv
    refine call_sub hE [] (ac126 a) rfl rfl rfl rfl ?_
    rintro _ _ ⟨x, hx, rfl, rfl⟩
    constructor
    cbv
    refine ⟨by subst hE; rw [hx]; exact shift_nn a, ?_⟩
    exact hK _ _ _ _ Wk.refl ⟨_, by subst hE; rw [hx]; rfl, rfl, rfl⟩
def cpyB (f t c : Int) (l0 : List (Int × Int)) : Nat → Int → List (Int × Int) → List (Int × Int)
  | 0, _, l => l
  | m + 1, a, l => cpyB f t c l0 m (a + 1) (if a ≥ f ∧ IntKind.u64.wrap (a - f) < c then putS l (IntKind.u64.wrap (IntKind.u64.wrap (t + a) - f)) (getS l0 a) else l)
def cpyK (f t c : Int) (l0 l : List (Int × Int)) (p : Int × Int) : List (Int × Int) := cpyB f t c l0 (hi8 p.1 - lo8 p.1).toNat (lo8 p.1) l
def hs73 : List (Nat × DT) := [(7, .op 0 (.op 1 (.op 2 (.op 3 (.op 4 (.op 5 (.op 6 (.op 7 (.op 8 (.op 9 (.op 10 (.op 11 (.done)))))))))))))]
theorem ac73 (s f t c : Int) (l0 : List (Int × Int)) : AC prog 73 [sv (.ptr 1 0), u64 f, u64 t, u64 c] (memH s l0)
    (fun r H => ∃ x l', x = (if mayS s f c 1 ≠ 0 then mayS s f c 1 else mayS s t c 1) ∧
      (if x = 0 then ∃ d1 d2 : List (Int × Int), d1.Perm l0 ∧ d2.Perm l0 ∧ l' = d2.foldl (cpyK f t c l0) (d1.foldl (clrK t c) l0) else l' = l0) ∧ r = i64 x ∧ H = memH s l') :=
  AC_fn (hs := hs73) tyOk mixed func73 (by kernel_rfl) fun E K hE hK => by
    cbv
    refine call_go hE (ac75 s f c 1 l0 (by omega)) ?_
    rintro _ _ ⟨x, hx, rfl, rfl⟩
    constructor
    cbv
    refine bm (fun h1 => ?_) fun h1 => ?_
    · have hx0 : x ≠ 0 := by subst hE; simpa [realE, realCmp] using h1
      cbv
      exact hK _ _ _ _ Wk.refl ⟨x, l0, by rw [← hx, if_pos hx0], by rw [if_neg hx0], rfl, rfl⟩
    · have hx0 : x = 0 := by subst hE; simpa [realE, realCmp] using h1
      cbv
      refine call_go hE (ac75 s t c 1 l0 (by omega)) ?_
      rintro _ _ ⟨y, hy, rfl, rfl⟩
      constructor
      cbv
      have hxy : (if mayS s f c 1 ≠ 0 then mayS s f c 1 else mayS s t c 1) = y := by rw [← hx, hx0, if_neg (by simp), hy]
      refine bm (fun h2 => ?_) fun h2 => ?_
      · have hy0 : y ≠ 0 := by subst hE; simpa [realE, realCmp] using h2
        cbv
        exact hK _ _ _ _ Wk.refl ⟨y, l0, hxy.symm, by rw [if_neg hy0], rfl, rfl⟩
      · have hy0 : y = 0 := by subst hE; simpa [realE, realCmp] using h2
        cbv
        refine call_sub hE [0] (ac76 l0) rfl rfl rfl rfl ?_
        rintro _ _ ⟨rfl, rfl⟩
        constructor
        cbv
        refine call_sub hE [0, 1] (ac17 s t c l0) rfl rfl rfl rfl ?_
        rintro _ _ ⟨z, l1, hz, hl1, rfl, rfl⟩
        have hz0 : z = 0 := by rw [hz, ← hy, hy0]
        rw [if_pos hz0] at hl1
        obtain ⟨d1, hd1, hl1⟩ := hl1
        constructor
        cbv
        refine loop_intro [12, 13, 48, 49, 50, 51, 52, 53, 54, 55, 56, 57, 58, 59, 60, 61, 62, 63, 64, 65, 66, 67, 68, 69, 70, 71, 72, 73, 74, 75, 76, 77, 78, 79, 80] (fun _ : List (Int × Int) × List (Int × Int) × List (Int × Int) => [])
          (fun st => [.m64 st.2.2, .cells [.int .u64 s, .mp 0] 110, .m64 l0, .cells [.int .u64 s, .mp 2] 110, .it64 2 (st.1, st.2.1)]) (fun st => ∃ done : List (Int × Int), (done ++ st.1).Perm l0 ∧ st.2.2 = done.foldl (cpyK f t c l0) l1) (fun st => st.1.length) (l0, [], l1) ?_ ?_ ?_
        · refine Wk_of [0, 1, 2, 3, 4] rfl rfl rfl ?_
          cbv
        · exact ⟨[], .refl _, rfl⟩
        · rintro ⟨todo, cur, l⟩ ⟨done, hperm, hl⟩ KN hKN
          dsimp only at hperm hl
          constructor
          cbv
          refine next_of hE (fun h0 => ?_) (fun k v rest hr => ?_)
          · cbv
            refine hK _ _ _ _ (Wk_of [0, 1] rfl rfl rfl (by cbv)) ⟨0, l, by rw [hxy, hy0], ?_, rfl, rfl⟩
            rw [if_pos rfl]
            exact ⟨d1, done, hd1, by rw [h0, List.append_nil] at hperm; exact hperm, by rw [hl, hl1]⟩
          · cbv
            refine loop_intro [13, 54, 55, 56, 57, 58, 59, 60, 61, 62, 63, 64, 65, 66, 67, 68, 69, 70, 71, 72, 73, 74, 75, 76, 77, 78, 79, 80] (fun st : Int × List (Int × Int) => [(13, u64 st.1)])
              (fun st => [.m64 st.2, .cells [.int .u64 s, .mp 0] 110, .m64 l0, .cells [.int .u64 s, .mp 2] 110, .it64 2 (rest, [(k, v)])]) (fun st => 0 ≤ st.1 ∧ cpyB f t c l0 (hi8 k - st.1).toNat st.1 st.2 = cpyK f t c l0 l (k, v)) (fun st => (hi8 k - st.1).toNat) (Ev.bin E .mul .u64 k 8, l) ?_ ?_ ?_
            · refine Wk_of [0, 1, 2, 3, 4] rfl rfl rfl ?_
              cbv
            · subst hE
              exact ⟨(u64_rng _).1, rfl⟩
            · rintro ⟨a, m⟩ ⟨ha, hJ⟩ KM hKM
              dsimp only at ha hJ
              constructor
              cbv
              refine bm (fun h2 => ?_) fun h2 => ?_
              · have hlt : a < hi8 k := by subst hE; exact of_decide_eq_true h2
                have hb : hi8 k < 18446744073709551616 := (u64_rng (lo8 k + 8)).2
                have hn : (hi8 k - a).toNat = (hi8 k - (a + 1)).toNat + 1 := by omega
                cbv
                refine bm (fun h3 => ?_) fun h3 => ?_
                · cbv
                  refine bm (fun h4 => ?_) fun h4 => ?_
                  · have hyes : a ≥ f ∧ IntKind.u64.wrap (a - f) < c := by subst hE; exact ⟨of_decide_eq_true h3, of_decide_eq_true h4⟩
                    cbv
                    refine call_sub hE [2, 3, 4] (ac121i s a l0 (rest, [(k, v)])) rfl rfl rfl rfl ?_
                    rintro _ _ ⟨g, hg, rfl, rfl⟩
                    constructor
                    cbv
                    refine call_sub hE [0, 1] (ac77 s _ g m) rfl rfl rfl rfl ?_
                    rintro _ _ ⟨m', hm', rfl, rfl⟩
                    constructor
                    cbv
                    refine hKM (a + 1, m') _ _ ⟨by dsimp only; omega, ?_⟩ (by dsimp only; omega) (Wk_of [0, 1, 2, 3, 4] rfl rfl rfl ?_)
                    · rw [← hJ, hn, cpyB, if_pos hyes, hm', hg]
                      subst hE
                      rfl
                    · generalize hq : a + 1 = q at *
                      dsimp only
                      cbv
                      subst hE
                      refine ⟨congrArg (fun x => AV.c (CV.s (SV.int IntKind.u64 x))) ?_, trivial⟩
                      show IntKind.u64.wrap (a + 1) = q
                      rw [u64_in (by omega) (by omega), hq]
                  · have hno : ¬ (a ≥ f ∧ IntKind.u64.wrap (a - f) < c) := by subst hE; exact fun h => absurd h.2 (of_decide_eq_false h4)
                    cbv
                    refine hKM (a + 1, m) _ _ ⟨by dsimp only; omega, ?_⟩ (by dsimp only; omega) (Wk_of [0, 1, 2, 3, 4] rfl rfl rfl ?_)
                    · rw [← hJ, hn, cpyB, if_neg hno]
                    · generalize hq : a + 1 = q at *
                      dsimp only
                      cbv
                      subst hE
                      refine ⟨congrArg (fun x => AV.c (CV.s (SV.int IntKind.u64 x))) ?_, trivial⟩
                      show IntKind.u64.wrap (a + 1) = q
                      rw [u64_in (by omega) (by omega), hq]
                · have hno : ¬ (a ≥ f ∧ IntKind.u64.wrap (a - f) < c) := by subst hE; exact fun h => absurd h.1 (of_decide_eq_false h3)
                  cbv
                  refine hKM (a + 1, m) _ _ ⟨by dsimp only; omega, ?_⟩ (by dsimp only; omega) (Wk_of [0, 1, 2, 3, 4] rfl rfl rfl ?_)
                  · rw [← hJ, hn, cpyB, if_neg hno]
                  · generalize hq : a + 1 = q at *
                    dsimp only
                    cbv
                    subst hE
                    refine ⟨congrArg (fun x => AV.c (CV.s (SV.int IntKind.u64 x))) ?_, trivial⟩
                    show IntKind.u64.wrap (a + 1) = q
                    rw [u64_in (by omega) (by omega), hq]
              · have hge : hi8 k ≤ a := by subst hE; exact Int.not_lt.1 (of_decide_eq_false h2)
                have h0 : (hi8 k - a).toNat = 0 := by omega
                cbv
                refine hKN (rest, [(k, v)], m) _ _ ⟨done ++ [(k, v)], ?_, ?_⟩ (by have := hr.length_eq; simp at this; dsimp only; omega) (Wk_of [0, 1, 2, 3, 4] rfl rfl rfl ?_)
                · refine (List.Perm.trans ?_ hperm)
                  rw [List.append_assoc]
                  exact List.Perm.append_left done hr.symm
                · rw [List.foldl_append, ← hl]
                  simp only [List.foldl_cons, List.foldl_nil]
                  rw [← hJ, h0]
                  rfl
                · cbv
end Go.Proofs.Try
