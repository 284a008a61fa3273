/- The walk: package frames, its parts. -/
import Derived.Test.YtdboiflfehpjhaaBas
set_option linter.unusedVariables false
set_option linter.unusedSimpArgs false
namespace Go.Proofs.Try
open Go Bm
set_option maxRecDepth 100000
theorem c_fRun (s : Int) : AC prog 129 [i64 s] [] (fun r H => ∃ x, x = runS s ∧ r = i64 x ∧ H = []) :=
  AC_fv (hs := []) tyOk mixed func129 (by kernel_rfl) fun bin cmp beq eqs conv mn mx nat nadd nsub nmul idx get sub subP subS getS put app rep oget osub oset oapp orep rget rlen rapp toNat nn lt le fit lenOk mget mhas mput mdel mlen kget khas kput next call yield hE ⟨hbin, hcmp, hbeq, heqs, hconv, hmn, hmx, hnat, hnadd, hnsub, hnmul, hidx, hget, hsub, hsubP, hsubS, hgetS, hput, happ, hrep, hoget, hosub, hoset, hoapp, horep, hrget, hrlen, hrapp, htoNat, hnn, hlt, hle, hfit, hlenOk, hmget, hmhas, hmput, hmdel, hmlen, hkget, hkhas, hkput, hnext, hcall, hyield⟩ K hK => by
    conv => cbv
    refine call_fv hcall [] (c_pBytes s) rfl rfl rfl rfl ?_
    rintro _ _ ⟨x, hx, rfl, rfl⟩
    constructor
    conv => cbv
    refine call_fv hcall [] (c_pBytes 0) rfl rfl rfl rfl ?_
    rintro _ _ ⟨y, hy, rfl, rfl⟩
    have hy : y = 8192 := hy
    constructor
    conv => cbv
    subst hy
    conv => cbv
    refine ⟨by omega, ?_⟩
    refine hK _ _ _ _ Wk.refl ⟨_, ?_, rfl, rfl⟩
    subst hbin; subst hcmp; subst hconv
    unfold byS at hx
    unfold runS
    split at hx
    · subst hx; rename_i h; rw [if_pos h]; rfl
    · rename_i h; rw [if_neg h]
      split at hx
      · subst hx; rename_i h; rw [if_pos h]; rfl
      · rename_i h; rw [if_neg h]
        split at hx
        · subst hx; rename_i h; rw [if_pos h]; rfl
        · rename_i h; rw [if_neg h]
          split at hx
          · subst hx; rename_i h; rw [if_pos h]; rfl
          · rename_i h; rw [if_neg h]; subst hx; rfl
theorem c_rRun (s : Int) : AC prog 79 [i64 s] [] (fun r H => ∃ x, x = runS s ∧ r = i64 x ∧ H = []) :=
  AC_fv (hs := []) tyOk mixed func79 (by kernel_rfl) fun bin cmp beq eqs conv mn mx nat nadd nsub nmul idx get sub subP subS getS put app rep oget osub oset oapp orep rget rlen rapp toNat nn lt le fit lenOk mget mhas mput mdel mlen kget khas kput next call yield hE ⟨hbin, hcmp, hbeq, heqs, hconv, hmn, hmx, hnat, hnadd, hnsub, hnmul, hidx, hget, hsub, hsubP, hsubS, hgetS, hput, happ, hrep, hoget, hosub, hoset, hoapp, horep, hrget, hrlen, hrapp, htoNat, hnn, hlt, hle, hfit, hlenOk, hmget, hmhas, hmput, hmdel, hmlen, hkget, hkhas, hkput, hnext, hcall, hyield⟩ K hK => by
    have fin : ∀ x, x = runS s → K (i64 x) [] := fun x hx => hK _ _ _ _ Wk.refl ⟨x, hx, rfl, rfl⟩
    conv => cbv
    refine b_eq hcmp (fun h => ?_) (fun h0 => ?_)
    · conv => cbv
      exact fin _ (by subst h; rfl)
    · conv => cbv
      refine b_eq hcmp (fun h => ?_) (fun h1 => ?_)
      · conv => cbv
        exact fin _ (by subst h; rfl)
      · conv => cbv
        refine b_eq hcmp (fun h => ?_) (fun h2 => ?_)
        · conv => cbv
          exact fin _ (by subst h; rfl)
        · conv => cbv
          refine b_eq hcmp (fun h => ?_) (fun h3 => ?_)
          · conv => cbv
            exact fin _ (by subst h; rfl)
          · conv => cbv
            exact fin _ (by unfold runS; rw [if_neg h0, if_neg h1, if_neg h2, if_neg h3])
def bPV (l : List Bool) : List PV := l.map PV.bool
abbrev frH (c : List PV) (n : Nat) (free : Int) : List AO := [.vec (.pv c) 4 1, .cells [.vec 0 n, .int .i64 free] 124]
theorem c_fIn (c : List PV) (N : Nat) (hN : N ≤ 65536) (free first n : Int) (hf : 0 ≤ first → first < N → n ≥ -1000000000) : AC prog 130 [sv (.ptr 1 0), i64 first, i64 n] (frH c N free)
    (fun r H => ∃ b, b = decide (0 ≤ first ∧ first < N ∧ n ≤ N - first) ∧ r = bl b ∧ H = frH c N free) :=
  AC_fv (hs := []) tyOk mixed func130 (by kernel_rfl) fun bin cmp beq eqs conv mn mx nat nadd nsub nmul idx get sub subP subS getS put app rep oget osub oset oapp orep rget rlen rapp toNat nn lt le fit lenOk mget mhas mput mdel mlen kget khas kput next call yield hE ⟨hbin, hcmp, hbeq, heqs, hconv, hmn, hmx, hnat, hnadd, hnsub, hnmul, hidx, hget, hsub, hsubP, hsubS, hgetS, hput, happ, hrep, hoget, hosub, hoset, hoapp, horep, hrget, hrlen, hrapp, htoNat, hnn, hlt, hle, hfit, hlenOk, hmget, hmhas, hmput, hmdel, hmlen, hkget, hkhas, hkput, hnext, hcall, hyield⟩ K hK => by
    conv => cbv
    refine b_ge hcmp (fun h => ?_) (fun h => ?_)
    · conv => cbv
      refine b_lt hcmp (fun h2 => ?_) (fun h2 => ?_)
      · conv => cbv
        simp only [hnat] at h2
        exact hK _ _ _ _ Wk.refl ⟨_, by simp only [hnat]; rw [sub_i hbin (by omega) (by omega)]; subst hcmp; exact decide_eq_decide.2 (by omega), rfl, rfl⟩
      · conv => cbv
        simp only [hnat] at h2
        exact hK _ _ _ _ Wk.refl ⟨_, by symm; exact decide_eq_false (by omega), rfl, rfl⟩
    · conv => cbv
      exact hK _ _ _ _ Wk.refl ⟨_, by symm; exact decide_eq_false (by omega), rfl, rfl⟩
end Go.Proofs.Try
