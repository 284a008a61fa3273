/- Abbreviations, and pages' sizes. -/
import Derived.Test.YtdboiflfehpjhaaBmTab
import Derived.Test.YtdboiflfehpjhaaBmS
set_option linter.unusedVariables false
set_option linter.unusedSimpArgs false
namespace Go.Proofs.Try
open Go Bm
set_option maxRecDepth 100000
abbrev u64 (n : Int) : AV := sv (.int .u64 n)
abbrev i64 (n : Int) : AV := sv (.int .i64 n)
abbrev bl (b : Bool) : AV := sv (.bool b)
theorem c_pMay (s : Int) : AC prog 112 [i64 s] [] (fun r H => ∃ b, b = decide (0 ≤ s ∧ s < 4) ∧ r = bl b ∧ H = []) :=
  AC_fv (hs := []) tyOk mixed func112 (by kernel_rfl) fun bin cmp beq eqs conv mn mx nat nadd nsub nmul idx get sub subP subS getS put app rep oget osub oset oapp orep rget rlen rapp toNat nn lt le fit lenOk mget mhas mput mdel mlen kget khas kput next call yield hE ⟨hbin, hcmp, hbeq, heqs, hconv, hmn, hmx, hnat, hnadd, hnsub, hnmul, hidx, hget, hsub, hsubP, hsubS, hgetS, hput, happ, hrep, hoget, hosub, hoset, hoapp, horep, hrget, hrlen, hrapp, htoNat, hnn, hlt, hle, hfit, hlenOk, hmget, hmhas, hmput, hmdel, hmlen, hkget, hkhas, hkput, hnext, hcall, hyield⟩ K hK => by
    conv => cbv
    refine b_ge hcmp (fun h => ?_) (fun h => ?_)
    · conv => cbv
      exact hK _ _ _ _ Wk.refl ⟨_, by subst hbin; subst hcmp; subst hconv; exact decide_eq_decide.2 (by omega), rfl, rfl⟩
    · conv => cbv
      exact hK _ _ _ _ Wk.refl ⟨_, by symm; exact decide_eq_false (by omega), rfl, rfl⟩
theorem c_pBits (s : Int) : AC prog 113 [i64 s] [] (fun r H => ∃ x, x = (if 0 ≤ s ∧ s < 4 then 13 + 3 * s else 0) ∧ r = i64 x ∧ H = []) :=
  AC_fv (hs := []) tyOk mixed func113 (by kernel_rfl) fun bin cmp beq eqs conv mn mx nat nadd nsub nmul idx get sub subP subS getS put app rep oget osub oset oapp orep rget rlen rapp toNat nn lt le fit lenOk mget mhas mput mdel mlen kget khas kput next call yield hE ⟨hbin, hcmp, hbeq, heqs, hconv, hmn, hmx, hnat, hnadd, hnsub, hnmul, hidx, hget, hsub, hsubP, hsubS, hgetS, hput, happ, hrep, hoget, hosub, hoset, hoapp, horep, hrget, hrlen, hrapp, htoNat, hnn, hlt, hle, hfit, hlenOk, hmget, hmhas, hmput, hmdel, hmlen, hkget, hkhas, hkput, hnext, hcall, hyield⟩ K hK => by
    conv => cbv
    refine call_fv hcall [] (c_pMay s) rfl rfl rfl rfl ?_
    rintro _ _ ⟨b, hb, rfl, rfl⟩
    constructor
    conv => cbv
    cases b with
    | false =>
      have h : ¬ (0 ≤ s ∧ s < 4) := of_decide_eq_false hb.symm
      conv => cbv
      exact hK _ _ _ _ Wk.refl ⟨_, by rw [if_neg h], rfl, rfl⟩
    | true =>
      have h : 0 ≤ s ∧ s < 4 := of_decide_eq_true hb.symm
      conv => cbv
      exact hK _ _ _ _ Wk.refl ⟨_, by rw [if_pos h, mul_i hbin (by omega) (by omega), add_i hbin (by omega) (by omega)], rfl, rfl⟩
def byS (s : Int) : Int := if s = 0 then 8192 else if s = 1 then 65536 else if s = 2 then 524288 else if s = 3 then 4194304 else 0
theorem c_pBytes (s : Int) : AC prog 132 [i64 s] [] (fun r H => ∃ x, x = byS s ∧ r = u64 x ∧ H = []) :=
  AC_fv (hs := []) tyOk mixed func132 (by kernel_rfl) fun bin cmp beq eqs conv mn mx nat nadd nsub nmul idx get sub subP subS getS put app rep oget osub oset oapp orep rget rlen rapp toNat nn lt le fit lenOk mget mhas mput mdel mlen kget khas kput next call yield hE ⟨hbin, hcmp, hbeq, heqs, hconv, hmn, hmx, hnat, hnadd, hnsub, hnmul, hidx, hget, hsub, hsubP, hsubS, hgetS, hput, happ, hrep, hoget, hosub, hoset, hoapp, horep, hrget, hrlen, hrapp, htoNat, hnn, hlt, hle, hfit, hlenOk, hmget, hmhas, hmput, hmdel, hmlen, hkget, hkhas, hkput, hnext, hcall, hyield⟩ K hK => by
    conv => cbv
    refine call_fv hcall [] (c_pMay s) rfl rfl rfl rfl ?_
    rintro _ _ ⟨b, hb, rfl, rfl⟩
    constructor
    conv => cbv
    cases b with
    | false =>
      have h : ¬ (0 ≤ s ∧ s < 4) := of_decide_eq_false hb.symm
      conv => cbv
      exact hK _ _ _ _ Wk.refl ⟨_, by unfold byS; rw [if_neg (by omega), if_neg (by omega), if_neg (by omega), if_neg (by omega)], rfl, rfl⟩
    | true =>
      have h : 0 ≤ s ∧ s < 4 := of_decide_eq_true hb.symm
      conv => cbv
      refine call_fv hcall [] (c_pBits s) rfl rfl rfl rfl ?_
      rintro _ _ ⟨x, hx, rfl, rfl⟩
      rw [if_pos h] at hx
      constructor
      conv => cbv
      refine ⟨nn_of hnn (by omega), ?_⟩
      refine hK _ _ _ _ Wk.refl ⟨_, ?_, rfl, rfl⟩
      subst hbin; subst hcmp; subst hconv
      obtain rfl | rfl | rfl | rfl : s = 0 ∨ s = 1 ∨ s = 2 ∨ s = 3 := by omega
      all_goals (subst hx; rfl)
def runS (s : Int) : Int := if s = 0 then 1 else if s = 1 then 8 else if s = 2 then 64 else if s = 3 then 512 else 0
theorem runS_ge (s : Int) : 0 ≤ runS s ∧ runS s ≤ 512 := by unfold runS; omega
end Go.Proofs.Try
