/- The walk: package tsb, its beginning. -/
import Derived.Test.YtdboiflfehpjhaaMm
set_option linter.unusedVariables false
set_option linter.unusedSimpArgs false
namespace Go.Proofs.Try
open Go Bm
set_option maxRecDepth 100000
set_option maxHeartbeats 400000
/-- How many places a TSB has. -/
def plS (s g : Int) : Int := if 0 ≤ s ∧ s < 4 ∧ 0 ≤ g ∧ g < 4 then (2 : Int) ^ (9 - 3 * s + g).toNat else 0
theorem plS_no {s g : Int} (h : ¬ (0 ≤ s ∧ s < 4 ∧ 0 ≤ g ∧ g < 4)) : plS s g = 0 := by unfold plS; rw [if_neg h]
theorem fours {s : Int} (h0 : 0 ≤ s) (h1 : s < 4) : s = 0 ∨ s = 1 ∨ s = 2 ∨ s = 3 := by omega
theorem plS_le (s g : Int) : 0 ≤ plS s g ∧ plS s g ≤ 4096 := by
  by_cases h : 0 ≤ s ∧ s < 4 ∧ 0 ≤ g ∧ g < 4
  · obtain rfl | rfl | rfl | rfl := fours h.1 h.2.1 <;> obtain rfl | rfl | rfl | rfl := fours h.2.2.1 h.2.2.2 <;> decide
  · rw [plS_no h]; omega
theorem plS_pos {s g : Int} (h : 0 ≤ s ∧ s < 4 ∧ 0 ≤ g ∧ g < 4) : 1 ≤ plS s g := by
  obtain rfl | rfl | rfl | rfl := fours h.1 h.2.1 <;> obtain rfl | rfl | rfl | rfl := fours h.2.2.1 h.2.2.2 <;> decide
theorem c_tPlaces (s g : Int) : AC prog 56 [i64 s, i64 g] [] (fun r H => ∃ x, x = plS s g ∧ r = i64 x ∧ H = []) :=
  AC_fv (hs := []) tyOk mixed func56 (by kernel_rfl) fun bin cmp beq eqs conv mn mx nat nadd nsub nmul idx get sub subP subS getS put app rep oget osub oset oapp orep rget rlen rapp toNat nn lt le fit lenOk mget mhas mput mdel mlen kget khas kput next call yield hE ⟨hbin, hcmp, hbeq, heqs, hconv, hmn, hmx, hnat, hnadd, hnsub, hnmul, hidx, hget, hsub, hsubP, hsubS, hgetS, hput, happ, hrep, hoget, hosub, hoset, hoapp, horep, hrget, hrlen, hrapp, htoNat, hnn, hlt, hle, hfit, hlenOk, hmget, hmhas, hmput, hmdel, hmlen, hkget, hkhas, hkput, hnext, hcall, hyield⟩ K hK => by
    have no : ∀ h : ¬ (0 ≤ s ∧ s < 4 ∧ 0 ≤ g ∧ g < 4), K (i64 0) [] := fun h => hK _ _ _ _ Wk.refl ⟨0, by rw [plS_no h], rfl, rfl⟩
    conv => cbv
    refine call_fv hcall [] (c_pMay s) rfl rfl rfl rfl ?_
    rintro _ _ ⟨b, hb, rfl, rfl⟩
    constructor
    conv => cbv
    cases b with
    | false =>
      have h : ¬ (0 ≤ s ∧ s < 4) := of_decide_eq_false hb.symm
      conv => cbv
      exact no (by omega)
    | true =>
      have h : 0 ≤ s ∧ s < 4 := of_decide_eq_true hb.symm
      conv => cbv
      refine b_lt hcmp (fun h1 => ?_) (fun h1 => ?_)
      · conv => cbv
        exact no (by omega)
      · conv => cbv
        refine b_ge hcmp (fun h2 => ?_) (fun h2 => ?_)
        · conv => cbv
          exact no (by omega)
        · conv => cbv
          refine call_fv hcall [] (c_pBits s) rfl rfl rfl rfl ?_
          rintro _ _ ⟨x, hx, rfl, rfl⟩
          rw [if_pos h] at hx
          have e1 : bin .add .i64 (bin .sub .i64 22 x) g = 22 - x + g := by rw [sub_i hbin (by omega) (by omega), add_i hbin (by omega) (by omega)]
          constructor
          conv => cbv
          rw [e1]
          refine ⟨nn_of hnn (by omega), ?_⟩
          refine hK _ _ _ _ Wk.refl ⟨_, ?_, rfl, rfl⟩
          subst hbin
          obtain rfl | rfl | rfl | rfl := fours h.1 h.2 <;> obtain rfl | rfl | rfl | rfl := fours h1 (by omega) <;> (subst hx; rfl)
theorem c_bad : AC prog 101 [] [] (fun r H => r = u64 9223372036854775807 ∧ H = []) :=
  AC_fv (hs := []) tyOk mixed func101 (by kernel_rfl) fun bin cmp beq eqs conv mn mx nat nadd nsub nmul idx get sub subP subS getS put app rep oget osub oset oapp orep rget rlen rapp toNat nn lt le fit lenOk mget mhas mput mdel mlen kget khas kput next call yield hE ⟨hbin, hcmp, hbeq, heqs, hconv, hmn, hmx, hnat, hnadd, hnsub, hnmul, hidx, hget, hsub, hsubP, hsubS, hgetS, hput, happ, hrep, hoget, hosub, hoset, hoapp, horep, hrget, hrlen, hrapp, htoNat, hnn, hlt, hle, hfit, hlenOk, hmget, hmhas, hmput, hmdel, hmlen, hkget, hkhas, hkput, hnext, hcall, hyield⟩ K hK => by
    conv => cbv
    exact hK _ _ _ _ Wk.refl ⟨rfl, rfl⟩
abbrev tsbO (base n size grade : Int) : AO := .cells [.ptr 1 0, .int .u64 base, .int .i64 n, .int .i64 size, .int .i64 grade] 142
abbrev tsbH (s : Int) (l : List (Int × Int)) (base n size grade : Int) : List AO := [.m64 l, .cells [.int .u64 s, .mp 0] 110, tsbO base n size grade]
theorem c_tDrop (s : Int) (l : List (Int × Int)) (base n size grade a : Int) (ha : 0 ≤ a) (hd : a % 16 = 0) (hr : a + 16 ≤ s) (hs : s ≤ 2199023255552) :
    AC prog 114 [sv (.ptr 2 0), u64 a] (tsbH s l base n size grade) (fun r H => ∃ l', l' = setS (setS l (a / 8) 9223372036854775807) (a / 8 + 1) 0 ∧ r = .tup [] ∧ H = tsbH s l' base n size grade) :=
  AC_fv (hs := [(0, .op 0 (.op 1 (.op 2 (.op 3 (.op 4 (.op 5 (.op 6 (.done))))))))]) tyOk mixed func114 (by kernel_rfl) fun bin cmp beq eqs conv mn mx nat nadd nsub nmul idx get sub subP subS getS put app rep oget osub oset oapp orep rget rlen rapp toNat nn lt le fit lenOk mget mhas mput mdel mlen kget khas kput next call yield hE ⟨hbin, hcmp, hbeq, heqs, hconv, hmn, hmx, hnat, hnadd, hnsub, hnmul, hidx, hget, hsub, hsubP, hsubS, hgetS, hput, happ, hrep, hoget, hosub, hoset, hoapp, horep, hrget, hrlen, hrapp, htoNat, hnn, hlt, hle, hfit, hlenOk, hmget, hmhas, hmput, hmdel, hmlen, hkget, hkhas, hkput, hnext, hcall, hyield⟩ K hK => by
    conv => cbv
    refine call_fv hcall [] (c_bad) rfl rfl rfl rfl ?_
    rintro _ _ ⟨rfl, rfl⟩
    constructor
    conv => cbv
    refine call_fv hcall [0, 1] (c_mPutPair s a 9223372036854775807 0 l ha hd hr hs) rfl rfl rfl rfl ?_
    rintro _ _ ⟨l', hl', rfl, rfl⟩
    constructor
    conv => cbv
    exact hK _ _ _ _ Wk.refl ⟨_, hl', rfl, rfl⟩
theorem c_tEach (s : Int) (l : List (Int × Int)) (base n size grade : Int) :
    AC prog 108 [sv (.ptr 2 0)] (tsbH s l base n size grade) (fun r H => r = sv (.fn 148 [3]) ∧ H = tsbH s l base n size grade ++ [.cells [.ptr 2 0] 65]) :=
  AC_fv (hs := []) tyOk mixed func108 (by kernel_rfl) fun bin cmp beq eqs conv mn mx nat nadd nsub nmul idx get sub subP subS getS put app rep oget osub oset oapp orep rget rlen rapp toNat nn lt le fit lenOk mget mhas mput mdel mlen kget khas kput next call yield hE ⟨hbin, hcmp, hbeq, heqs, hconv, hmn, hmx, hnat, hnadd, hnsub, hnmul, hidx, hget, hsub, hsubP, hsubS, hgetS, hput, happ, hrep, hoget, hosub, hoset, hoapp, horep, hrget, hrlen, hrapp, htoNat, hnn, hlt, hle, hfit, hlenOk, hmget, hmhas, hmput, hmdel, hmlen, hkget, hkhas, hkput, hnext, hcall, hyield⟩ K hK => by
    conv => cbv
    exact hK _ _ _ _ Wk.refl ⟨rfl, rfl⟩
end Go.Proofs.Try
