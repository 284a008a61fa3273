/- The walk: package tsb, New; package swap and its reference, Frames. -/
import Derived.Test.YtdboiflfehpjhaaTs2
set_option linter.unusedVariables false
set_option linter.unusedSimpArgs false
namespace Go.Proofs.Try
open Go Bm
set_option maxRecDepth 100000
set_option maxHeartbeats 400000
theorem quo_i {bin : BinOp → IntKind → Int → Int → Int} (hE : bin = realBin) {a b : Int} (h0 : 0 ≤ a) (h1 : a ≤ 9223372036854775807) (hb : 0 < b) : bin .quo .i64 a b = a / b := by
  subst hE
  show IntKind.i64.wrap (a.tdiv b) = _
  rw [Int.tdiv_eq_ediv_of_nonneg h0]
  have h2 : 0 ≤ a / b := Int.ediv_nonneg h0 (by omega)
  have h3 : a / b ≤ a := Int.ediv_le_self b h0
  exact i64_id (by omega) (by omega)
def whyS (s base n : Int) : Int := if n = 0 then 1 else if base % 16 ≠ 0 then 4 else if s < 16 * n ∨ s - 16 * n < base then 5 else 0
theorem c_tNew (s : Int) (l : List (Int × Int)) (base size grade : Int) (hb : 0 ≤ base) (hs0 : 0 ≤ s) (hs : s ≤ 2199023255552) (n : Int) (hn : n = plS size grade) :
    AC prog 55 [sv (.ptr 1 0), u64 base, i64 size, i64 grade] (memH s l) (fun r H => ∃ w, w = whyS s base n ∧
      ((w ≠ 0 ∧ r = .tup [.s .nilp, .s (.int .i64 w)] ∧ H = memH s l) ∨ (w = 0 ∧ ∃ l', clrd base l n l' ∧ r = .tup [.s (.ptr 2 0), .s (.int .i64 0)] ∧ H = tsbH s l' base n size grade))) :=
  AC_fv (hs := []) tyOk mixed func55 (by kernel_rfl) fun bin cmp beq eqs conv mn mx nat nadd nsub nmul idx get sub subP subS getS put app rep oget osub oset oapp orep rget rlen rapp toNat nn lt le fit lenOk mget mhas mput mdel mlen kget khas kput next call yield hE ⟨hbin, hcmp, hbeq, heqs, hconv, hmn, hmx, hnat, hnadd, hnsub, hnmul, hidx, hget, hsub, hsubP, hsubS, hgetS, hput, happ, hrep, hoget, hosub, hoset, hoapp, horep, hrget, hrlen, hrapp, htoNat, hnn, hlt, hle, hfit, hlenOk, hmget, hmhas, hmput, hmdel, hmlen, hkget, hkhas, hkput, hnext, hcall, hyield⟩ K hK => by
    have no : ∀ w, w = whyS s base n → w ≠ 0 → K (.tup [.s .nilp, .s (.int .i64 w)]) (memH s l) := fun w h1 h2 => hK _ _ _ _ Wk.refl ⟨w, h1, .inl ⟨h2, rfl, rfl⟩⟩
    have hle := plS_le size grade
    rw [← hn] at hle
    conv => cbv
    refine call_fv hcall [] (c_tPlaces size grade) rfl rfl rfl rfl ?_
    rintro _ _ ⟨n', hn', rfl, rfl⟩
    obtain rfl : n' = n := by omega
    constructor
    conv => cbv
    have e1 : conv .u64 (bin .mul .i64 16 n') = 16 * n' := by (rw [mul_i hbin (by omega) (by omega), hconv]; exact u64_id (by omega) (by omega))
    obtain ⟨w, hw⟩ : ∃ w, w = 16 * n' := ⟨_, rfl⟩
    rw [e1, ← hw]
    refine b_eq hcmp (fun h => ?_) (fun h1 => ?_)
    · conv => cbv
      exact no 1 (by unfold whyS; rw [if_pos h]) (by decide)
    · conv => cbv
      rw [rem_u hbin hb]
      refine b_ne hcmp (fun h => ?_) (fun h2 => ?_)
      · conv => cbv
        exact no 4 (by unfold whyS; rw [if_neg h1, if_pos h]) (by decide)
      · conv => cbv
        refine call_fv hcall [0, 1] (c_mSize s l) rfl rfl rfl rfl ?_
        rintro _ _ ⟨rfl, rfl⟩
        constructor
        conv => cbv
        refine b_gt hcmp (fun h => ?_) (fun h3 => ?_)
        · conv => cbv
          exact no 5 (by unfold whyS; rw [if_neg h1, if_neg (by omega), if_pos (.inl (by omega))]) (by decide)
        · conv => cbv
          refine call_fv hcall [0, 1] (c_mSize s l) rfl rfl rfl rfl ?_
          rintro _ _ ⟨rfl, rfl⟩
          constructor
          conv => cbv
          rw [sub_u hbin (by omega) (by omega)]
          refine b_gt hcmp (fun h => ?_) (fun h4 => ?_)
          · conv => cbv
            exact no 5 (by unfold whyS; rw [if_neg h1, if_neg (by omega), if_pos (.inr (by omega))]) (by decide)
          · conv => cbv
            refine call_fv hcall [0, 1, 2] (c_tClear s l base n' size grade hb (by omega) (by omega) (by omega) hs) rfl rfl rfl rfl ?_
            rintro _ _ ⟨l', hl', rfl, rfl⟩
            constructor
            conv => cbv
            exact hK _ _ _ _ Wk.refl ⟨0, by unfold whyS; rw [if_neg h1, if_neg (by omega), if_neg (by omega)], .inr ⟨rfl, l', hl', rfl, rfl⟩⟩
theorem c_sBytes : AC prog 89 [] [] (fun r H => r = i64 8192 ∧ H = []) :=
  AC_fv (hs := []) tyOk mixed func89 (by kernel_rfl) fun bin cmp beq eqs conv mn mx nat nadd nsub nmul idx get sub subP subS getS put app rep oget osub oset oapp orep rget rlen rapp toNat nn lt le fit lenOk mget mhas mput mdel mlen kget khas kput next call yield hE ⟨hbin, hcmp, hbeq, heqs, hconv, hmn, hmx, hnat, hnadd, hnsub, hnmul, hidx, hget, hsub, hsubP, hsubS, hgetS, hput, happ, hrep, hoget, hosub, hoset, hoapp, horep, hrget, hrlen, hrapp, htoNat, hnn, hlt, hle, hfit, hlenOk, hmget, hmhas, hmput, hmdel, hmlen, hkget, hkhas, hkput, hnext, hcall, hyield⟩ K hK => by
    conv => cbv
    refine call_fv hcall [] (c_pBytes 0) rfl rfl rfl rfl ?_
    rintro _ _ ⟨x, hx, rfl, rfl⟩
    constructor
    conv => cbv
    refine hK _ _ _ _ Wk.refl ⟨?_, rfl⟩
    rw [hconv, hx]
    rfl
/-- How many frames. -/
def frS (n : Int) : Int := (16 * n + 8191) / 8192
theorem c_sFrames (s g : Int) : AC prog 30 [i64 s, i64 g] [] (fun r H => ∃ x, x = frS (plS s g) ∧ r = i64 x ∧ H = []) :=
  AC_fv (hs := []) tyOk mixed func30 (by kernel_rfl) fun bin cmp beq eqs conv mn mx nat nadd nsub nmul idx get sub subP subS getS put app rep oget osub oset oapp orep rget rlen rapp toNat nn lt le fit lenOk mget mhas mput mdel mlen kget khas kput next call yield hE ⟨hbin, hcmp, hbeq, heqs, hconv, hmn, hmx, hnat, hnadd, hnsub, hnmul, hidx, hget, hsub, hsubP, hsubS, hgetS, hput, happ, hrep, hoget, hosub, hoset, hoapp, horep, hrget, hrlen, hrapp, htoNat, hnn, hlt, hle, hfit, hlenOk, hmget, hmhas, hmput, hmdel, hmlen, hkget, hkhas, hkput, hnext, hcall, hyield⟩ K hK => by
    have hle := plS_le s g
    conv => cbv
    refine call_fv hcall [] (c_tPlaces s g) rfl rfl rfl rfl ?_
    rintro _ _ ⟨n, hn, rfl, rfl⟩
    rw [← hn] at hle
    constructor
    conv => cbv
    refine call_fv hcall [] (c_sBytes) rfl rfl rfl rfl ?_
    rintro _ _ ⟨rfl, rfl⟩
    constructor
    conv => cbv
    refine call_fv hcall [] (c_sBytes) rfl rfl rfl rfl ?_
    rintro _ _ ⟨rfl, rfl⟩
    constructor
    conv => cbv
    rw [mul_i hbin (by omega) (by omega), add_i hbin (by omega) (by omega), sub_i hbin (by omega) (by omega), quo_i hbin (by omega) (by omega) (by omega)]
    exact hK _ _ _ _ Wk.refl ⟨_, by rw [← hn]; unfold frS; omega, rfl, rfl⟩
theorem c_r2May (s : Int) : AC prog 99 [i64 s] [] (fun r H => ∃ b, b = decide (0 ≤ s ∧ s < 4) ∧ r = bl b ∧ H = []) :=
  AC_fv (hs := []) tyOk mixed func99 (by kernel_rfl) fun bin cmp beq eqs conv mn mx nat nadd nsub nmul idx get sub subP subS getS put app rep oget osub oset oapp orep rget rlen rapp toNat nn lt le fit lenOk mget mhas mput mdel mlen kget khas kput next call yield hE ⟨hbin, hcmp, hbeq, heqs, hconv, hmn, hmx, hnat, hnadd, hnsub, hnmul, hidx, hget, hsub, hsubP, hsubS, hgetS, hput, happ, hrep, hoget, hosub, hoset, hoapp, horep, hrget, hrlen, hrapp, htoNat, hnn, hlt, hle, hfit, hlenOk, hmget, hmhas, hmput, hmdel, hmlen, hkget, hkhas, hkput, hnext, hcall, hyield⟩ K hK => by
    conv => cbv
    refine b_ge hcmp (fun h => ?_) (fun h => ?_)
    · conv => cbv
      exact hK _ _ _ _ Wk.refl ⟨_, by subst hbin; subst hcmp; subst hconv; exact decide_eq_decide.2 (by omega), rfl, rfl⟩
    · conv => cbv
      exact hK _ _ _ _ Wk.refl ⟨_, by symm; exact decide_eq_false (by omega), rfl, rfl⟩
theorem c_r10Places (s g : Int) : AC prog 57 [i64 s, i64 g] [] (fun r H => ∃ x, x = plS s g ∧ r = i64 x ∧ H = []) :=
  AC_fv (hs := [(6, .op 0 (.op 1 (.op 2 (.op 3 (.op 4 (.op 5 (.op 6 (.op 7 (.op 8 (.op 9 (.done)))))))))))]) tyOk mixed func57 (by kernel_rfl) fun bin cmp beq eqs conv mn mx nat nadd nsub nmul idx get sub subP subS getS put app rep oget osub oset oapp orep rget rlen rapp toNat nn lt le fit lenOk mget mhas mput mdel mlen kget khas kput next call yield hE ⟨hbin, hcmp, hbeq, heqs, hconv, hmn, hmx, hnat, hnadd, hnsub, hnmul, hidx, hget, hsub, hsubP, hsubS, hgetS, hput, happ, hrep, hoget, hosub, hoset, hoapp, horep, hrget, hrlen, hrapp, htoNat, hnn, hlt, hle, hfit, hlenOk, hmget, hmhas, hmput, hmdel, hmlen, hkget, hkhas, hkput, hnext, hcall, hyield⟩ K hK => by
    have no : ∀ h : ¬ (0 ≤ s ∧ s < 4 ∧ 0 ≤ g ∧ g < 4), K (i64 0) [] := fun h => hK _ _ _ _ Wk.refl ⟨0, by rw [plS_no h], rfl, rfl⟩
    have fin : ∀ x ex, x = plS s g → K (i64 x) ex := fun x ex h => hK _ _ _ _ (Wk_of [] rfl rfl rfl (by cbv)) ⟨x, h, rfl, rfl⟩
    conv => cbv
    refine call_fv hcall [] (c_r2May s) rfl rfl rfl rfl ?_
    rintro _ _ ⟨b, hb, rfl, rfl⟩
    constructor
    conv => cbv
    cases b with
    | false =>
      have h : ¬ (0 ≤ s ∧ s < 4) := of_decide_eq_false hb.symm
      conv => cbv
      exact no (by omega)
    | true =>
      have h : 0 ≤ s ∧ s < 4 := of_decide_eq_true hb.symm
      conv => cbv
      refine b_lt hcmp (fun h1 => ?_) (fun h1 => ?_)
      · conv => cbv
        exact no (by omega)
      · conv => cbv
        refine b_gt hcmp (fun h2 => ?_) (fun h2 => ?_)
        · conv => cbv
          exact no (by omega)
        · conv => cbv
          refine ⟨nn_of hnn (by omega), ltn_of hlt hnat (by omega), ?_⟩
          obtain ⟨m, hm, hsm⟩ : ∃ m : Nat, idx s 1 0 = m ∧ s = m := ⟨s.toNat, by rw [hidx]; omega, by omega⟩
          rw [hm]
          obtain rfl | rfl | rfl | rfl : m = 0 ∨ m = 1 ∨ m = 2 ∨ m = 3 := by omega
          · conv => cbv
            refine ⟨nn_of hnn (by omega), ltn_of hlt hnat (by omega), ?_⟩
            obtain ⟨q, hq, hgq⟩ : ∃ q : Nat, idx g 1 0 = q ∧ g = q := ⟨g.toNat, by rw [hidx]; omega, by omega⟩
            rw [hq]
            obtain rfl | rfl | rfl | rfl : q = 0 ∨ q = 1 ∨ q = 2 ∨ q = 3 := by omega
            · conv => cbv
              refine fin _ _ ?_
              subst hgq; subst hsm; rw [mul_i hbin (by decide) (by decide)]; rfl
            · conv => cbv
              refine fin _ _ ?_
              subst hgq; subst hsm; rw [mul_i hbin (by decide) (by decide)]; rfl
            · conv => cbv
              refine fin _ _ ?_
              subst hgq; subst hsm; rw [mul_i hbin (by decide) (by decide)]; rfl
            · conv => cbv
              refine fin _ _ ?_
              subst hgq; subst hsm; rw [mul_i hbin (by decide) (by decide)]; rfl
          · conv => cbv
            refine ⟨nn_of hnn (by omega), ltn_of hlt hnat (by omega), ?_⟩
            obtain ⟨q, hq, hgq⟩ : ∃ q : Nat, idx g 1 0 = q ∧ g = q := ⟨g.toNat, by rw [hidx]; omega, by omega⟩
            rw [hq]
            obtain rfl | rfl | rfl | rfl : q = 0 ∨ q = 1 ∨ q = 2 ∨ q = 3 := by omega
            · conv => cbv
              refine fin _ _ ?_
              subst hgq; subst hsm; rw [mul_i hbin (by decide) (by decide)]; rfl
            · conv => cbv
              refine fin _ _ ?_
              subst hgq; subst hsm; rw [mul_i hbin (by decide) (by decide)]; rfl
            · conv => cbv
              refine fin _ _ ?_
              subst hgq; subst hsm; rw [mul_i hbin (by decide) (by decide)]; rfl
            · conv => cbv
              refine fin _ _ ?_
              subst hgq; subst hsm; rw [mul_i hbin (by decide) (by decide)]; rfl
          · conv => cbv
            refine ⟨nn_of hnn (by omega), ltn_of hlt hnat (by omega), ?_⟩
            obtain ⟨q, hq, hgq⟩ : ∃ q : Nat, idx g 1 0 = q ∧ g = q := ⟨g.toNat, by rw [hidx]; omega, by omega⟩
            rw [hq]
            obtain rfl | rfl | rfl | rfl : q = 0 ∨ q = 1 ∨ q = 2 ∨ q = 3 := by omega
            · conv => cbv
              refine fin _ _ ?_
              subst hgq; subst hsm; rw [mul_i hbin (by decide) (by decide)]; rfl
            · conv => cbv
              refine fin _ _ ?_
              subst hgq; subst hsm; rw [mul_i hbin (by decide) (by decide)]; rfl
            · conv => cbv
              refine fin _ _ ?_
              subst hgq; subst hsm; rw [mul_i hbin (by decide) (by decide)]; rfl
            · conv => cbv
              refine fin _ _ ?_
              subst hgq; subst hsm; rw [mul_i hbin (by decide) (by decide)]; rfl
          · conv => cbv
            refine ⟨nn_of hnn (by omega), ltn_of hlt hnat (by omega), ?_⟩
            obtain ⟨q, hq, hgq⟩ : ∃ q : Nat, idx g 1 0 = q ∧ g = q := ⟨g.toNat, by rw [hidx]; omega, by omega⟩
            rw [hq]
            obtain rfl | rfl | rfl | rfl : q = 0 ∨ q = 1 ∨ q = 2 ∨ q = 3 := by omega
            · conv => cbv
              refine fin _ _ ?_
              subst hgq; subst hsm; rw [mul_i hbin (by decide) (by decide)]; rfl
            · conv => cbv
              refine fin _ _ ?_
              subst hgq; subst hsm; rw [mul_i hbin (by decide) (by decide)]; rfl
            · conv => cbv
              refine fin _ _ ?_
              subst hgq; subst hsm; rw [mul_i hbin (by decide) (by decide)]; rfl
            · conv => cbv
              refine fin _ _ ?_
              subst hgq; subst hsm; rw [mul_i hbin (by decide) (by decide)]; rfl
abbrev tR (size n : Int) (m : SV) : CV := .agg [.int .i64 size, .int .i64 n, m]
theorem c_r10New (s g : Int) : AC prog 92 [i64 s, i64 g] [] (fun r H => ∃ n, n = plS s g ∧ r = .c (tR s n .nils) ∧ H = []) :=
  AC_fv (hs := []) tyOk mixed func92 (by kernel_rfl) fun bin cmp beq eqs conv mn mx nat nadd nsub nmul idx get sub subP subS getS put app rep oget osub oset oapp orep rget rlen rapp toNat nn lt le fit lenOk mget mhas mput mdel mlen kget khas kput next call yield hE ⟨hbin, hcmp, hbeq, heqs, hconv, hmn, hmx, hnat, hnadd, hnsub, hnmul, hidx, hget, hsub, hsubP, hsubS, hgetS, hput, happ, hrep, hoget, hosub, hoset, hoapp, horep, hrget, hrlen, hrapp, htoNat, hnn, hlt, hle, hfit, hlenOk, hmget, hmhas, hmput, hmdel, hmlen, hkget, hkhas, hkput, hnext, hcall, hyield⟩ K hK => by
    conv => cbv
    refine call_fv hcall [] (c_r10Places s g) rfl rfl rfl rfl ?_
    rintro _ _ ⟨n, hn, rfl, rfl⟩
    constructor
    conv => cbv
    exact hK _ _ _ _ (Wk_of [] rfl rfl rfl (by cbv)) ⟨n, hn, rfl, rfl⟩
theorem c_Around (i n : Int) (hi : -9223372036854775808 ≤ i ∧ i ≤ 9223372036854775807) (hn : 0 < n) (hn2 : n ≤ 1000000) : AC prog 32 [i64 i, i64 n] [] (fun r H => ∃ x, x = i % n ∧ r = i64 x ∧ H = []) :=
  AC_fv (hs := []) tyOk mixed func32 (by kernel_rfl) fun bin cmp beq eqs conv mn mx nat nadd nsub nmul idx get sub subP subS getS put app rep oget osub oset oapp orep rget rlen rapp toNat nn lt le fit lenOk mget mhas mput mdel mlen kget khas kput next call yield hE ⟨hbin, hcmp, hbeq, heqs, hconv, hmn, hmx, hnat, hnadd, hnsub, hnmul, hidx, hget, hsub, hsubP, hsubS, hgetS, hput, happ, hrep, hoget, hosub, hoset, hoapp, horep, hrget, hrlen, hrapp, htoNat, hnn, hlt, hle, hfit, hlenOk, hmget, hmhas, hmput, hmdel, hmlen, hkget, hkhas, hkput, hnext, hcall, hyield⟩ K hK => by
    conv => cbv
    refine ⟨by omega, ?_⟩
    have hr : bin .rem .i64 i n = i.tmod n := by
      subst hbin; rfl
    have h1 : i.tmod n = i % n ∨ i.tmod n = i % n - n ∧ i % n ≠ 0 := by
      rcases Int.le_total 0 i with h | h
      · exact .inl (Int.tmod_eq_emod_of_nonneg h)
      · rw [Int.tmod_eq_emod]
        split
        · exact .inl (by omega)
        · rename_i hx
          refine .inr ⟨by omega, fun h0 => hx (.inr (Int.dvd_of_emod_eq_zero h0))⟩
    have h2 : 0 ≤ i % n := Int.emod_nonneg _ (by omega)
    have h3 : i % n < n := Int.emod_lt_of_pos _ hn
    rw [hr]
    generalize i.tmod n = y at *
    refine b_lt hcmp (fun h => ?_) (fun h => ?_)
    · conv => cbv
      exact hK _ _ _ _ Wk.refl ⟨_, by rw [add_i hbin (by omega) (by omega)]; omega, rfl, rfl⟩
    · conv => cbv
      exact hK _ _ _ _ Wk.refl ⟨_, by omega, rfl, rfl⟩
theorem c_r13Frames (s g : Int) : AC prog 31 [i64 s, i64 g] [] (fun r H => ∃ x, x = frS (plS s g) ∧ r = i64 x ∧ H = []) :=
  AC_fv (hs := []) tyOk mixed func31 (by kernel_rfl) fun bin cmp beq eqs conv mn mx nat nadd nsub nmul idx get sub subP subS getS put app rep oget osub oset oapp orep rget rlen rapp toNat nn lt le fit lenOk mget mhas mput mdel mlen kget khas kput next call yield hE ⟨hbin, hcmp, hbeq, heqs, hconv, hmn, hmx, hnat, hnadd, hnsub, hnmul, hidx, hget, hsub, hsubP, hsubS, hgetS, hput, happ, hrep, hoget, hosub, hoset, hoapp, horep, hrget, hrlen, hrapp, htoNat, hnn, hlt, hle, hfit, hlenOk, hmget, hmhas, hmput, hmdel, hmlen, hkget, hkhas, hkput, hnext, hcall, hyield⟩ K hK => by
    have hle := plS_le s g
    conv => cbv
    refine call_fv hcall [] (c_r10Places s g) rfl rfl rfl rfl ?_
    rintro _ _ ⟨n, hn, rfl, rfl⟩
    rw [← hn] at hle
    constructor
    conv => cbv
    rw [mul_i hbin (by omega) (by omega)]
    obtain ⟨w, hw⟩ : ∃ w, w = 16 * n := ⟨_, rfl⟩
    rw [← hw]
    refine loop_h [5, 6, 11, 12, 13, 14, 15, 16] (fun k : Int => [(5, i64 (w - 8192 * k)), (6, i64 k)]) (fun k => 0 ≤ k ∧ k ≤ frS n) (fun k => (frS n - k).toNat) 0 (by rw [show w - 8192 * 0 = w by omega]; cbv) ⟨Int.le_refl _, by unfold frS; omega⟩ ?_
    rintro k ⟨k0, k1⟩ KN hKN
    constructor
    obtain ⟨v, hv⟩ : ∃ v, v = w - 8192 * k := ⟨_, rfl⟩
    rw [← hv]
    conv => cbv
    refine b_gt hcmp (fun h => ?_) (fun h => ?_)
    · conv => cbv
      rw [add_i hbin (by omega) (by omega), sub_i hbin (by unfold frS at k1; omega) (by unfold frS at k1; omega)]
      refine hKN (k + 1) _ ⟨by omega, by unfold frS; omega⟩ (by unfold frS; omega) ?_
      rw [show w - 8192 * (k + 1) = v - 8192 by omega]
      generalize k + 1 = k'
      generalize v - 8192 = v'
      cbv
    · conv => cbv
      exact hK _ _ _ _ Wk.refl ⟨_, by rw [← hn]; unfold frS at k1 ⊢; omega, rfl, rfl⟩
end Go.Proofs.Try
