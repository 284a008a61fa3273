/- The walk: a world's first TSB. -/
import Derived.Test.YtdboiflfehpjhaaSw2
set_option linter.unusedVariables false
set_option linter.unusedSimpArgs false
namespace Go.Proofs.Try
open Go Bm
set_option maxRecDepth 100000
set_option maxHeartbeats 400000
theorem TakeMnU {l : List Bool} {n i e i' e' : Int} (h : TakeMn l n i e) (h' : TakeMn l n i' e') : i = i' ∧ e = e' := by
  rcases h with ⟨a, b, c⟩ | ⟨a, b⟩ <;> rcases h' with ⟨a', b', c'⟩ | ⟨a', b'⟩
  · omega
  · omega
  · omega
  · exact TakeR_uniq (by omega) b b'
abbrev wd1H (s : Int) (l : List (Int × Int)) (c : List PV) (N : Nat) (free : Int) (Z : Int) (q : Nat) (d o : List PV) (size n i b grade : Int) : List AO :=
  mfH s l c N free ++ [.cells [.ptr 1 0, .ptr 3 0, .vec 8 1, .int .i64 Z, .vec 6 q, .vec 9 1] 64, iVec d, iVec o, tsbO b n size grade, .vec (.any [.ptr 7 0]) 65 1, .vec (.any [.int .i64 size, .int .i64 n, .nils, .int .i64 i, .int .i64 grade]) 137 5]
theorem c_w13make1 (lf : List Bool) (c : List PV) (hc : c = bPV lf) (N : Nat) (hN : N = lf.length) (hN2 : N ≤ 65536) (free : Int) (hf : -1000000 ≤ free ∧ free ≤ 1000000) (s : Int) (hs : s = 8192 * N) (l : List (Int × Int)) (d : List PV) (hd : d = iPV (idxs lf)) (m : Nat) (hm : m = (idxs lf).length) (Z : Int) (hZ : Z = N)
    (size grade n : Int) (hn : n = plS size grade) (hn0 : n ≠ 0) (i : Int) (hT : TakeMn lf (frS n) i 0) :
    AC prog 34 [sv (.ptr 4 0), i64 size, i64 grade] (wdH s l c N free .nils Z m .nils d)
      (fun r H => ∃ c' l2 o q free' b, c' = bPV (setR lf i.toNat (frS n).toNat true) ∧ o = iPV (idxs (setR lf i.toNat (frS n).toNat true)) ∧ q = (idxs (setR lf i.toNat (frS n).toNat true)).length ∧ free' = free - frS n ∧ b = 8192 * i ∧ clrd b l n l2 ∧ r = bl true ∧
        H = wd1H s l2 c' N free' Z q d o size n i b grade) :=
  AC_fv (hs := [(2, .op 0 (.op 1 (.op 2 (.op 3 (.op 4 (.op 5 (.op 6 (.op 7 (.op 8 (.op 9 (.op 10 (.op 11 (.op 12 (.op 13 (.op 14 (.op 15 (.done))))))))))))))))), (8, .op 0 (.op 1 (.op 2 (.op 3 (.op 4 (.op 5 (.op 6 (.op 7 (.op 8 (.op 9 (.op 10 (.done))))))))))))]) tyOk mixed func34 (by kernel_rfl) fun bin cmp beq eqs conv mn mx nat nadd nsub nmul idx get sub subP subS getS put app rep oget osub oset oapp orep rget rlen rapp toNat nn lt le fit lenOk mget mhas mput mdel mlen kget khas kput next call yield hE ⟨hbin, hcmp, hbeq, heqs, hconv, hmn, hmx, hnat, hnadd, hnsub, hnmul, hidx, hget, hsub, hsubP, hsubS, hgetS, hput, happ, hrep, hoget, hosub, hoset, hoapp, horep, hrget, hrlen, hrapp, htoNat, hnn, hlt, hle, hfit, hlenOk, hmget, hmhas, hmput, hmdel, hmlen, hkget, hkhas, hkput, hnext, hcall, hyield⟩ K hK => by
    conv => cbv
    refine call_fv hcall [5] (c_r13Make lf d hd m hm Z (by omega) (by omega) size grade n hn) rfl rfl rfl rfl ?_
    rintro _ _ (⟨h, rfl, rfl⟩|⟨_, i', e, hT', he, rfl, rfl⟩|⟨_, i', o, q, hT', ho, hq, rfl, rfl⟩)
    constructor
    conv => cbv
    · exact (hn0 h).elim
    · exact (he (TakeMnU hT' hT).2).elim
    · obtain rfl := (TakeMnU hT' hT).1
      constructor
      conv => cbv
      refine call_fv hcall [0, 1, 2, 3] (c_swMake lf c hc N hN hN2 free hf s hs l size grade n hn) rfl rfl rfl rfl ?_
      rintro _ _ (⟨h, rfl, rfl⟩|⟨_, i2, e, hT2, he, rfl, rfl⟩|⟨_, i2, c', l2, free', b, hT2, hc', hb, hl2, hf', rfl, rfl⟩)
      constructor
      conv => cbv
      · exact (hn0 h).elim
      · exact (he (TakeMnU hT2 hT).2).elim
      · obtain rfl := (TakeMnU hT2 hT).1
        constructor
        conv => cbv
        rw [show cmp BinOp.neq 0 0 = false by rw [hcmp]; rfl]
        conv => cbv
        rw [show beq true (cmp BinOp.eql 0 0) = true by rw [hcmp, hbeq]; rfl]
        conv => cbv
        refine ⟨len_of hlenOk (by simp [VC.svs]), fit_of hfit (by simp only [hnat]; omega), len_of hlenOk (by simp [VC.svs]), fit_of hfit (by simp only [hnat]; omega), ?_⟩
        exact hK _ _ _ _ (Wk_of [0, 1, 2, 3, 4, 5, 6, 9, 11, 13] rfl rfl rfl (by cbv)) ⟨c', l2, o, q, free', b, hc', ho, hq, hf', hb, hl2, rfl, rfl⟩
theorem c_tLen (s : Int) (l : List (Int × Int)) (base n size grade : Int) : AC prog 35 [sv (.ptr 2 0)] (tsbH s l base n size grade) (fun r H => r = i64 n ∧ H = tsbH s l base n size grade) :=
  AC_fv (hs := []) tyOk mixed func35 (by kernel_rfl) fun bin cmp beq eqs conv mn mx nat nadd nsub nmul idx get sub subP subS getS put app rep oget osub oset oapp orep rget rlen rapp toNat nn lt le fit lenOk mget mhas mput mdel mlen kget khas kput next call yield hE ⟨hbin, hcmp, hbeq, heqs, hconv, hmn, hmx, hnat, hnadd, hnsub, hnmul, hidx, hget, hsub, hsubP, hsubS, hgetS, hput, happ, hrep, hoget, hosub, hoset, hoapp, horep, hrget, hrlen, hrapp, htoNat, hnn, hlt, hle, hfit, hlenOk, hmget, hmhas, hmput, hmdel, hmlen, hkget, hkhas, hkput, hnext, hcall, hyield⟩ K hK => by
    conv => cbv
    exact hK _ _ _ _ Wk.refl ⟨rfl, rfl⟩
theorem c_tBase (s : Int) (l : List (Int × Int)) (base n size grade : Int) : AC prog 36 [sv (.ptr 2 0)] (tsbH s l base n size grade) (fun r H => r = u64 base ∧ H = tsbH s l base n size grade) :=
  AC_fv (hs := []) tyOk mixed func36 (by kernel_rfl) fun bin cmp beq eqs conv mn mx nat nadd nsub nmul idx get sub subP subS getS put app rep oget osub oset oapp orep rget rlen rapp toNat nn lt le fit lenOk mget mhas mput mdel mlen kget khas kput next call yield hE ⟨hbin, hcmp, hbeq, heqs, hconv, hmn, hmx, hnat, hnadd, hnsub, hnmul, hidx, hget, hsub, hsubP, hsubS, hgetS, hput, happ, hrep, hoget, hosub, hoset, hoapp, horep, hrget, hrlen, hrapp, htoNat, hnn, hlt, hle, hfit, hlenOk, hmget, hmhas, hmput, hmdel, hmlen, hkget, hkhas, hkput, hnext, hcall, hyield⟩ K hK => by
    conv => cbv
    exact hK _ _ _ _ Wk.refl ⟨rfl, rfl⟩
theorem c_tGrade (s : Int) (l : List (Int × Int)) (base n size grade : Int) : AC prog 58 [sv (.ptr 2 0)] (tsbH s l base n size grade) (fun r H => r = i64 grade ∧ H = tsbH s l base n size grade) :=
  AC_fv (hs := []) tyOk mixed func58 (by kernel_rfl) fun bin cmp beq eqs conv mn mx nat nadd nsub nmul idx get sub subP subS getS put app rep oget osub oset oapp orep rget rlen rapp toNat nn lt le fit lenOk mget mhas mput mdel mlen kget khas kput next call yield hE ⟨hbin, hcmp, hbeq, heqs, hconv, hmn, hmx, hnat, hnadd, hnsub, hnmul, hidx, hget, hsub, hsubP, hsubS, hgetS, hput, happ, hrep, hoget, hosub, hoset, hoapp, horep, hrget, hrlen, hrapp, htoNat, hnn, hlt, hle, hfit, hlenOk, hmget, hmhas, hmput, hmdel, hmlen, hkget, hkhas, hkput, hnext, hcall, hyield⟩ K hK => by
    conv => cbv
    exact hK _ _ _ _ Wk.refl ⟨rfl, rfl⟩
theorem take0 {N k : Nat} (h1 : 1 ≤ k) (h2 : k ≤ N) : TakeMn (List.replicate N false) k 0 0 := by
  refine .inr ⟨by omega, .inl ⟨rfl, 0, rfl, by simp; omega, fun j h3 h4 => ?_, fun m' h => by omega⟩⟩
  rw [List.getElem?_replicate, if_pos (by omega)]
theorem frS_le {n : Int} (h1 : 1 ≤ n) (h2 : n ≤ 4096) : 1 ≤ frS n ∧ frS n ≤ 8 := by unfold frS; omega
theorem c_w13lives : AC prog 37 [] [] (fun r H => r = bl true ∧ H = []) :=
  AC_fv (hs := []) tyOk mixed func37 (by kernel_rfl) fun bin cmp beq eqs conv mn mx nat nadd nsub nmul idx get sub subP subS getS put app rep oget osub oset oapp orep rget rlen rapp toNat nn lt le fit lenOk mget mhas mput mdel mlen kget khas kput next call yield hE ⟨hbin, hcmp, hbeq, heqs, hconv, hmn, hmx, hnat, hnadd, hnsub, hnmul, hidx, hget, hsub, hsubP, hsubS, hgetS, hput, happ, hrep, hoget, hosub, hoset, hoapp, horep, hrget, hrlen, hrapp, htoNat, hnn, hlt, hle, hfit, hlenOk, hmget, hmhas, hmput, hmdel, hmlen, hkget, hkhas, hkput, hnext, hcall, hyield⟩ K hK => by
    conv => cbv
    refine call_fv hcall [] (c_mNew 81920) rfl rfl rfl rfl ?_
    rintro _ _ ⟨s, hs, rfl, rfl⟩
    rw [if_neg (by omega)] at hs
    constructor
    conv => cbv
    refine call_fv hcall [] (c_fNew 10) rfl rfl rfl rfl ?_
    rintro _ _ ⟨N, c, hN, hc, rfl, rfl⟩
    have hNn : N = 10 := by (have e : clampN 10 = 10 := rfl; omega)
    constructor
    conv => cbv
    refine call_fv hcall [0, 1, 2, 3] (c_swMake _ c hc N (by simp) (by omega) N (by omega) s (by omega) [] 0 0 512 rfl) rfl rfl rfl rfl ?_
    rintro _ _ (⟨h, rfl, rfl⟩|⟨_, i2, e, hT2, he, rfl, rfl⟩|⟨_, i2, c', l2, free', b, hT2, hc', hb, hl2, hf', rfl, rfl⟩)
    constructor
    conv => cbv
    · omega
    · exact (he (TakeMnU hT2 (take0 (k := 1) (by omega) (by omega))).2).elim
    · constructor
      conv => cbv
      rw [show cmp BinOp.eql 0 0 = true by rw [hcmp]; rfl]
      conv => cbv
      refine call_fv hcall [] (c_sFrames 0 3) rfl rfl rfl rfl ?_
      rintro _ _ ⟨x, hx, rfl, rfl⟩
      obtain rfl : x = 8 := hx
      constructor
      conv => cbv
      rw [show cmp BinOp.eql 8 8 = true by rw [hcmp]; rfl]
      conv => cbv
      refine call_fv hcall [] (c_sFrames 3 0) rfl rfl rfl rfl ?_
      rintro _ _ ⟨x, hx, rfl, rfl⟩
      obtain rfl : x = 1 := hx
      constructor
      conv => cbv
      rw [show cmp BinOp.eql 1 1 = true by rw [hcmp]; rfl]
      conv => cbv
      refine call_fv hcall [2, 3] (c_fFree c' N free') rfl rfl rfl rfl ?_
      rintro _ _ ⟨rfl, rfl⟩
      constructor
      conv => cbv
      rw [show cmp BinOp.eql free' 9 = true by (have e : frS 512 = 1 := rfl; rw [hcmp, hf', hNn, e]; rfl)]
      exact hK _ _ _ _ (Wk_of [] rfl rfl rfl (by cbv)) ⟨rfl, rfl⟩
end Go.Proofs.Try
