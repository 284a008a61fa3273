/- The walk: the reference of swap, Make; a world's beginning. -/
import Derived.Test.YtdboiflfehpjhaaSw1
set_option linter.unusedVariables false
set_option linter.unusedSimpArgs false
namespace Go.Proofs.Try
open Go Bm
set_option maxRecDepth 100000
set_option maxHeartbeats 400000
theorem idxs_repF (n : Nat) (k : Int) : idxI k (List.replicate n false) = [] := by
  induction n generalizing k with
  | zero => rfl
  | succ n ih => simp [List.replicate_succ, idxI, ih]
abbrev sR (size n : Int) (m : SV) (first grade : Int) : CV := .agg [.int .i64 size, .int .i64 n, m, .int .i64 first, .int .i64 grade]
theorem c_r13Make (lf : List Bool) (d : List PV) (hd : d = iPV (idxs lf)) (m : Nat) (hm : m = (idxs lf).length) (Z : Int) (hZ : Z = lf.length) (hZ2 : Z ≤ 65536) (size grade n : Int) (hn : n = plS size grade) :
    AC prog 90 [refF Z m, i64 size, i64 grade] [iVec d]
      (fun r H => (n = 0 ∧ r = .tup [.agg [.int .i64 Z, .vec 0 m], sR 0 0 .nils 0 0, .s (.int .i64 1)] ∧ H = [iVec d]) ∨
        (n ≠ 0 ∧ ∃ i e, TakeMn lf (frS n) i e ∧ e ≠ 0 ∧ r = .tup [.agg [.int .i64 Z, .vec 0 m], sR 0 0 .nils 0 0, .s (.int .i64 e)] ∧ H = [iVec d]) ∨
        (n ≠ 0 ∧ ∃ i o q, TakeMn lf (frS n) i 0 ∧ o = iPV (idxs (setR lf i.toNat (frS n).toNat true)) ∧ q = (idxs (setR lf i.toNat (frS n).toNat true)).length ∧ r = .tup [.agg [.int .i64 Z, .vec 1 q], sR size n .nils i grade, .s (.int .i64 0)] ∧ H = [iVec d, iVec o])) :=
  AC_fv (hs := [(7, .op 0 (.op 1 (.op 2 (.op 4 (.op 5 (.op 3 (.op 6 (.op 7 (.op 8 (.op 9 (.done)))))))))))]) tyOk mixed func90 (by kernel_rfl) fun bin cmp beq eqs conv mn mx nat nadd nsub nmul idx get sub subP subS getS put app rep oget osub oset oapp orep rget rlen rapp toNat nn lt le fit lenOk mget mhas mput mdel mlen kget khas kput next call yield hE ⟨hbin, hcmp, hbeq, heqs, hconv, hmn, hmx, hnat, hnadd, hnsub, hnmul, hidx, hget, hsub, hsubP, hsubS, hgetS, hput, happ, hrep, hoget, hosub, hoset, hoapp, horep, hrget, hrlen, hrapp, htoNat, hnn, hlt, hle, hfit, hlenOk, hmget, hmhas, hmput, hmdel, hmlen, hkget, hkhas, hkput, hnext, hcall, hyield⟩ K hK => by
    have hle := plS_le size grade
    rw [← hn] at hle
    conv => cbv
    refine call_fv hcall [] (c_r13Frames size grade) rfl rfl rfl rfl ?_
    rintro _ _ ⟨k, hk, rfl, rfl⟩
    rw [← hn] at hk
    have hk0 : 0 ≤ k := by (rw [hk]; unfold frS; omega)
    constructor
    conv => cbv
    refine b_eq hcmp (fun h => ?_) (fun h1 => ?_)
    · conv => cbv
      exact hK _ _ _ _ (Wk_of [0] rfl rfl rfl (by cbv)) (.inl ⟨(frS_pos hle.1).1 (hk ▸ h), rfl, rfl⟩)
    · have hn0 : n ≠ 0 := fun h => h1 (hk.trans ((frS_pos hle.1).2 h))
      conv => cbv
      refine call_fv hcall [0] (c_rTakeMn lf d hd m hm Z hZ (by omega) k) rfl rfl rfl rfl ?_
      rintro _ _ ⟨i, e, hT, (⟨he, rfl, rfl⟩|⟨he, o, q, ho, hq, rfl, rfl⟩)⟩
      rw [hk] at hT
      constructor
      conv => cbv
      · refine b_ne hcmp (fun _ => ?_) (fun h => (he h).elim)
        conv => cbv
        exact hK _ _ _ _ (Wk_of [0] rfl rfl rfl (by cbv)) (.inr (.inl ⟨hn0, i, e, hT, he, rfl, rfl⟩))
      · subst he
        rw [hk] at hT ho hq
        constructor
        conv => cbv
        rw [show cmp BinOp.neq 0 0 = false by rw [hcmp]; rfl]
        conv => cbv
        refine call_fv hcall [] (c_r10New size grade) rfl rfl rfl rfl ?_
        rintro _ _ ⟨n', hn', rfl, rfl⟩
        obtain rfl : n' = n := by omega
        constructor
        conv => cbv
        exact hK _ _ _ _ (Wk_of [0, 4] rfl rfl rfl (by cbv)) (.inr (.inr ⟨hn0, i, o, q, hT, ho, hq, rfl, rfl⟩))
abbrev wdH (s : Int) (l : List (Int × Int)) (c : List PV) (N : Nat) (free : Int) (L : SV) (Z : Int) (m : Nat) (S : SV) (d : List PV) : List AO := mfH s l c N free ++ [.cells [.ptr 1 0, .ptr 3 0, L, .int .i64 Z, .vec 5 m, S] 64, iVec d]
theorem c_w13begin (n : Int) (h0 : 0 ≤ n) (h1 : n ≤ 41) :
    AC prog 33 [i64 n] [] (fun r H => ∃ (N : Nat) (c d : List PV) (s : Int), N = n ∧ c = bPV (List.replicate N false) ∧ d = iPV (idxs (List.replicate N false)) ∧ s = 8192 * N ∧ r = sv (.ptr 4 0) ∧ H = wdH s [] c N N .nils n 0 .nils d) :=
  AC_fv (hs := []) tyOk mixed func33 (by kernel_rfl) fun bin cmp beq eqs conv mn mx nat nadd nsub nmul idx get sub subP subS getS put app rep oget osub oset oapp orep rget rlen rapp toNat nn lt le fit lenOk mget mhas mput mdel mlen kget khas kput next call yield hE ⟨hbin, hcmp, hbeq, heqs, hconv, hmn, hmx, hnat, hnadd, hnsub, hnmul, hidx, hget, hsub, hsubP, hsubS, hgetS, hput, happ, hrep, hoget, hosub, hoset, hoapp, horep, hrget, hrlen, hrapp, htoNat, hnn, hlt, hle, hfit, hlenOk, hmget, hmhas, hmput, hmdel, hmlen, hkget, hkhas, hkput, hnext, hcall, hyield⟩ K hK => by
    conv => cbv
    rw [show conv .u64 n = n by (rw [hconv]; exact u64_id (by omega) (by omega)), mul_u hbin (by omega) (by omega)]
    refine call_fv hcall [] (c_mNew (n * 8192)) rfl rfl rfl rfl ?_
    rintro _ _ ⟨s, hs, rfl, rfl⟩
    rw [if_neg (by omega)] at hs
    constructor
    conv => cbv
    refine call_fv hcall [] (c_fNew n) rfl rfl rfl rfl ?_
    rintro _ _ ⟨N, c, hN, hc, rfl, rfl⟩
    have hNn : (N : Int) = n := by (rw [hN]; unfold clampN; rw [if_neg (by omega), if_neg (by omega)])
    constructor
    conv => cbv
    refine call_fv hcall [] (c_rNew n) rfl rfl rfl rfl ?_
    rintro _ _ ⟨Z, hZ, rfl, rfl⟩
    have hZn : Z = n := by (rw [hZ]; unfold clampN; rw [if_neg (by omega), if_neg (by omega)])
    constructor
    conv => cbv
    subst hZn
    refine hK _ _ _ _ (Wk_nils (H' := [.m64 [], .cells [.int .u64 s, .mp 0] 110, .vec (.pv c) 4 1, .cells [.vec 2 N, .int .i64 N] 124, .cells [.ptr 1 0, .ptr 3 0, .nils, .int .i64 Z, .vec 5 0, .nils] 64]) 3 1 (by simp) (All2.same (nilV_refl _) _) ⟨rfl, ⟨⟨.inl rfl, .inl rfl, trivial⟩, rfl⟩, rfl, ⟨⟨.inl rfl, .inl rfl, trivial⟩, rfl⟩, ⟨⟨.inl rfl, .inl rfl, .inl rfl, .inl rfl, .inr ⟨rfl, rfl⟩, .inl rfl, trivial⟩, rfl⟩, trivial⟩) ⟨N, c, [], s, hNn, hc, by simp [idxs, idxs_repF, iPV], by omega, rfl, rfl⟩
end Go.Proofs.Try
