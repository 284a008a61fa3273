/- The walk: the law of frames, the whole play. -/
import Derived.Test.YtdboiflfehpjhaaLaw5b
set_option linter.unusedVariables false
set_option linter.unusedSimpArgs false
namespace Go.Proofs.Try
open Go Bm
set_option maxRecDepth 100000
set_option maxHeartbeats 1000000
structure D5 where
  k : Int
  a : Int
  b : Int
def d5P (d : D5) : List PV := [.int .i64 d.k, .int .i64 d.a, .int .i64 d.b]
theorem d5P_len (d : D5) : (d5P d).length = 3 := rfl
def ok64 (n : Int) : Prop := -9223372036854775808 ≤ n ∧ n ≤ 9223372036854775807
structure St5 where
  i : Int
  l : List Bool
  c : List PV
  free : Int
  m : Nat
  d : List PV
  tl : List (Int × Int)
  tc : List PV
  p : Nat
abbrev hp5 (dc : List PV) (N : Nat) (Z : Int) (s : St5) : List AO := [.ro dc, .vec (.pv s.c) 4 1, .cells [.vec 1 N, .int .i64 s.free] 124, .cells [.int .i64 Z, .vec 4 s.m] 46, iVec s.d, tVec s.tc]
def J5 (L N : Nat) (Z : Int) (s : St5) : Prop := 0 ≤ s.i ∧ s.i ≤ 30 ∧ s.l.length = N ∧ s.c = bPV s.l ∧ s.m = (idxs s.l).length ∧ s.free = Z - s.m ∧ s.d = iPV (idxs s.l) ∧ s.tc = encL tkP s.tl ∧ s.p = s.tl.length ∧ (s.p : Int) ≤ s.i
theorem idxs_rep (n : Nat) (k : Int) : idxI k (List.replicate n false) = [] := by
  induction n generalizing k with
  | zero => rfl
  | succ n ih => simp [List.replicate_succ, idxI, ih]
theorem c_FramesPlays (ds : List D5) (hds : ∀ d ∈ ds, ok64 d.k ∧ ok64 d.a ∧ ok64 d.b) (L : Nat) (hL : L = ds.length) (dc : List PV) (hdc : dc = encL d5P ds) (n : Int) (hn : ok64 n) :
    AC prog 4 [i64 n, sv (.sl 0 0 L)] [.ro dc] (fun r H => r = bl true ∧ H = [.ro dc]) :=
  AC_fv (hs := [(11, .op 0 (.op 1 (.op 2 (.op 3 (.op 4 (.op 5 (.op 6 (.fork 7 (.op 8 (.op 9 (.op 10 (.op 11 (.op 12 (.op 13 (.op 14 (.op 15 (.done))))))))) 12 (.op 7 (.op 8 (.op 9 (.op 10 (.op 11 (.op 13 (.op 14 (.op 15 (.done))))))))))))))))), (14, .op 0 (.op 1 (.op 2 (.op 3 (.op 5 (.op 6 (.op 7 (.op 8 (.op 9 (.op 10 (.op 4 (.op 11 (.op 12 (.op 13 (.op 14 (.op 16 (.op 17 (.op 15 (.op 18 (.op 19 (.op 20 (.op 21 (.op 23 (.op 22 (.op 24 (.op 25 (.op 26 (.op 27 (.op 28 (.op 30 (.op 31 (.op 29 (.op 32 (.op 33 (.op 34 (.done))))))))))))))))))))))))))))))))))))]) tyOk mixed func4 (by kernel_rfl) fun bin cmp beq eqs conv mn mx nat nadd nsub nmul idx get sub subP subS getS put app rep oget osub oset oapp orep rget rlen rapp toNat nn lt le fit lenOk mget mhas mput mdel mlen kget khas kput next call yield hE ⟨hbin, hcmp, hbeq, heqs, hconv, hmn, hmx, hnat, hnadd, hnsub, hnmul, hidx, hget, hsub, hsubP, hsubS, hgetS, hput, happ, hrep, hoget, hosub, hoset, hoapp, horep, hrget, hrlen, hrapp, htoNat, hnn, hlt, hle, hfit, hlenOk, hmget, hmhas, hmput, hmdel, hmlen, hkget, hkhas, hkput, hnext, hcall, hyield⟩ K hK => by
    conv => cbv
    refine b_gt hcmp (fun h => ?_) (fun h => ?_)
    · conv => cbv
      generalize bin .rem .i64 n 601 = n'
      refine call_fv hcall [] (c_fNew n') rfl rfl rfl rfl ?_
      rintro _ _ ⟨N, c, hN, hc, rfl, rfl⟩
      constructor
      conv => cbv
      refine call_fv hcall [] (c_rNew n') rfl rfl rfl rfl ?_
      rintro _ _ ⟨Z, hZ, rfl, rfl⟩
      have hZN : Z = N := by omega
      have hN2 : N ≤ 65536 := by (have h0 : clampN n' ≤ 65536 := by (unfold clampN; repeat' split) <;> omega); omega
      constructor
      conv => cbv
      refine loop_intro [4, 7, 8, 9, 10, 11, 22, 23, 24, 25, 26, 27, 28, 29, 30, 31, 32, 33, 34, 35, 36, 37, 38, 39, 40, 41, 42, 43, 44, 45, 46, 47, 48, 49, 50, 51, 52, 53, 54, 55, 56, 57, 58, 59, 60, 61, 62, 63, 64, 65, 66, 67, 68, 69, 70, 71, 72, 73, 74, 75, 76, 77, 78, 79, 80] (fun s : St5 => [(8, i64 s.i), (7, sv (.vec 5 s.p))]) (hp5 dc N Z) (J5 L N Z) (fun s => (30 - s.i).toNat) ⟨0, List.replicate N false, c, N, 0, [], [], [], 0⟩
        (Wk.trans (Wk_nils (H' := [.ro dc, .vec (.pv c) 4 1, .cells [.vec 1 N, .int .i64 N] 124, .cells [.int .i64 Z, .vec 4 0] 46]) 3 1 (by simp) (All2.same (nilV_refl _) _) ⟨rfl, rfl, ⟨⟨.inl rfl, .inl rfl, trivial⟩, rfl⟩, ⟨⟨.inl rfl, .inr ⟨rfl, rfl⟩, trivial⟩, rfl⟩, trivial⟩) (Wk.trans (Wk_nilT 7 130 2 (by simp) rfl) (Wk_fg (by cbv)))) ⟨by simp, by simp, by simp, hc, by simp [idxs, idxs_rep], by simp [hZN], by simp [idxs, idxs_rep, iPV], rfl, rfl, by simp⟩ ?_
      rintro ⟨i, l, c, free, m, d, tl, tc, p⟩ ⟨i0, i1, hl, hc, hm, hf, hd, htc, hp, hpi⟩ KN hKN
      dsimp only at i0 i1 hl hc hm hf hd htc hp hpi
      constructor
      conv => cbv
      refine b_lt hcmp (fun hi1 => ?_) (fun hi1 => ?_)
      · simp only [hnat] at hi1
        conv => cbv
        refine b_lt hcmp (fun hi2 => ?_) (fun hi2 => ?_)
        · conv => cbv
          refine ⟨nn_of hnn (by omega), ltn_of hlt hnat (by omega), ?_⟩
          obtain ⟨x, hx⟩ : ∃ x, ds[i.toNat]? = some x := ⟨_, List.getElem?_eq_getElem (by omega)⟩
          refine sub_of hsub (d5P x) (by rw [hidx, hdc]; exact encL_sub d5P_len hx) ?_
          have hxo := hds x (List.mem_of_getElem? hx)
          conv => cbv
          constructor
          · refine call_fv hcall [1, 2, 4, 5] (c_does5 l c hc N hl.symm hN2 Z hZN d hd m hm free hf tl tc htc p hp (by omega) x.k x.a x.b hxo.2.2) rfl rfl rfl rfl ?_
            rintro _ _ ⟨l', c', m', free', hll, hc', hm', hf', (⟨rfl, rfl, rfl⟩|⟨d', hd', rfl, rfl⟩|⟨d', tl', tc', p', hd', htc', hp', hpp, rfl, rfl⟩)⟩
            constructor
            conv => cbv
            · obtain rfl : m' = m := by omega
              have hml : m' ≤ N := by (have := idxI_len 0 l'); (have e : (idxs l').length = (idxI 0 l').length := rfl); omega
              refine call_fv hcall [1, 2] (c_fFree c' N free') rfl rfl rfl rfl ?_
              rintro _ _ ⟨rfl, rfl⟩
              constructor
              conv => cbv
              have es : bin .sub .i64 Z (nat m') = Z - m' := by rw [hnat]; exact sub_i hbin (by omega) (by omega)
              rw [es, show cmp .neq free' (Z - m') = false by rw [hcmp, hf']; simp [realCmp]]
              conv => cbv
              refine call_fv hcall [1, 2] (c_fLen c' N free') rfl rfl rfl rfl ?_
              rintro _ _ ⟨y1, hy1, rfl, rfl⟩
              constructor
              conv => cbv
              rw [show cmp .neq y1 Z = false by rw [hcmp, hy1, hZN]; simp [realCmp]]
              conv => cbv
              refine call_fv hcall [1, 2] (c_fLongest l' c' hc' N (by omega) hN2 free') rfl rfl rfl rfl ?_
              rintro _ _ ⟨y2, hy2, rfl, rfl⟩
              constructor
              conv => cbv
              refine call_fv hcall [4] (c_rLongest l' d hd m' hm' Z (by omega) (by omega)) rfl rfl rfl rfl ?_
              rintro _ _ ⟨y3, hy3, rfl, rfl⟩
              constructor
              conv => cbv
              rw [show cmp .neq y2 y3 = false by rw [hcmp, hy2, hy3]; simp [realCmp]]
              conv => cbv
              refine call_fv hcall [1, 2] (c_fList l' c' hc' N (by omega) hN2 free') rfl rfl rfl rfl ?_
              rintro _ _ ⟨d3, m3, hd3, hm3, rfl, rfl⟩
              obtain rfl : m3 = m' := by omega
              constructor
              conv => cbv
              refine call_fv hcall [7, 4] (c_same (idxs l') d3 d hd3 hd m3 hm' (by omega)) rfl rfl rfl rfl ?_
              rintro _ _ ⟨rfl, rfl⟩
              constructor
              conv => cbv
              rw [show bin .add .i64 i 1 = i + 1 from add_i hbin (by omega) (by omega)]
              refine hKN ⟨i + 1, l', c', free', m3, d, tl, tc, p⟩ _ _ ⟨by dsimp only; omega, by dsimp only; omega, by dsimp only; omega, hc', hm', hf', hd, htc, hp, by dsimp only; omega⟩ (by dsimp only; omega) ?_
              generalize i + 1 = i'
              exact Wk_of [0, 1, 2, 3, 4, 5] rfl rfl rfl (by cbv)
            · constructor
              conv => cbv
              have hml : m' ≤ N := by (have := idxI_len 0 l'); (have e : (idxs l').length = (idxI 0 l').length := rfl); omega
              refine call_fv hcall [1, 2] (c_fFree c' N free') rfl rfl rfl rfl ?_
              rintro _ _ ⟨rfl, rfl⟩
              constructor
              conv => cbv
              have es : bin .sub .i64 Z (nat m') = Z - m' := by rw [hnat]; exact sub_i hbin (by omega) (by omega)
              rw [es, show cmp .neq free' (Z - m') = false by rw [hcmp, hf']; simp [realCmp]]
              conv => cbv
              refine call_fv hcall [1, 2] (c_fLen c' N free') rfl rfl rfl rfl ?_
              rintro _ _ ⟨y1, hy1, rfl, rfl⟩
              constructor
              conv => cbv
              rw [show cmp .neq y1 Z = false by rw [hcmp, hy1, hZN]; simp [realCmp]]
              conv => cbv
              refine call_fv hcall [1, 2] (c_fLongest l' c' hc' N (by omega) hN2 free') rfl rfl rfl rfl ?_
              rintro _ _ ⟨y2, hy2, rfl, rfl⟩
              constructor
              conv => cbv
              refine call_fv hcall [6] (c_rLongest l' d' hd' m' hm' Z (by omega) (by omega)) rfl rfl rfl rfl ?_
              rintro _ _ ⟨y3, hy3, rfl, rfl⟩
              constructor
              conv => cbv
              rw [show cmp .neq y2 y3 = false by rw [hcmp, hy2, hy3]; simp [realCmp]]
              conv => cbv
              refine call_fv hcall [1, 2] (c_fList l' c' hc' N (by omega) hN2 free') rfl rfl rfl rfl ?_
              rintro _ _ ⟨d3, m3, hd3, hm3, rfl, rfl⟩
              obtain rfl : m3 = m' := by omega
              constructor
              conv => cbv
              refine call_fv hcall [8, 6] (c_same (idxs l') d3 d' hd3 hd' m3 hm' (by omega)) rfl rfl rfl rfl ?_
              rintro _ _ ⟨rfl, rfl⟩
              constructor
              conv => cbv
              rw [show bin .add .i64 i 1 = i + 1 from add_i hbin (by omega) (by omega)]
              refine hKN ⟨i + 1, l', c', free', m3, d', tl, tc, p⟩ _ _ ⟨by dsimp only; omega, by dsimp only; omega, by dsimp only; omega, hc', hm', hf', hd', htc, hp, by dsimp only; omega⟩ (by dsimp only; omega) ?_
              generalize i + 1 = i'
              exact Wk_of [0, 1, 2, 3, 6, 5] rfl rfl rfl (by cbv)
            · constructor
              conv => cbv
              have hml : m' ≤ N := by (have := idxI_len 0 l'); (have e : (idxs l').length = (idxI 0 l').length := rfl); omega
              refine call_fv hcall [1, 2] (c_fFree c' N free') rfl rfl rfl rfl ?_
              rintro _ _ ⟨rfl, rfl⟩
              constructor
              conv => cbv
              have es : bin .sub .i64 Z (nat m') = Z - m' := by rw [hnat]; exact sub_i hbin (by omega) (by omega)
              rw [es, show cmp .neq free' (Z - m') = false by rw [hcmp, hf']; simp [realCmp]]
              conv => cbv
              refine call_fv hcall [1, 2] (c_fLen c' N free') rfl rfl rfl rfl ?_
              rintro _ _ ⟨y1, hy1, rfl, rfl⟩
              constructor
              conv => cbv
              rw [show cmp .neq y1 Z = false by rw [hcmp, hy1, hZN]; simp [realCmp]]
              conv => cbv
              refine call_fv hcall [1, 2] (c_fLongest l' c' hc' N (by omega) hN2 free') rfl rfl rfl rfl ?_
              rintro _ _ ⟨y2, hy2, rfl, rfl⟩
              constructor
              conv => cbv
              refine call_fv hcall [6] (c_rLongest l' d' hd' m' hm' Z (by omega) (by omega)) rfl rfl rfl rfl ?_
              rintro _ _ ⟨y3, hy3, rfl, rfl⟩
              constructor
              conv => cbv
              rw [show cmp .neq y2 y3 = false by rw [hcmp, hy2, hy3]; simp [realCmp]]
              conv => cbv
              refine call_fv hcall [1, 2] (c_fList l' c' hc' N (by omega) hN2 free') rfl rfl rfl rfl ?_
              rintro _ _ ⟨d3, m3, hd3, hm3, rfl, rfl⟩
              obtain rfl : m3 = m' := by omega
              constructor
              conv => cbv
              refine call_fv hcall [9, 6] (c_same (idxs l') d3 d' hd3 hd' m3 hm' (by omega)) rfl rfl rfl rfl ?_
              rintro _ _ ⟨rfl, rfl⟩
              constructor
              conv => cbv
              rw [show bin .add .i64 i 1 = i + 1 from add_i hbin (by omega) (by omega)]
              refine hKN ⟨i + 1, l', c', free', m3, d', tl', tc', p'⟩ _ _ ⟨by dsimp only; omega, by dsimp only; omega, by dsimp only; omega, hc', hm', hf', hd', htc', hp', by dsimp only; omega⟩ (by dsimp only; omega) ?_
              generalize i + 1 = i'
              exact Wk_of [0, 1, 2, 3, 6, 7] rfl rfl rfl (by cbv)
          · refine call_fv hcall [1, 2, 4, 5] (c_does5 l c hc N hl.symm hN2 Z hZN d hd m hm free hf tl tc htc p hp (by omega) x.k x.a x.b hxo.2.2) rfl rfl rfl rfl ?_
            rintro _ _ ⟨l', c', m', free', hll, hc', hm', hf', (⟨rfl, rfl, rfl⟩|⟨d', hd', rfl, rfl⟩|⟨d', tl', tc', p', hd', htc', hp', hpp, rfl, rfl⟩)⟩
            constructor
            conv => cbv
            · obtain rfl : m' = m := by omega
              have hml : m' ≤ N := by (have := idxI_len 0 l'); (have e : (idxs l').length = (idxI 0 l').length := rfl); omega
              refine call_fv hcall [1, 2] (c_fFree c' N free') rfl rfl rfl rfl ?_
              rintro _ _ ⟨rfl, rfl⟩
              constructor
              conv => cbv
              have es : bin .sub .i64 Z (nat m') = Z - m' := by rw [hnat]; exact sub_i hbin (by omega) (by omega)
              rw [es, show cmp .neq free' (Z - m') = false by rw [hcmp, hf']; simp [realCmp]]
              conv => cbv
              refine call_fv hcall [1, 2] (c_fLen c' N free') rfl rfl rfl rfl ?_
              rintro _ _ ⟨y1, hy1, rfl, rfl⟩
              constructor
              conv => cbv
              rw [show cmp .neq y1 Z = false by rw [hcmp, hy1, hZN]; simp [realCmp]]
              conv => cbv
              refine call_fv hcall [1, 2] (c_fLongest l' c' hc' N (by omega) hN2 free') rfl rfl rfl rfl ?_
              rintro _ _ ⟨y2, hy2, rfl, rfl⟩
              constructor
              conv => cbv
              refine call_fv hcall [4] (c_rLongest l' d hd m' hm' Z (by omega) (by omega)) rfl rfl rfl rfl ?_
              rintro _ _ ⟨y3, hy3, rfl, rfl⟩
              constructor
              conv => cbv
              rw [show cmp .neq y2 y3 = false by rw [hcmp, hy2, hy3]; simp [realCmp]]
              conv => cbv
              refine call_fv hcall [1, 2] (c_fList l' c' hc' N (by omega) hN2 free') rfl rfl rfl rfl ?_
              rintro _ _ ⟨d3, m3, hd3, hm3, rfl, rfl⟩
              obtain rfl : m3 = m' := by omega
              constructor
              conv => cbv
              refine call_fv hcall [7, 4] (c_same (idxs l') d3 d hd3 hd m3 hm' (by omega)) rfl rfl rfl rfl ?_
              rintro _ _ ⟨rfl, rfl⟩
              constructor
              conv => cbv
              rw [show bin .add .i64 i 1 = i + 1 from add_i hbin (by omega) (by omega)]
              refine hKN ⟨i + 1, l', c', free', m3, d, tl, tc, p⟩ _ _ ⟨by dsimp only; omega, by dsimp only; omega, by dsimp only; omega, hc', hm', hf', hd, htc, hp, by dsimp only; omega⟩ (by dsimp only; omega) ?_
              generalize i + 1 = i'
              exact Wk_of [0, 1, 2, 3, 4, 5] rfl rfl rfl (by cbv)
            · constructor
              conv => cbv
              have hml : m' ≤ N := by (have := idxI_len 0 l'); (have e : (idxs l').length = (idxI 0 l').length := rfl); omega
              refine call_fv hcall [1, 2] (c_fFree c' N free') rfl rfl rfl rfl ?_
              rintro _ _ ⟨rfl, rfl⟩
              constructor
              conv => cbv
              have es : bin .sub .i64 Z (nat m') = Z - m' := by rw [hnat]; exact sub_i hbin (by omega) (by omega)
              rw [es, show cmp .neq free' (Z - m') = false by rw [hcmp, hf']; simp [realCmp]]
              conv => cbv
              refine call_fv hcall [1, 2] (c_fLen c' N free') rfl rfl rfl rfl ?_
              rintro _ _ ⟨y1, hy1, rfl, rfl⟩
              constructor
              conv => cbv
              rw [show cmp .neq y1 Z = false by rw [hcmp, hy1, hZN]; simp [realCmp]]
              conv => cbv
              refine call_fv hcall [1, 2] (c_fLongest l' c' hc' N (by omega) hN2 free') rfl rfl rfl rfl ?_
              rintro _ _ ⟨y2, hy2, rfl, rfl⟩
              constructor
              conv => cbv
              refine call_fv hcall [7] (c_rLongest l' d' hd' m' hm' Z (by omega) (by omega)) rfl rfl rfl rfl ?_
              rintro _ _ ⟨y3, hy3, rfl, rfl⟩
              constructor
              conv => cbv
              rw [show cmp .neq y2 y3 = false by rw [hcmp, hy2, hy3]; simp [realCmp]]
              conv => cbv
              refine call_fv hcall [1, 2] (c_fList l' c' hc' N (by omega) hN2 free') rfl rfl rfl rfl ?_
              rintro _ _ ⟨d3, m3, hd3, hm3, rfl, rfl⟩
              obtain rfl : m3 = m' := by omega
              constructor
              conv => cbv
              refine call_fv hcall [8, 7] (c_same (idxs l') d3 d' hd3 hd' m3 hm' (by omega)) rfl rfl rfl rfl ?_
              rintro _ _ ⟨rfl, rfl⟩
              constructor
              conv => cbv
              rw [show bin .add .i64 i 1 = i + 1 from add_i hbin (by omega) (by omega)]
              refine hKN ⟨i + 1, l', c', free', m3, d', tl, tc, p⟩ _ _ ⟨by dsimp only; omega, by dsimp only; omega, by dsimp only; omega, hc', hm', hf', hd', htc, hp, by dsimp only; omega⟩ (by dsimp only; omega) ?_
              generalize i + 1 = i'
              exact Wk_of [0, 1, 2, 3, 7, 5] rfl rfl rfl (by cbv)
            · constructor
              conv => cbv
              have hml : m' ≤ N := by (have := idxI_len 0 l'); (have e : (idxs l').length = (idxI 0 l').length := rfl); omega
              refine call_fv hcall [1, 2] (c_fFree c' N free') rfl rfl rfl rfl ?_
              rintro _ _ ⟨rfl, rfl⟩
              constructor
              conv => cbv
              have es : bin .sub .i64 Z (nat m') = Z - m' := by rw [hnat]; exact sub_i hbin (by omega) (by omega)
              rw [es, show cmp .neq free' (Z - m') = false by rw [hcmp, hf']; simp [realCmp]]
              conv => cbv
              refine call_fv hcall [1, 2] (c_fLen c' N free') rfl rfl rfl rfl ?_
              rintro _ _ ⟨y1, hy1, rfl, rfl⟩
              constructor
              conv => cbv
              rw [show cmp .neq y1 Z = false by rw [hcmp, hy1, hZN]; simp [realCmp]]
              conv => cbv
              refine call_fv hcall [1, 2] (c_fLongest l' c' hc' N (by omega) hN2 free') rfl rfl rfl rfl ?_
              rintro _ _ ⟨y2, hy2, rfl, rfl⟩
              constructor
              conv => cbv
              refine call_fv hcall [7] (c_rLongest l' d' hd' m' hm' Z (by omega) (by omega)) rfl rfl rfl rfl ?_
              rintro _ _ ⟨y3, hy3, rfl, rfl⟩
              constructor
              conv => cbv
              rw [show cmp .neq y2 y3 = false by rw [hcmp, hy2, hy3]; simp [realCmp]]
              conv => cbv
              refine call_fv hcall [1, 2] (c_fList l' c' hc' N (by omega) hN2 free') rfl rfl rfl rfl ?_
              rintro _ _ ⟨d3, m3, hd3, hm3, rfl, rfl⟩
              obtain rfl : m3 = m' := by omega
              constructor
              conv => cbv
              refine call_fv hcall [9, 7] (c_same (idxs l') d3 d' hd3 hd' m3 hm' (by omega)) rfl rfl rfl rfl ?_
              rintro _ _ ⟨rfl, rfl⟩
              constructor
              conv => cbv
              rw [show bin .add .i64 i 1 = i + 1 from add_i hbin (by omega) (by omega)]
              refine hKN ⟨i + 1, l', c', free', m3, d', tl', tc', p'⟩ _ _ ⟨by dsimp only; omega, by dsimp only; omega, by dsimp only; omega, hc', hm', hf', hd', htc', hp', by dsimp only; omega⟩ (by dsimp only; omega) ?_
              generalize i + 1 = i'
              exact Wk_of [0, 1, 2, 3, 7, 8] rfl rfl rfl (by cbv)
        · conv => cbv
          refine call_fv hcall [] (c_lives5) rfl rfl rfl rfl ?_
          rintro _ _ ⟨rfl, rfl⟩
          constructor
          conv => cbv
          exact hK _ _ _ _ (Wk_of [0] rfl rfl rfl (by cbv)) ⟨rfl, rfl⟩
      · conv => cbv
        refine call_fv hcall [] (c_lives5) rfl rfl rfl rfl ?_
        rintro _ _ ⟨rfl, rfl⟩
        constructor
        conv => cbv
        exact hK _ _ _ _ (Wk_of [0] rfl rfl rfl (by cbv)) ⟨rfl, rfl⟩
    · conv => cbv
      refine call_fv hcall [] (c_fNew n) rfl rfl rfl rfl ?_
      rintro _ _ ⟨N, c, hN, hc, rfl, rfl⟩
      constructor
      conv => cbv
      refine call_fv hcall [] (c_rNew n) rfl rfl rfl rfl ?_
      rintro _ _ ⟨Z, hZ, rfl, rfl⟩
      have hZN : Z = N := by omega
      have hN2 : N ≤ 65536 := by (have h0 : clampN n ≤ 65536 := by (unfold clampN; repeat' split) <;> omega); omega
      constructor
      conv => cbv
      refine loop_intro [4, 7, 8, 9, 10, 11, 22, 23, 24, 25, 26, 27, 28, 29, 30, 31, 32, 33, 34, 35, 36, 37, 38, 39, 40, 41, 42, 43, 44, 45, 46, 47, 48, 49, 50, 51, 52, 53, 54, 55, 56, 57, 58, 59, 60, 61, 62, 63, 64, 65, 66, 67, 68, 69, 70, 71, 72, 73, 74, 75, 76, 77, 78, 79, 80] (fun s : St5 => [(8, i64 s.i), (7, sv (.vec 5 s.p))]) (hp5 dc N Z) (J5 L N Z) (fun s => (30 - s.i).toNat) ⟨0, List.replicate N false, c, N, 0, [], [], [], 0⟩
        (Wk.trans (Wk_nils (H' := [.ro dc, .vec (.pv c) 4 1, .cells [.vec 1 N, .int .i64 N] 124, .cells [.int .i64 Z, .vec 4 0] 46]) 3 1 (by simp) (All2.same (nilV_refl _) _) ⟨rfl, rfl, ⟨⟨.inl rfl, .inl rfl, trivial⟩, rfl⟩, ⟨⟨.inl rfl, .inr ⟨rfl, rfl⟩, trivial⟩, rfl⟩, trivial⟩) (Wk.trans (Wk_nilT 7 130 2 (by simp) rfl) (Wk_fg (by cbv)))) ⟨by simp, by simp, by simp, hc, by simp [idxs, idxs_rep], by simp [hZN], by simp [idxs, idxs_rep, iPV], rfl, rfl, by simp⟩ ?_
      rintro ⟨i, l, c, free, m, d, tl, tc, p⟩ ⟨i0, i1, hl, hc, hm, hf, hd, htc, hp, hpi⟩ KN hKN
      dsimp only at i0 i1 hl hc hm hf hd htc hp hpi
      constructor
      conv => cbv
      refine b_lt hcmp (fun hi1 => ?_) (fun hi1 => ?_)
      · simp only [hnat] at hi1
        conv => cbv
        refine b_lt hcmp (fun hi2 => ?_) (fun hi2 => ?_)
        · conv => cbv
          refine ⟨nn_of hnn (by omega), ltn_of hlt hnat (by omega), ?_⟩
          obtain ⟨x, hx⟩ : ∃ x, ds[i.toNat]? = some x := ⟨_, List.getElem?_eq_getElem (by omega)⟩
          refine sub_of hsub (d5P x) (by rw [hidx, hdc]; exact encL_sub d5P_len hx) ?_
          have hxo := hds x (List.mem_of_getElem? hx)
          conv => cbv
          constructor
          · refine call_fv hcall [1, 2, 4, 5] (c_does5 l c hc N hl.symm hN2 Z hZN d hd m hm free hf tl tc htc p hp (by omega) x.k x.a x.b hxo.2.2) rfl rfl rfl rfl ?_
            rintro _ _ ⟨l', c', m', free', hll, hc', hm', hf', (⟨rfl, rfl, rfl⟩|⟨d', hd', rfl, rfl⟩|⟨d', tl', tc', p', hd', htc', hp', hpp, rfl, rfl⟩)⟩
            constructor
            conv => cbv
            · obtain rfl : m' = m := by omega
              have hml : m' ≤ N := by (have := idxI_len 0 l'); (have e : (idxs l').length = (idxI 0 l').length := rfl); omega
              refine call_fv hcall [1, 2] (c_fFree c' N free') rfl rfl rfl rfl ?_
              rintro _ _ ⟨rfl, rfl⟩
              constructor
              conv => cbv
              have es : bin .sub .i64 Z (nat m') = Z - m' := by rw [hnat]; exact sub_i hbin (by omega) (by omega)
              rw [es, show cmp .neq free' (Z - m') = false by rw [hcmp, hf']; simp [realCmp]]
              conv => cbv
              refine call_fv hcall [1, 2] (c_fLen c' N free') rfl rfl rfl rfl ?_
              rintro _ _ ⟨y1, hy1, rfl, rfl⟩
              constructor
              conv => cbv
              rw [show cmp .neq y1 Z = false by rw [hcmp, hy1, hZN]; simp [realCmp]]
              conv => cbv
              refine call_fv hcall [1, 2] (c_fLongest l' c' hc' N (by omega) hN2 free') rfl rfl rfl rfl ?_
              rintro _ _ ⟨y2, hy2, rfl, rfl⟩
              constructor
              conv => cbv
              refine call_fv hcall [4] (c_rLongest l' d hd m' hm' Z (by omega) (by omega)) rfl rfl rfl rfl ?_
              rintro _ _ ⟨y3, hy3, rfl, rfl⟩
              constructor
              conv => cbv
              rw [show cmp .neq y2 y3 = false by rw [hcmp, hy2, hy3]; simp [realCmp]]
              conv => cbv
              refine call_fv hcall [1, 2] (c_fList l' c' hc' N (by omega) hN2 free') rfl rfl rfl rfl ?_
              rintro _ _ ⟨d3, m3, hd3, hm3, rfl, rfl⟩
              obtain rfl : m3 = m' := by omega
              constructor
              conv => cbv
              refine call_fv hcall [7, 4] (c_same (idxs l') d3 d hd3 hd m3 hm' (by omega)) rfl rfl rfl rfl ?_
              rintro _ _ ⟨rfl, rfl⟩
              constructor
              conv => cbv
              rw [show bin .add .i64 i 1 = i + 1 from add_i hbin (by omega) (by omega)]
              refine hKN ⟨i + 1, l', c', free', m3, d, tl, tc, p⟩ _ _ ⟨by dsimp only; omega, by dsimp only; omega, by dsimp only; omega, hc', hm', hf', hd, htc, hp, by dsimp only; omega⟩ (by dsimp only; omega) ?_
              generalize i + 1 = i'
              exact Wk_of [0, 1, 2, 3, 4, 5] rfl rfl rfl (by cbv)
            · constructor
              conv => cbv
              have hml : m' ≤ N := by (have := idxI_len 0 l'); (have e : (idxs l').length = (idxI 0 l').length := rfl); omega
              refine call_fv hcall [1, 2] (c_fFree c' N free') rfl rfl rfl rfl ?_
              rintro _ _ ⟨rfl, rfl⟩
              constructor
              conv => cbv
              have es : bin .sub .i64 Z (nat m') = Z - m' := by rw [hnat]; exact sub_i hbin (by omega) (by omega)
              rw [es, show cmp .neq free' (Z - m') = false by rw [hcmp, hf']; simp [realCmp]]
              conv => cbv
              refine call_fv hcall [1, 2] (c_fLen c' N free') rfl rfl rfl rfl ?_
              rintro _ _ ⟨y1, hy1, rfl, rfl⟩
              constructor
              conv => cbv
              rw [show cmp .neq y1 Z = false by rw [hcmp, hy1, hZN]; simp [realCmp]]
              conv => cbv
              refine call_fv hcall [1, 2] (c_fLongest l' c' hc' N (by omega) hN2 free') rfl rfl rfl rfl ?_
              rintro _ _ ⟨y2, hy2, rfl, rfl⟩
              constructor
              conv => cbv
              refine call_fv hcall [6] (c_rLongest l' d' hd' m' hm' Z (by omega) (by omega)) rfl rfl rfl rfl ?_
              rintro _ _ ⟨y3, hy3, rfl, rfl⟩
              constructor
              conv => cbv
              rw [show cmp .neq y2 y3 = false by rw [hcmp, hy2, hy3]; simp [realCmp]]
              conv => cbv
              refine call_fv hcall [1, 2] (c_fList l' c' hc' N (by omega) hN2 free') rfl rfl rfl rfl ?_
              rintro _ _ ⟨d3, m3, hd3, hm3, rfl, rfl⟩
              obtain rfl : m3 = m' := by omega
              constructor
              conv => cbv
              refine call_fv hcall [8, 6] (c_same (idxs l') d3 d' hd3 hd' m3 hm' (by omega)) rfl rfl rfl rfl ?_
              rintro _ _ ⟨rfl, rfl⟩
              constructor
              conv => cbv
              rw [show bin .add .i64 i 1 = i + 1 from add_i hbin (by omega) (by omega)]
              refine hKN ⟨i + 1, l', c', free', m3, d', tl, tc, p⟩ _ _ ⟨by dsimp only; omega, by dsimp only; omega, by dsimp only; omega, hc', hm', hf', hd', htc, hp, by dsimp only; omega⟩ (by dsimp only; omega) ?_
              generalize i + 1 = i'
              exact Wk_of [0, 1, 2, 3, 6, 5] rfl rfl rfl (by cbv)
            · constructor
              conv => cbv
              have hml : m' ≤ N := by (have := idxI_len 0 l'); (have e : (idxs l').length = (idxI 0 l').length := rfl); omega
              refine call_fv hcall [1, 2] (c_fFree c' N free') rfl rfl rfl rfl ?_
              rintro _ _ ⟨rfl, rfl⟩
              constructor
              conv => cbv
              have es : bin .sub .i64 Z (nat m') = Z - m' := by rw [hnat]; exact sub_i hbin (by omega) (by omega)
              rw [es, show cmp .neq free' (Z - m') = false by rw [hcmp, hf']; simp [realCmp]]
              conv => cbv
              refine call_fv hcall [1, 2] (c_fLen c' N free') rfl rfl rfl rfl ?_
              rintro _ _ ⟨y1, hy1, rfl, rfl⟩
              constructor
              conv => cbv
              rw [show cmp .neq y1 Z = false by rw [hcmp, hy1, hZN]; simp [realCmp]]
              conv => cbv
              refine call_fv hcall [1, 2] (c_fLongest l' c' hc' N (by omega) hN2 free') rfl rfl rfl rfl ?_
              rintro _ _ ⟨y2, hy2, rfl, rfl⟩
              constructor
              conv => cbv
              refine call_fv hcall [6] (c_rLongest l' d' hd' m' hm' Z (by omega) (by omega)) rfl rfl rfl rfl ?_
              rintro _ _ ⟨y3, hy3, rfl, rfl⟩
              constructor
              conv => cbv
              rw [show cmp .neq y2 y3 = false by rw [hcmp, hy2, hy3]; simp [realCmp]]
              conv => cbv
              refine call_fv hcall [1, 2] (c_fList l' c' hc' N (by omega) hN2 free') rfl rfl rfl rfl ?_
              rintro _ _ ⟨d3, m3, hd3, hm3, rfl, rfl⟩
              obtain rfl : m3 = m' := by omega
              constructor
              conv => cbv
              refine call_fv hcall [9, 6] (c_same (idxs l') d3 d' hd3 hd' m3 hm' (by omega)) rfl rfl rfl rfl ?_
              rintro _ _ ⟨rfl, rfl⟩
              constructor
              conv => cbv
              rw [show bin .add .i64 i 1 = i + 1 from add_i hbin (by omega) (by omega)]
              refine hKN ⟨i + 1, l', c', free', m3, d', tl', tc', p'⟩ _ _ ⟨by dsimp only; omega, by dsimp only; omega, by dsimp only; omega, hc', hm', hf', hd', htc', hp', by dsimp only; omega⟩ (by dsimp only; omega) ?_
              generalize i + 1 = i'
              exact Wk_of [0, 1, 2, 3, 6, 7] rfl rfl rfl (by cbv)
          · refine call_fv hcall [1, 2, 4, 5] (c_does5 l c hc N hl.symm hN2 Z hZN d hd m hm free hf tl tc htc p hp (by omega) x.k x.a x.b hxo.2.2) rfl rfl rfl rfl ?_
            rintro _ _ ⟨l', c', m', free', hll, hc', hm', hf', (⟨rfl, rfl, rfl⟩|⟨d', hd', rfl, rfl⟩|⟨d', tl', tc', p', hd', htc', hp', hpp, rfl, rfl⟩)⟩
            constructor
            conv => cbv
            · obtain rfl : m' = m := by omega
              have hml : m' ≤ N := by (have := idxI_len 0 l'); (have e : (idxs l').length = (idxI 0 l').length := rfl); omega
              refine call_fv hcall [1, 2] (c_fFree c' N free') rfl rfl rfl rfl ?_
              rintro _ _ ⟨rfl, rfl⟩
              constructor
              conv => cbv
              have es : bin .sub .i64 Z (nat m') = Z - m' := by rw [hnat]; exact sub_i hbin (by omega) (by omega)
              rw [es, show cmp .neq free' (Z - m') = false by rw [hcmp, hf']; simp [realCmp]]
              conv => cbv
              refine call_fv hcall [1, 2] (c_fLen c' N free') rfl rfl rfl rfl ?_
              rintro _ _ ⟨y1, hy1, rfl, rfl⟩
              constructor
              conv => cbv
              rw [show cmp .neq y1 Z = false by rw [hcmp, hy1, hZN]; simp [realCmp]]
              conv => cbv
              refine call_fv hcall [1, 2] (c_fLongest l' c' hc' N (by omega) hN2 free') rfl rfl rfl rfl ?_
              rintro _ _ ⟨y2, hy2, rfl, rfl⟩
              constructor
              conv => cbv
              refine call_fv hcall [4] (c_rLongest l' d hd m' hm' Z (by omega) (by omega)) rfl rfl rfl rfl ?_
              rintro _ _ ⟨y3, hy3, rfl, rfl⟩
              constructor
              conv => cbv
              rw [show cmp .neq y2 y3 = false by rw [hcmp, hy2, hy3]; simp [realCmp]]
              conv => cbv
              refine call_fv hcall [1, 2] (c_fList l' c' hc' N (by omega) hN2 free') rfl rfl rfl rfl ?_
              rintro _ _ ⟨d3, m3, hd3, hm3, rfl, rfl⟩
              obtain rfl : m3 = m' := by omega
              constructor
              conv => cbv
              refine call_fv hcall [7, 4] (c_same (idxs l') d3 d hd3 hd m3 hm' (by omega)) rfl rfl rfl rfl ?_
              rintro _ _ ⟨rfl, rfl⟩
              constructor
              conv => cbv
              rw [show bin .add .i64 i 1 = i + 1 from add_i hbin (by omega) (by omega)]
              refine hKN ⟨i + 1, l', c', free', m3, d, tl, tc, p⟩ _ _ ⟨by dsimp only; omega, by dsimp only; omega, by dsimp only; omega, hc', hm', hf', hd, htc, hp, by dsimp only; omega⟩ (by dsimp only; omega) ?_
              generalize i + 1 = i'
              exact Wk_of [0, 1, 2, 3, 4, 5] rfl rfl rfl (by cbv)
            · constructor
              conv => cbv
              have hml : m' ≤ N := by (have := idxI_len 0 l'); (have e : (idxs l').length = (idxI 0 l').length := rfl); omega
              refine call_fv hcall [1, 2] (c_fFree c' N free') rfl rfl rfl rfl ?_
              rintro _ _ ⟨rfl, rfl⟩
              constructor
              conv => cbv
              have es : bin .sub .i64 Z (nat m') = Z - m' := by rw [hnat]; exact sub_i hbin (by omega) (by omega)
              rw [es, show cmp .neq free' (Z - m') = false by rw [hcmp, hf']; simp [realCmp]]
              conv => cbv
              refine call_fv hcall [1, 2] (c_fLen c' N free') rfl rfl rfl rfl ?_
              rintro _ _ ⟨y1, hy1, rfl, rfl⟩
              constructor
              conv => cbv
              rw [show cmp .neq y1 Z = false by rw [hcmp, hy1, hZN]; simp [realCmp]]
              conv => cbv
              refine call_fv hcall [1, 2] (c_fLongest l' c' hc' N (by omega) hN2 free') rfl rfl rfl rfl ?_
              rintro _ _ ⟨y2, hy2, rfl, rfl⟩
              constructor
              conv => cbv
              refine call_fv hcall [7] (c_rLongest l' d' hd' m' hm' Z (by omega) (by omega)) rfl rfl rfl rfl ?_
              rintro _ _ ⟨y3, hy3, rfl, rfl⟩
              constructor
              conv => cbv
              rw [show cmp .neq y2 y3 = false by rw [hcmp, hy2, hy3]; simp [realCmp]]
              conv => cbv
              refine call_fv hcall [1, 2] (c_fList l' c' hc' N (by omega) hN2 free') rfl rfl rfl rfl ?_
              rintro _ _ ⟨d3, m3, hd3, hm3, rfl, rfl⟩
              obtain rfl : m3 = m' := by omega
              constructor
              conv => cbv
              refine call_fv hcall [8, 7] (c_same (idxs l') d3 d' hd3 hd' m3 hm' (by omega)) rfl rfl rfl rfl ?_
              rintro _ _ ⟨rfl, rfl⟩
              constructor
              conv => cbv
              rw [show bin .add .i64 i 1 = i + 1 from add_i hbin (by omega) (by omega)]
              refine hKN ⟨i + 1, l', c', free', m3, d', tl, tc, p⟩ _ _ ⟨by dsimp only; omega, by dsimp only; omega, by dsimp only; omega, hc', hm', hf', hd', htc, hp, by dsimp only; omega⟩ (by dsimp only; omega) ?_
              generalize i + 1 = i'
              exact Wk_of [0, 1, 2, 3, 7, 5] rfl rfl rfl (by cbv)
            · constructor
              conv => cbv
              have hml : m' ≤ N := by (have := idxI_len 0 l'); (have e : (idxs l').length = (idxI 0 l').length := rfl); omega
              refine call_fv hcall [1, 2] (c_fFree c' N free') rfl rfl rfl rfl ?_
              rintro _ _ ⟨rfl, rfl⟩
              constructor
              conv => cbv
              have es : bin .sub .i64 Z (nat m') = Z - m' := by rw [hnat]; exact sub_i hbin (by omega) (by omega)
              rw [es, show cmp .neq free' (Z - m') = false by rw [hcmp, hf']; simp [realCmp]]
              conv => cbv
              refine call_fv hcall [1, 2] (c_fLen c' N free') rfl rfl rfl rfl ?_
              rintro _ _ ⟨y1, hy1, rfl, rfl⟩
              constructor
              conv => cbv
              rw [show cmp .neq y1 Z = false by rw [hcmp, hy1, hZN]; simp [realCmp]]
              conv => cbv
              refine call_fv hcall [1, 2] (c_fLongest l' c' hc' N (by omega) hN2 free') rfl rfl rfl rfl ?_
              rintro _ _ ⟨y2, hy2, rfl, rfl⟩
              constructor
              conv => cbv
              refine call_fv hcall [7] (c_rLongest l' d' hd' m' hm' Z (by omega) (by omega)) rfl rfl rfl rfl ?_
              rintro _ _ ⟨y3, hy3, rfl, rfl⟩
              constructor
              conv => cbv
              rw [show cmp .neq y2 y3 = false by rw [hcmp, hy2, hy3]; simp [realCmp]]
              conv => cbv
              refine call_fv hcall [1, 2] (c_fList l' c' hc' N (by omega) hN2 free') rfl rfl rfl rfl ?_
              rintro _ _ ⟨d3, m3, hd3, hm3, rfl, rfl⟩
              obtain rfl : m3 = m' := by omega
              constructor
              conv => cbv
              refine call_fv hcall [9, 7] (c_same (idxs l') d3 d' hd3 hd' m3 hm' (by omega)) rfl rfl rfl rfl ?_
              rintro _ _ ⟨rfl, rfl⟩
              constructor
              conv => cbv
              rw [show bin .add .i64 i 1 = i + 1 from add_i hbin (by omega) (by omega)]
              refine hKN ⟨i + 1, l', c', free', m3, d', tl', tc', p'⟩ _ _ ⟨by dsimp only; omega, by dsimp only; omega, by dsimp only; omega, hc', hm', hf', hd', htc', hp', by dsimp only; omega⟩ (by dsimp only; omega) ?_
              generalize i + 1 = i'
              exact Wk_of [0, 1, 2, 3, 7, 8] rfl rfl rfl (by cbv)
        · conv => cbv
          refine call_fv hcall [] (c_lives5) rfl rfl rfl rfl ?_
          rintro _ _ ⟨rfl, rfl⟩
          constructor
          conv => cbv
          exact hK _ _ _ _ (Wk_of [0] rfl rfl rfl (by cbv)) ⟨rfl, rfl⟩
      · conv => cbv
        refine call_fv hcall [] (c_lives5) rfl rfl rfl rfl ?_
        rintro _ _ ⟨rfl, rfl⟩
        constructor
        conv => cbv
        exact hK _ _ _ _ (Wk_of [0] rfl rfl rfl (by cbv)) ⟨rfl, rfl⟩
end Go.Proofs.Try
