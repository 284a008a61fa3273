/- The walk: the reference of frames. -/
import Derived.Test.YtdboiflfehpjhaaFr4
set_option linter.unusedVariables false
set_option linter.unusedSimpArgs false
namespace Go.Proofs.Try
open Go Bm
set_option maxRecDepth 100000
set_option maxHeartbeats 400000
abbrev refF (N : Int) (m : Nat) : AV := .c (.agg [.int .i64 N, .vec 0 m])
abbrev cF (N : Int) (j m : Nat) : AO := .cells [.int .i64 N, .vec j m] 46
theorem c_rNew (n : Int) : AC prog 21 [i64 n] [] (fun r H => ∃ x, x = clampN n ∧ r = .c (.agg [.int .i64 x, .nils]) ∧ H = []) :=
  AC_fv (hs := []) tyOk mixed func21 (by kernel_rfl) fun bin cmp beq eqs conv mn mx nat nadd nsub nmul idx get sub subP subS getS put app rep oget osub oset oapp orep rget rlen rapp toNat nn lt le fit lenOk mget mhas mput mdel mlen kget khas kput next call yield hE ⟨hbin, hcmp, hbeq, heqs, hconv, hmn, hmx, hnat, hnadd, hnsub, hnmul, hidx, hget, hsub, hsubP, hsubS, hgetS, hput, happ, hrep, hoget, hosub, hoset, hoapp, horep, hrget, hrlen, hrapp, htoNat, hnn, hlt, hle, hfit, hlenOk, hmget, hmhas, hmput, hmdel, hmlen, hkget, hkhas, hkput, hnext, hcall, hyield⟩ K hK => by
    conv => cbv
    have e : mn (mx n 0) 65536 = clampN n := by
      simp only [hmn, hmx, clampN]
      repeat' split
      all_goals omega
    exact hK _ _ _ _ (Wk_of [] rfl rfl rfl (by cbv)) ⟨_, e, rfl, rfl⟩
theorem c_rIs (L : List Int) (d : List PV) (hd : d = iPV L) (m : Nat) (hm : m = L.length) (hm2 : m ≤ 1000000) (N i : Int) : AC prog 88 [refF N m, i64 i] [iVec d] (fun r H => ∃ b, (b = true ↔ i ∈ L) ∧ r = bl b ∧ H = [iVec d]) :=
  AC_fv (hs := []) tyOk mixed func88 (by kernel_rfl) fun bin cmp beq eqs conv mn mx nat nadd nsub nmul idx get sub subP subS getS put app rep oget osub oset oapp orep rget rlen rapp toNat nn lt le fit lenOk mget mhas mput mdel mlen kget khas kput next call yield hE ⟨hbin, hcmp, hbeq, heqs, hconv, hmn, hmx, hnat, hnadd, hnsub, hnmul, hidx, hget, hsub, hsubP, hsubS, hgetS, hput, happ, hrep, hoget, hosub, hoset, hoapp, horep, hrget, hrlen, hrapp, htoNat, hnn, hlt, hle, hfit, hlenOk, hmget, hmhas, hmput, hmdel, hmlen, hkget, hkhas, hkput, hnext, hcall, hyield⟩ K hK => by
    conv => cbv
    refine loop_h [4, 5, 6, 7, 8, 9, 10, 11, 12, 13, 14, 15, 16, 17, 18, 19] (fun k : Int => [(5, i64 k)]) (fun k => 0 ≤ k ∧ k ≤ m ∧ ∀ x ∈ L.take k.toNat, x ≠ i) (fun k => (m - k).toNat) 0 (by cbv) ⟨Int.le_refl _, by omega, fun x hx => by simp at hx⟩ ?_
    rintro k ⟨k0, k1, kf⟩ KN hKN
    constructor
    conv => cbv
    refine b_lt hcmp (fun h => ?_) (fun h => ?_)
    · simp only [hnat] at h
      conv => cbv
      refine ⟨nn_of hnn (by omega), ltn_of hlt hnat (by omega), ?_⟩
      obtain ⟨x, hx⟩ : ∃ x, L[k.toNat]? = some x := ⟨_, List.getElem?_eq_getElem (by omega)⟩
      refine get_of hget (.int .i64 x) (by rw [hidx, hd]; simpa using iPV_get hx) ?_
      conv => cbv
      refine b_eq hcmp (fun h2 => ?_) (fun h2 => ?_)
      · conv => cbv
        exact hK _ _ _ _ (Wk_of [0] rfl rfl rfl (by cbv)) ⟨true, ⟨fun _ => h2 ▸ List.mem_of_getElem? hx, fun _ => rfl⟩, rfl, rfl⟩
      · conv => cbv
        rw [show bin .add .i64 k 1 = k + 1 from add_i hbin (by omega) (by omega)]
        refine hKN (k + 1) _ ⟨by omega, by omega, fun y hy => ?_⟩ (by omega) ?_
        · rw [show (k + 1).toNat = k.toNat + 1 by omega, take_snoc hx] at hy
          rcases List.mem_append.1 hy with hy | hy
          · exact kf y hy
          · simp at hy; subst hy; exact h2
        · generalize k + 1 = k'
          cbv
    · simp only [hnat] at h
      conv => cbv
      rw [List.take_of_length_le (by omega)] at kf
      exact hK _ _ _ _ (Wk_of [0] rfl rfl rfl (by cbv)) ⟨false, ⟨fun h => (by cases h), fun h => (kf i h rfl).elim⟩, rfl, rfl⟩
theorem c_rNone (L : List Int) (d : List PV) (hd : d = iPV L) (m : Nat) (hm : m = L.length) (hm2 : m ≤ 1000000) (N i n : Int) (h0 : 0 ≤ i) (h1 : 0 ≤ n) (h2 : i + n ≤ 1000000) :
    AC prog 153 [refF N m, i64 i, i64 n] [iVec d] (fun r H => ∃ b, (b = true ↔ ∀ x ∈ L, ¬ (i ≤ x ∧ x < i + n)) ∧ r = bl b ∧ H = [iVec d]) :=
  AC_fv (hs := []) tyOk mixed func153 (by kernel_rfl) fun bin cmp beq eqs conv mn mx nat nadd nsub nmul idx get sub subP subS getS put app rep oget osub oset oapp orep rget rlen rapp toNat nn lt le fit lenOk mget mhas mput mdel mlen kget khas kput next call yield hE ⟨hbin, hcmp, hbeq, heqs, hconv, hmn, hmx, hnat, hnadd, hnsub, hnmul, hidx, hget, hsub, hsubP, hsubS, hgetS, hput, happ, hrep, hoget, hosub, hoset, hoapp, horep, hrget, hrlen, hrapp, htoNat, hnn, hlt, hle, hfit, hlenOk, hmget, hmhas, hmput, hmdel, hmlen, hkget, hkhas, hkput, hnext, hcall, hyield⟩ K hK => by
    conv => cbv
    refine loop_h [6, 7, 8, 9, 10, 11, 12, 13, 14, 15, 16, 17, 18, 19, 20, 21, 22, 23, 24, 25, 26, 27, 28, 29, 30, 31, 32] (fun k : Int => [(7, i64 k)]) (fun k => 0 ≤ k ∧ k ≤ m ∧ ∀ x ∈ L.take k.toNat, ¬ (i ≤ x ∧ x < i + n)) (fun k => (m - k).toNat) 0 (by cbv) ⟨Int.le_refl _, by omega, fun x hx => by simp at hx⟩ ?_
    rintro k ⟨k0, k1, kf⟩ KN hKN
    constructor
    conv => cbv
    have e1 : bin .add .i64 k 1 = k + 1 := by
      rcases (show k = m ∨ k < m by omega) with h | h <;> exact add_i hbin (by omega) (by omega)
    have e2 : bin .add .i64 i n = i + n := add_i hbin (by omega) (by omega)
    refine b_lt hcmp (fun h => ?_) (fun h => ?_)
    · simp only [hnat] at h
      conv => cbv
      obtain ⟨x, hx⟩ : ∃ x, L[k.toNat]? = some x := ⟨_, List.getElem?_eq_getElem (by omega)⟩
      refine ⟨nn_of hnn (by omega), ltn_of hlt hnat (by omega), ?_⟩
      refine get_of hget (.int .i64 x) (by rw [hidx, hd]; simpa using iPV_get hx) ?_
      conv => cbv
      have next : ¬ (i ≤ x ∧ x < i + n) → 0 ≤ k + 1 ∧ k + 1 ≤ m ∧ ∀ x ∈ L.take (k + 1).toNat, ¬ (i ≤ x ∧ x < i + n) := fun hno => ⟨by omega, by omega, fun y hy => by
        rw [show (k + 1).toNat = k.toNat + 1 by omega, take_snoc hx] at hy
        rcases List.mem_append.1 hy with hy | hy
        · exact kf y hy
        · simp at hy; subst hy; exact hno⟩
      refine b_ge hcmp (fun h3 => ?_) (fun h3 => ?_)
      · conv => cbv
        refine ⟨nn_of hnn (by omega), ltn_of hlt hnat (by omega), ?_⟩
        refine get_of hget (.int .i64 x) (by rw [hidx, hd]; simpa using iPV_get hx) ?_
        conv => cbv
        refine b_lt hcmp (fun h4 => ?_) (fun h4 => ?_)
        · rw [e2] at h4
          conv => cbv
          exact hK _ _ _ _ (Wk_of [0] rfl rfl rfl (by cbv)) ⟨false, ⟨fun h => (by cases h), fun hh => (hh x (List.mem_of_getElem? hx) ⟨h3, h4⟩).elim⟩, rfl, rfl⟩
        · rw [e2] at h4
          conv => cbv
          rw [e1]
          refine hKN (k + 1) _ (next (by omega)) (by omega) ?_
          generalize k + 1 = k'
          cbv
      · conv => cbv
        rw [e1]
        refine hKN (k + 1) _ (next (by omega)) (by omega) ?_
        generalize k + 1 = k'
        cbv
    · simp only [hnat] at h
      conv => cbv
      rw [List.take_of_length_le (by omega)] at kf
      exact hK _ _ _ _ (Wk_of [0] rfl rfl rfl (by cbv)) ⟨true, ⟨fun _ => kf, fun _ => rfl⟩, rfl, rfl⟩
theorem c_rPut (L A B : List Int) (d : List PV) (hd : d = iPV L) (m : Nat) (hm : m = L.length) (hm2 : m ≤ 1000000) (N i n : Int) (h0 : 0 ≤ i) (h1 : 0 ≤ n) (h2 : i + n ≤ 1000000) (hL : L = A ++ B) (hA : ∀ x ∈ A, x < i) (hB : ∀ x ∈ B, i ≤ x) :
    AC prog 154 [refF N m, i64 i, i64 n] [iVec d] (fun r H => ∃ o q, o = iPV (A ++ rngI i n.toNat ++ B) ∧ q = (A ++ rngI i n.toNat ++ B).length ∧ r = .c (.agg [.int .i64 N, .vec 1 q]) ∧ H = [iVec d, iVec o]) :=
  AC_fv (hs := []) tyOk mixed func154 (by kernel_rfl) fun bin cmp beq eqs conv mn mx nat nadd nsub nmul idx get sub subP subS getS put app rep oget osub oset oapp orep rget rlen rapp toNat nn lt le fit lenOk mget mhas mput mdel mlen kget khas kput next call yield hE ⟨hbin, hcmp, hbeq, heqs, hconv, hmn, hmx, hnat, hnadd, hnsub, hnmul, hidx, hget, hsub, hsubP, hsubS, hgetS, hput, happ, hrep, hoget, hosub, hoset, hoapp, horep, hrget, hrlen, hrapp, htoNat, hnn, hlt, hle, hfit, hlenOk, hmget, hmhas, hmput, hmdel, hmlen, hkget, hkhas, hkput, hnext, hcall, hyield⟩ K hK => by
    have hAB : A.length + B.length = m := by rw [hm, hL]; simp
    conv => cbv
    refine loop_intro [7, 8, 10, 11, 12, 13, 14, 15, 16, 17, 18, 19, 20, 21, 22, 23, 24, 25, 26, 27, 28, 29, 30, 31, 32, 33] (fun st : Int × Nat × List PV => [(8, i64 st.1), (7, sv (.vec 3 st.2.1))]) (fun st => [iVec d, cF N 0 m, .cells [.int .i64 0, .nils] 46, iVec st.2.2]) (fun st => 0 ≤ st.1 ∧ st.1 ≤ m ∧ (∀ x ∈ L.take st.1.toNat, x < i) ∧ st.2.1 = (L.take st.1.toNat).length ∧ st.2.2 = iPV (L.take st.1.toNat)) (fun st => (m - st.1).toNat) (0, 0, [])
      (Wk.trans (Wk_nilT 7 3 1 (Nat.le_add_left _ _) rfl) (Wk_fg (by cbv))) ⟨Int.le_refl _, by dsimp only; omega, fun x hx => by simp at hx, rfl, rfl⟩ ?_
    rintro ⟨k, q, o⟩ ⟨k0, k1, kf, hq, ho⟩ KN hKN
    dsimp only at k0 k1 kf hq ho
    have e1 : k < m → bin .add .i64 k 1 = k + 1 := fun h => add_i hbin (by omega) (by omega)
    have hq1 : q = k.toNat := by rw [hq, List.length_take]; omega
    constructor
    conv => cbv
    refine b_lt hcmp (fun h => ?_) (fun h => ?_)
    · simp only [hnat] at h
      conv => cbv
      obtain ⟨x, hx⟩ : ∃ x, L[k.toNat]? = some x := ⟨_, List.getElem?_eq_getElem (by omega)⟩
      refine ⟨nn_of hnn (by omega), ltn_of hlt hnat (by omega), ?_⟩
      refine get_of hget (.int .i64 x) (by rw [hidx, hd]; simpa using iPV_get hx) ?_
      conv => cbv
      refine b_lt hcmp (fun h3 => ?_) (fun h3 => ?_)
      · conv => cbv
        refine ⟨nn_of hnn (by omega), ltn_of hlt hnat (by omega), ?_⟩
        refine get_of hget (.int .i64 x) (by rw [hidx, hd]; simpa using iPV_get hx) ?_
        conv => cbv
        refine ⟨len_of hlenOk (by simp [VC.svs, ho, iPV_len, hq]), len_of hlenOk (by simp [VC.svs]), fit_of hfit (by simp only [hnat, hnadd]; omega), ?_⟩
        simp only [hnadd, happ, e1 h]
        have et : L.take (k + 1).toNat = L.take k.toNat ++ [x] := by rw [show (k + 1).toNat = k.toNat + 1 by omega, take_snoc hx]
        refine hKN (k + 1, q + 1, o ++ [.int .i64 x]) _ _ ⟨by dsimp only; omega, by dsimp only; omega, fun y hy => ?_, by dsimp only; rw [et, hq]; simp, by dsimp only; rw [et, ho]; simp [iPV]⟩ (by dsimp only; omega) ?_
        · dsimp only at hy
          rw [et] at hy
          rcases List.mem_append.1 hy with hy | hy
          · exact kf y hy
          · simp at hy; subst hy; exact h3
        · generalize k + 1 = k'
          generalize o ++ [PV.int .i64 x] = o'
          generalize q + 1 = q'
          exact Wk_of [0, 1, 2, 5] rfl rfl rfl (by cbv)
      · have hex := split_at (k := k.toNat) hL hA hB (by omega) kf (fun y hy => by rw [hx] at hy; cases hy; exact h3)
        conv => cbv
        refine loop_intro [7, 9, 34, 35, 36, 37, 38, 39, 40, 41, 42, 43, 44] (fun st : Int × Nat × List PV => [(9, i64 st.1), (7, sv (.vec 3 st.2.1))]) (fun st => [iVec d, cF N 0 m, .cells [.int .i64 0, .nils] 46, iVec st.2.2]) (fun st => 0 ≤ st.1 ∧ st.1 ≤ n ∧ st.2.1 = (A ++ rngI i st.1.toNat).length ∧ st.2.2 = iPV (A ++ rngI i st.1.toNat)) (fun st => (n - st.1).toNat) (0, q, o) (Wk_fg (by cbv)) ⟨Int.le_refl _, h1, by simp [rngI, hq, hex.1], by simp [rngI, ho, hex.1]⟩ ?_
        rintro ⟨j, q2, o2⟩ ⟨j0, j1, hq2, ho2⟩ KM hKM
        dsimp only at j0 j1 hq2 ho2
        have hq3 : q2 = A.length + j.toNat := by rw [hq2, List.length_append, rngI_len]
        have e3 : bin .add .i64 i j = i + j := add_i hbin (by omega) (by omega)
        have e4 : bin .add .i64 j 1 = j + 1 := add_i hbin (by omega) (by omega)
        constructor
        conv => cbv
        refine b_lt hcmp (fun g => ?_) (fun g => ?_)
        · conv => cbv
          refine ⟨len_of hlenOk (by simp [VC.svs, ho2, iPV_len, hq2]), len_of hlenOk (by simp [VC.svs]), fit_of hfit (by simp only [hnat, hnadd]; omega), ?_⟩
          simp only [hnadd, happ, e3, e4]
          have er : rngI i (j + 1).toNat = rngI i j.toNat ++ [i + j] := by rw [show (j + 1).toNat = j.toNat + 1 by omega, rngI_succ, show (j.toNat : Int) = j by omega]
          refine hKM (j + 1, q2 + 1, o2 ++ [.int .i64 (i + j)]) _ _ ⟨by dsimp only; omega, by dsimp only; omega, by dsimp only; rw [er, hq2]; simp; omega, by dsimp only; rw [er, ho2]; simp [iPV]⟩ (by dsimp only; omega) ?_
          generalize j + 1 = j'
          generalize o2 ++ [PV.int .i64 (i + j)] = o'
          generalize q2 + 1 = q'
          exact Wk_of [0, 1, 2, 5] rfl rfl rfl (by cbv)
        · obtain rfl : j = n := by omega
          conv => cbv
          refine ⟨nn_of hnn k0, le_of hle (by rw [hnat]; omega), ?_⟩
          have hBl : m - k.toNat = B.length := by rw [← hex.2, List.length_drop, hm]
          obtain ⟨db, hdb⟩ : ∃ db, db = iPV B := ⟨_, rfl⟩
          refine subP_of hsubP db ?_ ?_
          · rw [hdb]
            simp only [hidx, hnsub, hnmul, htoNat, hd, hBl, Nat.mul_one]
            rw [subL_take (by rw [iPV_len, ← hm]; omega), ← hex.2]
            simp only [iPV, ← List.map_drop, ← List.map_take]
            congr 1
            rw [List.length_drop, List.take_of_length_le (by simp)]
            simp
          conv => cbv
          refine ⟨len_of hlenOk (by simp [VC.svs, ho2, iPV_len, hq2]), len_of hlenOk (by simp only [hnsub, htoNat]; simp [VC.svs, iPV_len, hBl, hdb]), fit_of hfit (by simp only [hnat, hnadd, hnsub, htoNat]; omega), ?_⟩
          simp only [hnadd, happ, hnsub, htoNat, hBl]
          refine hK _ _ _ _ (Wk_of [0, 4] rfl rfl rfl (by cbv)) ⟨o2 ++ db, q2 + B.length, by rw [ho2, hdb, ← iPV_app], by rw [hq2]; simp; omega, rfl, rfl⟩
    · simp only [hnat] at h
      have hex := split_at (k := k.toNat) hL hA hB (by omega) kf (fun y hy => by rw [List.getElem?_eq_none (by omega)] at hy; cases hy)
      conv => cbv
      refine loop_intro [7, 9, 34, 35, 36, 37, 38, 39, 40, 41, 42, 43, 44] (fun st : Int × Nat × List PV => [(9, i64 st.1), (7, sv (.vec 3 st.2.1))]) (fun st => [iVec d, cF N 0 m, .cells [.int .i64 0, .nils] 46, iVec st.2.2]) (fun st => 0 ≤ st.1 ∧ st.1 ≤ n ∧ st.2.1 = (A ++ rngI i st.1.toNat).length ∧ st.2.2 = iPV (A ++ rngI i st.1.toNat)) (fun st => (n - st.1).toNat) (0, q, o) (Wk_fg (by cbv)) ⟨Int.le_refl _, h1, by simp [rngI, hq, hex.1], by simp [rngI, ho, hex.1]⟩ ?_
      rintro ⟨j, q2, o2⟩ ⟨j0, j1, hq2, ho2⟩ KM hKM
      dsimp only at j0 j1 hq2 ho2
      have hq3 : q2 = A.length + j.toNat := by rw [hq2, List.length_append, rngI_len]
      have e3 : bin .add .i64 i j = i + j := add_i hbin (by omega) (by omega)
      have e4 : bin .add .i64 j 1 = j + 1 := add_i hbin (by omega) (by omega)
      constructor
      conv => cbv
      refine b_lt hcmp (fun g => ?_) (fun g => ?_)
      · conv => cbv
        refine ⟨len_of hlenOk (by simp [VC.svs, ho2, iPV_len, hq2]), len_of hlenOk (by simp [VC.svs]), fit_of hfit (by simp only [hnat, hnadd]; omega), ?_⟩
        simp only [hnadd, happ, e3, e4]
        have er : rngI i (j + 1).toNat = rngI i j.toNat ++ [i + j] := by rw [show (j + 1).toNat = j.toNat + 1 by omega, rngI_succ, show (j.toNat : Int) = j by omega]
        refine hKM (j + 1, q2 + 1, o2 ++ [.int .i64 (i + j)]) _ _ ⟨by dsimp only; omega, by dsimp only; omega, by dsimp only; rw [er, hq2]; simp; omega, by dsimp only; rw [er, ho2]; simp [iPV]⟩ (by dsimp only; omega) ?_
        generalize j + 1 = j'
        generalize o2 ++ [PV.int .i64 (i + j)] = o'
        generalize q2 + 1 = q'
        exact Wk_of [0, 1, 2, 5] rfl rfl rfl (by cbv)
      · obtain rfl : j = n := by omega
        conv => cbv
        refine ⟨nn_of hnn k0, le_of hle (by rw [hnat]; omega), ?_⟩
        have hBl : m - k.toNat = B.length := by rw [← hex.2, List.length_drop, hm]
        obtain ⟨db, hdb⟩ : ∃ db, db = iPV B := ⟨_, rfl⟩
        refine subP_of hsubP db ?_ ?_
        · rw [hdb]
          simp only [hidx, hnsub, hnmul, htoNat, hd, hBl, Nat.mul_one]
          rw [subL_take (by rw [iPV_len, ← hm]; omega), ← hex.2]
          simp only [iPV, ← List.map_drop, ← List.map_take]
          congr 1
          rw [List.length_drop, List.take_of_length_le (by simp)]
          simp
        conv => cbv
        refine ⟨len_of hlenOk (by simp [VC.svs, ho2, iPV_len, hq2]), len_of hlenOk (by simp only [hnsub, htoNat]; simp [VC.svs, iPV_len, hBl, hdb]), fit_of hfit (by simp only [hnat, hnadd, hnsub, htoNat]; omega), ?_⟩
        simp only [hnadd, happ, hnsub, htoNat, hBl]
        refine hK _ _ _ _ (Wk_of [0, 4] rfl rfl rfl (by cbv)) ⟨o2 ++ db, q2 + B.length, by rw [ho2, hdb, ← iPV_app], by rw [hq2]; simp; omega, rfl, rfl⟩
end Go.Proofs.Try
