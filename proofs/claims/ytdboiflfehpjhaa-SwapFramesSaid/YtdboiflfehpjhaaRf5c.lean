/- The walk: the reference of frames, the rest. -/
import Derived.Test.YtdboiflfehpjhaaRf5b
set_option linter.unusedVariables false
set_option linter.unusedSimpArgs false
namespace Go.Proofs.Try
open Go Bm
set_option maxRecDepth 100000
set_option maxHeartbeats 400000
theorem c_rGive (l : List Bool) (d : List PV) (hd : d = iPV (idxs l)) (m : Nat) (hm : m = (idxs l).length) (N : Int) (hN : N = l.length) (hN2 : N ≤ 65536) (i n : Int) :
    AC prog 84 [refF N m, i64 i, i64 n] [iVec d]
      (fun r H => ∃ e, GiveR l i n e ∧ ((e ≠ 0 ∧ r = .tup [.agg [.int .i64 N, .vec 0 m], .s (.int .i64 e)] ∧ H = [iVec d]) ∨
        (e = 0 ∧ ∃ o q, o = iPV (idxs (setR l i.toNat n.toNat false)) ∧ q = (idxs (setR l i.toNat n.toNat false)).length ∧ r = .tup [.agg [.int .i64 N, .vec 1 q], .s (.int .i64 e)] ∧ H = [iVec d, iVec o]))) :=
  AC_fv (hs := []) tyOk mixed func84 (by kernel_rfl) fun bin cmp beq eqs conv mn mx nat nadd nsub nmul idx get sub subP subS getS put app rep oget osub oset oapp orep rget rlen rapp toNat nn lt le fit lenOk mget mhas mput mdel mlen kget khas kput next call yield hE ⟨hbin, hcmp, hbeq, heqs, hconv, hmn, hmx, hnat, hnadd, hnsub, hnmul, hidx, hget, hsub, hsubP, hsubS, hgetS, hput, happ, hrep, hoget, hosub, hoset, hoapp, horep, hrget, hrlen, hrapp, htoNat, hnn, hlt, hle, hfit, hlenOk, hmget, hmhas, hmput, hmdel, hmlen, hkget, hkhas, hkput, hnext, hcall, hyield⟩ K hK => by
    have hml : m ≤ l.length := by rw [hm]; exact idxI_len 0 l
    have no : ∀ e, GiveR l i n e → e ≠ 0 → ∀ o1 o2, K (.tup [.agg [.int .i64 N, .vec 0 m], .s (.int .i64 e)]) [iVec d, o1, o2] := fun e h h0 o1 o2 => hK _ _ _ _ (Wk_of [0] rfl rfl rfl (by cbv)) ⟨e, h, .inl ⟨h0, rfl, rfl⟩⟩
    conv => cbv
    refine b_lt hcmp (fun h => ?_) (fun h => ?_)
    · conv => cbv
      exact no 1 (.inl ⟨rfl, h⟩) (by omega) _ _
    · conv => cbv
      refine b_lt hcmp (fun h3 => ?_) (fun h3 => ?_)
      · conv => cbv
        exact no 5 (.inr (.inl ⟨rfl, h, by omega⟩)) (by omega) _ _
      · conv => cbv
        refine b_gt hcmp (fun h4 => ?_) (fun h4 => ?_)
        · conv => cbv
          exact no 5 (.inr (.inl ⟨rfl, h, by omega⟩)) (by omega) _ _
        · have e1 : bin .sub .i64 N n = N - n := sub_i hbin (by omega) (by omega)
          conv => cbv
          refine b_gt hcmp (fun h5 => ?_) (fun h5 => ?_)
          · rw [e1] at h5
            conv => cbv
            exact no 5 (.inr (.inl ⟨rfl, h, by omega⟩)) (by omega) _ _
          · rw [e1] at h5
            have hin : 0 ≤ i ∧ i < l.length ∧ n ≤ l.length - i := by omega
            obtain ⟨g1, g2, g3⟩ := give_split (l := l) hin.1 (n := n) (by omega) (by omega)
            have e2 : bin .add .i64 i n = i + n := add_i hbin (by omega) (by omega)
            conv => cbv
            refine loop_intro [8, 9, 10, 31, 32, 33, 34, 35, 36, 37, 38, 39, 40, 41, 42, 43, 44, 45, 46, 47, 48, 49, 50, 51, 52, 53, 54, 55, 56, 57, 58, 59, 60, 61, 62, 63, 64, 65] (fun st : Int × Int × Nat × List PV => [(10, i64 st.1), (9, i64 st.2.1), (8, sv (.vec 3 st.2.2.1))]) (fun st => [iVec d, cF N 0 m, .cells [.int .i64 0, .nils] 46, iVec st.2.2.2])
              (fun st => 0 ≤ st.1 ∧ st.1 ≤ m ∧ st.2.1 = (((idxs l).take st.1.toNat).filter (inR i n)).length ∧ st.2.2.1 = (((idxs l).take st.1.toNat).filter (fun x => !inR i n x)).length ∧ st.2.2.2 = iPV (((idxs l).take st.1.toNat).filter (fun x => !inR i n x))) (fun st => (m - st.1).toNat) (0, 0, 0, [])
              (Wk.trans (Wk_nilT 8 3 1 (Nat.le_add_left _ _) rfl) (Wk_fg (by cbv))) ⟨Int.le_refl _, by dsimp only; omega, by simp, rfl, rfl⟩ ?_
            rintro ⟨k, had, q, o⟩ ⟨k0, k1, hhad, hq, ho⟩ KN hKN
            dsimp only at k0 k1 hhad hq ho
            have hql : q ≤ m := by rw [hq]; exact Nat.le_trans (List.length_filter_le _ _) (by simp; omega)
            have hhl : had ≤ m := by
              have := List.length_filter_le (inR i n) ((idxs l).take k.toNat)
              rw [List.length_take] at this
              omega
            constructor
            conv => cbv
            refine b_lt hcmp (fun h6 => ?_) (fun h6 => ?_)
            · simp only [hnat] at h6
              have e3 : bin .add .i64 k 1 = k + 1 := add_i hbin (by omega) (by omega)
              have e4 : bin .add .i64 had 1 = had + 1 := add_i hbin (by omega) (by omega)
              conv => cbv
              obtain ⟨x, hx⟩ : ∃ x, (idxs l)[k.toNat]? = some x := ⟨_, List.getElem?_eq_getElem (by omega)⟩
              have et : (idxs l).take (k + 1).toNat = (idxs l).take k.toNat ++ [x] := by rw [show (k + 1).toNat = k.toNat + 1 by omega, take_snoc hx]
              refine ⟨nn_of hnn (by omega), ltn_of hlt hnat (by omega), ?_⟩
              refine get_of hget (.int .i64 x) (by rw [hidx, hd]; simpa using iPV_get hx) ?_
              conv => cbv
              refine b_ge hcmp (fun h7 => ?_) (fun h7 => ?_)
              · conv => cbv
                refine ⟨nn_of hnn (by omega), ltn_of hlt hnat (by omega), ?_⟩
                refine get_of hget (.int .i64 x) (by rw [hidx, hd]; simpa using iPV_get hx) ?_
                conv => cbv
                refine b_lt hcmp (fun h8 => ?_) (fun h8 => ?_)
                · rw [e2] at h8
                  have hix : inR i n x = true := by simp [inR]; omega
                  conv => cbv
                  rw [e3, e4]
                  refine hKN (k + 1, had + 1, q, o) _ _ ⟨by dsimp only; omega, by dsimp only; omega, by dsimp only; rw [et, List.filter_append, hhad]; simp [hix], by dsimp only; rw [et, List.filter_append, hq]; simp [hix], by dsimp only; rw [et, List.filter_append, ho]; simp [hix]⟩ (by dsimp only; omega) ?_
                  generalize k + 1 = k'
                  generalize had + 1 = had'
                  exact Wk_fg (by cbv)
                · rw [e2] at h8
                  have hix : inR i n x = false := by simp [inR]; omega
                  conv => cbv
                  refine ⟨nn_of hnn (by omega), ltn_of hlt hnat (by omega), ?_⟩
                  refine get_of hget (.int .i64 x) (by rw [hidx, hd]; simpa using iPV_get hx) ?_
                  conv => cbv
                  refine ⟨len_of hlenOk (by simp [VC.svs, ho, iPV_len, hq]), len_of hlenOk (by simp [VC.svs]), fit_of hfit (by simp only [hnat, hnadd]; omega), ?_⟩
                  simp only [hnadd, happ, e3]
                  refine hKN (k + 1, had, q + 1, o ++ [.int .i64 x]) _ _ ⟨by dsimp only; omega, by dsimp only; omega, by dsimp only; rw [et, List.filter_append, hhad]; simp [hix], by dsimp only; rw [et, List.filter_append, hq]; simp [hix], by dsimp only; rw [et, List.filter_append, ho]; simp [hix, iPV]⟩ (by dsimp only; omega) ?_
                  generalize k + 1 = k'
                  generalize q + 1 = q'
                  generalize o ++ [PV.int .i64 x] = o'
                  exact Wk_of [0, 1, 2, 5] rfl rfl rfl (by cbv)
              · have hix : inR i n x = false := by simp [inR]; omega
                conv => cbv
                refine ⟨nn_of hnn (by omega), ltn_of hlt hnat (by omega), ?_⟩
                refine get_of hget (.int .i64 x) (by rw [hidx, hd]; simpa using iPV_get hx) ?_
                conv => cbv
                refine ⟨len_of hlenOk (by simp [VC.svs, ho, iPV_len, hq]), len_of hlenOk (by simp [VC.svs]), fit_of hfit (by simp only [hnat, hnadd]; omega), ?_⟩
                simp only [hnadd, happ, e3]
                refine hKN (k + 1, had, q + 1, o ++ [.int .i64 x]) _ _ ⟨by dsimp only; omega, by dsimp only; omega, by dsimp only; rw [et, List.filter_append, hhad]; simp [hix], by dsimp only; rw [et, List.filter_append, hq]; simp [hix], by dsimp only; rw [et, List.filter_append, ho]; simp [hix, iPV]⟩ (by dsimp only; omega) ?_
                generalize k + 1 = k'
                generalize q + 1 = q'
                generalize o ++ [PV.int .i64 x] = o'
                exact Wk_of [0, 1, 2, 5] rfl rfl rfl (by cbv)
            · simp only [hnat] at h6
              rw [List.take_of_length_le (by omega)] at hhad hq ho
              rw [g1] at hq ho
              rw [← hhad] at g2 g3
              conv => cbv
              refine b_lt hcmp (fun h7 => ?_) (fun h7 => ?_)
              · conv => cbv
                exact hK _ _ _ _ (Wk_of [0] rfl rfl rfl (by cbv)) ⟨11, .inr (.inr (.inl ⟨rfl, h, hin, fun ha => by have := g2.2 ha; omega⟩)), .inl ⟨by omega, rfl, rfl⟩⟩
              · conv => cbv
                exact hK _ _ _ _ (Wk_of [0, 3] rfl rfl rfl (by cbv)) ⟨0, .inr (.inr (.inr ⟨rfl, h, hin, g2.1 (by omega)⟩)), .inr ⟨rfl, o, q, ho, hq, rfl, rfl⟩⟩
theorem c_rLongest (l : List Bool) (d : List PV) (hd : d = iPV (idxs l)) (m : Nat) (hm : m = (idxs l).length) (N : Int) (hN : N = l.length) (hN2 : N ≤ 65536) :
    AC prog 26 [refF N m] [iVec d] (fun r H => ∃ x, x = lgF 0 0 l ∧ r = i64 x ∧ H = [iVec d]) :=
  AC_fv (hs := []) tyOk mixed func26 (by kernel_rfl) fun bin cmp beq eqs conv mn mx nat nadd nsub nmul idx get sub subP subS getS put app rep oget osub oset oapp orep rget rlen rapp toNat nn lt le fit lenOk mget mhas mput mdel mlen kget khas kput next call yield hE ⟨hbin, hcmp, hbeq, heqs, hconv, hmn, hmx, hnat, hnadd, hnsub, hnmul, hidx, hget, hsub, hsubP, hsubS, hgetS, hput, happ, hrep, hoget, hosub, hoset, hoapp, horep, hrget, hrlen, hrapp, htoNat, hnn, hlt, hle, hfit, hlenOk, hmget, hmhas, hmput, hmdel, hmlen, hkget, hkhas, hkput, hnext, hcall, hyield⟩ K hK => by
    have hml : m ≤ l.length := by rw [hm]; exact idxI_len 0 l
    have hspec : lgF 0 0 l = gapF N 0 (-1) (idxs l) := by
      have := longest_eq l 0 0 (-1) (by omega) (by omega) (by omega)
      rw [show (0 : Int) - -1 - 1 = 0 by omega, show (0 : Int) + (l.length : Int) = N by omega] at this
      exact this
    have hrng : ∀ x ∈ idxs l, 0 ≤ x ∧ x < N := fun x hx => by have := idxI_ge hx; omega
    conv => cbv
    refine loop_h [3, 4, 5, 6, 7, 8, 9, 10, 11, 12, 13, 14, 15, 16, 17, 18, 19, 20, 21, 22, 23, 24, 25, 26, 27, 28, 29, 30, 31, 32] (fun st : Int × Int × Int => [(5, i64 st.1), (3, i64 st.2.1), (4, i64 st.2.2)]) (fun st => 0 ≤ st.1 ∧ st.1 ≤ m + 1 ∧ -1 ≤ st.2.2 ∧ st.2.2 ≤ N ∧ (st.1 ≤ m → gapF N st.2.1 st.2.2 ((idxs l).drop st.1.toNat) = lgF 0 0 l) ∧ (st.1 = m + 1 → st.2.1 = lgF 0 0 l)) (fun st => (m + 1 - st.1).toNat) (0, 0, -1) (by cbv)
      ⟨Int.le_refl _, by dsimp only; omega, by dsimp only; omega, by dsimp only; omega, fun _ => hspec.symm, fun h => by dsimp only at h; omega⟩ ?_
    rintro ⟨k, best, last⟩ ⟨k0, k1, l0, l1, kf, kg⟩ KN hKN
    dsimp only at k0 k1 l0 l1 kf kg
    constructor
    conv => cbv
    refine b_le hcmp (fun h => ?_) (fun h => ?_)
    · simp only [hnat] at h
      have kf := kf (by omega)
      have e3 : bin .add .i64 k 1 = k + 1 := add_i hbin (by omega) (by omega)
      conv => cbv
      refine b_lt hcmp (fun h2 => ?_) (fun h2 => ?_)
      · simp only [hnat] at h2
        conv => cbv
        obtain ⟨x, hx⟩ : ∃ x, (idxs l)[k.toNat]? = some x := ⟨_, List.getElem?_eq_getElem (by omega)⟩
        refine ⟨nn_of hnn (by omega), ltn_of hlt hnat (by omega), ?_⟩
        refine get_of hget (.int .i64 x) (by rw [hidx, hd]; simpa using iPV_get hx) ?_
        conv => cbv
        have hxr := hrng x (List.mem_of_getElem? hx)
        have e4 : bin .sub .i64 x last = x - last := sub_i hbin (by omega) (by omega)
        have e5 : bin .sub .i64 (bin .sub .i64 x last) 1 = x - last - 1 := by rw [e4]; exact sub_i hbin (by omega) (by omega)
        rw [e5, e3]
        have hdr : (idxs l).drop k.toNat = x :: (idxs l).drop (k + 1).toNat := by
          have h' := List.getElem?_eq_some_iff.1 hx
          rw [List.drop_eq_getElem_cons h'.1, h'.2, show (k + 1).toNat = k.toNat + 1 by omega]
        rw [hdr, gapF] at kf
        refine hKN (k + 1, mx best (x - last - 1), x) _ ⟨by dsimp only; omega, by dsimp only; omega, by dsimp only; omega, by dsimp only; omega, fun _ => by dsimp only; rw [hmx]; exact kf, fun h => by dsimp only at h; omega⟩ (by dsimp only; omega) ?_
        generalize k + 1 = k'
        generalize mx best (x - last - 1) = b'
        cbv
      · simp only [hnat] at h2
        conv => cbv
        have e4 : bin .sub .i64 N last = N - last := sub_i hbin (by omega) (by omega)
        have e5 : bin .sub .i64 (bin .sub .i64 N last) 1 = N - last - 1 := by rw [e4]; exact sub_i hbin (by omega) (by omega)
        rw [e5, e3]
        rw [List.drop_eq_nil_of_le (by omega), gapF] at kf
        refine hKN (k + 1, mx best (N - last - 1), N) _ ⟨by dsimp only; omega, by dsimp only; omega, by dsimp only; omega, by dsimp only; omega, fun h => by dsimp only at h; omega, fun _ => by dsimp only; rw [hmx]; exact kf⟩ (by dsimp only; omega) ?_
        generalize k + 1 = k'
        generalize mx best (N - last - 1) = b'
        cbv
    · simp only [hnat] at h
      conv => cbv
      exact hK _ _ _ _ (Wk_of [0] rfl rfl rfl (by cbv)) ⟨best, kg (by omega), rfl, rfl⟩
/-- Two equal lists are the same. -/
theorem c_same (L : List Int) (d d' : List PV) (hd : d = iPV L) (hd' : d' = iPV L) (m : Nat) (hm : m = L.length) (hm2 : m ≤ 1000000) :
    AC prog 27 [sv (.vec 0 m), sv (.vec 1 m)] [iVec d, iVec d'] (fun r H => r = bl true ∧ H = [iVec d, iVec d']) :=
  AC_fv (hs := [(6, .op 0 (.op 1 (.op 2 (.op 3 (.op 4 (.op 5 (.op 6 (.op 7 (.op 8 (.done))))))))))]) tyOk mixed func27 (by kernel_rfl) fun bin cmp beq eqs conv mn mx nat nadd nsub nmul idx get sub subP subS getS put app rep oget osub oset oapp orep rget rlen rapp toNat nn lt le fit lenOk mget mhas mput mdel mlen kget khas kput next call yield hE ⟨hbin, hcmp, hbeq, heqs, hconv, hmn, hmx, hnat, hnadd, hnsub, hnmul, hidx, hget, hsub, hsubP, hsubS, hgetS, hput, happ, hrep, hoget, hosub, hoset, hoapp, horep, hrget, hrlen, hrapp, htoNat, hnn, hlt, hle, hfit, hlenOk, hmget, hmhas, hmput, hmdel, hmlen, hkget, hkhas, hkput, hnext, hcall, hyield⟩ K hK => by
    conv => cbv
    refine b_ne hcmp (fun h => (h rfl).elim) (fun h => ?_)
    conv => cbv
    refine loop_h [4, 5, 11, 12, 13, 14, 15, 16, 17, 18, 19, 20, 21, 22, 23, 24, 25] (fun k : Int => [(5, i64 k)]) (fun k => 0 ≤ k ∧ k ≤ m) (fun k => (m - k).toNat) 0 (by cbv) ⟨Int.le_refl _, by omega⟩ ?_
    rintro k ⟨k0, k1⟩ KN hKN
    constructor
    conv => cbv
    refine b_lt hcmp (fun h2 => ?_) (fun h2 => ?_)
    · simp only [hnat] at h2
      conv => cbv
      obtain ⟨x, hx⟩ : ∃ x, L[k.toNat]? = some x := ⟨_, List.getElem?_eq_getElem (by omega)⟩
      refine ⟨nn_of hnn (by omega), ltn_of hlt hnat (by omega), ?_⟩
      refine get_of hget (.int .i64 x) (by rw [hidx, hd]; simpa using iPV_get hx) ?_
      conv => cbv
      refine ⟨nn_of hnn (by omega), ltn_of hlt hnat (by omega), ?_⟩
      refine get_of hget (.int .i64 x) (by rw [hidx, hd']; simpa using iPV_get hx) ?_
      conv => cbv
      refine b_ne hcmp (fun h => (h rfl).elim) (fun h => ?_)
      conv => cbv
      rw [show bin .add .i64 k 1 = k + 1 from add_i hbin (by omega) (by omega)]
      refine hKN (k + 1) _ ⟨by omega, by omega⟩ (by omega) ?_
      generalize k + 1 = k'
      cbv
    · simp only [hnat] at h2
      conv => cbv
      exact hK _ _ _ _ Wk.refl ⟨rfl, rfl⟩
theorem c_place5 (n m : Int) (h : 0 < m ∧ m ≤ 1000000) (hn : -9223372036854775808 ≤ n ∧ n ≤ 9223372036854775807) : AC prog 86 [i64 n, i64 m] [] (fun r H => ∃ x, 0 ≤ x ∧ x < m ∧ r = i64 x ∧ H = []) :=
  AC_fv (hs := []) tyOk mixed func86 (by kernel_rfl) fun bin cmp beq eqs conv mn mx nat nadd nsub nmul idx get sub subP subS getS put app rep oget osub oset oapp orep rget rlen rapp toNat nn lt le fit lenOk mget mhas mput mdel mlen kget khas kput next call yield hE ⟨hbin, hcmp, hbeq, heqs, hconv, hmn, hmx, hnat, hnadd, hnsub, hnmul, hidx, hget, hsub, hsubP, hsubS, hgetS, hput, happ, hrep, hoget, hosub, hoset, hoapp, horep, hrget, hrlen, hrapp, htoNat, hnn, hlt, hle, hfit, hlenOk, hmget, hmhas, hmput, hmdel, hmlen, hkget, hkhas, hkput, hnext, hcall, hyield⟩ K hK => by
    conv => cbv
    refine b_lt hcmp (fun h1 => ?_) (fun h1 => ?_)
    · have e1 : bin .add .i64 n 1 = n + 1 := add_i hbin (by omega) (by omega)
      have e2 : bin .sub .i64 0 (bin .add .i64 n 1) = 0 - (n + 1) := by rw [e1]; exact sub_i hbin (by omega) (by omega)
      have e3 : bin .rem .i64 (0 - (n + 1)) m = (0 - (n + 1)) % m := rem_u hbin (by omega)
      conv => cbv
      rw [e2, e3]
      refine ⟨by omega, hK _ _ _ _ Wk.refl ⟨_, Int.emod_nonneg _ (by omega), Int.emod_lt_of_pos _ h.1, rfl, rfl⟩⟩
    · have e3 : bin .rem .i64 n m = n % m := rem_u hbin h1
      conv => cbv
      rw [e3]
      exact ⟨by omega, hK _ _ _ _ Wk.refl ⟨_, Int.emod_nonneg _ (by omega), Int.emod_lt_of_pos _ h.1, rfl, rfl⟩⟩
end Go.Proofs.Try
