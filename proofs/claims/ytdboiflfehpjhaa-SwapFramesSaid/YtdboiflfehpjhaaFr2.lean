/- The walk: package frames, looking and turning. -/
import Derived.Test.YtdboiflfehpjhaaFr1
set_option linter.unusedVariables false
set_option linter.unusedSimpArgs false
namespace Go.Proofs.Try
open Go Bm
set_option maxRecDepth 100000
def FreeRun (l : List Bool) (i n : Int) : Prop := ∀ j : Nat, i ≤ j → (j : Int) < i + n → l[j]? = some false
theorem bPV_get {l : List Bool} {n : Nat} {b : Bool} (h : l[n]? = some b) : (bPV l)[n]? = some (.bool b) := by simp [bPV, h]
theorem c_open (l : List Bool) (c : List PV) (hc : c = bPV l) (N : Nat) (hN : N = l.length) (hN2 : N ≤ 65536) (free first most : Int) (h0 : 0 ≤ first) (h1 : 0 ≤ most) (h2 : first + most ≤ N) :
    AC prog 170 [sv (.ptr 1 0), i64 first, i64 most] (frH c N free) (fun r H => ∃ k, (k = most ↔ FreeRun l first most) ∧ r = i64 k ∧ H = frH c N free) :=
  AC_fv (hs := []) tyOk mixed func170 (by kernel_rfl) fun bin cmp beq eqs conv mn mx nat nadd nsub nmul idx get sub subP subS getS put app rep oget osub oset oapp orep rget rlen rapp toNat nn lt le fit lenOk mget mhas mput mdel mlen kget khas kput next call yield hE ⟨hbin, hcmp, hbeq, heqs, hconv, hmn, hmx, hnat, hnadd, hnsub, hnmul, hidx, hget, hsub, hsubP, hsubS, hgetS, hput, happ, hrep, hoget, hosub, hoset, hoapp, horep, hrget, hrlen, hrapp, htoNat, hnn, hlt, hle, hfit, hlenOk, hmget, hmhas, hmput, hmdel, hmlen, hkget, hkhas, hkput, hnext, hcall, hyield⟩ K hK => by
    have fin : ∀ k, (k = most ↔ FreeRun l first most) → K (i64 k) (frH c N free) := fun k hk => hK _ _ _ _ Wk.refl ⟨k, hk, rfl, rfl⟩
    conv => cbv
    refine loop_intro [7, 8, 9, 10, 11, 12, 13, 14, 15, 16, 17, 18, 19, 20, 21, 22, 23, 24, 25, 26, 27, 28, 29, 30, 31] (fun k : Int => [(7, i64 k)]) (fun _ => frH c N free) (fun k => 0 ≤ k ∧ k ≤ most ∧ FreeRun l first k) (fun k => (most - k).toNat) 0 (Wk_of [0, 1] rfl rfl rfl (by cbv)) ⟨Int.le_refl _, h1, fun j a b => by omega⟩ ?_
    rintro k ⟨k0, k1, kf⟩ KN hKN
    constructor
    conv => cbv
    refine b_lt hcmp (fun h => ?_) (fun h => ?_)
    · have e1 : bin .add .i64 first k = first + k := add_i hbin (by omega) (by omega)
      conv => cbv
      refine call_fv hcall [0, 1] (c_fIn c N hN2 free (bin .add .i64 first k) 1 (fun _ _ => by omega)) rfl rfl rfl rfl ?_
      rintro _ _ ⟨b, hb, rfl, rfl⟩
      obtain rfl : b = true := by rw [hb, e1]; exact decide_eq_true (by omega)
      constructor
      conv => cbv
      refine ⟨nn_of hnn (by omega), ltn_of hlt hnat (by omega), ?_⟩
      obtain ⟨v, hv⟩ : ∃ v, l[(first + k).toNat]? = some v := ⟨_, List.getElem?_eq_getElem (by omega)⟩
      refine get_of hget (.bool v) (by rw [hidx, e1, hc]; simpa using bPV_get hv) ?_
      cases v with
      | false =>
        conv => cbv
        refine hKN (k + 1) _ _ ⟨by omega, by omega, fun j a b => ?_⟩ (by omega) (Wk_of [0, 1] rfl rfl rfl ?_)
        · by_cases hj : (j : Int) = first + k
          · have : j = (first + k).toNat := by omega
            rw [this]; exact hv
          · exact kf j a (by omega)
        · rw [show bin .add .i64 k 1 = k + 1 from add_i hbin (by omega) (by omega)]
          generalize k + 1 = k'
          cbv
      | true =>
        conv => cbv
        refine fin k ⟨fun e => by omega, fun hf => ?_⟩
        have := hf (first + k).toNat (by omega) (by omega)
        rw [hv] at this
        cases this
    · conv => cbv
      obtain rfl : k = most := by omega
      exact fin k ⟨fun _ => kf, fun _ => rfl⟩
def setR (l : List Bool) (i n : Nat) (b : Bool) : List Bool := l.take i ++ List.replicate n b ++ l.drop (i + n)
theorem setR_succ {l : List Bool} {i n : Nat} {b : Bool} (h : i + n < l.length) : (setR l i n b).set (i + n) b = setR l i (n + 1) b := by
  apply List.ext_getElem?
  intro j
  simp only [setR, List.getElem?_set, List.getElem?_append, List.length_append, List.length_take, List.length_replicate, List.getElem?_take, List.getElem?_replicate, List.getElem?_drop, List.length_drop]
  rw [Nat.min_eq_left (by omega)]
  by_cases h1 : i + n = j
  · subst h1
    rw [if_pos rfl, if_pos (by omega), if_pos (by omega), if_neg (by omega), if_pos (by omega)]
  · rw [if_neg h1]
    by_cases h2 : j < i
    · rw [if_pos (by omega), if_pos h2, if_pos h2, if_pos (by omega), if_pos h2]
    · by_cases h3 : j < i + n
      · rw [if_pos h3, if_neg h2, if_pos (by omega), if_pos (by omega), if_neg h2, if_pos (by omega)]
      · rw [if_neg h3, if_neg (by omega)]
        congr 1
        omega
theorem setR_len {l : List Bool} {i n : Nat} {b : Bool} (h : i + n ≤ l.length) : (setR l i n b).length = l.length := by simp [setR]; omega
theorem bPV_set (l : List Bool) (n : Nat) (b : Bool) : putL (bPV l) n [.bool b] = bPV (l.set n b) := by rw [putL_one]; simp [bPV, List.map_set]
theorem c_turn (l : List Bool) (c : List PV) (hc : c = bPV l) (N : Nat) (hN : N = l.length) (hN2 : N ≤ 65536) (free first n : Int) (b : Bool) (hf : -10000000 ≤ free ∧ free ≤ 10000000) (h0 : 0 ≤ first) (h1 : 0 ≤ n) (h2 : first + n ≤ N) :
    AC prog 131 [sv (.ptr 1 0), i64 first, i64 n, bl b] (frH c N free)
      (fun r H => ∃ c' f', c' = bPV (setR l first.toNat n.toNat b) ∧ f' = (if b then free - n else free + n) ∧ r = .tup [] ∧ H = frH c' N f') :=
  AC_fv (hs := []) tyOk mixed func131 (by kernel_rfl) fun bin cmp beq eqs conv mn mx nat nadd nsub nmul idx get sub subP subS getS put app rep oget osub oset oapp orep rget rlen rapp toNat nn lt le fit lenOk mget mhas mput mdel mlen kget khas kput next call yield hE ⟨hbin, hcmp, hbeq, heqs, hconv, hmn, hmx, hnat, hnadd, hnsub, hnmul, hidx, hget, hsub, hsubP, hsubS, hgetS, hput, happ, hrep, hoget, hosub, hoset, hoapp, horep, hrget, hrlen, hrapp, htoNat, hnn, hlt, hle, hfit, hlenOk, hmget, hmhas, hmput, hmdel, hmlen, hkget, hkhas, hkput, hnext, hcall, hyield⟩ K hK => by
    have fin : ∀ c' f', c' = bPV (setR l first.toNat n.toNat b) → f' = (if b then free - n else free + n) → K (.tup []) (frH c' N f') := fun c' f' e1 e2 => hK _ _ _ _ Wk.refl ⟨c', f', e1, e2, rfl, rfl⟩
    conv => cbv
    refine loop_intro [8, 10, 11, 12, 13, 14, 15, 16, 17, 18, 19, 20, 21, 22] (fun st : Int × List PV => [(10, i64 st.1)]) (fun st => frH st.2 N free) (fun st => 0 ≤ st.1 ∧ st.1 ≤ n ∧ st.2 = bPV (setR l first.toNat st.1.toNat b)) (fun st => (n - st.1).toNat) (0, c) (Wk_of [0, 1] rfl rfl rfl (by cbv)) ⟨Int.le_refl _, h1, by simp [setR, hc]⟩ ?_
    rintro ⟨k, d⟩ ⟨k0, k1, kd⟩ KN hKN
    dsimp only at k0 k1 kd
    constructor
    conv => cbv
    refine b_lt hcmp (fun h => ?_) (fun h => ?_)
    · have e1 : bin .add .i64 first k = first + k := add_i hbin (by omega) (by omega)
      conv => cbv
      have hlen : (setR l first.toNat k.toNat b).length = l.length := setR_len (by omega)
      refine ⟨nn_of hnn (by omega), ltn_of hlt hnat (by omega), ?_⟩
      obtain ⟨v, hv⟩ : ∃ v, (bPV (setR l first.toNat k.toNat b))[(first + k).toNat]? = some v := ⟨_, List.getElem?_eq_getElem (by simp only [bPV, List.length_map, hlen]; omega)⟩
      refine subP_of hsubP [v] (by rw [hidx, e1, kd]; simpa using subL_one hv) ?_
      conv => cbv
      rw [show bin .add .i64 k 1 = k + 1 from add_i hbin (by omega) (by omega), hidx, e1, hput, kd, bPV_set]
      have e2 : setR l first.toNat (k + 1).toNat b = (setR l first.toNat k.toNat b).set ((first + k).toNat * 1 + 0) b := by
        rw [show (first + k).toNat * 1 + 0 = first.toNat + k.toNat by omega, show (k + 1).toNat = k.toNat + 1 by omega]
        exact (setR_succ (by omega)).symm
      refine hKN (k + 1, bPV (setR l first.toNat (k + 1).toNat b)) _ _ ⟨by dsimp only; omega, by dsimp only; omega, rfl⟩ (by dsimp only; omega) ?_
      rw [← e2]
      generalize bPV (setR l first.toNat (k + 1).toNat b) = d'
      generalize k + 1 = k'
      exact Wk_of [0, 1] rfl rfl rfl (by cbv)
    · have hk : k = n := by omega
      subst hk
      cases b with
      | true =>
        conv => cbv
        refine fin d _ kd ?_
        have e1 : bin .sub .i64 0 k = 0 - k := sub_i hbin (by omega) (by omega)
        have e2 : bin .add .i64 free (bin .sub .i64 0 k) = free + (0 - k) := by rw [e1]; exact add_i hbin (by omega) (by omega)
        simp; rw [e2]; omega
      | false =>
        conv => cbv
        refine fin d _ kd ?_
        have e2 : bin .add .i64 free k = free + k := add_i hbin (by omega) (by omega)
        simp; exact e2
end Go.Proofs.Try
