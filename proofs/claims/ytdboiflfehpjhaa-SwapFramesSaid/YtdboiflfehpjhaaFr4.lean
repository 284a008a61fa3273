/- The walk: package frames, the rest. -/
import Derived.Test.YtdboiflfehpjhaaPl5
set_option linter.unusedVariables false
set_option linter.unusedSimpArgs false
namespace Go.Proofs.Try
open Go Bm
set_option maxRecDepth 100000
set_option maxHeartbeats 400000
theorem repP_bool (n : Nat) (b : Bool) : repP n [PV.bool b] = bPV (List.replicate n b) := by
  induction n with
  | zero => rfl
  | succ n ih => simp [repP, ih, bPV, List.replicate_succ]
def clampN (n : Int) : Int := if n < 0 then 0 else if 65536 < n then 65536 else n
theorem c_fNew (n : Int) : AC prog 20 [i64 n] [] (fun r H => ∃ (N : Nat) (c : List PV), (N : Int) = clampN n ∧ c = bPV (List.replicate N false) ∧ r = sv (.ptr 1 0) ∧ H = frH c N N) :=
  AC_fv (hs := []) tyOk mixed func20 (by kernel_rfl) fun bin cmp beq eqs conv mn mx nat nadd nsub nmul idx get sub subP subS getS put app rep oget osub oset oapp orep rget rlen rapp toNat nn lt le fit lenOk mget mhas mput mdel mlen kget khas kput next call yield hE ⟨hbin, hcmp, hbeq, heqs, hconv, hmn, hmx, hnat, hnadd, hnsub, hnmul, hidx, hget, hsub, hsubP, hsubS, hgetS, hput, happ, hrep, hoget, hosub, hoset, hoapp, horep, hrget, hrlen, hrapp, htoNat, hnn, hlt, hle, hfit, hlenOk, hmget, hmhas, hmput, hmdel, hmlen, hkget, hkhas, hkput, hnext, hcall, hyield⟩ K hK => by
    conv => cbv
    have e : mn (mx n 0) 65536 = clampN n := by
      simp only [hmn, hmx, clampN]
      repeat' split
      all_goals omega
    have hr : 0 ≤ clampN n ∧ clampN n ≤ 65536 := by unfold clampN; repeat' split
                                                    all_goals omega
    rw [e]
    obtain ⟨N, hN⟩ : ∃ N : Nat, clampN n = N := ⟨(clampN n).toNat, by omega⟩
    refine ⟨nn_of hnn hr.1, fit_of hfit (by omega), ?_⟩
    simp only [htoNat, hrep]
    have eN : (clampN n).toNat = N := by omega
    rw [eN, repP_bool]
    refine hK _ _ _ _ Wk.refl ⟨N, _, hN.symm, rfl, rfl, ?_⟩
    rw [hN]
theorem c_fFree (c : List PV) (N : Nat) (free : Int) : AC prog 23 [sv (.ptr 1 0)] (frH c N free) (fun r H => r = i64 free ∧ H = frH c N free) :=
  AC_fv (hs := []) tyOk mixed func23 (by kernel_rfl) fun bin cmp beq eqs conv mn mx nat nadd nsub nmul idx get sub subP subS getS put app rep oget osub oset oapp orep rget rlen rapp toNat nn lt le fit lenOk mget mhas mput mdel mlen kget khas kput next call yield hE ⟨hbin, hcmp, hbeq, heqs, hconv, hmn, hmx, hnat, hnadd, hnsub, hnmul, hidx, hget, hsub, hsubP, hsubS, hgetS, hput, happ, hrep, hoget, hosub, hoset, hoapp, horep, hrget, hrlen, hrapp, htoNat, hnn, hlt, hle, hfit, hlenOk, hmget, hmhas, hmput, hmdel, hmlen, hkget, hkhas, hkput, hnext, hcall, hyield⟩ K hK => by
    conv => cbv
    exact hK _ _ _ _ Wk.refl ⟨rfl, rfl⟩
theorem c_fLen (c : List PV) (N : Nat) (free : Int) : AC prog 24 [sv (.ptr 1 0)] (frH c N free) (fun r H => ∃ x, x = (N : Int) ∧ r = i64 x ∧ H = frH c N free) :=
  AC_fv (hs := []) tyOk mixed func24 (by kernel_rfl) fun bin cmp beq eqs conv mn mx nat nadd nsub nmul idx get sub subP subS getS put app rep oget osub oset oapp orep rget rlen rapp toNat nn lt le fit lenOk mget mhas mput mdel mlen kget khas kput next call yield hE ⟨hbin, hcmp, hbeq, heqs, hconv, hmn, hmx, hnat, hnadd, hnsub, hnmul, hidx, hget, hsub, hsubP, hsubS, hgetS, hput, happ, hrep, hoget, hosub, hoset, hoapp, horep, hrget, hrlen, hrapp, htoNat, hnn, hlt, hle, hfit, hlenOk, hmget, hmhas, hmput, hmdel, hmlen, hkget, hkhas, hkput, hnext, hcall, hyield⟩ K hK => by
    conv => cbv
    exact hK _ _ _ _ Wk.refl ⟨_, hnat N, rfl, rfl⟩
theorem c_fIs (l : List Bool) (c : List PV) (hc : c = bPV l) (N : Nat) (hN : N = l.length) (hN2 : N ≤ 65536) (free i : Int) : AC prog 87 [sv (.ptr 1 0), i64 i] (frH c N free)
    (fun r H => ∃ b, (b = true ↔ i ∈ idxs l) ∧ r = bl b ∧ H = frH c N free) :=
  AC_fv (hs := []) tyOk mixed func87 (by kernel_rfl) fun bin cmp beq eqs conv mn mx nat nadd nsub nmul idx get sub subP subS getS put app rep oget osub oset oapp orep rget rlen rapp toNat nn lt le fit lenOk mget mhas mput mdel mlen kget khas kput next call yield hE ⟨hbin, hcmp, hbeq, heqs, hconv, hmn, hmx, hnat, hnadd, hnsub, hnmul, hidx, hget, hsub, hsubP, hsubS, hgetS, hput, happ, hrep, hoget, hosub, hoset, hoapp, horep, hrget, hrlen, hrapp, htoNat, hnn, hlt, hle, hfit, hlenOk, hmget, hmhas, hmput, hmdel, hmlen, hkget, hkhas, hkput, hnext, hcall, hyield⟩ K hK => by
    conv => cbv
    refine call_fv hcall [0, 1] (c_fIn c N hN2 free i 1 (fun _ _ => by omega)) rfl rfl rfl rfl ?_
    rintro _ _ ⟨b, hb, rfl, rfl⟩
    constructor
    conv => cbv
    cases b with
    | false =>
      have hb : ¬ (0 ≤ i ∧ i < N ∧ 1 ≤ N - i) := of_decide_eq_false hb.symm
      conv => cbv
      refine hK _ _ _ _ Wk.refl ⟨false, ⟨fun h => by (cases h), fun h => ?_⟩, rfl, rfl⟩
      have := idxI_ge h
      omega
    | true =>
      have hb : 0 ≤ i ∧ i < N ∧ 1 ≤ N - i := of_decide_eq_true hb.symm
      conv => cbv
      refine ⟨nn_of hnn (by omega), ltn_of hlt hnat (by omega), ?_⟩
      obtain ⟨v, hv⟩ : ∃ v, l[i.toNat]? = some v := ⟨_, List.getElem?_eq_getElem (by omega)⟩
      refine get_of hget (.bool v) (by rw [hidx, hc]; simpa using bPV_get hv) ?_
      conv => cbv
      refine hK _ _ _ _ Wk.refl ⟨v, ?_, rfl, rfl⟩
      rw [mem_idxI]
      constructor
      · rintro rfl; exact ⟨i.toNat, by omega, hv⟩
      · rintro ⟨j, e, hj⟩
        have : j = i.toNat := by omega
        rw [this, hv] at hj
        simpa using hj
theorem c_fGive (l : List Bool) (c : List PV) (hc : c = bPV l) (N : Nat) (hN : N = l.length) (hN2 : N ≤ 65536) (free i n : Int) (hf : -1000000 ≤ free ∧ free ≤ 1000000) :
    AC prog 85 [sv (.ptr 1 0), i64 i, i64 n] (frH c N free)
      (fun r H => ∃ e l' c' f', GiveR l i n e ∧ l' = (if e = 0 then setR l i.toNat n.toNat false else l) ∧ c' = bPV l' ∧ f' = (if e = 0 then free + n else free) ∧ r = i64 e ∧ H = frH c' N f') :=
  AC_fv (hs := []) tyOk mixed func85 (by kernel_rfl) fun bin cmp beq eqs conv mn mx nat nadd nsub nmul idx get sub subP subS getS put app rep oget osub oset oapp orep rget rlen rapp toNat nn lt le fit lenOk mget mhas mput mdel mlen kget khas kput next call yield hE ⟨hbin, hcmp, hbeq, heqs, hconv, hmn, hmx, hnat, hnadd, hnsub, hnmul, hidx, hget, hsub, hsubP, hsubS, hgetS, hput, happ, hrep, hoget, hosub, hoset, hoapp, horep, hrget, hrlen, hrapp, htoNat, hnn, hlt, hle, hfit, hlenOk, hmget, hmhas, hmput, hmdel, hmlen, hkget, hkhas, hkput, hnext, hcall, hyield⟩ K hK => by
    have no : ∀ e, GiveR l i n e → e ≠ 0 → K (i64 e) (frH c N free) := fun e h h0 => hK _ _ _ _ Wk.refl ⟨e, l, c, free, h, by rw [if_neg h0], hc, by rw [if_neg h0], rfl, rfl⟩
    conv => cbv
    refine b_lt hcmp (fun h => ?_) (fun h => ?_)
    · conv => cbv
      exact no 1 (.inl ⟨rfl, h⟩) (by omega)
    · conv => cbv
      refine call_fv hcall [0, 1] (c_fIn c N hN2 free i n (fun _ _ => by omega)) rfl rfl rfl rfl ?_
      rintro _ _ ⟨b, hb, rfl, rfl⟩
      constructor
      conv => cbv
      cases b with
      | false =>
        have hb : ¬ (0 ≤ i ∧ i < N ∧ n ≤ N - i) := of_decide_eq_false hb.symm
        conv => cbv
        exact no 5 (.inr (.inl ⟨rfl, h, by rw [← hN]; exact hb⟩)) (by omega)
      | true =>
        have hb : 0 ≤ i ∧ i < N ∧ n ≤ N - i := of_decide_eq_true hb.symm
        conv => cbv
        refine loop_h [6, 7, 18, 19, 20, 21, 22, 23, 24, 25, 26, 27, 28, 29, 30, 31] (fun k : Int => [(18, i64 k)]) (fun k => 0 ≤ k ∧ k ≤ n ∧ AllTaken l i k) (fun k => (n - k).toNat) 0 (by cbv) ⟨Int.le_refl _, by omega, fun j a b => by omega⟩ ?_
        rintro k ⟨k0, k1, kf⟩ KN hKN
        constructor
        conv => cbv
        refine b_lt hcmp (fun h2 => ?_) (fun h2 => ?_)
        · have e1 : bin .add .i64 i k = i + k := add_i hbin (by omega) (by omega)
          conv => cbv
          refine ⟨nn_of hnn (by omega), ltn_of hlt hnat (by omega), ?_⟩
          obtain ⟨v, hv⟩ : ∃ v, l[(i + k).toNat]? = some v := ⟨_, List.getElem?_eq_getElem (by omega)⟩
          refine get_of hget (.bool v) (by rw [hidx, e1, hc]; simpa using bPV_get hv) ?_
          cases v with
          | false =>
            conv => cbv
            refine no 11 (.inr (.inr (.inl ⟨rfl, h, by rw [← hN]; exact hb, fun ha => ?_⟩))) (by omega)
            have := ha (i + k).toNat (by omega) (by omega)
            rw [hv] at this
            cases this
          | true =>
            conv => cbv
            rw [show bin .add .i64 k 1 = k + 1 from add_i hbin (by omega) (by omega)]
            refine hKN (k + 1) _ ⟨by omega, by omega, fun j a b => ?_⟩ (by omega) ?_
            · by_cases hj : (j : Int) = i + k
              · have : j = (i + k).toNat := by omega
                rw [this]; exact hv
              · exact kf j a (by omega)
            · generalize k + 1 = k'
              cbv
        · have hk : k = n := by omega
          subst hk
          conv => cbv
          refine call_fv hcall [0, 1] (c_turn l c hc N hN hN2 free i k false (by omega) (by omega) (by omega) (by omega)) rfl rfl rfl rfl ?_
          rintro _ _ ⟨c', f', hc', hf', rfl, rfl⟩
          constructor
          conv => cbv
          exact hK _ _ _ _ Wk.refl ⟨0, _, c', f', .inr (.inr (.inr ⟨rfl, h, by rw [← hN]; exact hb, kf⟩)), by rw [if_pos rfl], hc', by simpa using hf', rfl, rfl⟩
def TakeSz (l : List Bool) (s i e : Int) : Prop := (e = 1 ∧ i = 0 ∧ runS s = 0) ∨ (runS s ≠ 0 ∧ TakeR l (runS s) (runS s) i e)
def TakeMn (l : List Bool) (n i e : Int) : Prop := (e = 1 ∧ i = 0 ∧ n < 1) ∨ (1 ≤ n ∧ TakeR l n 1 i e)
theorem c_fTake (l : List Bool) (c : List PV) (hc : c = bPV l) (N : Nat) (hN : N = l.length) (hN2 : N ≤ 65536) (free s : Int) (hf : -1000000 ≤ free ∧ free ≤ 1000000) :
    AC prog 83 [sv (.ptr 1 0), i64 s] (frH c N free)
      (fun r H => ∃ i e l' c' f', TakeSz l s i e ∧ l' = (if e = 0 then setR l i.toNat (runS s).toNat true else l) ∧ c' = bPV l' ∧ f' = (if e = 0 then free - runS s else free) ∧ r = .tup [.s (.int .i64 i), .s (.int .i64 e)] ∧ H = frH c' N f') :=
  AC_fv (hs := []) tyOk mixed func83 (by kernel_rfl) fun bin cmp beq eqs conv mn mx nat nadd nsub nmul idx get sub subP subS getS put app rep oget osub oset oapp orep rget rlen rapp toNat nn lt le fit lenOk mget mhas mput mdel mlen kget khas kput next call yield hE ⟨hbin, hcmp, hbeq, heqs, hconv, hmn, hmx, hnat, hnadd, hnsub, hnmul, hidx, hget, hsub, hsubP, hsubS, hgetS, hput, happ, hrep, hoget, hosub, hoset, hoapp, horep, hrget, hrlen, hrapp, htoNat, hnn, hlt, hle, hfit, hlenOk, hmget, hmhas, hmput, hmdel, hmlen, hkget, hkhas, hkput, hnext, hcall, hyield⟩ K hK => by
    conv => cbv
    refine call_fv hcall [] (c_fRun s) rfl rfl rfl rfl ?_
    rintro _ _ ⟨x, hx, rfl, rfl⟩
    constructor
    conv => cbv
    refine b_eq hcmp (fun h => ?_) (fun h => ?_)
    · conv => cbv
      exact hK _ _ _ _ Wk.refl ⟨0, 1, l, c, free, .inl ⟨rfl, rfl, by rw [← hx]; exact h⟩, by simp, hc, by simp, rfl, rfl⟩
    · conv => cbv
      have := runS_ge s
      refine call_fv hcall [0, 1] (c_take l c hc N hN hN2 free x x hf (by omega) (.inl rfl)) rfl rfl rfl rfl ?_
      rintro _ _ ⟨i, e, l', c', f', hT, hl', hc', hf', rfl, rfl⟩
      constructor
      conv => cbv
      subst hx
      exact hK _ _ _ _ Wk.refl ⟨i, e, l', c', f', .inr ⟨h, hT⟩, hl', hc', hf', rfl, rfl⟩
theorem c_fTakeMany (l : List Bool) (c : List PV) (hc : c = bPV l) (N : Nat) (hN : N = l.length) (hN2 : N ≤ 65536) (free n : Int) (hf : -1000000 ≤ free ∧ free ≤ 1000000) :
    AC prog 82 [sv (.ptr 1 0), i64 n] (frH c N free)
      (fun r H => ∃ i e l' c' f', TakeMn l n i e ∧ l' = (if e = 0 then setR l i.toNat n.toNat true else l) ∧ c' = bPV l' ∧ f' = (if e = 0 then free - n else free) ∧ r = .tup [.s (.int .i64 i), .s (.int .i64 e)] ∧ H = frH c' N f') :=
  AC_fv (hs := []) tyOk mixed func82 (by kernel_rfl) fun bin cmp beq eqs conv mn mx nat nadd nsub nmul idx get sub subP subS getS put app rep oget osub oset oapp orep rget rlen rapp toNat nn lt le fit lenOk mget mhas mput mdel mlen kget khas kput next call yield hE ⟨hbin, hcmp, hbeq, heqs, hconv, hmn, hmx, hnat, hnadd, hnsub, hnmul, hidx, hget, hsub, hsubP, hsubS, hgetS, hput, happ, hrep, hoget, hosub, hoset, hoapp, horep, hrget, hrlen, hrapp, htoNat, hnn, hlt, hle, hfit, hlenOk, hmget, hmhas, hmput, hmdel, hmlen, hkget, hkhas, hkput, hnext, hcall, hyield⟩ K hK => by
    conv => cbv
    refine b_lt hcmp (fun h => ?_) (fun h => ?_)
    · conv => cbv
      exact hK _ _ _ _ Wk.refl ⟨0, 1, l, c, free, .inl ⟨rfl, rfl, h⟩, by simp, hc, by simp, rfl, rfl⟩
    · conv => cbv
      refine call_fv hcall [0, 1] (c_take l c hc N hN hN2 free n 1 hf h (.inr rfl)) rfl rfl rfl rfl ?_
      rintro _ _ ⟨i, e, l', c', f', hT, hl', hc', hf', rfl, rfl⟩
      constructor
      conv => cbv
      exact hK _ _ _ _ Wk.refl ⟨i, e, l', c', f', .inr ⟨h, hT⟩, hl', hc', hf', rfl, rfl⟩
theorem take_snoc {α : Type} {l : List α} {k : Nat} {x : α} (h : l[k]? = some x) : l.take (k + 1) = l.take k ++ [x] := by rw [List.take_add_one, h]; rfl
theorem c_fLongest (l : List Bool) (c : List PV) (hc : c = bPV l) (N : Nat) (hN : N = l.length) (hN2 : N ≤ 65536) (free : Int) :
    AC prog 25 [sv (.ptr 1 0)] (frH c N free) (fun r H => ∃ x, x = lgF 0 0 l ∧ r = i64 x ∧ H = frH c N free) :=
  AC_fv (hs := []) tyOk mixed func25 (by kernel_rfl) fun bin cmp beq eqs conv mn mx nat nadd nsub nmul idx get sub subP subS getS put app rep oget osub oset oapp orep rget rlen rapp toNat nn lt le fit lenOk mget mhas mput mdel mlen kget khas kput next call yield hE ⟨hbin, hcmp, hbeq, heqs, hconv, hmn, hmx, hnat, hnadd, hnsub, hnmul, hidx, hget, hsub, hsubP, hsubS, hgetS, hput, happ, hrep, hoget, hosub, hoset, hoapp, horep, hrget, hrlen, hrapp, htoNat, hnn, hlt, hle, hfit, hlenOk, hmget, hmhas, hmput, hmdel, hmlen, hkget, hkhas, hkput, hnext, hcall, hyield⟩ K hK => by
    conv => cbv
    refine loop_h [3, 4, 6, 12, 13, 14, 15, 16, 17, 18, 19, 20, 21, 22] (fun st : Int × Int × Int => [(12, i64 st.1), (3, i64 st.2.1), (4, i64 st.2.2)]) (fun st => 0 ≤ st.1 ∧ st.1 ≤ N ∧ 0 ≤ st.2.2 ∧ st.2.2 ≤ st.1 ∧ lgF st.2.1 st.2.2 (l.drop st.1.toNat) = lgF 0 0 l) (fun st => (N - st.1).toNat) (0, 0, 0) (by cbv) ⟨Int.le_refl _, by dsimp only; omega, by dsimp only; omega, by dsimp only; omega, rfl⟩ ?_
    rintro ⟨k, best, n⟩ ⟨k0, k1, n0, n1, kf⟩ KN hKN
    dsimp only at k0 k1 n0 n1 kf
    constructor
    conv => cbv
    refine b_lt hcmp (fun h => ?_) (fun h => ?_)
    · simp only [hnat] at h
      conv => cbv
      refine ⟨nn_of hnn (by omega), ltn_of hlt hnat (by omega), ?_⟩
      obtain ⟨v, hv⟩ : ∃ v, l[k.toNat]? = some v := ⟨_, List.getElem?_eq_getElem (by omega)⟩
      refine get_of hget (.bool v) (by rw [hidx, hc]; simpa using bPV_get hv) ?_
      have hd : l.drop k.toNat = v :: l.drop (k + 1).toNat := by
        have h' := List.getElem?_eq_some_iff.1 hv
        rw [List.drop_eq_getElem_cons h'.1, h'.2, show (k + 1).toNat = k.toNat + 1 by omega]
      have e1 : bin .add .i64 k 1 = k + 1 := add_i hbin (by omega) (by omega)
      have e2 : bin .add .i64 n 1 = n + 1 := add_i hbin (by omega) (by omega)
      rw [hd] at kf
      cases v with
      | false =>
        conv => cbv
        rw [e1, e2]
        refine hKN (k + 1, mx best (n + 1), n + 1) _ ⟨by dsimp only; omega, by dsimp only; omega, by dsimp only; omega, by dsimp only; omega, by simp only [hmx]; exact kf⟩ (by dsimp only; omega) ?_
        generalize k + 1 = k'
        generalize n + 1 = n'
        generalize mx best n' = b'
        cbv
      | true =>
        conv => cbv
        rw [e1]
        refine hKN (k + 1, mx best 0, 0) _ ⟨by dsimp only; omega, by dsimp only; omega, by dsimp only; omega, by dsimp only; omega, by simp only [hmx]; exact kf⟩ (by dsimp only; omega) ?_
        generalize k + 1 = k'
        generalize mx best 0 = b'
        cbv
    · simp only [hnat] at h
      conv => cbv
      refine hK _ _ _ _ Wk.refl ⟨best, ?_, rfl, rfl⟩
      rw [← kf, List.drop_eq_nil_of_le (by omega)]
      rfl
abbrev iVec (d : List PV) : AO := .vec (.pv d) 3 1
theorem c_fList (l : List Bool) (c : List PV) (hc : c = bPV l) (N : Nat) (hN : N = l.length) (hN2 : N ≤ 65536) (free : Int) :
    AC prog 28 [sv (.ptr 1 0)] (frH c N free) (fun r H => ∃ d m, d = iPV (idxs l) ∧ m = (idxs l).length ∧ r = sv (.vec 2 m) ∧ H = frH c N free ++ [iVec d]) :=
  AC_fv (hs := []) tyOk mixed func28 (by kernel_rfl) fun bin cmp beq eqs conv mn mx nat nadd nsub nmul idx get sub subP subS getS put app rep oget osub oset oapp orep rget rlen rapp toNat nn lt le fit lenOk mget mhas mput mdel mlen kget khas kput next call yield hE ⟨hbin, hcmp, hbeq, heqs, hconv, hmn, hmx, hnat, hnadd, hnsub, hnmul, hidx, hget, hsub, hsubP, hsubS, hgetS, hput, happ, hrep, hoget, hosub, hoset, hoapp, horep, hrget, hrlen, hrapp, htoNat, hnn, hlt, hle, hfit, hlenOk, hmget, hmhas, hmput, hmdel, hmlen, hkget, hkhas, hkput, hnext, hcall, hyield⟩ K hK => by
    conv => cbv
    refine loop_intro [3, 4, 5, 11, 12, 13, 14, 15, 16, 17, 18, 19, 20, 21] (fun st : Int × Nat × List PV => [(11, i64 st.1), (3, sv (.vec 2 st.2.1))]) (fun st => frH c N free ++ [iVec st.2.2]) (fun st => 0 ≤ st.1 ∧ st.1 ≤ N ∧ st.2.1 = (idxs (l.take st.1.toNat)).length ∧ st.2.2 = iPV (idxs (l.take st.1.toNat))) (fun st => (N - st.1).toNat) (0, 0, [])
      (Wk.trans (Wk_nilT 3 3 1 (Nat.le_add_left _ _) rfl) (Wk_fg (by cbv))) ⟨Int.le_refl _, by dsimp only; omega, rfl, rfl⟩ ?_
    rintro ⟨k, m, d⟩ ⟨k0, k1, hm, hd⟩ KN hKN
    dsimp only at k0 k1 hm hd
    constructor
    conv => cbv
    refine b_lt hcmp (fun h => ?_) (fun h => ?_)
    · simp only [hnat] at h
      have hml : m ≤ N := by
        have : (idxs (l.take k.toNat)).length ≤ (l.take k.toNat).length := idxI_len 0 (l.take k.toNat)
        simp only [List.length_take] at this
        omega
      conv => cbv
      refine ⟨nn_of hnn (by omega), ltn_of hlt hnat (by omega), ?_⟩
      obtain ⟨v, hv⟩ : ∃ v, l[k.toNat]? = some v := ⟨_, List.getElem?_eq_getElem (by omega)⟩
      refine get_of hget (.bool v) (by rw [hidx, hc]; simpa using bPV_get hv) ?_
      have e1 : bin .add .i64 k 1 = k + 1 := add_i hbin (by omega) (by omega)
      have et : idxs (l.take (k + 1).toNat) = idxs (l.take k.toNat) ++ idxI k [v] := by
        rw [show (k + 1).toNat = k.toNat + 1 by omega, take_snoc hv]
        show idxI 0 _ = _
        rw [idxI_app]
        congr 2
        simp; omega
      cases v with
      | false =>
        conv => cbv
        rw [e1]
        refine hKN (k + 1, m, d) _ _ ⟨by dsimp only; omega, by dsimp only; omega, by dsimp only; rw [et]; simpa [idxI] using hm, by dsimp only; rw [et]; simpa [idxI] using hd⟩ (by dsimp only; omega) ?_
        generalize k + 1 = k'
        exact Wk_fg (by cbv)
      | true =>
        conv => cbv
        refine ⟨len_of hlenOk (by simp [VC.svs, hd, iPV_len, hm]), len_of hlenOk (by simp [VC.svs]), fit_of hfit (by simp only [hnat, hnadd]; omega), ?_⟩
        simp only [hnadd, happ, e1]
        refine hKN (k + 1, m + 1, d ++ [.int .i64 k]) _ _ ⟨by dsimp only; omega, by dsimp only; omega, by dsimp only; rw [et]; simp [idxI, hm], by dsimp only; rw [et, iPV_app, hd]; simp [idxI, iPV]⟩ (by dsimp only; omega) ?_
        generalize k + 1 = k'
        generalize d ++ [PV.int .i64 k] = d'
        generalize m + 1 = m'
        exact Wk_of [0, 1, 4] rfl rfl rfl (by cbv)
    · simp only [hnat] at h
      conv => cbv
      have ek : l.take k.toNat = l := List.take_of_length_le (by omega)
      rw [ek] at hm hd
      exact hK _ _ _ _ Wk.refl ⟨d, m, hd, hm, rfl, rfl⟩
end Go.Proofs.Try
