/- The walk: the law of frames, its deeds. -/
import Derived.Test.YtdboiflfehpjhaaRf5c
set_option linter.unusedVariables false
set_option linter.unusedSimpArgs false
namespace Go.Proofs.Try
open Go Bm
set_option maxRecDepth 100000
set_option maxHeartbeats 1000000
theorem cnt_take {l : List Bool} {n each i e : Int} (h1 : 1 ≤ n) (h2 : 1 ≤ each) (h : TakeR l n each i e) (he : e = 0) : 0 ≤ i ∧ i + n ≤ l.length ∧ FreeRun l i n ∧ ((idxs (setR l i.toNat n.toNat true)).length : Int) = (idxs l).length + n := by
  rcases h with ⟨_, m, rfl, b, c, _⟩ | ⟨a, _⟩
  · have h0 : 0 ≤ (m : Int) * each := Int.mul_nonneg (by omega) (by omega)
    obtain ⟨p1, p2, p3, p4⟩ := put_idxs h0 (by omega) b c
    refine ⟨h0, b, c, ?_⟩
    rw [p4, p1]
    simp only [List.length_append, rngI_len]
    omega
  · omega
theorem cnt_give {l : List Bool} {i n e : Int} (h : GiveR l i n e) (he : e = 0) : 0 ≤ i ∧ 0 ≤ n ∧ i + n ≤ l.length ∧ ((idxs (setR l i.toNat n.toNat false)).length : Int) = (idxs l).length - n := by
  rcases h with ⟨a, _⟩ | ⟨a, _⟩ | ⟨a, _⟩ | ⟨_, b, c, d⟩ <;> try omega
  obtain ⟨g1, g2, g3⟩ := give_split (l := l) c.1 (n := n) (by omega) (by omega)
  have h1 := g2.2 d
  have h2 : ((idxs l).filter (inR i n)).length + ((idxs l).filter (fun x => !inR i n x)).length = (idxs l).length := by
    have : ∀ L : List Int, (L.filter (inR i n)).length + (L.filter (fun x => !inR i n x)).length = L.length := by
      intro L
      induction L with
      | nil => rfl
      | cons x L ih => cases hx : inR i n x <;> simp [hx] <;> omega
    exact this _
  rw [← g1]
  exact ⟨c.1, by omega, by omega, by omega⟩
theorem TakeSz_uniq {l : List Bool} {s i e i' e' : Int} (h : TakeSz l s i e) (h' : TakeSz l s i' e') : i = i' ∧ e = e' := by
  have hr := runS_ge s
  rcases h with ⟨a, b, c⟩ | ⟨a, b⟩ <;> rcases h' with ⟨a', b', c'⟩ | ⟨a', b'⟩
  · omega
  · exact (a' c).elim
  · exact (a c').elim
  · exact TakeR_uniq (by omega) b b'
theorem TakeMn_uniq {l : List Bool} {n i e i' e' : Int} (h : TakeMn l n i e) (h' : TakeMn l n i' e') : i = i' ∧ e = e' := by
  rcases h with ⟨a, b, c⟩ | ⟨a, b⟩ <;> rcases h' with ⟨a', b', c'⟩ | ⟨a', b'⟩
  · omega
  · omega
  · omega
  · exact TakeR_uniq (by omega) b b'
theorem TakeSz_ok {l : List Bool} {s i e : Int} (h : TakeSz l s i e) (he : e = 0) : 1 ≤ runS s ∧ TakeR l (runS s) (runS s) i e := by
  have hr := runS_ge s
  rcases h with ⟨a, b, c⟩ | ⟨a, b⟩
  · omega
  · exact ⟨by omega, b⟩
theorem TakeMn_ok {l : List Bool} {n i e : Int} (h : TakeMn l n i e) (he : e = 0) : 1 ≤ n ∧ TakeR l n 1 i e := by
  rcases h with ⟨a, b, c⟩ | ⟨a, b⟩
  · omega
  · exact ⟨a, b⟩
def tkP (a : Int × Int) : List PV := [.int .i64 a.1, .int .i64 a.2]
theorem tkP_len (a : Int × Int) : (tkP a).length = 2 := rfl
abbrev tVec (tc : List PV) : AO := .vec (.pv tc) 130 2
abbrev d5V (k a b : Int) : AV := .c (.agg [.int .i64 k, .int .i64 a, .int .i64 b])
abbrev aF (N : Int) (j m : Nat) : CV := .agg [.int .i64 N, .vec j m]
theorem c_does5 (l : List Bool) (c : List PV) (hc : c = bPV l) (N : Nat) (hN : N = l.length) (hN2 : N ≤ 65536) (Z : Int) (hZ : Z = N) (d : List PV) (hd : d = iPV (idxs l)) (m : Nat) (hm : m = (idxs l).length) (free : Int) (hf : free = Z - m)
    (tl : List (Int × Int)) (tc : List PV) (htc : tc = encL tkP tl) (p : Nat) (hp : p = tl.length) (hp2 : p ≤ 1000) (k a b : Int) (hb : -9223372036854775808 ≤ b ∧ b ≤ 9223372036854775807) :
    AC prog 22 [sv (.ptr 1 0), .c (.agg [.int .i64 Z, .vec 2 m]), sv (.vec 3 p), d5V k a b] (frH c N free ++ [iVec d, tVec tc])
      (fun r H => ∃ l' c' m' free', l'.length = l.length ∧ c' = bPV l' ∧ m' = (idxs l').length ∧ free' = Z - m' ∧
        ((l' = l ∧ r = .tup [aF Z 2 m, .s (.vec 3 p), .s (.bool true)] ∧ H = frH c' N free' ++ [iVec d, tVec tc]) ∨
         (∃ d', d' = iPV (idxs l') ∧ r = .tup [aF Z 4 m', .s (.vec 3 p), .s (.bool true)] ∧ H = frH c' N free' ++ [iVec d, tVec tc, iVec d']) ∨
         (∃ d' tl' tc' p', d' = iPV (idxs l') ∧ tc' = encL tkP tl' ∧ p' = tl'.length ∧ p' = p + 1 ∧ r = .tup [aF Z 4 m', .s (.vec 5 p'), .s (.bool true)] ∧ H = frH c' N free' ++ [iVec d, .gone, iVec d', tVec tc']))) :=
  AC_fv (hs := [(19, .op 0 (.op 1 (.op 2 (.op 3 (.op 4 (.op 5 (.op 6 (.op 8 (.op 7 (.op 9 (.op 10 (.op 11 (.op 12 (.done)))))))))))))), (25, .op 0 (.op 1 (.op 2 (.op 3 (.op 4 (.op 5 (.op 6 (.op 8 (.op 7 (.op 9 (.op 10 (.op 11 (.op 12 (.done)))))))))))))), (26, .op 0 (.op 1 (.op 2 (.op 3 (.op 4 (.op 6 (.op 7 (.op 8 (.op 5 (.op 9 (.op 10 (.op 11 (.op 12 (.op 13 (.done)))))))))))))))]) tyOk mixed func22 (by kernel_rfl) fun bin cmp beq eqs conv mn mx nat nadd nsub nmul idx get sub subP subS getS put app rep oget osub oset oapp orep rget rlen rapp toNat nn lt le fit lenOk mget mhas mput mdel mlen kget khas kput next call yield hE ⟨hbin, hcmp, hbeq, heqs, hconv, hmn, hmx, hnat, hnadd, hnsub, hnmul, hidx, hget, hsub, hsubP, hsubS, hgetS, hput, happ, hrep, hoget, hosub, hoset, hoapp, horep, hrget, hrlen, hrapp, htoNat, hnn, hlt, hle, hfit, hlenOk, hmget, hmhas, hmput, hmdel, hmlen, hkget, hkhas, hkput, hnext, hcall, hyield⟩ K hK => by
    have hml : m ≤ l.length := by rw [hm]; exact idxI_len 0 l
    have finA : ∀ c' f' x, c' = bPV l → f' = free → x = true → ∀ ex, K (.tup [aF Z 2 m, .s (.vec 3 p), .s (.bool x)]) (frH c' N f' ++ [iVec d, tVec tc] ++ ex) := fun c' f' x e1 e2 e3 ex => by
      subst e2; subst e3
      exact hK _ _ _ _ (Wk_of [0, 1, 2, 3] rfl rfl rfl (by cbv)) ⟨l, c', m, f', rfl, e1, hm, hf, .inl ⟨rfl, rfl, rfl⟩⟩
    have finB : ∀ l' c' f' d' q' x, l'.length = l.length → c' = bPV l' → q' = (idxs l').length → f' = Z - q' → d' = iPV (idxs l') → x = true → ∀ jd ex σ, nodupB σ = true → isId 4 0 σ = true → pickL (frH c' N f' ++ [iVec d, tVec tc] ++ ex) σ = some ((frH c' N f' ++ [iVec d, tVec tc, iVec d']).map (AO.ren (gI σ (frH c' N f' ++ [iVec d, tVec tc] ++ ex).length))) → Fg (gI σ (frH c' N f' ++ [iVec d, tVec tc] ++ ex).length) [.tup [aF Z jd q', .s (.vec 3 p), .s (.bool true)]] [.tup [aF Z 4 q', .s (.vec 3 p), .s (.bool true)]] →
        K (.tup [aF Z jd q', .s (.vec 3 p), .s (.bool x)]) (frH c' N f' ++ [iVec d, tVec tc] ++ ex) := fun l' c' f' d' q' x e1 e2 e3 e4 e5 e6 jd ex σ h1 h2 h3 h4 => by
      subst e6
      exact hK _ _ _ _ (Wk_of σ h1 h2 h3 h4) ⟨l', c', q', f', e1, e2, e3, e4, .inr (.inl ⟨d', e5, rfl, rfl⟩)⟩
    conv => cbv
    refine b_eq hcmp (fun hk => ?_) (fun hk0 => ?_)
    · obtain rfl := hk
      conv => cbv
      refine b_eq hcmp (fun _ => ?_) (fun h => (h rfl).elim)
      conv => cbv
      refine call_fv hcall [] (c_rRun a) rfl rfl rfl rfl ?_
      rintro _ _ ⟨x, hx, rfl, rfl⟩
      constructor
      conv => cbv
      refine call_fv hcall [2] (c_rTakeSz l d hd m hm Z (by omega) (by omega) a) rfl rfl rfl rfl ?_
      rintro _ _ ⟨i, e, hT, (⟨he, rfl, rfl⟩|⟨he, o, q, ho, hq, rfl, rfl⟩)⟩
      constructor
      conv => cbv
      · refine b_eq hcmp (fun h => by omega) (fun _ => ?_)
        conv => cbv
        refine b_eq hcmp (fun h => by omega) (fun _ => ?_)
        conv => cbv
        refine call_fv hcall [0, 1] (c_fTake l c hc N hN hN2 free a (by omega)) rfl rfl rfl rfl ?_
        rintro _ _ ⟨i', e', l', c', f', hT', hl', hc', hf', rfl, rfl⟩
        obtain ⟨rfl, rfl⟩ := TakeSz_uniq hT hT'
        rw [if_neg he] at hl' hf'
        subst hl'
        constructor
        conv => cbv
        refine b_eq hcmp (fun h => (he h).elim) (fun h => ?_)
        conv => cbv
        refine b_eq hcmp (fun _ => ?_) (fun h => (h rfl).elim)
        conv => cbv
        exact finA _ _ _ hc' hf' (by rw [hcmp]; simp [realCmp]) _
      · constructor
        conv => cbv
        refine b_eq hcmp (fun h => by omega) (fun _ => ?_)
        conv => cbv
        refine b_eq hcmp (fun h => by omega) (fun _ => ?_)
        conv => cbv
        refine call_fv hcall [0, 1] (c_fTake l c hc N hN hN2 free a (by omega)) rfl rfl rfl rfl ?_
        rintro _ _ ⟨i', e', l', c', f', hT', hl', hc', hf', rfl, rfl⟩
        obtain ⟨rfl, rfl⟩ := TakeSz_uniq hT hT'
        rw [if_pos he] at hl' hf'
        have hR : 1 ≤ runS a ∧ TakeR l (runS a) (runS a) i e := TakeSz_ok hT he
        have hcnt := cnt_take hR.1 hR.1 hR.2 he
        have hlen : l'.length = l.length := by rw [hl']; exact setR_len (by omega)
        constructor
        conv => cbv
        rw [← hl'] at ho hq hcnt
        refine b_eq hcmp (fun h => ?_) (fun h => (h he).elim)
        conv => cbv
        refine ⟨len_of hlenOk (by simp only [VC.svs, List.length_map, htc, encL_len tkP_len, hp]), len_of hlenOk (by simp [VC.svs]), fit_of hfit (by simp only [hnat, hnadd]; omega), ?_⟩
        refine b_eq hcmp (fun _ => ?_) (fun h => (h rfl).elim)
        conv => cbv
        simp only [hnadd, happ]
        have hpe : (encL tkP (tl ++ [(i, x)])) = tc ++ [.int .i64 i, .int .i64 x] := by rw [encL_app, htc]; rfl
        have hxt : cmp .eql e e = true := by rw [hcmp]; simp [realCmp]
        rw [hxt]
        exact hK _ _ _ _ (Wk_of [0, 1, 2, 3, 7, 10] rfl rfl rfl (by cbv)) ⟨l', c', q, f', hlen, hc', hq, by omega, .inr (.inr ⟨o, tl ++ [(i, x)], _, p + 1, ho, hpe.symm, by simp [hp], rfl, rfl, rfl⟩)⟩
    · conv => cbv
      refine b_eq hcmp (fun hk => ?_) (fun hk1 => ?_)
      · obtain rfl := hk
        conv => cbv
        refine call_fv hcall [] (c_rRun a) rfl rfl rfl rfl ?_
        rintro _ _ ⟨x, hx, rfl, rfl⟩
        constructor
        conv => cbv
        have hxr := runS_ge a
        refine call_fv hcall [2] (c_rTakeSz l d hd m hm Z (by omega) (by omega) a) rfl rfl rfl rfl ?_
        rintro _ _ ⟨i0, e0, hT0, (⟨he0, rfl, rfl⟩|⟨he0, o0, q0, ho0, hq0, rfl, rfl⟩)⟩
        constructor
        conv => cbv
        · refine b_eq hcmp (fun h => ?_) (fun h => (h rfl).elim)
          conv => cbv
          refine call_fv hcall [2] (c_rTakeMn l d hd m hm Z (by omega) (by omega) a) rfl rfl rfl rfl ?_
          rintro _ _ ⟨i, e, hT, (⟨he, rfl, rfl⟩|⟨he, o, q, ho, hq, rfl, rfl⟩)⟩
          constructor
          conv => cbv
          · refine b_eq hcmp (fun h => ?_) (fun h => (h rfl).elim)
            conv => cbv
            refine call_fv hcall [0, 1] (c_fTakeMany l c hc N hN hN2 free a (by omega)) rfl rfl rfl rfl ?_
            rintro _ _ ⟨i', e', l', c', f', hT', hl', hc', hf', rfl, rfl⟩
            obtain ⟨rfl, rfl⟩ := TakeMn_uniq hT hT'
            rw [if_neg he] at hl' hf'
            subst hl'
            constructor
            conv => cbv
            refine b_eq hcmp (fun h => (he h).elim) (fun h => ?_)
            conv => cbv
            refine b_eq hcmp (fun _ => ?_) (fun h => (h rfl).elim)
            conv => cbv
            exact finA _ _ _ hc' hf' (by rw [hcmp]; simp [realCmp]) _
          · constructor
            conv => cbv
            refine b_eq hcmp (fun h => ?_) (fun h => (h rfl).elim)
            conv => cbv
            refine call_fv hcall [0, 1] (c_fTakeMany l c hc N hN hN2 free a (by omega)) rfl rfl rfl rfl ?_
            rintro _ _ ⟨i', e', l', c', f', hT', hl', hc', hf', rfl, rfl⟩
            obtain ⟨rfl, rfl⟩ := TakeMn_uniq hT hT'
            rw [if_pos he] at hl' hf'
            have hR : 1 ≤ a ∧ TakeR l a 1 i e := TakeMn_ok hT he
            have hcnt := cnt_take hR.1 (by omega) hR.2 he
            have hlen : l'.length = l.length := by rw [hl']; exact setR_len (by omega)
            constructor
            conv => cbv
            rw [← hl'] at ho hq hcnt
            refine b_eq hcmp (fun h => ?_) (fun h => (h he).elim)
            conv => cbv
            refine ⟨len_of hlenOk (by simp only [VC.svs, List.length_map, htc, encL_len tkP_len, hp]), len_of hlenOk (by simp [VC.svs]), fit_of hfit (by simp only [hnat, hnadd]; omega), ?_⟩
            refine b_eq hcmp (fun _ => ?_) (fun h => (h rfl).elim)
            conv => cbv
            simp only [hnadd, happ]
            have hpe : (encL tkP (tl ++ [(i, a)])) = tc ++ [.int .i64 i, .int .i64 a] := by rw [encL_app, htc]; rfl
            have hxt : cmp .eql e e = true := by rw [hcmp]; simp [realCmp]
            rw [hxt]
            exact hK _ _ _ _ (Wk_of [0, 1, 2, 3, 8, 10] rfl rfl rfl (by cbv)) ⟨l', c', q, f', hlen, hc', hq, by omega, .inr (.inr ⟨o, tl ++ [(i, a)], _, p + 1, ho, hpe.symm, by simp [hp], rfl, rfl, rfl⟩)⟩
        · constructor
          conv => cbv
          refine b_eq hcmp (fun h => ?_) (fun h => (h rfl).elim)
          conv => cbv
          refine call_fv hcall [2] (c_rTakeMn l d hd m hm Z (by omega) (by omega) a) rfl rfl rfl rfl ?_
          rintro _ _ ⟨i, e, hT, (⟨he, rfl, rfl⟩|⟨he, o, q, ho, hq, rfl, rfl⟩)⟩
          constructor
          conv => cbv
          · refine b_eq hcmp (fun h => ?_) (fun h => (h rfl).elim)
            conv => cbv
            refine call_fv hcall [0, 1] (c_fTakeMany l c hc N hN hN2 free a (by omega)) rfl rfl rfl rfl ?_
            rintro _ _ ⟨i', e', l', c', f', hT', hl', hc', hf', rfl, rfl⟩
            obtain ⟨rfl, rfl⟩ := TakeMn_uniq hT hT'
            rw [if_neg he] at hl' hf'
            subst hl'
            constructor
            conv => cbv
            refine b_eq hcmp (fun h => (he h).elim) (fun h => ?_)
            conv => cbv
            refine b_eq hcmp (fun _ => ?_) (fun h => (h rfl).elim)
            conv => cbv
            exact finA _ _ _ hc' hf' (by rw [hcmp]; simp [realCmp]) _
          · constructor
            conv => cbv
            refine b_eq hcmp (fun h => ?_) (fun h => (h rfl).elim)
            conv => cbv
            refine call_fv hcall [0, 1] (c_fTakeMany l c hc N hN hN2 free a (by omega)) rfl rfl rfl rfl ?_
            rintro _ _ ⟨i', e', l', c', f', hT', hl', hc', hf', rfl, rfl⟩
            obtain ⟨rfl, rfl⟩ := TakeMn_uniq hT hT'
            rw [if_pos he] at hl' hf'
            have hR : 1 ≤ a ∧ TakeR l a 1 i e := TakeMn_ok hT he
            have hcnt := cnt_take hR.1 (by omega) hR.2 he
            have hlen : l'.length = l.length := by rw [hl']; exact setR_len (by omega)
            constructor
            conv => cbv
            rw [← hl'] at ho hq hcnt
            refine b_eq hcmp (fun h => ?_) (fun h => (h he).elim)
            conv => cbv
            refine ⟨len_of hlenOk (by simp only [VC.svs, List.length_map, htc, encL_len tkP_len, hp]), len_of hlenOk (by simp [VC.svs]), fit_of hfit (by simp only [hnat, hnadd]; omega), ?_⟩
            refine b_eq hcmp (fun _ => ?_) (fun h => (h rfl).elim)
            conv => cbv
            simp only [hnadd, happ]
            have hpe : (encL tkP (tl ++ [(i, a)])) = tc ++ [.int .i64 i, .int .i64 a] := by rw [encL_app, htc]; rfl
            have hxt : cmp .eql e e = true := by rw [hcmp]; simp [realCmp]
            rw [hxt]
            exact hK _ _ _ _ (Wk_of [0, 1, 2, 3, 9, 11] rfl rfl rfl (by cbv)) ⟨l', c', q, f', hlen, hc', hq, by omega, .inr (.inr ⟨o, tl ++ [(i, a)], _, p + 1, ho, hpe.symm, by simp [hp], rfl, rfl, rfl⟩)⟩
      · conv => cbv
        refine b_eq hcmp (fun hk => ?_) (fun hk2 => ?_)
        · obtain rfl := hk
          conv => cbv
          refine call_fv hcall [2] (c_rGive l d hd m hm Z (by omega) (by omega) b a) rfl rfl rfl rfl ?_
          rintro _ _ ⟨e, hT, (⟨he, rfl, rfl⟩|⟨he, o, q, ho, hq, rfl, rfl⟩)⟩
          constructor
          conv => cbv
          · refine call_fv hcall [0, 1] (c_fGive l c hc N hN hN2 free b a (by omega)) rfl rfl rfl rfl ?_
            rintro _ _ ⟨e', l', c', f', hT', hl', hc', hf', rfl, rfl⟩
            obtain rfl := GiveR_uniq hT hT'
            rw [if_neg he] at hl' hf'
            subst hl'
            constructor
            conv => cbv
            exact finA _ _ _ hc' hf' (by rw [hcmp]; simp [realCmp]) _
          · constructor
            conv => cbv
            refine call_fv hcall [0, 1] (c_fGive l c hc N hN hN2 free b a (by omega)) rfl rfl rfl rfl ?_
            rintro _ _ ⟨e', l', c', f', hT', hl', hc', hf', rfl, rfl⟩
            obtain rfl := GiveR_uniq hT hT'
            rw [if_pos he] at hl' hf'
            have hcnt := cnt_give hT he
            have hlen : l'.length = l.length := by rw [hl']; exact setR_len (by omega)
            constructor
            conv => cbv
            rw [← hl'] at ho hq hcnt
            exact finB l' _ _ _ _ _ hlen hc' hq (by omega) ho (by rw [hcmp]; simp [realCmp]) _ _ [0, 1, 2, 3, 7] rfl rfl rfl (by cbv)
        · conv => cbv
          refine b_eq hcmp (fun hk => ?_) (fun hk3 => ?_)
          · obtain rfl := hk
            conv => cbv
            refine b_eq hcmp (fun h => ?_) (fun h => ?_)
            · conv => cbv
              exact finA _ _ _ hc rfl rfl _
            · simp only [hnat] at h
              conv => cbv
              refine call_fv hcall [] (c_place5 b (nat p) (by simp only [hnat]; omega) hb) rfl rfl rfl rfl ?_
              rintro _ _ ⟨x, hx0, hx1, rfl, rfl⟩
              constructor
              conv => cbv
              simp only [hnat] at hx1
              refine ⟨nn_of hnn hx0, ltn_of hlt hnat hx1, ?_⟩
              obtain ⟨y, hy⟩ : ∃ y, tl[x.toNat]? = some y := ⟨_, List.getElem?_eq_getElem (by omega)⟩
              refine sub_of hsub (tkP y) (by rw [hidx, htc]; exact encL_sub tkP_len hy) ?_
              conv => cbv
              refine call_fv hcall [2] (c_rGive l d hd m hm Z (by omega) (by omega) y.1 y.2) rfl rfl rfl rfl ?_
              rintro _ _ ⟨e, hT, (⟨he, rfl, rfl⟩|⟨he, o, q, ho, hq, rfl, rfl⟩)⟩
              constructor
              conv => cbv
              · refine call_fv hcall [0, 1] (c_fGive l c hc N hN hN2 free y.1 y.2 (by omega)) rfl rfl rfl rfl ?_
                rintro _ _ ⟨e', l', c', f', hT', hl', hc', hf', rfl, rfl⟩
                obtain rfl := GiveR_uniq hT hT'
                rw [if_neg he] at hl' hf'
                subst hl'
                constructor
                conv => cbv
                exact finA _ _ _ hc' hf' (by rw [hcmp]; simp [realCmp]) _
              · constructor
                conv => cbv
                refine call_fv hcall [0, 1] (c_fGive l c hc N hN hN2 free y.1 y.2 (by omega)) rfl rfl rfl rfl ?_
                rintro _ _ ⟨e', l', c', f', hT', hl', hc', hf', rfl, rfl⟩
                obtain rfl := GiveR_uniq hT hT'
                rw [if_pos he] at hl' hf'
                have hcnt := cnt_give hT he
                have hlen : l'.length = l.length := by rw [hl']; exact setR_len (by omega)
                constructor
                conv => cbv
                rw [← hl'] at ho hq hcnt
                exact finB l' _ _ _ _ _ hlen hc' hq (by omega) ho (by rw [hcmp]; simp [realCmp]) _ _ [0, 1, 2, 3, 8] rfl rfl rfl (by cbv)
          · conv => cbv
            refine call_fv hcall [0, 1] (c_fIs l c hc N hN hN2 free a) rfl rfl rfl rfl ?_
            rintro _ _ ⟨b1, hb1, rfl, rfl⟩
            constructor
            conv => cbv
            refine call_fv hcall [2] (c_rIs (idxs l) d hd m hm (by omega) Z a) rfl rfl rfl rfl ?_
            rintro _ _ ⟨b2, hb2, rfl, rfl⟩
            have hbb : b1 = b2 := by rw [Bool.eq_iff_iff, hb1, hb2]
            subst hbb
            constructor
            conv => cbv
            exact finA _ _ _ hc rfl (by rw [hbeq]; simp) _
end Go.Proofs.Try
