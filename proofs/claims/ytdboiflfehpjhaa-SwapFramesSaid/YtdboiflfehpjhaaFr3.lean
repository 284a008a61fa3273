/- The walk: package frames, taking. -/
import Derived.Test.YtdboiflfehpjhaaFr2
set_option linter.unusedVariables false
set_option linter.unusedSimpArgs false
namespace Go.Proofs.Try
open Go Bm
set_option maxRecDepth 100000
set_option maxHeartbeats 400000
def TakeR (l : List Bool) (n each : Int) (i e : Int) : Prop :=
  (e = 0 ∧ ∃ m : Nat, i = m * each ∧ i + n ≤ l.length ∧ FreeRun l i n ∧ ∀ m' : Nat, m' < m → ¬ FreeRun l (m' * each) n) ∨
  (e = 6 ∧ i = 0 ∧ ∀ m : Nat, m * each + n ≤ l.length → ¬ FreeRun l (m * each) n)
theorem c_runs (c : List PV) (N : Nat) (free n each : Int) : AC prog 155 [sv (.ptr 1 0), i64 n, i64 each] (frH c N free)
    (fun r H => r = sv (.fn 169 [2, 3, 4]) ∧ H = frH c N free ++ [.cells [.ptr 1 0] 42, .cells [.int .i64 n] 3, .cells [.int .i64 each] 3]) :=
  AC_fv (hs := []) tyOk mixed func155 (by kernel_rfl) fun bin cmp beq eqs conv mn mx nat nadd nsub nmul idx get sub subP subS getS put app rep oget osub oset oapp orep rget rlen rapp toNat nn lt le fit lenOk mget mhas mput mdel mlen kget khas kput next call yield hE ⟨hbin, hcmp, hbeq, heqs, hconv, hmn, hmx, hnat, hnadd, hnsub, hnmul, hidx, hget, hsub, hsubP, hsubS, hgetS, hput, happ, hrep, hoget, hosub, hoset, hoapp, horep, hrget, hrlen, hrapp, htoNat, hnn, hlt, hle, hfit, hlenOk, hmget, hmhas, hmput, hmdel, hmlen, hkget, hkhas, hkput, hnext, hcall, hyield⟩ K hK => by
    conv => cbv
    exact hK _ _ _ _ Wk.refl ⟨rfl, rfl⟩
theorem c_take (l : List Bool) (c : List PV) (hc : c = bPV l) (N : Nat) (hN : N = l.length) (hN2 : N ≤ 65536) (free n each : Int) (hf : -1000000 ≤ free ∧ free ≤ 1000000) (h1 : 1 ≤ n) (h2 : each = n ∨ each = 1) :
    AC prog 128 [sv (.ptr 1 0), i64 n, i64 each] (frH c N free)
      (fun r H => ∃ i e l' c' f', TakeR l n each i e ∧ l' = (if e = 0 then setR l i.toNat n.toNat true else l) ∧ c' = bPV l' ∧ f' = (if e = 0 then free - n else free) ∧ r = .tup [.s (.int .i64 i), .s (.int .i64 e)] ∧ H = frH c' N f') :=
  AC_fv (hs := []) tyOk mixed func128 (by kernel_rfl) fun bin cmp beq eqs conv mn mx nat nadd nsub nmul idx get sub subP subS getS put app rep oget osub oset oapp orep rget rlen rapp toNat nn lt le fit lenOk mget mhas mput mdel mlen kget khas kput next call yield hE ⟨hbin, hcmp, hbeq, heqs, hconv, hmn, hmx, hnat, hnadd, hnsub, hnmul, hidx, hget, hsub, hsubP, hsubS, hgetS, hput, happ, hrep, hoget, hosub, hoset, hoapp, horep, hrget, hrlen, hrapp, htoNat, hnn, hlt, hle, hfit, hlenOk, hmget, hmhas, hmput, hmdel, hmlen, hkget, hkhas, hkput, hnext, hcall, hyield⟩ K hK => by
    conv => cbv
    refine call_fv hcall [0, 1] (c_runs c N free n each) rfl rfl rfl rfl ?_
    rintro _ _ ⟨rfl, rfl⟩
    constructor
    conv => cbv
    refine call_in hE tyOk mixed func169 (hs := [(3, .op 0 (.op 1 (.op 2 (.op 4 (.op 3 (.op 5 (.op 6 (.op 7 (.op 8 (.op 9 (.op 10 (.op 11 (.done)))))))))))))]) (by kernel_rfl) fun K1 hK1 => ?_
    constructor
    conv => cbv
    refine loop_h [5, 6, 7, 8, 9, 10, 11, 12, 13, 14, 15, 16, 17, 18, 19, 20, 21, 22, 23, 24] (fun i : Int => [(5, i64 i)]) (fun i => 0 ≤ i ∧ i ≤ 1000000 ∧ ∃ m : Nat, i = m * each ∧ ∀ m' : Nat, m' < m → ¬ FreeRun l (m' * each) n) (fun i => (1000000 - i).toNat) 0 (by cbv) ⟨by omega, by omega, 0, by simp, fun m h => by omega⟩ ?_
    rintro i ⟨i0, i1, m, hm, hno⟩ KN hKN
    constructor
    conv => cbv
    refine call_fv hcall [0, 1] (c_fIn c N hN2 free i n (fun _ _ => by omega)) rfl rfl rfl rfl ?_
    rintro _ _ ⟨b, hb, rfl, rfl⟩
    constructor
    conv => cbv
    cases b with
    | false =>
      have hb : ¬ (0 ≤ i ∧ i < N ∧ n ≤ N - i) := of_decide_eq_false hb.symm
      conv => cbv
      refine hK1 _ _ _ _ Wk.refl ?_
      conv => cbv
      refine hK _ _ _ _ (Wk_of [0, 1] rfl rfl rfl (by cbv)) ⟨0, 6, l, c, free, .inr ⟨rfl, rfl, fun q hq => ?_⟩, by simp, hc, by simp, rfl, rfl⟩
      have hqm : q < m := by
        rcases Nat.lt_or_ge q m with h | h
        · exact h
        · exfalso
          have hpos : 0 ≤ each := by omega
          have : (m : Int) * each ≤ q * each := Int.mul_le_mul_of_nonneg_right (by omega) hpos
          omega
      exact hno q hqm
    | true =>
      have hb : 0 ≤ i ∧ i < N ∧ n ≤ N - i := of_decide_eq_true hb.symm
      conv => cbv
      refine call_fv hcall [0, 1] (c_open l c hc N hN hN2 free i n i0 (by omega) (by omega)) rfl rfl rfl rfl ?_
      rintro _ _ ⟨k, hk, rfl, rfl⟩
      constructor
      conv => cbv
      refine b_eq hcmp (fun h => ?_) (fun h => ?_)
      · have hfr := hk.1 h
        conv => cbv
        refine yield_of hE tyOk mixed (hs := []) rfl rfl rfl rfl rfl fun K2 hK2 => ?_
        conv => cbv
        refine call_fv hcall [0, 1] (c_turn l c hc N hN hN2 free i n true (by omega) i0 (by omega) (by omega)) rfl rfl rfl rfl ?_
        rintro _ _ ⟨c', f', hc', hf', rfl, rfl⟩
        constructor
        conv => cbv
        refine hK2 _ _ _ _ Wk.refl ?_
        conv => cbv
        refine hK1 _ _ _ _ Wk.refl ?_
        conv => cbv
        exact hK _ _ _ _ (Wk_of [0, 1] rfl rfl rfl (by cbv)) ⟨i, 0, _, c', f', .inl ⟨rfl, m, hm, by omega, hfr, hno⟩, by rw [if_pos rfl], hc', by simpa using hf', rfl, rfl⟩
      · have hfr : ¬ FreeRun l i n := fun hh => h (hk.2 hh)
        conv => cbv
        rw [show bin .add .i64 i each = i + each from add_i hbin (by omega) (by omega)]
        refine hKN (i + each) _ ⟨by omega, by omega, m + 1, ?_, fun m' h' => ?_⟩ (by omega) ?_
        · rw [hm, Int.natCast_add, Int.add_mul]; simp
        · rcases Nat.lt_or_ge m' m with h3 | h3
          · exact hno m' h3
          · have : m' = m := by omega
            rw [this, ← hm]
            exact hfr
        · generalize i + each = i'
          cbv
end Go.Proofs.Try
