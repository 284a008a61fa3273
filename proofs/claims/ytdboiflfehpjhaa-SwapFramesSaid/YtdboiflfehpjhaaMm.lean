/- The walk: package memory, at addresses that there are. -/
import Derived.Test.YtdboiflfehpjhaaBas
set_option linter.unusedVariables false
set_option linter.unusedSimpArgs false
namespace Go.Proofs.Try
open Go Bm
set_option maxRecDepth 100000
set_option maxHeartbeats 400000
abbrev memH (s : Int) (l : List (Int × Int)) : List AO := [.m64 l, .cells [.int .u64 s, .mp 0] 110]
def setS (l : List (Int × Int)) (k v : Int) : List (Int × Int) := if v = 0 then mdelL l k else mputL l k v
theorem mget_del (l : List (Int × Int)) (k k' : Int) : mgetL (mdelL l k) k' = if k' = k then 0 else mgetL l k' := by
  unfold mgetL mdelL
  induction l with
  | nil => simp
  | cons p l ih =>
    by_cases h : p.1 = k
    · rw [List.filter_cons_of_neg (by simp [h]), ih]
      by_cases hk : k' = k
      · simp [hk]
      · rw [if_neg hk, if_neg hk, List.find?_cons_of_neg (by simp; omega)]
    · rw [List.filter_cons_of_pos (by simp [h])]
      by_cases hp : p.1 = k'
      · rw [List.find?_cons_of_pos (by simp [hp]), List.find?_cons_of_pos (by simp [hp]), if_neg (by omega)]
      · rw [List.find?_cons_of_neg (by simp [hp]), List.find?_cons_of_neg (by simp [hp]), ih]
theorem mget_put (l : List (Int × Int)) (k v k' : Int) : mgetL (mputL l k v) k' = if k' = k then v else mgetL l k' := by
  by_cases h : k' = k
  · subst h; simp [mgetL, mputL]
  · have := mget_del l k k'
    rw [if_neg h] at this
    rw [if_neg h, ← this]
    unfold mputL mgetL
    rw [List.find?_cons_of_neg (by simp; omega)]
theorem mget_set (l : List (Int × Int)) (k v k' : Int) : mgetL (setS l k v) k' = if k' = k then v else mgetL l k' := by
  unfold setS
  split
  · rename_i h; rw [mget_del, h]
  · exact mget_put l k v k'
theorem c_mNew (n : Int) : AC prog 13 [u64 n] [] (fun r H => ∃ s, s = (if 2199023255552 < n then 2199023255552 else n) ∧ r = sv (.ptr 1 0) ∧ H = memH s []) :=
  AC_fv (hs := []) tyOk mixed func13 (by kernel_rfl) fun bin cmp beq eqs conv mn mx nat nadd nsub nmul idx get sub subP subS getS put app rep oget osub oset oapp orep rget rlen rapp toNat nn lt le fit lenOk mget mhas mput mdel mlen kget khas kput next call yield hE ⟨hbin, hcmp, hbeq, heqs, hconv, hmn, hmx, hnat, hnadd, hnsub, hnmul, hidx, hget, hsub, hsubP, hsubS, hgetS, hput, happ, hrep, hoget, hosub, hoset, hoapp, horep, hrget, hrlen, hrapp, htoNat, hnn, hlt, hle, hfit, hlenOk, hmget, hmhas, hmput, hmdel, hmlen, hkget, hkhas, hkput, hnext, hcall, hyield⟩ K hK => by
    conv => cbv
    exact hK _ _ _ _ Wk.refl ⟨_, hmn _ _, rfl, rfl⟩
theorem c_mSize (s : Int) (l : List (Int × Int)) : AC prog 111 [sv (.ptr 1 0)] (memH s l) (fun r H => r = u64 s ∧ H = memH s l) :=
  AC_fv (hs := []) tyOk mixed func111 (by kernel_rfl) fun bin cmp beq eqs conv mn mx nat nadd nsub nmul idx get sub subP subS getS put app rep oget osub oset oapp orep rget rlen rapp toNat nn lt le fit lenOk mget mhas mput mdel mlen kget khas kput next call yield hE ⟨hbin, hcmp, hbeq, heqs, hconv, hmn, hmx, hnat, hnadd, hnsub, hnmul, hidx, hget, hsub, hsubP, hsubS, hgetS, hput, happ, hrep, hoget, hosub, hoset, hoapp, horep, hrget, hrlen, hrapp, htoNat, hnn, hlt, hle, hfit, hlenOk, hmget, hmhas, hmput, hmdel, hmlen, hkget, hkhas, hkput, hnext, hcall, hyield⟩ K hK => by
    conv => cbv
    exact hK _ _ _ _ Wk.refl ⟨rfl, rfl⟩
theorem c_may0 (s a n al : Int) (l : List (Int × Int)) (ha : 0 ≤ a) (hal : 0 < al) (hd : a % al = 0) (hn : 0 < n) (hr : a + n ≤ s) (hs : s ≤ 2199023255552) :
    AC prog 75 [sv (.ptr 1 0), u64 a, u64 n, u64 al] (memH s l) (fun r H => r = i64 0 ∧ H = memH s l) :=
  AC_fv (hs := []) tyOk mixed func75 (by kernel_rfl) fun bin cmp beq eqs conv mn mx nat nadd nsub nmul idx get sub subP subS getS put app rep oget osub oset oapp orep rget rlen rapp toNat nn lt le fit lenOk mget mhas mput mdel mlen kget khas kput next call yield hE ⟨hbin, hcmp, hbeq, heqs, hconv, hmn, hmx, hnat, hnadd, hnsub, hnmul, hidx, hget, hsub, hsubP, hsubS, hgetS, hput, happ, hrep, hoget, hosub, hoset, hoapp, horep, hrget, hrlen, hrapp, htoNat, hnn, hlt, hle, hfit, hlenOk, hmget, hmhas, hmput, hmdel, hmlen, hkget, hkhas, hkput, hnext, hcall, hyield⟩ K hK => by
    conv => cbv
    refine ⟨by omega, ?_⟩
    rw [rem_u hbin ha]
    rw [hd, show cmp BinOp.neq 0 0 = false by rw [hcmp]; rfl]
    conv => cbv
    rw [show cmp BinOp.gtr n 0 = true by rw [hcmp]; simp [realCmp]; omega]
    conv => cbv
    rw [show cmp BinOp.geq a s = false by rw [hcmp]; simp [realCmp]; omega]
    conv => cbv
    rw [sub_u hbin (by omega) (by omega), show cmp BinOp.gtr n (s - a) = false by rw [hcmp]; simp [realCmp]; omega]
    conv => cbv
    exact hK _ _ _ _ Wk.refl ⟨rfl, rfl⟩
theorem c_mset (s k v : Int) (l : List (Int × Int)) : AC prog 120 [sv (.ptr 1 0), u64 k, u64 v] (memH s l) (fun r H => ∃ l', l' = setS l k v ∧ r = .tup [] ∧ H = memH s l') :=
  AC_fv (hs := []) tyOk mixed func120 (by kernel_rfl) fun bin cmp beq eqs conv mn mx nat nadd nsub nmul idx get sub subP subS getS put app rep oget osub oset oapp orep rget rlen rapp toNat nn lt le fit lenOk mget mhas mput mdel mlen kget khas kput next call yield hE ⟨hbin, hcmp, hbeq, heqs, hconv, hmn, hmx, hnat, hnadd, hnsub, hnmul, hidx, hget, hsub, hsubP, hsubS, hgetS, hput, happ, hrep, hoget, hosub, hoset, hoapp, horep, hrget, hrlen, hrapp, htoNat, hnn, hlt, hle, hfit, hlenOk, hmget, hmhas, hmput, hmdel, hmlen, hkget, hkhas, hkput, hnext, hcall, hyield⟩ K hK => by
    conv => cbv
    refine b_eq hcmp (fun h => ?_) (fun h => ?_)
    · conv => cbv
      exact hK _ _ _ _ Wk.refl ⟨_, by rw [hmdel]; simp [setS, h], rfl, rfl⟩
    · conv => cbv
      exact hK _ _ _ _ Wk.refl ⟨_, by rw [hmput]; simp [setS, h], rfl, rfl⟩
theorem c_mPutWord (s a v : Int) (l : List (Int × Int)) (ha : 0 ≤ a) (hd : a % 8 = 0) (hr : a + 8 ≤ s) (hs : s ≤ 2199023255552) :
    AC prog 69 [sv (.ptr 1 0), u64 a, u64 v] (memH s l) (fun r H => ∃ l', l' = setS l (a / 8) v ∧ r = i64 0 ∧ H = memH s l') :=
  AC_fv (hs := []) tyOk mixed func69 (by kernel_rfl) fun bin cmp beq eqs conv mn mx nat nadd nsub nmul idx get sub subP subS getS put app rep oget osub oset oapp orep rget rlen rapp toNat nn lt le fit lenOk mget mhas mput mdel mlen kget khas kput next call yield hE ⟨hbin, hcmp, hbeq, heqs, hconv, hmn, hmx, hnat, hnadd, hnsub, hnmul, hidx, hget, hsub, hsubP, hsubS, hgetS, hput, happ, hrep, hoget, hosub, hoset, hoapp, horep, hrget, hrlen, hrapp, htoNat, hnn, hlt, hle, hfit, hlenOk, hmget, hmhas, hmput, hmdel, hmlen, hkget, hkhas, hkput, hnext, hcall, hyield⟩ K hK => by
    conv => cbv
    refine call_fv hcall [0, 1] (c_may0 s a 8 8 l ha (by omega) hd (by omega) hr hs) rfl rfl rfl rfl ?_
    rintro _ _ ⟨rfl, rfl⟩
    constructor
    conv => cbv
    rw [show cmp BinOp.eql 0 0 = true by rw [hcmp]; rfl]
    conv => cbv
    rw [quo_u hbin ha (by omega) (by omega)]
    refine call_fv hcall [0, 1] (c_mset s (a / 8) v l) rfl rfl rfl rfl ?_
    rintro _ _ ⟨l', hl', rfl, rfl⟩
    constructor
    conv => cbv
    exact hK _ _ _ _ Wk.refl ⟨_, hl', rfl, rfl⟩
theorem c_mPutPair (s a v v' : Int) (l : List (Int × Int)) (ha : 0 ≤ a) (hd : a % 16 = 0) (hr : a + 16 ≤ s) (hs : s ≤ 2199023255552) :
    AC prog 70 [sv (.ptr 1 0), u64 a, u64 v, u64 v'] (memH s l) (fun r H => ∃ l', l' = setS (setS l (a / 8) v) (a / 8 + 1) v' ∧ r = i64 0 ∧ H = memH s l') :=
  AC_fv (hs := []) tyOk mixed func70 (by kernel_rfl) fun bin cmp beq eqs conv mn mx nat nadd nsub nmul idx get sub subP subS getS put app rep oget osub oset oapp orep rget rlen rapp toNat nn lt le fit lenOk mget mhas mput mdel mlen kget khas kput next call yield hE ⟨hbin, hcmp, hbeq, heqs, hconv, hmn, hmx, hnat, hnadd, hnsub, hnmul, hidx, hget, hsub, hsubP, hsubS, hgetS, hput, happ, hrep, hoget, hosub, hoset, hoapp, horep, hrget, hrlen, hrapp, htoNat, hnn, hlt, hle, hfit, hlenOk, hmget, hmhas, hmput, hmdel, hmlen, hkget, hkhas, hkput, hnext, hcall, hyield⟩ K hK => by
    conv => cbv
    refine call_fv hcall [0, 1] (c_may0 s a 16 16 l ha (by omega) hd (by omega) hr hs) rfl rfl rfl rfl ?_
    rintro _ _ ⟨rfl, rfl⟩
    constructor
    conv => cbv
    rw [show cmp BinOp.eql 0 0 = true by rw [hcmp]; rfl]
    conv => cbv
    rw [quo_u hbin ha (by omega) (by omega)]
    refine call_fv hcall [0, 1] (c_mset s (a / 8) v l) rfl rfl rfl rfl ?_
    rintro _ _ ⟨l1, hl1, rfl, rfl⟩
    constructor
    conv => cbv
    rw [quo_u hbin ha (by omega) (by omega), add_u hbin (by omega) (by omega)]
    refine call_fv hcall [0, 1] (c_mset s (a / 8 + 1) v' l1) rfl rfl rfl rfl ?_
    rintro _ _ ⟨l2, hl2, rfl, rfl⟩
    constructor
    conv => cbv
    exact hK _ _ _ _ Wk.refl ⟨_, by rw [hl2, hl1], rfl, rfl⟩
theorem c_mWord (s a : Int) (l : List (Int × Int)) (ha : 0 ≤ a) (hd : a % 8 = 0) (hr : a + 8 ≤ s) (hs : s ≤ 2199023255552) :
    AC prog 18 [sv (.ptr 1 0), u64 a] (memH s l) (fun r H => ∃ x, x = mgetL l (a / 8) ∧ r = .tup [.s (.int .u64 x), .s (.int .i64 0)] ∧ H = memH s l) :=
  AC_fv (hs := []) tyOk mixed func18 (by kernel_rfl) fun bin cmp beq eqs conv mn mx nat nadd nsub nmul idx get sub subP subS getS put app rep oget osub oset oapp orep rget rlen rapp toNat nn lt le fit lenOk mget mhas mput mdel mlen kget khas kput next call yield hE ⟨hbin, hcmp, hbeq, heqs, hconv, hmn, hmx, hnat, hnadd, hnsub, hnmul, hidx, hget, hsub, hsubP, hsubS, hgetS, hput, happ, hrep, hoget, hosub, hoset, hoapp, horep, hrget, hrlen, hrapp, htoNat, hnn, hlt, hle, hfit, hlenOk, hmget, hmhas, hmput, hmdel, hmlen, hkget, hkhas, hkput, hnext, hcall, hyield⟩ K hK => by
    conv => cbv
    refine call_fv hcall [0, 1] (c_may0 s a 8 8 l ha (by omega) hd (by omega) hr hs) rfl rfl rfl rfl ?_
    rintro _ _ ⟨rfl, rfl⟩
    constructor
    conv => cbv
    rw [show cmp BinOp.neq 0 0 = false by rw [hcmp]; rfl]
    conv => cbv
    exact hK _ _ _ _ Wk.refl ⟨_, by rw [hmget, quo_u hbin ha (by omega) (by omega)], rfl, rfl⟩
theorem c_mPair (s a : Int) (l : List (Int × Int)) (ha : 0 ≤ a) (hd : a % 16 = 0) (hr : a + 16 ≤ s) (hs : s ≤ 2199023255552) :
    AC prog 124 [sv (.ptr 1 0), u64 a] (memH s l) (fun r H => ∃ x y, x = mgetL l (a / 8) ∧ y = mgetL l (a / 8 + 1) ∧ r = .tup [.s (.int .u64 x), .s (.int .u64 y), .s (.int .i64 0)] ∧ H = memH s l) :=
  AC_fv (hs := [(4, .op 0 (.op 1 (.op 2 (.op 3 (.op 4 (.op 5 (.op 6 (.op 7 (.op 8 (.op 9 (.op 10 (.op 11 (.op 12 (.op 13 (.op 14 (.op 15 (.op 16 (.op 17 (.done)))))))))))))))))))]) tyOk mixed func124 (by kernel_rfl) fun bin cmp beq eqs conv mn mx nat nadd nsub nmul idx get sub subP subS getS put app rep oget osub oset oapp orep rget rlen rapp toNat nn lt le fit lenOk mget mhas mput mdel mlen kget khas kput next call yield hE ⟨hbin, hcmp, hbeq, heqs, hconv, hmn, hmx, hnat, hnadd, hnsub, hnmul, hidx, hget, hsub, hsubP, hsubS, hgetS, hput, happ, hrep, hoget, hosub, hoset, hoapp, horep, hrget, hrlen, hrapp, htoNat, hnn, hlt, hle, hfit, hlenOk, hmget, hmhas, hmput, hmdel, hmlen, hkget, hkhas, hkput, hnext, hcall, hyield⟩ K hK => by
    conv => cbv
    refine call_fv hcall [0, 1] (c_may0 s a 16 16 l ha (by omega) hd (by omega) hr hs) rfl rfl rfl rfl ?_
    rintro _ _ ⟨rfl, rfl⟩
    constructor
    conv => cbv
    rw [show cmp BinOp.neq 0 0 = false by rw [hcmp]; rfl]
    conv => cbv
    exact hK _ _ _ _ Wk.refl ⟨_, _, by rw [hmget, quo_u hbin ha (by omega) (by omega)], by rw [hmget, quo_u hbin ha (by omega) (by omega), add_u hbin (by omega) (by omega)], rfl, rfl⟩
end Go.Proofs.Try
