/- The walk: package tsb, Clear. -/
import Derived.Test.YtdboiflfehpjhaaTs1
set_option linter.unusedVariables false
set_option linter.unusedSimpArgs false
namespace Go.Proofs.Try
open Go Bm
set_option maxRecDepth 100000
set_option maxHeartbeats 400000
/-- The first range over a function in a code: what a round begins with, and the round. -/
def rfOf : Code → Option (Code × Code)
  | .seq a b => match rfOf a with
    | some x => some x
    | none => rfOf b
  | .cond _ a b => match rfOf a with
    | some x => some x
    | none => rfOf b
  | .block _ c => rfOf c
  | .loop c => rfOf c
  | .rangeFunc _ _ a b => some (a, b)
  | _ => none
def rfA (c : Code) : Code := match rfOf c with | some x => x.1 | none => .skip
def rfB (c : Code) : Code := match rfOf c with | some x => x.2 | none => .skip
/-- Cleared up to the place i. -/
def clrd (base : Int) (l : List (Int × Int)) (i : Int) (l' : List (Int × Int)) : Prop :=
  ∀ k, mgetL l' k = if base / 8 ≤ k ∧ k < base / 8 + 2 * i then (if (k - base / 8) % 2 = 0 then 9223372036854775807 else 0) else mgetL l k
structure StC where
  i : Int
  l : List (Int × Int)
theorem c_tClear (s : Int) (l : List (Int × Int)) (base n size grade : Int) (hb : 0 ≤ base) (hd : base % 16 = 0) (hn : 0 ≤ n) (hr : base + 16 * n ≤ s) (hs : s ≤ 2199023255552) :
    AC prog 62 [sv (.ptr 2 0)] (tsbH s l base n size grade) (fun r H => ∃ l', clrd base l n l' ∧ r = .tup [] ∧ H = tsbH s l' base n size grade) :=
  AC_fv (hs := []) tyOk mixed func62 (by kernel_rfl) fun bin cmp beq eqs conv mn mx nat nadd nsub nmul idx get sub subP subS getS put app rep oget osub oset oapp orep rget rlen rapp toNat nn lt le fit lenOk mget mhas mput mdel mlen kget khas kput next call yield hE ⟨hbin, hcmp, hbeq, heqs, hconv, hmn, hmx, hnat, hnadd, hnsub, hnmul, hidx, hget, hsub, hsubP, hsubS, hgetS, hput, happ, hrep, hoget, hosub, hoset, hoapp, horep, hrget, hrlen, hrapp, htoNat, hnn, hlt, hle, hfit, hlenOk, hmget, hmhas, hmput, hmdel, hmlen, hkget, hkhas, hkput, hnext, hcall, hyield⟩ K hK => by
    conv => cbv
    refine call_fv hcall [0, 1, 2] (c_tEach s l base n size grade) rfl rfl rfl rfl ?_
    rintro _ _ ⟨rfl, rfl⟩
    constructor
    conv => cbv
    refine call_in (hs := []) hE tyOk mixed func148 (by kernel_rfl) (fun K' hK' => ?_)
    constructor
    conv => cbv
    refine loop_intro [3, 8, 9, 10, 11, 12, 13, 14, 15, 16, 17, 18, 19, 20, 21, 22] (fun st : StC => [(8, i64 st.i)]) (fun st : StC => [.m64 st.l, .cells [.int .u64 s, .mp 0] 110, tsbO base n size grade, .cells [.ptr 2 0] 65, .cells [.ptr 2 0] 65, .lrec .ready [sv (.ptr 2 0), sv (.ptr 3 0), .tup [], sv (.ptr 2 0), sv (.fn 148 [4]), .tup [], .tup [], .tup [], .tup []] [5] (rfA (bodyOf f62)) (rfB (bodyOf f62))])
      (fun st => 0 ≤ st.i ∧ st.i ≤ n ∧ clrd base l st.i st.l) (fun st => (n - st.i).toNat) ⟨0, l⟩ (Wk_fg (by cbv)) ⟨Int.le_refl _, hn, fun k => by rw [if_neg (by dsimp only; omega)]⟩ ?_
    rintro ⟨i, l1⟩ ⟨i0, i1, hl1⟩ KN hKN
    dsimp only at i0 i1 hl1
    constructor
    conv => cbv
    refine b_lt hcmp (fun h => ?_) (fun h => ?_)
    · conv => cbv
      rw [mul_i hbin (by omega) (by omega), show conv .u64 (16 * i) = 16 * i by (rw [hconv]; exact u64_id (by omega) (by omega)), add_u hbin (by omega) (by omega)]
      refine yield_of (hs := []) hE tyOk mixed rfl rfl rfl rfl rfl (fun K2 hK2 => ?_)
      conv => cbv
      refine call_fv hcall [0, 1, 2] (c_tDrop s l1 base n size grade (base + 16 * i) (by omega) (by omega) (by omega) hs) rfl rfl rfl rfl ?_
      rintro _ _ ⟨l2, hl2, rfl, rfl⟩
      constructor
      conv => cbv
      refine hK2 _ _ _ _ Wk.refl ?_
      conv => cbv
      rw [add_i hbin (by omega) (by omega)]
      refine hKN ⟨i + 1, l2⟩ _ _ ⟨by dsimp only; omega, by dsimp only; omega, ?_⟩ (by dsimp only; omega) ?_
      · intro k
        dsimp only
        rw [hl2, mget_set, mget_set, hl1 k]
        have e : (base + 16 * i) / 8 = base / 8 + 2 * i := by omega
        rw [e]
        generalize base / 8 = b
        generalize mgetL l k = w
        clear hl1 hl2
        repeat' split
        all_goals omega
      · generalize i + 1 = i'
        generalize base + 16 * i = a
        exact Wk_of [0, 1, 2, 3, 4, 5] rfl rfl rfl (by cbv)
    · conv => cbv
      obtain rfl : i = n := by omega
      refine hK' _ _ _ _ Wk.refl ?_
      conv => cbv
      exact hK _ _ _ _ (Wk_of [0, 1, 2] rfl rfl rfl (by cbv)) ⟨_, hl1, rfl, rfl⟩
end Go.Proofs.Try
