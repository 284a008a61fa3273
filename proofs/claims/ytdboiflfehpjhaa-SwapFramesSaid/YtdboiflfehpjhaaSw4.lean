/- The walk: the law of a TSB's frames. -/
import Derived.Test.YtdboiflfehpjhaaSw3
set_option linter.unusedVariables false
set_option linter.unusedSimpArgs false
namespace Go.Proofs.Try
open Go Bm
set_option maxRecDepth 100000
set_option maxHeartbeats 400000
theorem rngI_get : ∀ (n j : Nat) (b : Int), j < n → (rngI b n)[j]? = some (b + j)
  | 0, j, b, h => by omega
  | n + 1, 0, b, h => by simp [rngI]
  | n + 1, j + 1, b, h => by
    rw [rngI, List.getElem?_cons_succ, rngI_get n j (b + 1) (by omega)]
    congr 1; omega
theorem first_take {N k : Nat} (h : k ≤ N) : idxs (setR (List.replicate N false) 0 k true) = rngI 0 k := by
  have := (put_idxs (l := List.replicate N false) (i := 0) (n := k) (by omega) (by omega) (by simp; omega) (fun j h3 h4 => by rw [List.getElem?_replicate, if_pos (by omega)])).2.2.2
  simp only [Int.toNat_zero, Int.toNat_natCast, Int.zero_add, List.take_zero, Nat.zero_add, List.drop_replicate] at this
  rw [this, idxs_repF]
  simp [idxs, idxI]
def ok64 (n : Int) : Prop := -9223372036854775808 ≤ n ∧ n ≤ 9223372036854775807
theorem c_SwapFrames (size grade : Int) (h1 : ok64 size) (h2 : ok64 grade) : AC prog 5 [i64 size, i64 grade] [] (fun r H => r = bl true ∧ H = []) :=
  AC_fv (hs := []) tyOk mixed func5 (by kernel_rfl) fun bin cmp beq eqs conv mn mx nat nadd nsub nmul idx get sub subP subS getS put app rep oget osub oset oapp orep rget rlen rapp toNat nn lt le fit lenOk mget mhas mput mdel mlen kget khas kput next call yield hE ⟨hbin, hcmp, hbeq, heqs, hconv, hmn, hmx, hnat, hnadd, hnsub, hnmul, hidx, hget, hsub, hsubP, hsubS, hgetS, hput, happ, hrep, hoget, hosub, hoset, hoapp, horep, hrget, hrlen, hrapp, htoNat, hnn, hlt, hle, hfit, hlenOk, hmget, hmhas, hmput, hmdel, hmlen, hkget, hkhas, hkput, hnext, hcall, hyield⟩ K hK => by
    conv => cbv
    refine call_fv hcall [] (c_sFrames size grade) rfl rfl rfl rfl ?_
    rintro _ _ ⟨x, hx, rfl, rfl⟩
    constructor
    conv => cbv
    refine call_fv hcall [] (c_r13Frames size grade) rfl rfl rfl rfl ?_
    rintro _ _ ⟨y, hy, rfl, rfl⟩
    constructor
    conv => cbv
    rw [show cmp BinOp.neq x y = false by rw [hcmp, hx, hy]; simp [realCmp]]
    conv => cbv
    refine call_fv hcall [] (c_Around size 4 h1 (by omega) (by omega)) rfl rfl rfl rfl ?_
    rintro _ _ ⟨a, ha, rfl, rfl⟩
    constructor
    conv => cbv
    refine call_fv hcall [] (c_Around grade 4 h2 (by omega) (by omega)) rfl rfl rfl rfl ?_
    rintro _ _ ⟨g, hg, rfl, rfl⟩
    constructor
    conv => cbv
    refine call_fv hcall [] (c_w13begin 9 (by omega) (by omega)) rfl rfl rfl rfl ?_
    rintro _ _ ⟨N, c, d, s, hN, hc, hd, hs, rfl, rfl⟩
    obtain rfl : N = 9 := by omega
    constructor
    conv => cbv
    refine call_fv hcall [] (c_sFrames a g) rfl rfl rfl rfl ?_
    rintro _ _ ⟨k, hk, rfl, rfl⟩
    constructor
    conv => cbv
    obtain ⟨n, hn⟩ : ∃ n, n = plS a g := ⟨_, rfl⟩
    have hn1 : 1 ≤ n := by rw [hn]; exact plS_pos ⟨by omega, by omega, by omega, by omega⟩
    have hn2 : n ≤ 4096 := by rw [hn]; exact (plS_le a g).2
    rw [← hn] at hk
    have hk8 := frS_le hn1 hn2
    obtain ⟨kn, hkn⟩ : ∃ kn : Nat, (kn : Int) = frS n := ⟨(frS n).toNat, by omega⟩
    have hT := take0 (N := 9) (k := kn) (by omega) (by omega)
    rw [hkn] at hT
    have hft := first_take (N := 9) (k := kn) (by omega)
    have hft' : idxs (setR (List.replicate 9 false) (0 : Int).toNat (frS n).toNat true) = rngI 0 kn := by rw [← hkn]; exact hft
    obtain ⟨lf, hlf⟩ : ∃ lf, lf = setR (List.replicate 9 false) (0 : Int).toNat (frS n).toNat true := ⟨_, rfl⟩
    refine call_fv hcall [0, 1, 2, 3, 4, 5] (c_w13make1 (List.replicate 9 false) c hc 9 rfl (by omega) 9 (by omega) s hs [] d hd 0 rfl 9 rfl a g n hn (by omega) 0 hT) rfl rfl rfl rfl ?_
    rintro _ _ ⟨c', l2, o, q, free', b, hc', ho, hq, hf', hb, hl2, rfl, rfl⟩
    rw [← hlf] at hc' ho hq hft'
    constructor
    conv => cbv
    have hlen : lf.length = 9 := by rw [hlf, setR_len (by simp; omega)]; rfl
    refine call_fv hcall [2, 3] (c_fList lf c' hc' 9 hlen.symm (by omega) free') rfl rfl rfl rfl ?_
    rintro _ _ ⟨d3, m3, hd3, hm3, rfl, rfl⟩
    constructor
    conv => cbv
    have hm3k : m3 = kn := by rw [hm3, hft', rngI_len]
    rw [show cmp BinOp.neq (nat 1) 1 = false by rw [hnat, hcmp]; rfl]
    conv => cbv
    rw [show cmp BinOp.neq (nat m3) k = false by rw [hnat, hcmp]; simp [realCmp]; omega]
    conv => cbv
    refine ⟨nn_of hnn (by omega), ltn_of hlt hnat (by omega), getS_of hgetS (.ptr 7 0) (by rw [hidx]; rfl) ?_⟩
    conv => cbv
    refine call_fv hcall [0, 1, 7] (c_tLen s l2 b n a g) rfl rfl rfl rfl ?_
    rintro _ _ ⟨rfl, rfl⟩
    constructor
    conv => cbv
    rw [mul_i hbin (by omega) (by omega), mul_i hbin (by omega) (by omega), show cmp BinOp.lss (k * 8192) (16 * n) = false by (rw [hcmp]; simp [realCmp]; unfold frS at hk; omega)]
    conv => cbv
    refine ⟨nn_of hnn (by omega), ltn_of hlt hnat (by omega), getS_of hgetS (.ptr 7 0) (by rw [hidx]; rfl) ?_⟩
    conv => cbv
    refine call_fv hcall [0, 1, 7] (c_tLen s l2 b n a g) rfl rfl rfl rfl ?_
    rintro _ _ ⟨rfl, rfl⟩
    constructor
    conv => cbv
    rw [sub_i hbin (by omega) (by omega), mul_i hbin (by omega) (by omega), mul_i hbin (by omega) (by omega), show cmp BinOp.geq ((k - 1) * 8192) (16 * n) = false by (rw [hcmp]; simp [realCmp]; unfold frS at hk; omega)]
    conv => cbv
    have hget0 : ∀ j : Nat, j < kn → d3[j]? = some (.int .i64 j) := fun j hj => by
      rw [hd3, hft']
      refine iPV_get ?_
      rw [rngI_get kn j 0 hj]
      congr 1; omega
    refine loop_h [4, 9, 79, 80, 81, 82, 83, 84, 85, 86, 87, 88, 89] (fun j : Int => [(9, i64 j)]) (fun j => 0 ≤ j ∧ j ≤ k) (fun j => (k - j).toNat) 0 (by cbv) ⟨Int.le_refl _, by omega⟩ ?_
    rintro j ⟨j0, j1⟩ KN hKN
    constructor
    conv => cbv
    refine b_lt hcmp (fun h => ?_) (fun h => ?_)
    · conv => cbv
      refine ⟨nn_of hnn (by omega), ltn_of hlt hnat (by omega), ?_⟩
      refine get_of hget (.int .i64 j) (by rw [hidx, show j.toNat * 1 + 0 = j.toNat by omega, hget0 j.toNat (by omega), show ((j.toNat : Nat) : Int) = j by omega]) ?_
      conv => cbv
      rw [show cmp BinOp.neq j j = false by rw [hcmp]; simp [realCmp]]
      conv => cbv
      rw [add_i hbin (by omega) (by omega)]
      refine hKN (j + 1) _ ⟨by omega, by omega⟩ (by omega) ?_
      generalize j + 1 = j'
      cbv
    · conv => cbv
      refine ⟨nn_of hnn (by omega), ltn_of hlt hnat (by omega), getS_of hgetS (.ptr 7 0) (by rw [hidx]; rfl) ?_⟩
      conv => cbv
      refine call_fv hcall [0, 1, 7] (c_tBase s l2 b n a g) rfl rfl rfl rfl ?_
      rintro _ _ ⟨rfl, rfl⟩
      constructor
      conv => cbv
      rw [show cmp BinOp.eql b 0 = true by rw [hcmp, hb]; rfl]
      conv => cbv
      refine call_fv hcall [] (c_w13lives) rfl rfl rfl rfl ?_
      rintro _ _ ⟨rfl, rfl⟩
      constructor
      conv => cbv
      exact hK _ _ _ _ (Wk_of [] rfl rfl rfl (by cbv)) ⟨rfl, rfl⟩
end Go.Proofs.Try
