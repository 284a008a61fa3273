/- The walk: the law of frames. -/
import Derived.Test.YtdboiflfehpjhaaLaw5
set_option linter.unusedVariables false
set_option linter.unusedSimpArgs false
namespace Go.Proofs.Try
open Go Bm
set_option maxRecDepth 100000
set_option maxHeartbeats 1000000
theorem run0 : runS 0 = 1 := rfl
theorem run1 : runS 1 = 8 := rfl
def allF (l : List Bool) : Bool := l.all fun b => !b
theorem free_of {l : List Bool} {i n : Nat} (h : (decide (i + n ≤ l.length) && allF ((l.drop i).take n)) = true) : FreeRun l i n := by
  simp only [Bool.and_eq_true, decide_eq_true_eq, allF, List.all_eq_true, Bool.not_eq_true'] at h
  intro j h1 h2
  obtain ⟨b, hb⟩ : ∃ b, l[j]? = some b := ⟨_, List.getElem?_eq_getElem (by omega)⟩
  have : ((l.drop i).take n)[j - i]? = some b := by
    rw [List.getElem?_take, if_pos (by omega), List.getElem?_drop, show i + (j - i) = j by omega]; exact hb
  rw [hb, h.2 b (List.mem_of_getElem? this)]
theorem not_free {l : List Bool} {i n : Int} (j : Nat) (h1 : i ≤ j) (h2 : (j : Int) < i + n) (h : l[j]? = some true) : ¬ FreeRun l i n := fun hf => by
  have := hf j h1 h2
  rw [h] at this
  cases this
theorem s1 : TakeSz (List.replicate 20 false) 0 0 0 := by
  refine .inr ⟨by decide, ?_⟩
  rw [run0]
  exact .inl ⟨rfl, 0, rfl, by decide, free_of (i := 0) (n := 1) rfl, fun q hq => by omega⟩
def L2 : List Bool := true :: List.replicate 19 false
def L3 : List Bool := true :: List.replicate 7 false ++ List.replicate 8 true ++ List.replicate 4 false
theorem s2 : TakeSz L2 1 8 0 := by
  refine .inr ⟨by decide, ?_⟩
  rw [run1]
  exact .inl ⟨rfl, 1, rfl, by decide, free_of (i := 8) (n := 8) rfl, fun q hq => by
      obtain rfl : q = 0 := by omega
      exact not_free 0 (by decide) (by decide) rfl⟩
theorem s3 : TakeSz L3 0 1 0 := by
  refine .inr ⟨by decide, ?_⟩
  rw [run0]
  exact .inl ⟨rfl, 1, rfl, by decide, free_of (i := 1) (n := 1) rfl, fun q hq => by
      obtain rfl : q = 0 := by omega
      exact not_free 0 (by decide) (by decide) rfl⟩
theorem q1 : setR (List.replicate 20 false) (0 : Int).toNat (runS 0).toNat true = L2 := rfl
theorem q2 : setR L2 (8 : Int).toNat (runS 1).toNat true = L3 := rfl
theorem c_lives5 : AC prog 29 [] [] (fun r H => r = bl true ∧ H = []) :=
  AC_fv (hs := []) tyOk mixed func29 (by kernel_rfl) fun bin cmp beq eqs conv mn mx nat nadd nsub nmul idx get sub subP subS getS put app rep oget osub oset oapp orep rget rlen rapp toNat nn lt le fit lenOk mget mhas mput mdel mlen kget khas kput next call yield hE ⟨hbin, hcmp, hbeq, heqs, hconv, hmn, hmx, hnat, hnadd, hnsub, hnmul, hidx, hget, hsub, hsubP, hsubS, hgetS, hput, happ, hrep, hoget, hosub, hoset, hoapp, horep, hrget, hrlen, hrapp, htoNat, hnn, hlt, hle, hfit, hlenOk, hmget, hmhas, hmput, hmdel, hmlen, hkget, hkhas, hkput, hnext, hcall, hyield⟩ K hK => by
    conv => cbv
    refine call_fv hcall [] (c_fNew 20) rfl rfl rfl rfl ?_
    rintro _ _ ⟨N, c, hN, hc, rfl, rfl⟩
    obtain rfl : N = 20 := by have e : clampN 20 = 20 := rfl; omega
    constructor
    conv => cbv
    refine call_fv hcall [0, 1] (c_fTake _ c hc 20 rfl (by omega) 20 0 (by omega)) rfl rfl rfl rfl ?_
    rintro _ _ ⟨i, e, l2, c2, f2, hT, hl2, hc2, hf2, rfl, rfl⟩
    obtain ⟨rfl, rfl⟩ := TakeSz_uniq hT s1
    obtain rfl : l2 = L2 := by rw [hl2]; exact q1
    obtain rfl : f2 = 19 := by rw [hf2]; rfl
    constructor
    conv => cbv
    refine call_fv hcall [0, 1] (c_fTake _ c2 hc2 20 rfl (by omega) 19 1 (by omega)) rfl rfl rfl rfl ?_
    rintro _ _ ⟨i, e, l3, c3, f3, hT, hl3, hc3, hf3, rfl, rfl⟩
    obtain ⟨rfl, rfl⟩ := TakeSz_uniq hT s2
    obtain rfl : l3 = L3 := by rw [hl3]; exact q2
    obtain rfl : f3 = 11 := by rw [hf3]; rfl
    constructor
    conv => cbv
    refine call_fv hcall [0, 1] (c_fTake _ c3 hc3 20 rfl (by omega) 11 0 (by omega)) rfl rfl rfl rfl ?_
    rintro _ _ ⟨i, e, l4, c4, f4, hT, hl4, hc4, hf4, rfl, rfl⟩
    obtain ⟨rfl, rfl⟩ := TakeSz_uniq hT s3
    obtain rfl : f4 = 10 := by rw [hf4]; rfl
    constructor
    conv => cbv
    rw [show cmp BinOp.eql 0 0 = true by rw [hcmp]; rfl]
    conv => cbv
    rw [show cmp BinOp.eql 8 8 = true by rw [hcmp]; rfl]
    conv => cbv
    rw [show cmp BinOp.eql 1 1 = true by rw [hcmp]; rfl]
    conv => cbv
    rw [show cmp BinOp.eql 0 0 = true by rw [hcmp]; rfl]
    conv => cbv
    rw [show cmp BinOp.eql 0 0 = true by rw [hcmp]; rfl]
    conv => cbv
    rw [show cmp BinOp.eql 0 0 = true by rw [hcmp]; rfl]
    conv => cbv
    refine call_fv hcall [0, 1] (c_fFree c4 20 10) rfl rfl rfl rfl ?_
    rintro _ _ ⟨rfl, rfl⟩
    constructor
    conv => cbv
    rw [show cmp .eql 10 10 = true by rw [hcmp]; rfl]
    exact hK _ _ _ _ (Wk_of [] rfl rfl rfl (by cbv)) ⟨rfl, rfl⟩
end Go.Proofs.Try
