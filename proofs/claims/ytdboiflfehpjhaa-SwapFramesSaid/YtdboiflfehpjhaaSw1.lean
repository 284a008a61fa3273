/- The walk: package swap, Make; its reference. -/
import Derived.Test.YtdboiflfehpjhaaTs3
import Derived.Test.YtdboiflfehpjhaaRf5c
set_option linter.unusedVariables false
set_option linter.unusedSimpArgs false
namespace Go.Proofs.Try
open Go Bm
set_option maxRecDepth 100000
set_option maxHeartbeats 400000
abbrev mfH (s : Int) (l : List (Int × Int)) (c : List PV) (N : Nat) (free : Int) : List AO := [.m64 l, .cells [.int .u64 s, .mp 0] 110, .vec (.pv c) 4 1, .cells [.vec 2 N, .int .i64 free] 124]
theorem frS_pos {n : Int} (h0 : 0 ≤ n) : frS n = 0 ↔ n = 0 := by unfold frS; omega
theorem c_swMake (lf : List Bool) (c : List PV) (hc : c = bPV lf) (N : Nat) (hN : N = lf.length) (hN2 : N ≤ 65536) (free : Int) (hf : -1000000 ≤ free ∧ free ≤ 1000000) (s : Int) (hs : s = 8192 * N) (l : List (Int × Int)) (size grade n : Int) (hn : n = plS size grade) :
    AC prog 91 [sv (.ptr 1 0), sv (.ptr 3 0), i64 size, i64 grade] (mfH s l c N free)
      (fun r H => (n = 0 ∧ r = .tup [.s .nilp, .s (.int .i64 1)] ∧ H = mfH s l c N free) ∨
        (n ≠ 0 ∧ ∃ i e, TakeMn lf (frS n) i e ∧ e ≠ 0 ∧ r = .tup [.s .nilp, .s (.int .i64 e)] ∧ H = mfH s l c N free) ∨
        (n ≠ 0 ∧ ∃ i c' l2 free' b, TakeMn lf (frS n) i 0 ∧ c' = bPV (setR lf i.toNat (frS n).toNat true) ∧ b = 8192 * i ∧ clrd b l n l2 ∧ free' = free - frS n ∧ r = .tup [.s (.ptr 4 0), .s (.int .i64 0)] ∧ H = mfH s l2 c' N free' ++ [tsbO b n size grade])) :=
  AC_fv (hs := []) tyOk mixed func91 (by kernel_rfl) fun bin cmp beq eqs conv mn mx nat nadd nsub nmul idx get sub subP subS getS put app rep oget osub oset oapp orep rget rlen rapp toNat nn lt le fit lenOk mget mhas mput mdel mlen kget khas kput next call yield hE ⟨hbin, hcmp, hbeq, heqs, hconv, hmn, hmx, hnat, hnadd, hnsub, hnmul, hidx, hget, hsub, hsubP, hsubS, hgetS, hput, happ, hrep, hoget, hosub, hoset, hoapp, horep, hrget, hrlen, hrapp, htoNat, hnn, hlt, hle, hfit, hlenOk, hmget, hmhas, hmput, hmdel, hmlen, hkget, hkhas, hkput, hnext, hcall, hyield⟩ K hK => by
    have hle := plS_le size grade
    rw [← hn] at hle
    conv => cbv
    refine call_fv hcall [] (c_sFrames size grade) rfl rfl rfl rfl ?_
    rintro _ _ ⟨k, hk, rfl, rfl⟩
    rw [← hn] at hk
    have hk0 : 0 ≤ k := by (rw [hk]; unfold frS; omega)
    constructor
    conv => cbv
    refine b_eq hcmp (fun h => ?_) (fun h1 => ?_)
    · conv => cbv
      exact hK _ _ _ _ Wk.refl (.inl ⟨(frS_pos hle.1).1 (hk ▸ h), rfl, rfl⟩)
    · have hn0 : n ≠ 0 := fun h => h1 (hk.trans ((frS_pos hle.1).2 h))
      conv => cbv
      refine call_fv hcall [2, 3] (c_fTakeMany lf c hc N hN hN2 free k hf) rfl rfl rfl rfl ?_
      rintro _ _ ⟨i, e, l', c', f', hT, hl', hc', hf', rfl, rfl⟩
      rw [hk] at hT
      constructor
      conv => cbv
      refine b_ne hcmp (fun he => ?_) (fun he => ?_)
      · rw [if_neg he] at hl' hf'
        subst hl'
        obtain rfl : c' = c := hc'.trans hc.symm
        subst hf'
        conv => cbv
        exact hK _ _ _ _ Wk.refl (.inr (.inl ⟨hn0, i, e, hT, he, rfl, rfl⟩))
      · subst he
        rw [if_pos rfl] at hl' hf'
        have hi : 0 ≤ i ∧ i + k ≤ N := by
          rcases hT with ⟨h, _⟩ | ⟨_, ⟨_, m, rfl, hm, _⟩ | ⟨h, _⟩⟩ <;> omega
        conv => cbv
        refine call_fv hcall [] (c_sBytes) rfl rfl rfl rfl ?_
        rintro _ _ ⟨rfl, rfl⟩
        constructor
        conv => cbv
        rw [mul_i hbin (by omega) (by omega), show conv .u64 (i * 8192) = i * 8192 by (rw [hconv]; exact u64_id (by omega) (by omega))]
        obtain ⟨b, hb⟩ : ∃ b, b = i * 8192 := ⟨_, rfl⟩
        rw [← hb]
        refine call_fv hcall [0, 1] (c_tNew s l b size grade (by omega) (by omega) (by omega) n hn) rfl rfl rfl rfl ?_
        rintro _ _ ⟨w, hw, hr⟩
        have hw0 : w = 0 := by (rw [hw]; unfold whyS; rw [if_neg hn0, if_neg (by omega), if_neg (by unfold frS at hk; omega)])
        obtain ⟨l2, hl2, rfl, rfl⟩ := hr.resolve_left (fun h => h.1 hw0) |>.2
        constructor
        conv => cbv
        exact hK _ _ _ _ Wk.refl (.inr (.inr ⟨hn0, i, c', l2, f', b, hT, by rw [hc', hl', hk], by omega, hl2, by omega, rfl, rfl⟩))
end Go.Proofs.Try
