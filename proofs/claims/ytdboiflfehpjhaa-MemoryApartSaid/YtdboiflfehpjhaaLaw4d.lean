/- The walk: the law of memory, its deeds. -/
import Derived.Test.YtdboiflfehpjhaaLaw4
set_option linter.unusedVariables false
set_option linter.unusedSimpArgs false
namespace Go.Proofs.Try
open Go Am
set_option maxRecDepth 100000
set_option maxHeartbeats 1000000
theorem u64_mod (n : Int) : IntKind.u64.wrap n = n % 18446744073709551616 := by simp [IntKind.wrap, IntKind.signed, IntKind.bits]
theorem mayS_eq {a n al : Int} (ha : 0 ≤ a ∧ a < 18446744073709551616) (hn : 0 ≤ n ∧ n < 18446744073709551616) : mayS 1000 a n al = rmayS 1000 a n al := by
  unfold mayS rmayS
  rw [u64_mod, u64_mod]
  by_cases h : a.tmod al ≠ 0
  · rw [if_pos h, if_pos h]
  · rw [if_neg h, if_neg h]
    by_cases h0 : n = 0
    · rw [if_pos h0, if_neg (by omega)]
    · rw [if_neg h0]
      by_cases h1 : a ≥ 1000
      · rw [if_pos (by omega), if_pos (.inl h1)]
      · by_cases h2 : n > 1000
        · rw [if_pos (by omega), if_pos (by omega)]
        · by_cases h3 : n > (1000 - a) % 18446744073709551616
          · rw [if_pos (by omega), if_pos (by omega)]
          · rw [if_neg (by omega), if_neg (by omega)]
theorem rpwS_len (a : Int) : ∀ (i : Nat) (l : List (Int × Int)) (v : Int), (rpwS a i l v).length ≤ l.length + i
  | 0, l, v => Nat.le_refl _
  | i + 1, l, v => by
    have h1 := rpwS_len a i (rputS l (IntKind.u64.wrap (IntKind.u64.wrap (a + (i + 1 : Nat)) - 1)) (IntKind.u8.wrap (v.tmod 256))) (IntKind.u64.wrap (v.tdiv 256))
    have h2 := rputS_len l (IntKind.u64.wrap (IntKind.u64.wrap (a + (i + 1 : Nat)) - 1)) (IntKind.u8.wrap (v.tmod 256))
    simp only [rpwS]
    omega
/-- What a deed does to the memory and to its reference. -/
def Step (k a v n : Int) (l bl l' bl' : List (Int × Int)) : Prop :=
  if k = 0 then (if mayS 1000 a 1 1 = 0 then l' = putS l a (IntKind.u8.wrap v) ∧ bl' = rputS bl a (IntKind.u8.wrap v) else l' = l ∧ bl' = bl)
  else if k = 1 then (if mayS 1000 a 8 8 = 0 then l' = setS l (realBin .quo .u64 a 8) v ∧ bl' = rpwS a 8 bl v else l' = l ∧ bl' = bl)
  else if k = 2 then (if mayS 1000 a 16 16 = 0 then l' = setS (setS l (realBin .quo .u64 a 8) v) (realBin .add .u64 (realBin .quo .u64 a 8) 1) n ∧ bl' = rpwS (realBin .add .u64 a 8) 8 (rpwS a 8 bl v) n else l' = l ∧ bl' = bl)
  else if k = 6 then (if mayS 1000 a n 1 = 0 then (∃ d : List (Int × Int), d.Perm l ∧ l' = d.foldl (clrK a n) l) ∧ bl' = rclrS bl a n else l' = l ∧ bl' = bl)
  else if k = 7 then (if mayS 1000 a n 1 = 0 ∧ mayS 1000 v n 1 = 0 then (∃ d1 d2 : List (Int × Int), d1.Perm l ∧ d2.Perm l ∧ l' = d2.foldl (cpyK a v n l) (d1.foldl (clrK v n) l)) ∧ bl' = rcopyS bl a v n else l' = l ∧ bl' = bl)
  else l' = l ∧ bl' = bl
def hs15 : List (Nat × DT) := [(6, .op 0 (.op 1 (.op 2 (.op 3 (.op 4 (.op 5 (.op 6 (.op 8 (.op 7 (.op 9 (.op 10 (.op 11 (.done))))))))))))), (11, .op 0 (.op 1 (.op 2 (.op 3 (.op 4 (.op 5 (.op 7 (.op 6 (.op 8 (.op 9 (.op 10 (.done)))))))))))), (15, .op 0 (.op 1 (.op 2 (.op 3 (.op 4 (.op 6 (.op 7 (.op 8 (.op 9 (.op 10 (.op 5 (.op 11 (.op 12 (.done)))))))))))))), (16, .op 0 (.op 1 (.op 2 (.op 3 (.op 4 (.op 5 (.op 6 (.op 7 (.op 9 (.op 8 (.op 10 (.op 11 (.op 12 (.done)))))))))))))), (21, .op 0 (.op 1 (.op 2 (.op 3 (.op 4 (.op 5 (.op 7 (.op 6 (.op 8 (.op 9 (.op 10 (.done)))))))))))), (28, .op 0 (.op 1 (.op 2 (.op 3 (.op 4 (.op 5 (.op 6 (.op 7 (.op 9 (.op 8 (.op 10 (.op 11 (.op 12 (.done)))))))))))))), (29, .op 0 (.op 1 (.op 2 (.op 3 (.op 4 (.op 5 (.op 6 (.done))))))))]
theorem ac15 (k a v n : Int) (l bl : List (Int × Int)) (hl : bl.length ≤ 100000) (ra : 0 ≤ a ∧ a < 18446744073709551616) (rv : 0 ≤ v ∧ v < 18446744073709551616) (rn : 0 ≤ n ∧ n < 18446744073709551616)
    (hb : mayS 1000 a 1 1 = 0 → getS l a = mgetL bl a) (hw : mayS 1000 a 8 8 = 0 → mgetL l (realBin .quo .u64 a 8) = rwS bl a 8 0 0)
    (hp : mayS 1000 a 16 16 = 0 → mgetL l (realBin .quo .u64 a 8) = rwS bl a 8 0 0 ∧ mgetL l (realBin .add .u64 (realBin .quo .u64 a 8) 1) = rwS bl (realBin .add .u64 a 8) 8 0 0) :
    AC prog 15 [sv (.ptr 1 0), .c (.agg [.int .u64 1000, .vec 2 bl.length]), deedV k a v n] (bothH l bl)
      (fun r H => ∃ l' bl', Step k a v n l bl l' bl' ∧ ((bl' = bl ∧ r = .tup [.agg [.int .u64 1000, .vec 2 bl.length], .s (.bool true)] ∧ H = bothH l' bl) ∨ (r = .tup [.agg [.int .u64 1000, .vec 3 bl'.length], .s (.bool true)] ∧ H = bothH l' bl ++ [.vec (bcells bl') 164 2]))) :=
  AC_fn (hs := hs15) tyOk mixed func15 (by kernel_rfl) fun E K hE hK => by
    dsimp only [bothH, deedV] at hK ⊢
    have fin2 : ∀ l', Step k a v n l bl l' bl → ∀ b, b = true → ∀ o1 o2 o3, K (.tup [.agg [.int .u64 1000, .vec 2 bl.length], .s (.bool b)]) [.m64 l', .cells [.int .u64 1000, .mp 0] 110, .vec (bcells bl) 164 2, o1, o2, o3] := fun l' hS b hb o1 o2 o3 => by
      subst hb
      refine hK _ _ _ _ (Wk_of [0, 1, 2] rfl rfl (by simp [pickL, AO.ren, SV.ren, gI, bcells_ren]) ?_) ⟨l', bl, hS, .inl ⟨rfl, rfl, rfl⟩⟩
      simp [Fg, AV.ren, CV.ren, SV.ren, gI]
    have fin3 : ∀ l' bl', Step k a v n l bl l' bl' → ∀ b, b = true → ∀ o1 o2 o3, K (.tup [.agg [.int .u64 1000, .vec 6 bl'.length], .s (.bool b)]) [.m64 l', .cells [.int .u64 1000, .mp 0] 110, .vec (bcells bl) 164 2, o1, o2, o3, .vec (bcells bl') 164 2] := fun l' bl' hS b hb o1 o2 o3 => by
      subst hb
      refine hK _ _ _ _ (Wk_of [0, 1, 2, 6] rfl rfl (by simp [pickL, AO.ren, SV.ren, gI, bcells_ren]) ?_) ⟨l', bl', hS, .inr ⟨rfl, rfl⟩⟩
      simp [Fg, AV.ren, CV.ren, SV.ren, gI]
    have fin4 : ∀ l' bl', Step k a v n l bl l' bl' → ∀ b, b = true → ∀ o1 o2 o3 o4, K (.tup [.agg [.int .u64 1000, .vec 7 bl'.length], .s (.bool b)]) [.m64 l', .cells [.int .u64 1000, .mp 0] 110, .vec (bcells bl) 164 2, o1, o2, o3, o4, .vec (bcells bl') 164 2] := fun l' bl' hS b hb o1 o2 o3 o4 => by
      subst hb
      refine hK _ _ _ _ (Wk_of [0, 1, 2, 7] rfl rfl (by simp [pickL, AO.ren, SV.ren, gI, bcells_ren]) ?_) ⟨l', bl', hS, .inr ⟨rfl, rfl⟩⟩
      simp [Fg, AV.ren, CV.ren, SV.ren, gI]
    generalize hn : bl.length = m at hl fin2 ⊢
    generalize hbc : bcells bl = bc at fin2 fin3 fin4 ⊢
    have hren : ∀ g, bc.map (SV.ren g) = bc := fun g => by rw [← hbc]; exact bcells_ren g bl
    cbv
    refine bm (fun c0 => ?_) fun c0 => ?_
    · have k0 : k = 0 := by subst hE; simpa [realE, realCmp] using c0
      cbv
      refine call_subE hE [2] (ac65 1000 a 1 1 bl (by omega)) rfl rfl (by simp [pickL, AO.ren, bcells_ren, hbc, hren]) (by rw [hn]; rfl) ?_
      rintro _ _ ⟨z, hz, rfl, rfl⟩ r2 H2 e1 e2
      simp [updH, updL, bcells_ren, AO.ren, AV.ren, CV.ren, SV.ren, gI, hren, hbc] at e1 e2
      subst e1
      subst e2
      constructor
      cbv
      have hz : z = mayS 1000 a 1 1 := by rw [hz, mayS_eq ra (by omega)]; rfl
      refine bm (fun c => ?_) fun c => ?_
      · have z0 : z = 0 := by subst hE; simpa [realE, realCmp] using c
        cbv
        refine call_subE hE [2] (ac66 1000 a _ bl (by omega)) rfl rfl (by simp [pickL, AO.ren, bcells_ren, hbc, hren]) (by rw [hn]; rfl) ?_
        rintro _ _ ⟨bl1, hbl1, rfl, rfl⟩ r2 H2 e1 e2
        simp [updH, updL, bcells_ren, AO.ren, AV.ren, CV.ren, SV.ren, gI, hren, hbc] at e1 e2
        generalize hbbl1 : bcells bl1 = b1 at e2
        generalize hnbl1 : bl1.length = n1 at e1
        have hrbl1 : ∀ g, b1.map (SV.ren g) = b1 := fun g => by rw [← hbbl1]; exact bcells_ren g _
        subst e1
        subst e2
        constructor
        cbv
        refine call_subE hE [0, 1] (ac67 1000 a _ l) rfl rfl rfl rfl ?_
        rintro _ _ ⟨x, l1, hx, hl1, rfl, rfl⟩ r2 H2 e1 e2
        simp [updH, updL, bcells_ren, AO.ren, AV.ren, CV.ren, SV.ren, gI, hren, hbc, hrbl1] at e1 e2
        subst e1
        subst e2
        constructor
        cbv
        have := fin3 l1 bl1 (by
          have hm : mayS 1000 a 1 1 = 0 := by rw [← hz]; exact z0
          unfold Step
          rw [if_pos k0, if_pos hm]
          exact ⟨by rw [hl1, hx, if_pos hm]; subst hE; rfl, by rw [hbl1]; subst hE; rfl⟩) (Ev.cmp E .eql x z) (by subst hE; simp [realE, realCmp, hx, hz])
        rw [hnbl1, hbbl1] at this
        exact this _ _ _
      · have z0 : z ≠ 0 := by subst hE; simpa [realE, realCmp] using c
        cbv
        refine call_subE hE [0, 1] (ac67 1000 a _ l) rfl rfl rfl rfl ?_
        rintro _ _ ⟨x, l1, hx, hl1, rfl, rfl⟩ r2 H2 e1 e2
        simp [updH, updL, bcells_ren, AO.ren, AV.ren, CV.ren, SV.ren, gI, hren, hbc] at e1 e2
        subst e1
        subst e2
        constructor
        cbv
        have hm : mayS 1000 a 1 1 ≠ 0 := by rw [← hz]; exact z0
        have hl2 : l1 = l := by rw [hl1, hx, if_neg hm]
        exact fin2 l1 (by
          unfold Step
          rw [if_pos k0, if_neg hm]
          exact ⟨hl2, rfl⟩) (Ev.cmp E .eql x z) (by subst hE; simp [realE, realCmp, hx, hz]) _ _ _
    · have q0 : k ≠ 0 := by subst hE; simpa [realE, realCmp] using c0
      cbv
      refine bm (fun c1 => ?_) fun c1 => ?_
      · have k1 : k = 1 := by subst hE; simpa [realE, realCmp] using c1
        cbv
        refine call_subE hE [2] (ac65 1000 a 8 8 bl (by omega)) rfl rfl (by simp [pickL, AO.ren, bcells_ren, hbc, hren]) (by rw [hn]; rfl) ?_
        rintro _ _ ⟨z, hz, rfl, rfl⟩ r2 H2 e1 e2
        simp [updH, updL, bcells_ren, AO.ren, AV.ren, CV.ren, SV.ren, gI, hren, hbc] at e1 e2
        subst e1
        subst e2
        constructor
        cbv
        have hz : z = mayS 1000 a 8 8 := by rw [hz, mayS_eq (by omega) (by omega)]; rfl
        refine bm (fun c => ?_) fun c => ?_
        · have z0 : z = 0 := by subst hE; simpa [realE, realCmp] using c
          cbv
          refine call_subE hE [2] (ac68 1000 a v bl (by omega)) rfl rfl (by simp [pickL, AO.ren, bcells_ren, hbc, hren]) (by rw [hn]; rfl) ?_
          rintro _ _ ⟨bl1, hbl1, rfl, rfl⟩ r2 H2 e1 e2
          simp [updH, updL, bcells_ren, AO.ren, AV.ren, CV.ren, SV.ren, gI, hren, hbc] at e1 e2
          generalize hbbl1 : bcells bl1 = b1 at e2
          generalize hnbl1 : bl1.length = n1 at e1
          have hrbl1 : ∀ g, b1.map (SV.ren g) = b1 := fun g => by rw [← hbbl1]; exact bcells_ren g _
          subst e1
          subst e2
          constructor
          cbv
          refine call_subE hE [0, 1] (ac69 1000 a v l) rfl rfl rfl rfl ?_
          rintro _ _ ⟨x, l1, hx, hl1, rfl, rfl⟩ r2 H2 e1 e2
          simp [updH, updL, bcells_ren, AO.ren, AV.ren, CV.ren, SV.ren, gI, hren, hbc, hrbl1] at e1 e2
          subst e1
          subst e2
          constructor
          cbv
          have hm : mayS 1000 a 8 8 = 0 := by rw [← hz]; exact z0
          have := fin3 l1 bl1 (by
            unfold Step
            rw [if_neg q0, if_pos k1, if_pos hm]
            exact ⟨by rw [hl1, hx, if_pos hm], hbl1⟩) (Ev.cmp E .eql x z) (by subst hE; simp [realE, realCmp, hx, hz])
          rw [hnbl1, hbbl1] at this
          exact this _ _ _
        · have z0 : z ≠ 0 := by subst hE; simpa [realE, realCmp] using c
          cbv
          refine call_subE hE [0, 1] (ac69 1000 a v l) rfl rfl rfl rfl ?_
          rintro _ _ ⟨x, l1, hx, hl1, rfl, rfl⟩ r2 H2 e1 e2
          simp [updH, updL, bcells_ren, AO.ren, AV.ren, CV.ren, SV.ren, gI, hren, hbc] at e1 e2
          subst e1
          subst e2
          constructor
          cbv
          have hm : ¬ (mayS 1000 a 8 8 = 0) := by rw [← hz]; exact z0
          have hl2 : l1 = l := by rw [hl1, hx, if_neg hm]
          exact fin2 l1 (by
            unfold Step
            rw [if_neg q0, if_pos k1, if_neg hm]
            exact ⟨hl2, rfl⟩) (Ev.cmp E .eql x z) (by subst hE; simp [realE, realCmp, hx, hz]) _ _ _
      · have q1 : k ≠ 1 := by subst hE; simpa [realE, realCmp] using c1
        cbv
        refine bm (fun c2 => ?_) fun c2 => ?_
        · have k2 : k = 2 := by subst hE; simpa [realE, realCmp] using c2
          cbv
          refine call_subE hE [2] (ac65 1000 a 16 16 bl (by omega)) rfl rfl (by simp [pickL, AO.ren, bcells_ren, hbc, hren]) (by rw [hn]; rfl) ?_
          rintro _ _ ⟨z, hz, rfl, rfl⟩ r2 H2 e1 e2
          simp [updH, updL, bcells_ren, AO.ren, AV.ren, CV.ren, SV.ren, gI, hren, hbc] at e1 e2
          subst e1
          subst e2
          constructor
          cbv
          have hz : z = mayS 1000 a 16 16 := by rw [hz, mayS_eq (by omega) (by omega)]; rfl
          refine bm (fun c => ?_) fun c => ?_
          · have z0 : z = 0 := by subst hE; simpa [realE, realCmp] using c
            cbv
            refine call_subE hE [2] (ac68 1000 a v bl (by omega)) rfl rfl (by simp [pickL, AO.ren, bcells_ren, hbc, hren]) (by rw [hn]; rfl) ?_
            rintro _ _ ⟨bl1, hbl1, rfl, rfl⟩ r2 H2 e1 e2
            simp [updH, updL, bcells_ren, AO.ren, AV.ren, CV.ren, SV.ren, gI, hren, hbc] at e1 e2
            generalize hbbl1 : bcells bl1 = b1 at e2
            generalize hnbl1 : bl1.length = n1 at e1
            have hrbl1 : ∀ g, b1.map (SV.ren g) = b1 := fun g => by rw [← hbbl1]; exact bcells_ren g _
            subst e1
            subst e2
            constructor
            cbv
            have hlen1 : bl1.length ≤ bl.length + 8 := by rw [hbl1]; exact rpwS_len _ _ _ _
            refine call_subE hE [6] (ac68 1000 _ n bl1 (by omega)) rfl rfl (by simp [pickL, AO.ren, bcells_ren, hbbl1, hrbl1]) (by rw [hnbl1]; rfl) ?_
            rintro _ _ ⟨bl2, hbl2, rfl, rfl⟩ r2 H2 e1 e2
            simp [updH, updL, bcells_ren, AO.ren, AV.ren, CV.ren, SV.ren, gI, hren, hbc, hbbl1, hrbl1] at e1 e2
            generalize hbbl2 : bcells bl2 = b2 at e2
            generalize hnbl2 : bl2.length = n2 at e1
            have hrbl2 : ∀ g, b2.map (SV.ren g) = b2 := fun g => by rw [← hbbl2]; exact bcells_ren g _
            subst e1
            subst e2
            constructor
            cbv
            refine call_subE hE [0, 1] (ac70 1000 a v n l) rfl rfl rfl rfl ?_
            rintro _ _ ⟨x, l1, hx, hl1, rfl, rfl⟩ r2 H2 e1 e2
            simp [updH, updL, bcells_ren, AO.ren, AV.ren, CV.ren, SV.ren, gI, hren, hbc, hrbl1, hrbl2] at e1 e2
            subst e1
            subst e2
            constructor
            cbv
            have hm : mayS 1000 a 16 16 = 0 := by rw [← hz]; exact z0
            have := fin4 l1 bl2 (by
              unfold Step
              rw [if_neg q0, if_neg q1, if_pos k2, if_pos hm]
              exact ⟨by rw [hl1, hx, if_pos hm], by rw [hbl2, hbl1]; subst hE; rfl⟩) (Ev.cmp E .eql x z) (by subst hE; simp [realE, realCmp, hx, hz])
            rw [hnbl2, hbbl2] at this
            exact this _ _ _ _
          · have z0 : z ≠ 0 := by subst hE; simpa [realE, realCmp] using c
            cbv
            refine call_subE hE [0, 1] (ac70 1000 a v n l) rfl rfl rfl rfl ?_
            rintro _ _ ⟨x, l1, hx, hl1, rfl, rfl⟩ r2 H2 e1 e2
            simp [updH, updL, bcells_ren, AO.ren, AV.ren, CV.ren, SV.ren, gI, hren, hbc] at e1 e2
            subst e1
            subst e2
            constructor
            cbv
            have hm : ¬ (mayS 1000 a 16 16 = 0) := by rw [← hz]; exact z0
            have hl2 : l1 = l := by rw [hl1, hx, if_neg hm]
            exact fin2 l1 (by
              unfold Step
              rw [if_neg q0, if_neg q1, if_pos k2, if_neg hm]
              exact ⟨hl2, rfl⟩) (Ev.cmp E .eql x z) (by subst hE; simp [realE, realCmp, hx, hz]) _ _ _
        · have q2 : k ≠ 2 := by subst hE; simpa [realE, realCmp] using c2
          cbv
          refine bm (fun c6 => ?_) fun c6 => ?_
          · have k6 : k = 6 := by subst hE; simpa [realE, realCmp] using c6
            cbv
            refine call_subE hE [2] (ac65 1000 a n 1 bl (by omega)) rfl rfl (by simp [pickL, AO.ren, bcells_ren, hbc, hren]) (by rw [hn]; rfl) ?_
            rintro _ _ ⟨z, hz, rfl, rfl⟩ r2 H2 e1 e2
            simp [updH, updL, bcells_ren, AO.ren, AV.ren, CV.ren, SV.ren, gI, hren, hbc] at e1 e2
            subst e1
            subst e2
            constructor
            cbv
            have hz : z = mayS 1000 a n 1 := by rw [hz, mayS_eq (by omega) (by omega)]; rfl
            refine bm (fun c => ?_) fun c => ?_
            · have z0 : z = 0 := by subst hE; simpa [realE, realCmp] using c
              cbv
              refine call_subE hE [2] (ac71 1000 a n bl (by omega)) rfl rfl (by simp [pickL, AO.ren, bcells_ren, hbc, hren]) (by rw [hn]; rfl) ?_
              rintro _ _ ⟨bl1, hbl1, rfl, rfl⟩ r2 H2 e1 e2
              simp [updH, updL, bcells_ren, AO.ren, AV.ren, CV.ren, SV.ren, gI, hren, hbc] at e1 e2
              generalize hbbl1 : bcells bl1 = b1 at e2
              generalize hnbl1 : bl1.length = n1 at e1
              have hrbl1 : ∀ g, b1.map (SV.ren g) = b1 := fun g => by rw [← hbbl1]; exact bcells_ren g _
              subst e1
              subst e2
              constructor
              cbv
              refine call_subE hE [0, 1] (ac17 1000 a n l) rfl rfl rfl rfl ?_
              rintro _ _ ⟨x, l1, hx, hl1, rfl, rfl⟩ r2 H2 e1 e2
              simp [updH, updL, bcells_ren, AO.ren, AV.ren, CV.ren, SV.ren, gI, hren, hbc, hrbl1] at e1 e2
              subst e1
              subst e2
              constructor
              cbv
              have hm : mayS 1000 a n 1 = 0 := by rw [← hz]; exact z0
              have := fin3 l1 bl1 (by
                unfold Step
                rw [if_neg q0, if_neg q1, if_neg q2, if_pos k6, if_pos hm]
                exact ⟨by rw [hx, if_pos hm] at hl1; exact hl1, hbl1⟩) (Ev.cmp E .eql x z) (by subst hE; simp [realE, realCmp, hx, hz])
              rw [hnbl1, hbbl1] at this
              exact this _ _ _
            · have z0 : z ≠ 0 := by subst hE; simpa [realE, realCmp] using c
              cbv
              refine call_subE hE [0, 1] (ac17 1000 a n l) rfl rfl rfl rfl ?_
              rintro _ _ ⟨x, l1, hx, hl1, rfl, rfl⟩ r2 H2 e1 e2
              simp [updH, updL, bcells_ren, AO.ren, AV.ren, CV.ren, SV.ren, gI, hren, hbc] at e1 e2
              subst e1
              subst e2
              constructor
              cbv
              have hm : ¬ (mayS 1000 a n 1 = 0) := by rw [← hz]; exact z0
              have hl2 : l1 = l := by rw [hx, if_neg hm] at hl1; exact hl1
              exact fin2 l1 (by
                unfold Step
                rw [if_neg q0, if_neg q1, if_neg q2, if_pos k6, if_neg hm]
                exact ⟨hl2, rfl⟩) (Ev.cmp E .eql x z) (by subst hE; simp [realE, realCmp, hx, hz]) _ _ _
          · have q6 : k ≠ 6 := by subst hE; simpa [realE, realCmp] using c6
            cbv
            refine bm (fun c7 => ?_) fun c7 => ?_
            · have k7 : k = 7 := by subst hE; simpa [realE, realCmp] using c7
              cbv
              refine call_subE hE [2] (ac65 1000 a n 1 bl (by omega)) rfl rfl (by simp [pickL, AO.ren, bcells_ren, hbc, hren]) (by rw [hn]; rfl) ?_
              rintro _ _ ⟨z, hz, rfl, rfl⟩ r2 H2 e1 e2
              simp [updH, updL, bcells_ren, AO.ren, AV.ren, CV.ren, SV.ren, gI, hren, hbc] at e1 e2
              subst e1
              subst e2
              constructor
              cbv
              have hz : z = mayS 1000 a n 1 := by rw [hz, mayS_eq (by omega) (by omega)]; rfl
              refine bm (fun c => ?_) fun c => ?_
              · have z0 : z = 0 := by subst hE; simpa [realE, realCmp] using c
                cbv
                refine call_subE hE [2] (ac65 1000 v n 1 bl (by omega)) rfl rfl (by simp [pickL, AO.ren, bcells_ren, hbc, hren]) (by rw [hn]; rfl) ?_
                rintro _ _ ⟨y, hy, rfl, rfl⟩ r2 H2 e1 e2
                simp [updH, updL, bcells_ren, AO.ren, AV.ren, CV.ren, SV.ren, gI, hren, hbc] at e1 e2
                subst e1
                subst e2
                constructor
                cbv
                have hy : y = mayS 1000 v n 1 := by rw [hy, mayS_eq (by omega) (by omega)]; rfl
                refine bm (fun d => ?_) fun d => ?_
                · have y0 : y = 0 := by subst hE; simpa [realE, realCmp] using d
                  cbv
                  refine call_subE hE [2] (ac72 1000 a v n bl (by omega)) rfl rfl (by simp [pickL, AO.ren, bcells_ren, hbc, hren]) (by rw [hn]; rfl) ?_
                  rintro _ _ ⟨bl1, hbl1, rfl, rfl⟩ r2 H2 e1 e2
                  simp [updH, updL, bcells_ren, AO.ren, AV.ren, CV.ren, SV.ren, gI, hren, hbc] at e1 e2
                  generalize hbbl1 : bcells bl1 = b1 at e2
                  generalize hnbl1 : bl1.length = n1 at e1
                  have hrbl1 : ∀ g, b1.map (SV.ren g) = b1 := fun g => by rw [← hbbl1]; exact bcells_ren g _
                  subst e1
                  subst e2
                  constructor
                  cbv
                  refine call_subE hE [0, 1] (ac73 1000 a v n l) rfl rfl rfl rfl ?_
                  rintro _ _ ⟨x, l1, hx, hl1, rfl, rfl⟩ r2 H2 e1 e2
                  simp [updH, updL, bcells_ren, AO.ren, AV.ren, CV.ren, SV.ren, gI, hren, hbc, hrbl1] at e1 e2
                  subst e1
                  subst e2
                  constructor
                  cbv
                  have hm : mayS 1000 a n 1 = 0 ∧ mayS 1000 v n 1 = 0 := ⟨by rw [← hz]; exact z0, by rw [← hy]; exact y0⟩
                  have := fin3 l1 bl1 (by
                    unfold Step
                    rw [if_neg q0, if_neg q1, if_neg q2, if_neg q6, if_pos k7, if_pos hm]
                    exact ⟨by have hx0 : x = 0 := (by rw [hx, hm.1, hm.2]; rfl); rw [if_pos hx0] at hl1; exact hl1, hbl1⟩) (Ev.cmp E .eql x y) (by subst hE; simp [realE, realCmp, hx, hy, hm])
                  rw [hnbl1, hbbl1] at this
                  exact this _ _ _
                · have y0 : y ≠ 0 := by subst hE; simpa [realE, realCmp] using d
                  cbv
                  refine call_subE hE [0, 1] (ac73 1000 a v n l) rfl rfl rfl rfl ?_
                  rintro _ _ ⟨x, l1, hx, hl1, rfl, rfl⟩ r2 H2 e1 e2
                  simp [updH, updL, bcells_ren, AO.ren, AV.ren, CV.ren, SV.ren, gI, hren, hbc] at e1 e2
                  subst e1
                  subst e2
                  constructor
                  cbv
                  have hm : ¬ (mayS 1000 a n 1 = 0 ∧ mayS 1000 v n 1 = 0) := fun h => y0 (by rw [hy]; exact h.2)
                  have hl2 : l1 = l := by rw [if_neg] at hl1; exact hl1; rw [hx, ← hz, z0, if_neg (by simp), ← hy]; exact y0
                  exact fin2 l1 (by
                    unfold Step
                    rw [if_neg q0, if_neg q1, if_neg q2, if_neg q6, if_pos k7, if_neg hm]
                    exact ⟨hl2, rfl⟩) (Ev.cmp E .eql x y) (by have hxy : x = y := (by rw [hx, ← hz, z0, if_neg (by simp), hy]); subst hE; simp [realE, realCmp, hxy]) _ _ _
              · have z0 : z ≠ 0 := by subst hE; simpa [realE, realCmp] using c
                cbv
                refine bmF (by subst hE; simp [realE, realCmp, z0]) ?_
                cbv
                refine call_subE hE [0, 1] (ac73 1000 a v n l) rfl rfl rfl rfl ?_
                rintro _ _ ⟨x, l1, hx, hl1, rfl, rfl⟩ r2 H2 e1 e2
                simp [updH, updL, bcells_ren, AO.ren, AV.ren, CV.ren, SV.ren, gI, hren, hbc] at e1 e2
                subst e1
                subst e2
                constructor
                cbv
                have hm : ¬ (mayS 1000 a n 1 = 0 ∧ mayS 1000 v n 1 = 0) := fun h => z0 (by rw [hz]; exact h.1)
                have hl2 : l1 = l := by rw [if_neg] at hl1; exact hl1; rw [hx, ← hz, if_pos z0]; exact z0
                exact fin2 l1 (by
                  unfold Step
                  rw [if_neg q0, if_neg q1, if_neg q2, if_neg q6, if_pos k7, if_neg hm]
                  exact ⟨hl2, rfl⟩) (Ev.cmp E .eql x z) (by have hxy : x = z := (by rw [hx, ← hz, if_pos z0]); subst hE; simp [realE, realCmp, hxy]) _ _ _
            · have q7 : k ≠ 7 := by subst hE; simpa [realE, realCmp] using c7
              cbv
              refine call_subE hE [0, 1, 2] (ac74 k a v n l bl (by omega) (mayS_eq (by omega) (by omega)) (mayS_eq (by omega) (by omega)) (mayS_eq (by omega) (by omega)) hb hw hp) rfl rfl (by simp [pickL, AO.ren, SV.ren, gI, bcells_ren, hbc, hren]) (by rw [hn]; rfl) ?_
              rintro _ _ ⟨rfl, rfl⟩ r2 H2 e1 e2
              simp [updH, updL, bcells_ren, AO.ren, AV.ren, CV.ren, SV.ren, gI, hren, hbc] at e1 e2
              subst e1
              subst e2
              constructor
              cbv
              exact fin2 l (by
                unfold Step
                rw [if_neg q0, if_neg q1, if_neg q2, if_neg q6, if_neg q7]
                exact ⟨rfl, rfl⟩) true rfl _ _ _
end Go.Proofs.Try
