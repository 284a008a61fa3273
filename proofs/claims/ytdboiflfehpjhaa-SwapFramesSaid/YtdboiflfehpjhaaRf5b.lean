/- The walk: the reference of frames, taking and giving. -/
import Derived.Test.YtdboiflfehpjhaaRf5
set_option linter.unusedVariables false
set_option linter.unusedSimpArgs false
namespace Go.Proofs.Try
open Go Bm
set_option maxRecDepth 100000
set_option maxHeartbeats 400000
theorem put_idxs {l : List Bool} {i n : Int} (h0 : 0 ≤ i) (h1 : 0 ≤ n) (h : i + n ≤ l.length) (hf : FreeRun l i n) :
    idxs l = idxs (l.take i.toNat) ++ idxI (i + n) (l.drop (i.toNat + n.toNat)) ∧ (∀ x ∈ idxs (l.take i.toNat), x < i) ∧ (∀ x ∈ idxI (i + n) (l.drop (i.toNat + n.toNat)), i ≤ x) ∧
    idxs (setR l i.toNat n.toNat true) = idxs (l.take i.toNat) ++ rngI i n.toNat ++ idxI (i + n) (l.drop (i.toNat + n.toNat)) := by
  have hl : i.toNat + n.toNat ≤ l.length := by omega
  have e1 := idxs_split l hl
  have e2 := setR_idxs l hl true
  rw [free_mid hl (by rw [show ((i.toNat : Nat) : Int) = i by omega, show ((n.toNat : Nat) : Int) = n by omega]; exact hf)] at e1
  rw [show ((i.toNat : Nat) : Int) = i by omega, show ((n.toNat : Nat) : Int) = n by omega] at e1 e2
  refine ⟨by simpa using e1, fun x hx => ?_, fun x hx => ?_, by simpa using e2⟩
  · have := idxI_ge hx; simp at this; omega
  · have := idxI_ge hx; omega
theorem c_rTake (l : List Bool) (d : List PV) (hd : d = iPV (idxs l)) (m : Nat) (hm : m = (idxs l).length) (N : Int) (hN : N = l.length) (hN2 : N ≤ 65536) (n each : Int) (h1 : 1 ≤ n) (h2 : each = n ∨ each = 1) :
    AC prog 127 [refF N m, i64 n, i64 each] [iVec d]
      (fun r H => ∃ i e, TakeR l n each i e ∧ ((e ≠ 0 ∧ r = .tup [.agg [.int .i64 N, .vec 0 m], .s (.int .i64 i), .s (.int .i64 e)] ∧ H = [iVec d]) ∨
        (e = 0 ∧ ∃ o q, o = iPV (idxs (setR l i.toNat n.toNat true)) ∧ q = (idxs (setR l i.toNat n.toNat true)).length ∧ r = .tup [.agg [.int .i64 N, .vec 1 q], .s (.int .i64 i), .s (.int .i64 e)] ∧ H = [iVec d, iVec o]))) :=
  AC_fv (hs := []) tyOk mixed func127 (by kernel_rfl) fun bin cmp beq eqs conv mn mx nat nadd nsub nmul idx get sub subP subS getS put app rep oget osub oset oapp orep rget rlen rapp toNat nn lt le fit lenOk mget mhas mput mdel mlen kget khas kput next call yield hE ⟨hbin, hcmp, hbeq, heqs, hconv, hmn, hmx, hnat, hnadd, hnsub, hnmul, hidx, hget, hsub, hsubP, hsubS, hgetS, hput, happ, hrep, hoget, hosub, hoset, hoapp, horep, hrget, hrlen, hrapp, htoNat, hnn, hlt, hle, hfit, hlenOk, hmget, hmhas, hmput, hmdel, hmlen, hkget, hkhas, hkput, hnext, hcall, hyield⟩ K hK => by
    have hml : m ≤ l.length := by rw [hm]; exact idxI_len 0 l
    have none : ∀ i : Int, (∀ q : Nat, q * each + n ≤ l.length → ¬ FreeRun l (q * each) n) → TakeR l n each 0 6 := fun i h => .inr ⟨rfl, rfl, h⟩
    conv => cbv
    refine loop_h [7, 8, 9, 10, 11, 12, 13, 14, 15, 16, 17, 18, 19, 20, 21, 22, 23, 24, 25, 26, 27, 28, 29, 30, 31, 32, 33, 34, 35] (fun i : Int => [(9, i64 i)]) (fun i => 0 ≤ i ∧ i ≤ 1000000 ∧ ∃ q : Nat, i = q * each ∧ ∀ q' : Nat, q' < q → ¬ FreeRun l (q' * each) n) (fun i => (1000000 - i).toNat) 0 (by cbv) ⟨by omega, by omega, 0, by simp, fun q h => by omega⟩ ?_
    rintro i ⟨i0, i1, q, hq, hno⟩ KN hKN
    have stop : ¬ (i + n ≤ l.length) → TakeR l n each 0 6 := fun hbig => .inr ⟨rfl, rfl, fun q' hq' => by
      rcases Nat.lt_or_ge q' q with h | h
      · exact hno q' h
      · exfalso
        have hpos : 0 ≤ each := by omega
        have : (q : Int) * each ≤ q' * each := Int.mul_le_mul_of_nonneg_right (by omega) hpos
        omega⟩
    constructor
    conv => cbv
    refine b_le hcmp (fun h => ?_) (fun h => ?_)
    · have e1 : bin .sub .i64 N n = N - n := sub_i hbin (by omega) (by omega)
      conv => cbv
      refine b_le hcmp (fun h3 => ?_) (fun h3 => ?_)
      · rw [e1] at h3
        conv => cbv
        refine call_fv hcall [0] (c_rNone (idxs l) d hd m hm (by omega) N i n i0 (by omega) (by omega)) rfl rfl rfl rfl ?_
        rintro _ _ ⟨b, hb, rfl, rfl⟩
        constructor
        conv => cbv
        have hfi := free_iff (l := l) i0 (n := n) (by omega)
        cases b with
        | true =>
          have hfr : FreeRun l i n := hfi.2 (hb.1 rfl)
          obtain ⟨p1, p2, p3, p4⟩ := put_idxs i0 (by omega) (by omega) hfr
          conv => cbv
          refine call_fv hcall [0] (c_rPut (idxs l) _ _ d hd m hm (by omega) N i n i0 (by omega) (by omega) p1 p2 p3) rfl rfl rfl rfl ?_
          rintro _ _ ⟨o, qo, ho, hqo, rfl, rfl⟩
          rw [← p4] at ho hqo
          constructor
          conv => cbv
          exact hK _ _ _ _ (Wk_of [0, 3] rfl rfl rfl (by cbv)) ⟨i, 0, .inl ⟨rfl, q, hq, by omega, hfr, hno⟩, .inr ⟨rfl, o, qo, ho, hqo, rfl, rfl⟩⟩
        | false =>
          have hfr : ¬ FreeRun l i n := fun hh => by have := hb.2 (hfi.1 hh); cases this
          conv => cbv
          rw [show bin .add .i64 i each = i + each from add_i hbin (by omega) (by omega)]
          refine hKN (i + each) _ ⟨by omega, by omega, q + 1, ?_, fun m' h' => ?_⟩ (by omega) ?_
          · rw [hq, Int.natCast_add, Int.add_mul]; simp
          · rcases Nat.lt_or_ge m' q with h4 | h4
            · exact hno m' h4
            · have : m' = q := by omega
              rw [this, ← hq]
              exact hfr
          · generalize i + each = i'
            cbv
      · rw [e1] at h3
        conv => cbv
        exact hK _ _ _ _ (Wk_of [0] rfl rfl rfl (by cbv)) ⟨0, 6, stop (by omega), .inl ⟨by omega, rfl, rfl⟩⟩
    · conv => cbv
      exact hK _ _ _ _ (Wk_of [0] rfl rfl rfl (by cbv)) ⟨0, 6, stop (by omega), .inl ⟨by omega, rfl, rfl⟩⟩
theorem c_rTakeSz (l : List Bool) (d : List PV) (hd : d = iPV (idxs l)) (m : Nat) (hm : m = (idxs l).length) (N : Int) (hN : N = l.length) (hN2 : N ≤ 65536) (s : Int) :
    AC prog 80 [refF N m, i64 s] [iVec d]
      (fun r H => ∃ i e, TakeSz l s i e ∧ ((e ≠ 0 ∧ r = .tup [.agg [.int .i64 N, .vec 0 m], .s (.int .i64 i), .s (.int .i64 e)] ∧ H = [iVec d]) ∨
        (e = 0 ∧ ∃ o q, o = iPV (idxs (setR l i.toNat (runS s).toNat true)) ∧ q = (idxs (setR l i.toNat (runS s).toNat true)).length ∧ r = .tup [.agg [.int .i64 N, .vec 1 q], .s (.int .i64 i), .s (.int .i64 e)] ∧ H = [iVec d, iVec o]))) :=
  AC_fv (hs := []) tyOk mixed func80 (by kernel_rfl) fun bin cmp beq eqs conv mn mx nat nadd nsub nmul idx get sub subP subS getS put app rep oget osub oset oapp orep rget rlen rapp toNat nn lt le fit lenOk mget mhas mput mdel mlen kget khas kput next call yield hE ⟨hbin, hcmp, hbeq, heqs, hconv, hmn, hmx, hnat, hnadd, hnsub, hnmul, hidx, hget, hsub, hsubP, hsubS, hgetS, hput, happ, hrep, hoget, hosub, hoset, hoapp, horep, hrget, hrlen, hrapp, htoNat, hnn, hlt, hle, hfit, hlenOk, hmget, hmhas, hmput, hmdel, hmlen, hkget, hkhas, hkput, hnext, hcall, hyield⟩ K hK => by
    conv => cbv
    refine call_fv hcall [] (c_rRun s) rfl rfl rfl rfl ?_
    rintro _ _ ⟨x, hx, rfl, rfl⟩
    constructor
    conv => cbv
    refine b_eq hcmp (fun h => ?_) (fun h => ?_)
    · conv => cbv
      exact hK _ _ _ _ (Wk_of [0] rfl rfl rfl (by cbv)) ⟨0, 1, .inl ⟨rfl, rfl, by rw [← hx]; exact h⟩, .inl ⟨by omega, rfl, rfl⟩⟩
    · have := runS_ge s
      conv => cbv
      refine call_fv hcall [0] (c_rTake l d hd m hm N hN hN2 x x (by omega) (.inl rfl)) rfl rfl rfl rfl ?_
      rintro _ _ ⟨i, e, hT, (⟨he, rfl, rfl⟩|⟨he, o, q, ho, hq, rfl, rfl⟩)⟩
      constructor
      conv => cbv
      · subst hx
        exact hK _ _ _ _ (Wk_of [0] rfl rfl rfl (by cbv)) ⟨i, e, .inr ⟨h, hT⟩, .inl ⟨he, rfl, rfl⟩⟩
      · constructor
        conv => cbv
        subst hx
        exact hK _ _ _ _ (Wk_of [0, 3] rfl rfl rfl (by cbv)) ⟨i, e, .inr ⟨h, hT⟩, .inr ⟨he, o, q, ho, hq, rfl, rfl⟩⟩
theorem c_rTakeMn (l : List Bool) (d : List PV) (hd : d = iPV (idxs l)) (m : Nat) (hm : m = (idxs l).length) (N : Int) (hN : N = l.length) (hN2 : N ≤ 65536) (n : Int) :
    AC prog 81 [refF N m, i64 n] [iVec d]
      (fun r H => ∃ i e, TakeMn l n i e ∧ ((e ≠ 0 ∧ r = .tup [.agg [.int .i64 N, .vec 0 m], .s (.int .i64 i), .s (.int .i64 e)] ∧ H = [iVec d]) ∨
        (e = 0 ∧ ∃ o q, o = iPV (idxs (setR l i.toNat n.toNat true)) ∧ q = (idxs (setR l i.toNat n.toNat true)).length ∧ r = .tup [.agg [.int .i64 N, .vec 1 q], .s (.int .i64 i), .s (.int .i64 e)] ∧ H = [iVec d, iVec o]))) :=
  AC_fv (hs := []) tyOk mixed func81 (by kernel_rfl) fun bin cmp beq eqs conv mn mx nat nadd nsub nmul idx get sub subP subS getS put app rep oget osub oset oapp orep rget rlen rapp toNat nn lt le fit lenOk mget mhas mput mdel mlen kget khas kput next call yield hE ⟨hbin, hcmp, hbeq, heqs, hconv, hmn, hmx, hnat, hnadd, hnsub, hnmul, hidx, hget, hsub, hsubP, hsubS, hgetS, hput, happ, hrep, hoget, hosub, hoset, hoapp, horep, hrget, hrlen, hrapp, htoNat, hnn, hlt, hle, hfit, hlenOk, hmget, hmhas, hmput, hmdel, hmlen, hkget, hkhas, hkput, hnext, hcall, hyield⟩ K hK => by
    conv => cbv
    refine b_lt hcmp (fun h => ?_) (fun h => ?_)
    · conv => cbv
      exact hK _ _ _ _ (Wk_of [0] rfl rfl rfl (by cbv)) ⟨0, 1, .inl ⟨rfl, rfl, h⟩, .inl ⟨by omega, rfl, rfl⟩⟩
    · conv => cbv
      refine call_fv hcall [0] (c_rTake l d hd m hm N hN hN2 n 1 h (.inr rfl)) rfl rfl rfl rfl ?_
      rintro _ _ ⟨i, e, hT, (⟨he, rfl, rfl⟩|⟨he, o, q, ho, hq, rfl, rfl⟩)⟩
      constructor
      conv => cbv
      · exact hK _ _ _ _ (Wk_of [0] rfl rfl rfl (by cbv)) ⟨i, e, .inr ⟨h, hT⟩, .inl ⟨he, rfl, rfl⟩⟩
      · constructor
        conv => cbv
        exact hK _ _ _ _ (Wk_of [0, 3] rfl rfl rfl (by cbv)) ⟨i, e, .inr ⟨h, hT⟩, .inr ⟨he, o, q, ho, hq, rfl, rfl⟩⟩
def inR (i n x : Int) : Bool := decide (i ≤ x) && decide (x < i + n)
theorem filter_all {p : Int → Bool} {L : List Int} (h : ∀ x ∈ L, p x = true) : L.filter p = L := List.filter_eq_self.2 h
theorem filter_none {p : Int → Bool} {L : List Int} (h : ∀ x ∈ L, p x = false) : L.filter p = [] := List.filter_eq_nil_iff.2 fun x hx => by simp [h x hx]
theorem give_split {l : List Bool} {i n : Int} (h0 : 0 ≤ i) (h1 : 0 ≤ n) (h : i + n ≤ l.length) :
    (idxs l).filter (fun x => !inR i n x) = idxs (setR l i.toNat n.toNat false) ∧ ((((idxs l).filter (inR i n)).length : Int) = n ↔ AllTaken l i n) ∧ (((idxs l).filter (inR i n)).length : Int) ≤ n := by
  have hl : i.toNat + n.toNat ≤ l.length := by omega
  have e1 := idxs_split l hl
  have e2 := setR_idxs l hl false
  have e3 := all_mid hl
  have e4 : ((l.drop i.toNat).take n.toNat).length = n.toNat := by simp; omega
  have e5 := idxI_len i ((l.drop i.toNat).take n.toNat)
  rw [show ((i.toNat : Nat) : Int) = i by omega, show ((n.toNat : Nat) : Int) = n by omega] at e1 e2 e3
  have hA : ∀ x ∈ idxs (l.take i.toNat), inR i n x = false := fun x hx => by have := idxI_ge hx; simp at this; simp [inR]; omega
  have hM : ∀ x ∈ idxI i ((l.drop i.toNat).take n.toNat), inR i n x = true := fun x hx => by have := idxI_ge hx; rw [e4] at this; simp [inR]; omega
  have hC : ∀ x ∈ idxI (i + n) (l.drop (i.toNat + n.toNat)), inR i n x = false := fun x hx => by have := idxI_ge hx; simp [inR]; omega
  have f1 : (idxs l).filter (inR i n) = idxI i ((l.drop i.toNat).take n.toNat) := by
    rw [e1, List.filter_append, List.filter_append, filter_none hA, filter_all hM, filter_none hC]; simp
  refine ⟨?_, ?_, ?_⟩
  · rw [e1, e2, List.filter_append, List.filter_append, filter_all (fun x hx => by simp [hA x hx]), filter_none (fun x hx => by simp [hM x hx]), filter_all (fun x hx => by simp [hC x hx])]; simp
  · rw [f1, ← e3]; omega
  · rw [f1]; omega
end Go.Proofs.Try
