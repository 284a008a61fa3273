/- The plain law of memory: bytes of words. -/
import Derived.Test.YtdboiflfehpjhaaLaw4e
set_option linter.unusedVariables false
set_option linter.unusedSimpArgs false
namespace Go.Proofs.Try
open Go Am
set_option maxRecDepth 100000
theorem u8_mod (n : Int) : IntKind.u8.wrap n = n % 256 := by simp [IntKind.wrap, IntKind.signed, IntKind.bits]
theorem shift_val {a : Int} (ha : R64 a) : shiftS a = (7 - a % 8) * 8 := by
  obtain ⟨h0, h1⟩ := ha
  show IntKind.u64.wrap (IntKind.u64.wrap (7 - a.tmod 8) * 8) = _
  have h2 : IntKind.u64.wrap (7 - a % 8) = 7 - a % 8 := u64_in (by omega) (by omega)
  rw [Int.tmod_eq_emod_of_nonneg h0, h2, u64_in (by omega) (by omega)]
/-- Byte number i (from the high end) of a word. -/
def byteOf (w : Int) (i : Int) : Int := w / 2 ^ ((7 - i) * 8).toNat % 256
theorem get_val (l : List (Int × Int)) {a : Int} (ha : R64 a) : getS l a = byteOf (mgetL l (a / 8)) (a % 8) := by
  obtain ⟨h0, h1⟩ := ha
  unfold getS byteOf
  rw [shift_val ⟨h0, h1⟩, u8_mod]
  show (mgetL l (IntKind.u64.wrap (a.tdiv 8))).fdiv (2 ^ min ((7 - a % 8) * 8).toNat 64) % 256 = _
  rw [Int.tdiv_eq_ediv_of_nonneg h0, u64_in (by omega) (by omega), Nat.min_eq_left (by omega), Int.fdiv_eq_ediv_of_nonneg _ (by exact_mod_cast Nat.zero_le _)]
/-- What holds of the map of words and the list of bytes. -/
structure Inv (l bl : List (Int × Int)) : Prop where
  keys : (l.map (·.1)).Nodup
  rng : ∀ p ∈ l, 0 ≤ p.1 ∧ p.1 < 125 ∧ 0 < p.2 ∧ p.2 < 18446744073709551616
  bkeys : (bl.map (·.1)).Nodup
  brng : ∀ p ∈ bl, 0 ≤ p.1 ∧ p.1 < 1000 ∧ 0 < p.2 ∧ p.2 < 256
  same : ∀ a, 0 ≤ a → a < 1000 → getS l a = mgetL bl a
theorem inv_nil : Inv [] [] := ⟨List.nodup_nil, fun p h => (by cases h), List.nodup_nil, fun p h => (by cases h), fun a h0 h1 => by
  rw [get_val [] ⟨h0, by omega⟩]
  simp [mgetL, byteOf]⟩
theorem nodup_len : ∀ (n : Nat) (l : List Int), l.Nodup → (∀ x ∈ l, 0 ≤ x ∧ x < n) → l.length ≤ n
  | 0, l, _, hr => by
    cases l with
    | nil => exact Nat.le_refl _
    | cons x l => have := hr x List.mem_cons_self; omega
  | n + 1, l, hn, hr => by
    have ih := nodup_len n (l.erase (n : Int)) (hn.sublist List.erase_sublist) (fun x hx => by
      have h1 := hr x (List.mem_of_mem_erase hx)
      have h2 : x ≠ (n : Int) := (hn.mem_erase_iff.1 hx).1
      omega)
    by_cases hm : (n : Int) ∈ l
    · rw [List.length_erase_of_mem hm] at ih; omega
    · rw [List.erase_of_not_mem hm] at ih; omega
theorem inv_len {l bl : List (Int × Int)} (h : Inv l bl) : bl.length ≤ 1000 := by
  have := nodup_len 1000 (bl.map (·.1)) h.bkeys (fun x hx => by
    obtain ⟨p, hp, rfl⟩ := List.mem_map.1 hx
    exact ⟨(h.brng p hp).1, (h.brng p hp).2.1⟩)
  simpa using this
theorem bput (w b : BitVec 64) (hb : b < 256#64) (s k i : Nat) (hs : s ≤ 56) (hi : i < 8) (h8 : s % 8 = 0) (hk : k % 8 = 0) (hk2 : k ≤ 56) :
   ((w &&& ~~~(255#64 <<< s)) ||| (b <<< s)).getLsbD (k + i) = if k = s then b.getLsbD i else w.getLsbD (k + i) := by
  have h255 : ∀ j, (255#64).getLsbD j = decide (j < 8) := by
    intro j
    rcases Nat.lt_or_ge j 64 with h | h
    · revert h
      have : ∀ j : Fin 64, (255#64).getLsbD j = decide (j.val < 8) := by decide
      exact fun h => this ⟨j, h⟩
    · rw [BitVec.getLsbD_of_ge _ _ h]
      simp
      omega
  have hb8 : ∀ j, 8 ≤ j → b.getLsbD j = false := by
    intro j hj
    have : b.toNat < 256 := by simpa [BitVec.lt_def] using hb
    rw [BitVec.getLsbD]
    exact Nat.testBit_lt_two_pow (Nat.lt_of_lt_of_le this (by rw [show 256 = 2^8 by rfl]; exact Nat.pow_le_pow_right (by omega) hj))
  simp only [BitVec.getLsbD_or, BitVec.getLsbD_and, BitVec.getLsbD_not, BitVec.getLsbD_shiftLeft, h255]
  by_cases hks : k = s
  · subst hks
    have h1 : k + i < 64 := by omega
    have h2 : ¬ (k + i < k) := by omega
    simp [hi, h1, h2]
  · rw [if_neg hks]
    rcases Nat.lt_or_ge (k + i) s with h | h
    · simp [h]
      omega
    · have h9 : 8 ≤ k + i - s := by omega
      rw [hb8 _ h9]
      simp
      omega
def byteN (w s : Nat) : Nat := w / 2 ^ s % 256
theorem byteN_bit (w s j : Nat) : (byteN w s).testBit j = (decide (j < 8) && w.testBit (s + j)) := by
  unfold byteN
  rw [show 256 = 2 ^ 8 by rfl, Nat.testBit_mod_two_pow, Nat.testBit_div_two_pow]
  rw [Nat.add_comm]
theorem byte_put (w b s k : Nat) (hw : w < 2 ^ 64) (hb : b < 256) (hs : s ≤ 56) (h8 : s % 8 = 0) (hk : k % 8 = 0) (hk2 : k ≤ 56) :
    byteN ((BitVec.ofNat 64 w &&& ~~~(255#64 <<< s)) ||| (BitVec.ofNat 64 b <<< s)).toNat k = if k = s then b else byteN w k := by
  apply Nat.eq_of_testBit_eq
  intro j
  rw [byteN_bit]
  by_cases hj : j < 8
  · have h := bput (BitVec.ofNat 64 w) (BitVec.ofNat 64 b) (by simp [BitVec.lt_def]; omega) s k j hs hj h8 hk hk2
    rw [← BitVec.testBit_toNat] at h
    rw [h]
    simp only [hj, decide_true, Bool.true_and]
    split
    · rw [← BitVec.testBit_toNat, BitVec.toNat_ofNat, Nat.mod_eq_of_lt (by omega)]
    · rw [← BitVec.testBit_toNat, BitVec.toNat_ofNat, Nat.mod_eq_of_lt hw, byteN_bit]
      simp [hj]
  · simp only [hj, decide_false, Bool.false_and]
    split
    · exact (Nat.testBit_lt_two_pow (Nat.lt_of_lt_of_le hb (by rw [show 256 = 2 ^ 8 by rfl]; exact Nat.pow_le_pow_right (by omega) (by omega)))).symm
    · rw [byteN_bit]; simp [hj]
theorem ofInt_nat {x : Int} (h0 : 0 ≤ x) : BitVec.ofInt 64 x = BitVec.ofNat 64 x.toNat := by
  apply BitVec.eq_of_toNat_eq
  rw [BitVec.toNat_ofInt, BitVec.toNat_ofNat]
  omega
theorem shl_nat {x s : Nat} (h : x < 256) (hs : s ≤ 56) : BitVec.ofNat 64 (x * 2 ^ s) = BitVec.ofNat 64 x <<< s := by
  apply BitVec.eq_of_toNat_eq
  rw [BitVec.toNat_ofNat, BitVec.toNat_shiftLeft, BitVec.toNat_ofNat, Nat.shiftLeft_eq, Nat.mod_eq_of_lt (a := x) (by omega)]
theorem bound {x s : Nat} (h : x < 256) (hs : s ≤ 56) : x * 2 ^ s < 18446744073709551616 := by
  have h1 : 2 ^ s ≤ 2 ^ 56 := Nat.pow_le_pow_right (by omega) hs
  have h2 : x * 2 ^ s ≤ 255 * 2 ^ 56 := Nat.mul_le_mul (by omega) h1
  omega
/-- The word with byte b put at bit s. -/
def wput (w b : Int) (s : Int) : Int := realBin .or .u64 (realBin .andNot .u64 w (realBin .shl .u64 255 s)) (realBin .shl .u64 (IntKind.u64.wrap b) s)
theorem wput_val {w b : Int} {s : Nat} (hw : 0 ≤ w ∧ w < 18446744073709551616) (hb : 0 ≤ b ∧ b < 256) (hs : s ≤ 56) :
    wput w b s = (((BitVec.ofNat 64 w.toNat &&& ~~~(255#64 <<< s)) ||| (BitVec.ofNat 64 b.toNat <<< s)).toNat : Int) := by
  have hsh : ∀ x : Int, 0 ≤ x → x < 256 → realBin .shl .u64 x s = ((x.toNat * 2 ^ s : Nat) : Int) := by
    intro x h0 h1
    show IntKind.u64.wrap (x * 2 ^ min (s : Int).toNat 64) = _
    have h2 : min (s : Int).toNat 64 = s := by omega
    rw [h2]
    have h3 : x * 2 ^ s = ((x.toNat * 2 ^ s : Nat) : Int) := by
      rw [Int.natCast_mul, Int.natCast_pow, Int.toNat_of_nonneg h0]
      rfl
    rw [h3, u64_in (Int.natCast_nonneg _) (by have := bound (x := x.toNat) (s := s) (by omega) hs; omega)]
  have hbw : IntKind.u64.wrap b = b := u64_in hb.1 (by omega)
  have lt64 : ∀ v : BitVec 64, IntKind.u64.wrap (v.toNat : Int) = (v.toNat : Int) := fun v => u64_in (Int.natCast_nonneg _) (by have := v.isLt; omega)
  unfold wput
  rw [hbw, hsh 255 (by omega) (by omega), hsh b hb.1 hb.2]
  show IntKind.u64.wrap ((BitVec.ofInt 64 (IntKind.u64.wrap ((BitVec.ofInt 64 w &&& ~~~(BitVec.ofInt 64 (((255 : Int).toNat * 2 ^ s : Nat) : Int))).toNat : Int)) ||| BitVec.ofInt 64 ((b.toNat * 2 ^ s : Nat) : Int)).toNat : Int) = _
  rw [lt64, lt64, ofInt_nat (Int.natCast_nonneg _), ofInt_nat (Int.natCast_nonneg _), ofInt_nat (Int.natCast_nonneg _), ofInt_nat hw.1]
  simp only [Int.toNat_natCast, BitVec.ofNat_toNat, BitVec.setWidth_eq]
  rw [shl_nat (by omega) hs, shl_nat (by omega) hs]
  rfl
theorem byteOf_nat {w : Int} (i : Int) (hw : 0 ≤ w) : byteOf w i = ((byteN w.toNat ((7 - i) * 8).toNat : Nat) : Int) := by
  unfold byteOf byteN
  rw [Int.natCast_emod, Int.natCast_ediv, Int.natCast_pow, Int.toNat_of_nonneg hw]
  rfl
theorem byteOf_put {w b i j : Int} (hw : 0 ≤ w ∧ w < 18446744073709551616) (hb : 0 ≤ b ∧ b < 256) (hi : 0 ≤ i ∧ i < 8) (hj : 0 ≤ j ∧ j < 8) :
    byteOf (wput w b ((7 - i) * 8)) j = if j = i then b else byteOf w j := by
  have hs : (((7 - i) * 8).toNat : Int) = (7 - i) * 8 := Int.toNat_of_nonneg (by omega)
  have hv := wput_val (w := w) (b := b) (s := ((7 - i) * 8).toNat) hw hb (by omega)
  rw [hs] at hv
  rw [hv, byteOf_nat j (Int.natCast_nonneg _), Int.toNat_natCast, byte_put w.toNat b.toNat _ _ (by omega) (by omega) (by omega) (by omega) (by omega) (by omega)]
  by_cases hij : j = i
  · rw [if_pos hij, if_pos (by rw [hij]), Int.toNat_of_nonneg hb.1]
  · rw [if_neg hij, if_neg (by omega), byteOf_nat j hw.1]
theorem wput_rng {w b : Int} {i : Int} (hw : 0 ≤ w ∧ w < 18446744073709551616) (hb : 0 ≤ b ∧ b < 256) (hi : 0 ≤ i ∧ i < 8) : 0 ≤ wput w b ((7 - i) * 8) ∧ wput w b ((7 - i) * 8) < 18446744073709551616 := by
  have hs : (((7 - i) * 8).toNat : Int) = (7 - i) * 8 := Int.toNat_of_nonneg (by omega)
  have hv := wput_val (w := w) (b := b) (s := ((7 - i) * 8).toNat) hw hb (by omega)
  rw [hs] at hv
  rw [hv]
  exact ⟨Int.natCast_nonneg _, by have := ((BitVec.ofNat 64 w.toNat &&& ~~~(255#64 <<< ((7 - i) * 8).toNat)) ||| (BitVec.ofNat 64 b.toNat <<< ((7 - i) * 8).toNat)).isLt; omega⟩
theorem put_val (l : List (Int × Int)) {a b : Int} (ha : R64 a) : putS l a b = setS l (a / 8) (wput (mgetL l (a / 8)) b ((7 - a % 8) * 8)) := by
  have hq : realBin .quo .u64 a 8 = a / 8 := by
    show IntKind.u64.wrap (a.tdiv 8) = _
    rw [Int.tdiv_eq_ediv_of_nonneg ha.1, u64_in (by have := ha.1; omega) (by have := ha.2; omega)]
  unfold putS
  rw [hq, shift_val ha]
  rfl
theorem mget_cons (p : Int × Int) (l : List (Int × Int)) (k : Int) : mgetL (p :: l) k = if p.1 = k then p.2 else mgetL l k := by
  by_cases h : p.1 = k
  · simp [mgetL, h]
  · have : (p.1 == k) = false := by simpa using h
    simp [mgetL, List.find?_cons, this, h]
theorem mget_del (l : List (Int × Int)) (k k' : Int) : mgetL (mdelL l k) k' = if k' = k then 0 else mgetL l k' := by
  induction l with
  | nil => simp [mdelL, mgetL]
  | cons p l ih =>
    by_cases hp : p.1 = k
    · have h1 : mdelL (p :: l) k = mdelL l k := by simp [mdelL, hp]
      rw [h1, ih, mget_cons]
      by_cases hk : k' = k
      · simp [hk]
      · rw [if_neg hk, if_neg hk, if_neg (fun h => hk (by rw [← h, hp]))]
    · have h1 : mdelL (p :: l) k = p :: mdelL l k := by simp [mdelL, hp]
      rw [h1, mget_cons, mget_cons, ih]
      by_cases hk : k' = k
      · simp [hk, hp]
      · simp [hk]
theorem mget_set (l : List (Int × Int)) (k v k' : Int) : mgetL (setS l k v) k' = if k' = k then v else mgetL l k' := by
  unfold setS
  by_cases hv : v = 0
  · rw [if_pos hv, mget_del, hv]
  · rw [if_neg hv, mputL, mget_cons, mget_del]
    by_cases hk : k' = k
    · simp [hk]
    · rw [if_neg (fun h => hk h.symm), if_neg hk, if_neg hk]
theorem mget_app (l m : List (Int × Int)) (k : Int) (h : ∀ p ∈ m, p.1 = k → p.2 ≠ 0 ∨ True) (hl : ∀ p ∈ l, p.1 ≠ k) : mgetL (l ++ m) k = mgetL m k := by
  induction l with
  | nil => rfl
  | cons p l ih =>
    rw [List.cons_append, mget_cons, if_neg (hl p List.mem_cons_self)]
    exact ih fun q hq => hl q (List.mem_cons_of_mem _ hq)
theorem mget_app_l (l m : List (Int × Int)) (k : Int) (hm : ∀ p ∈ m, p.1 ≠ k) : mgetL (l ++ m) k = mgetL l k := by
  induction l with
  | nil =>
    induction m with
    | nil => rfl
    | cons p m ih =>
      rw [List.nil_append, mget_cons, if_neg (hm p List.mem_cons_self)]
      exact ih fun q hq => hm q (List.mem_cons_of_mem _ hq)
  | cons p l ih => rw [List.cons_append, mget_cons, mget_cons, ih]
theorem rget_put (l : List (Int × Int)) (a b a' : Int) : mgetL (rputS l a b) a' = if a' = a then b else mgetL l a' := by
  have hdel : (l.filter fun p => p.1 != a) = mdelL l a := rfl
  unfold rputS
  rw [hdel]
  by_cases hb : b = 0
  · rw [if_pos hb, List.append_nil, mget_del, hb]
  · rw [if_neg hb]
    by_cases ha : a' = a
    · subst ha
      rw [if_pos rfl, mget_app _ _ _ (fun _ _ _ => .inr trivial) (fun p hp => by simp [mdelL] at hp; exact hp.2), mget_cons, if_pos rfl]
    · rw [if_neg ha, mget_app_l _ _ _ (fun p hp => by simp at hp; subst hp; exact fun h => ha h.symm), mget_del, if_neg ha]
theorem mget_rng {l : List (Int × Int)} (h : ∀ p ∈ l, 0 ≤ p.1 ∧ p.1 < 125 ∧ 0 < p.2 ∧ p.2 < 18446744073709551616) (k : Int) : 0 ≤ mgetL l k ∧ mgetL l k < 18446744073709551616 := by
  induction l with
  | nil => simp [mgetL]
  | cons p l ih =>
    rw [mget_cons]
    have h1 := h p List.mem_cons_self
    split
    · exact ⟨by omega, h1.2.2.2⟩
    · exact ih fun q hq => h q (List.mem_cons_of_mem _ hq)
theorem set_keys {l : List (Int × Int)} (h : (l.map (·.1)).Nodup) (k v : Int) : ((setS l k v).map (·.1)).Nodup := by
  unfold setS
  split
  · exact mdel_nodup h k
  · exact mput_nodup h k v
theorem set_rng {l : List (Int × Int)} (h : ∀ p ∈ l, 0 ≤ p.1 ∧ p.1 < 125 ∧ 0 < p.2 ∧ p.2 < 18446744073709551616) {k v : Int} (hk : 0 ≤ k ∧ k < 125) (hv : 0 ≤ v ∧ v < 18446744073709551616) :
    ∀ p ∈ setS l k v, 0 ≤ p.1 ∧ p.1 < 125 ∧ 0 < p.2 ∧ p.2 < 18446744073709551616 := by
  intro p hp
  unfold setS at hp
  have hd : ∀ q ∈ mdelL l k, q ∈ l := fun q hq => (List.mem_filter.1 hq).1
  split at hp
  · exact h p (hd p hp)
  · rcases List.mem_cons.1 hp with rfl | hp
    · exact ⟨hk.1, hk.2, by dsimp only; omega, hv.2⟩
    · exact h p (hd p hp)
theorem rput_keys {l : List (Int × Int)} (h : (l.map (·.1)).Nodup) (a b : Int) : ((rputS l a b).map (·.1)).Nodup := by
  have hd := mdel_nodup h a
  have hdel : (l.filter fun p => p.1 != a) = mdelL l a := rfl
  unfold rputS
  rw [hdel]
  split
  · rw [List.append_nil]; exact hd
  · rw [List.map_append, List.nodup_append]
    refine ⟨hd, by simp, ?_⟩
    intro x hx y hy e
    simp at hy
    subst hy
    subst e
    obtain ⟨p, hp, e⟩ := List.mem_map.1 hx
    simp [mdelL] at hp
    exact hp.2 e
theorem rput_rng {l : List (Int × Int)} (h : ∀ p ∈ l, 0 ≤ p.1 ∧ p.1 < 1000 ∧ 0 < p.2 ∧ p.2 < 256) {a b : Int} (ha : 0 ≤ a ∧ a < 1000) (hb : 0 ≤ b ∧ b < 256) : ∀ p ∈ rputS l a b, 0 ≤ p.1 ∧ p.1 < 1000 ∧ 0 < p.2 ∧ p.2 < 256 := by
  intro p hp
  unfold rputS at hp
  rcases List.mem_append.1 hp with hp | hp
  · exact h p (List.mem_filter.1 hp).1
  · split at hp
    · cases hp
    · simp at hp
      subst hp
      exact ⟨ha.1, ha.2, by dsimp only; omega, hb.2⟩
theorem inv_put {l bl : List (Int × Int)} (h : Inv l bl) {a b : Int} (ha : 0 ≤ a ∧ a < 1000) (hb : 0 ≤ b ∧ b < 256) : Inv (putS l a b) (rputS bl a b) := by
  have hra : R64 a := ⟨ha.1, by omega⟩
  have hw := mget_rng h.rng (a / 8)
  have hp := wput_rng (w := mgetL l (a / 8)) (b := b) (i := a % 8) hw hb (by omega)
  rw [put_val l hra]
  refine ⟨set_keys h.keys _ _, set_rng h.rng (by omega) hp, rput_keys h.bkeys _ _, rput_rng h.brng ha hb, fun x h0 h1 => ?_⟩
  have hsx := h.same x h0 h1
  rw [get_val _ ⟨h0, by omega⟩] at hsx ⊢
  rw [mget_set, rget_put]
  by_cases hq : x / 8 = a / 8
  · rw [if_pos hq, byteOf_put hw hb (by omega) (by omega)]
    by_cases hx : x = a
    · rw [if_pos (by omega), if_pos hx]
    · rw [if_neg (by omega), if_neg hx, ← hsx, hq]
  · rw [if_neg hq, if_neg (fun e => hq (by rw [e])), hsx]
end Go.Proofs.Try
