/- Frames: the plain law. -/
import Derived.Test.YtdboiflfehpjhaaFr3
set_option linter.unusedVariables false
set_option linter.unusedSimpArgs false
namespace Go.Proofs.Try
open Go Bm
def idxI : Int → List Bool → List Int
  | _, [] => []
  | k, true :: l => k :: idxI (k + 1) l
  | k, false :: l => idxI (k + 1) l
abbrev idxs (l : List Bool) : List Int := idxI 0 l
def iPV (l : List Int) : List PV := l.map (PV.int .i64)
theorem iPV_get {l : List Int} {n : Nat} {x : Int} (h : l[n]? = some x) : (iPV l)[n]? = some (.int .i64 x) := by simp [iPV, h]
theorem iPV_len (l : List Int) : (iPV l).length = l.length := by simp [iPV]
theorem iPV_app (a b : List Int) : iPV (a ++ b) = iPV a ++ iPV b := by simp [iPV]
theorem idxI_app : ∀ (k : Int) (a b : List Bool), idxI k (a ++ b) = idxI k a ++ idxI (k + a.length) b
  | k, [], b => by simp [idxI]
  | k, true :: a, b => by simp [idxI, idxI_app (k + 1) a b]; congr 1; omega
  | k, false :: a, b => by simp [idxI, idxI_app (k + 1) a b]; congr 1; omega
theorem idxI_len : ∀ (k : Int) (l : List Bool), (idxI k l).length ≤ l.length
  | k, [] => Nat.le_refl _
  | k, true :: l => by simp [idxI]; exact idxI_len _ l
  | k, false :: l => by simp [idxI]; exact Nat.le_succ_of_le (idxI_len _ l)
theorem mem_idxI : ∀ {k : Int} {l : List Bool} {x : Int}, x ∈ idxI k l ↔ ∃ j : Nat, x = k + j ∧ l[j]? = some true
  | k, [], x => by simp [idxI]
  | k, b :: l, x => by
    have ih := @mem_idxI (k + 1) l x
    have hs : (∃ j : Nat, x = k + j ∧ (b :: l)[j]? = some true) ↔ (b = true ∧ x = k) ∨ ∃ j : Nat, x = k + 1 + j ∧ l[j]? = some true := by
      constructor
      · rintro ⟨j, e, h⟩
        cases j with
        | zero => simp at h; exact .inl ⟨h, by omega⟩
        | succ j => exact .inr ⟨j, by omega, by simpa using h⟩
      · rintro (⟨rfl, rfl⟩ | ⟨j, e, h⟩)
        · exact ⟨0, by simp, rfl⟩
        · exact ⟨j + 1, by omega, by simpa using h⟩
    rw [hs, ← ih]
    cases b <;> simp [idxI]
theorem idxI_ge {k : Int} {l : List Bool} {x : Int} (h : x ∈ idxI k l) : k ≤ x ∧ x < k + l.length := by
  obtain ⟨j, e, hj⟩ := mem_idxI.1 h
  have := (List.getElem?_eq_some_iff.1 hj).1
  omega
theorem free_iff {l : List Bool} {i n : Int} (h0 : 0 ≤ i) (hn : i + n ≤ l.length) : FreeRun l i n ↔ ∀ x ∈ idxs l, ¬ (i ≤ x ∧ x < i + n) := by
  constructor
  · rintro h x hx ⟨h1, h2⟩
    obtain ⟨j, e, hj⟩ := mem_idxI.1 hx
    have := h j (by omega) (by omega)
    rw [hj] at this
    cases this
  · intro h j h1 h2
    obtain ⟨b, hb⟩ : ∃ b, l[j]? = some b := ⟨_, List.getElem?_eq_getElem (by omega)⟩
    cases b with
    | false => exact hb
    | true => exact (h j (mem_idxI.2 ⟨j, by omega, hb⟩) ⟨h1, h2⟩).elim
theorem idxI_rep_f : ∀ (k : Int) (n : Nat), idxI k (List.replicate n false) = []
  | k, 0 => rfl
  | k, n + 1 => by simp [List.replicate_succ, idxI, idxI_rep_f (k + 1) n]
def rngI : Int → Nat → List Int
  | _, 0 => []
  | k, n + 1 => k :: rngI (k + 1) n
theorem rngI_succ : ∀ (k : Int) (n : Nat), rngI k (n + 1) = rngI k n ++ [k + n]
  | k, 0 => by simp [rngI]
  | k, n + 1 => by rw [rngI, rngI_succ (k + 1) n]; simp [rngI]; omega
theorem idxI_rep_t : ∀ (k : Int) (n : Nat), idxI k (List.replicate n true) = rngI k n
  | k, 0 => rfl
  | k, n + 1 => by simp [List.replicate_succ, idxI, idxI_rep_t (k + 1) n, rngI]
theorem split3 (l : List Bool) {i n : Nat} (h : i + n ≤ l.length) : l = l.take i ++ (l.drop i).take n ++ l.drop (i + n) := by
  rw [List.append_assoc, ← List.drop_drop, List.take_append_drop, List.take_append_drop]
theorem idxs_split (l : List Bool) {i n : Nat} (h : i + n ≤ l.length) : idxs l = idxs (l.take i) ++ idxI i ((l.drop i).take n) ++ idxI (i + n) (l.drop (i + n)) := by
  have e : idxs (l.take i ++ (l.drop i).take n ++ l.drop (i + n)) = idxs (l.take i) ++ idxI i ((l.drop i).take n) ++ idxI (i + n) (l.drop (i + n)) := by
    have h1 : (l.take i).length = i := by simp; omega
    have h2 : ((l.drop i).take n).length = n := by simp; omega
    show idxI 0 _ = _
    rw [idxI_app, idxI_app, List.length_append, h1, h2]
    simp
  rwa [← split3 l h] at e
theorem setR_idxs (l : List Bool) {i n : Nat} (h : i + n ≤ l.length) (b : Bool) : idxs (setR l i n b) = idxs (l.take i) ++ (if b then rngI i n else []) ++ idxI (i + n) (l.drop (i + n)) := by
  have h1 : (l.take i).length = i := by simp; omega
  show idxI 0 _ = _
  rw [setR, idxI_app, idxI_app, List.length_append, h1, List.length_replicate]
  cases b <;> simp [idxI_rep_t, idxI_rep_f]
theorem free_mid {l : List Bool} {i n : Nat} (h : i + n ≤ l.length) (hf : FreeRun l i n) : idxI i ((l.drop i).take n) = [] := by
  apply List.eq_nil_iff_forall_not_mem.2
  intro x hx
  obtain ⟨j, e, hj⟩ := mem_idxI.1 hx
  have hl := (List.getElem?_eq_some_iff.1 hj).1
  simp only [List.length_take, List.length_drop] at hl
  rw [List.getElem?_take, if_pos (by omega), List.getElem?_drop] at hj
  have := hf (i + j) (by omega) (by omega)
  rw [hj] at this
  cases this
/-- Where the taken ones below a number end. -/
theorem split_at {L A B : List Int} {i : Int} (hL : L = A ++ B) (hA : ∀ x ∈ A, x < i) (hB : ∀ x ∈ B, i ≤ x) {k : Nat} (hk : k ≤ L.length) (h1 : ∀ x ∈ L.take k, x < i) (h2 : ∀ x, L[k]? = some x → i ≤ x) : L.take k = A ∧ L.drop k = B := by
  have hkA : k = A.length := by
    rcases Nat.lt_trichotomy k A.length with h | h | h
    · exfalso
      have e : L[k]? = some A[k] := by rw [hL, List.getElem?_append_left h, List.getElem?_eq_getElem h]
      have := h2 _ e
      have := hA _ (List.getElem_mem h)
      omega
    · exact h
    · exfalso
      have hl : A.length < L.length := by omega
      obtain ⟨y, e⟩ : ∃ y, L[A.length]? = some y := ⟨_, List.getElem?_eq_getElem hl⟩
      have e2 : (L.take k)[A.length]? = some y := by rw [List.getElem?_take, if_pos h]; exact e
      have hx := h1 _ (List.mem_of_getElem? e2)
      have e3 : B[0]? = some y := by
        rw [hL, List.getElem?_append_right (Nat.le_refl _)] at e
        simpa using e
      have := hB _ (List.mem_of_getElem? e3)
      omega
  subst hkA
  subst hL
  simp
/-! The longest -/
def lgF : Int → Int → List Bool → Int
  | best, _, [] => best
  | best, n, b :: l => lgF (if (if b then 0 else n + 1) > best then (if b then 0 else n + 1) else best) (if b then 0 else n + 1) l
def gapF (N : Int) : Int → Int → List Int → Int
  | best, last, [] => if N - last - 1 > best then N - last - 1 else best
  | best, last, x :: L => gapF N (if x - last - 1 > best then x - last - 1 else best) x L
theorem gapF_max {N best last m : Int} {k : Int} {l : List Bool} (hm : m ≤ k - last - 1) (hN : k ≤ N) : gapF N best last (idxI k l) = gapF N (if m > best then m else best) last (idxI k l) := by
  cases hl : idxI k l with
  | nil => simp only [gapF]; split <;> split <;> omega
  | cons x L =>
    have hx : k ≤ x := (idxI_ge (l := l) (by rw [hl]; exact List.mem_cons_self)).1
    simp only [gapF]
    congr 1
    split <;> split <;> omega
theorem longest_eq : ∀ (l : List Bool) (k best last : Int), k - last - 1 ≤ best → 0 ≤ best → last < k → lgF best (k - last - 1) l = gapF (k + l.length) best last (idxI k l)
  | [], k, best, last, h1, h2, h3 => by simp only [lgF, idxI, gapF, List.length_nil]; split <;> omega
  | true :: l, k, best, last, h1, h2, h3 => by
    simp only [lgF, idxI, gapF, if_true]
    have ih := longest_eq l (k + 1) best k (by omega) h2 (by omega)
    rw [show k + 1 - k - 1 = 0 by omega, show k + 1 + (l.length : Int) = k + ((true :: l).length : Int) by simp; omega] at ih
    rw [if_neg (by omega), ih, if_neg (by omega)]
  | false :: l, k, best, last, h1, h2, h3 => by
    simp only [lgF, idxI, if_false, Bool.false_eq_true]
    have ih := longest_eq l (k + 1) (if k - last - 1 + 1 > best then k - last - 1 + 1 else best) last (by split <;> omega) (by split <;> omega) (by omega)
    rw [show k + 1 - last - 1 = k - last - 1 + 1 by omega, show k + 1 + (l.length : Int) = k + ((false :: l).length : Int) by simp; omega] at ih
    rw [ih]
    exact (gapF_max (by omega) (by simp; omega)).symm
/-! What is given back -/
def AllTaken (l : List Bool) (i n : Int) : Prop := ∀ j : Nat, i ≤ j → (j : Int) < i + n → l[j]? = some true
def GiveR (l : List Bool) (i n e : Int) : Prop :=
  (e = 1 ∧ n < 1) ∨ (e = 5 ∧ 1 ≤ n ∧ ¬ (0 ≤ i ∧ i < l.length ∧ n ≤ l.length - i)) ∨ (e = 11 ∧ 1 ≤ n ∧ (0 ≤ i ∧ i < l.length ∧ n ≤ l.length - i) ∧ ¬ AllTaken l i n) ∨ (e = 0 ∧ 1 ≤ n ∧ (0 ≤ i ∧ i < l.length ∧ n ≤ l.length - i) ∧ AllTaken l i n)
theorem GiveR_uniq {l : List Bool} {i n e e' : Int} (h : GiveR l i n e) (h' : GiveR l i n e') : e = e' := by
  unfold GiveR at h h'
  rcases h with ⟨a, b⟩ | ⟨a, b, c⟩ | ⟨a, b, c, d⟩ | ⟨a, b, c, d⟩ <;> rcases h' with ⟨a', b'⟩ | ⟨a', b', c'⟩ | ⟨a', b', c', d'⟩ | ⟨a', b', c', d'⟩ <;> first
    | omega
    | exact (d d').elim
    | exact (d' d).elim
    | exact (c c').elim
    | exact (c' c).elim
theorem TakeR_uniq {l : List Bool} {n each i e i' e' : Int} (h1 : 1 ≤ each) (h : TakeR l n each i e) (h' : TakeR l n each i' e') : i = i' ∧ e = e' := by
  rcases h with ⟨a, m, b, c, d, f⟩ | ⟨a, b, c⟩ <;> rcases h' with ⟨a', m', b', c', d', f'⟩ | ⟨a', b', c'⟩
  · have : m = m' := by
      rcases Nat.lt_trichotomy m m' with h | h | h
      · rw [b] at d; exact (f' m h d).elim
      · exact h
      · rw [b'] at d'; exact (f m' h d').elim
    subst this
    omega
  · rw [b] at c d; exact (c' m c d).elim
  · rw [b'] at c' d'; exact (c m' c' d').elim
  · omega
theorem rngI_len : ∀ (k : Int) (n : Nat), (rngI k n).length = n
  | _, 0 => rfl
  | k, n + 1 => by simp [rngI, rngI_len (k + 1) n]
theorem idxI_all : ∀ (k : Int) (l : List Bool), (idxI k l).length = l.length ↔ ∀ b ∈ l, b = true
  | k, [] => by simp [idxI]
  | k, true :: l => by simp [idxI, idxI_all (k + 1) l]
  | k, false :: l => by have := idxI_len (k + 1) l; simp [idxI]; omega
theorem all_mid {l : List Bool} {i n : Nat} (h : i + n ≤ l.length) : (idxI i ((l.drop i).take n)).length = n ↔ AllTaken l i n := by
  have h2 : ((l.drop i).take n).length = n := by simp; omega
  have := idxI_all i ((l.drop i).take n)
  rw [h2] at this
  rw [this]
  constructor
  · intro hb j h3 h4
    obtain ⟨b, hj⟩ : ∃ b, l[j]? = some b := ⟨_, List.getElem?_eq_getElem (by omega)⟩
    have : ((l.drop i).take n)[j - i]? = some b := by
      rw [List.getElem?_take, if_pos (by omega), List.getElem?_drop, show i + (j - i) = j by omega]; exact hj
    rw [hj, hb b (List.mem_of_getElem? this)]
  · intro ha b hb
    obtain ⟨j, hj⟩ := List.getElem?_of_mem hb
    have hl := (List.getElem?_eq_some_iff.1 hj).1
    rw [h2] at hl
    rw [List.getElem?_take, if_pos hl, List.getElem?_drop] at hj
    have := ha (i + j) (by omega) (by omega)
    rw [hj] at this
    cases this
    rfl
end Go.Proofs.Try
