/- The walk: package memory. -/
import Derived.Test.YtdboiflfehpjhaaAmTab
import Derived.Test.YtdboiflfehpjhaaAmS
import Derived.Test.YtdboiflfehpjhaaClone
set_option linter.unusedVariables false
set_option linter.unusedSimpArgs false
namespace Go.Proofs.Try
open Go Am
set_option maxRecDepth 100000
abbrev memH (s : Int) (l : List (Int × Int)) : List AO := [.m64 l, .cells [.int .u64 s, .mp 0] 110]
abbrev u64 (n : Int) : AV := sv (.int .u64 n)
abbrev i64 (n : Int) : AV := sv (.int .i64 n)
def mayS (s a n al : Int) : Int := if a.tmod al ≠ 0 then 4 else if n > 0 ∧ (a ≥ s ∨ n > IntKind.u64.wrap (s - a)) then 5 else 0
def shiftS (a : Int) : Int := realBin .mul .u64 (realBin .sub .u64 7 (realBin .rem .u64 a 8)) 8
def setS (l : List (Int × Int)) (k v : Int) : List (Int × Int) := if v = 0 then mdelL l k else mputL l k v
def getS (l : List (Int × Int)) (a : Int) : Int := IntKind.u8.wrap (realBin .shr .u64 (mgetL l (realBin .quo .u64 a 8)) (shiftS a))
def putS (l : List (Int × Int)) (a b : Int) : List (Int × Int) :=
  setS l (realBin .quo .u64 a 8) (realBin .or .u64 (realBin .andNot .u64 (mgetL l (realBin .quo .u64 a 8)) (realBin .shl .u64 255 (shiftS a))) (realBin .shl .u64 (IntKind.u64.wrap b) (shiftS a)))
theorem ac13 (n : Int) : AC prog 13 [u64 n] [] (fun r H => ∃ s, s = (if 2199023255552 < n then 2199023255552 else n) ∧ r = sv (.ptr 1 0) ∧ H = memH s []) :=
  AC_fn (hs := []) tyOk mixed func13 (by kernel_rfl) fun E K hE hK => by
    cbv
    exact hK _ _ _ _ Wk.refl ⟨_, by subst hE; rfl, rfl, rfl⟩
theorem ac16 (s : Int) (l : List (Int × Int)) : AC prog 16 [sv (.ptr 1 0)] (memH s l) (fun r H => ∃ n : Int, n = l.length ∧ r = i64 n ∧ H = memH s l) :=
  AC_fn (hs := []) tyOk mixed func16 (by kernel_rfl) fun E K hE hK => by
    cbv
    exact hK _ _ _ _ Wk.refl ⟨_, by subst hE; rfl, rfl, rfl⟩
theorem ac75 (s a n al : Int) (l : List (Int × Int)) (hal : al ≠ 0) : AC prog 75 [sv (.ptr 1 0), u64 a, u64 n, u64 al] (memH s l) (fun r H => ∃ x, x = mayS s a n al ∧ r = i64 x ∧ H = memH s l) :=
  AC_fn (hs := []) tyOk mixed func75 (by kernel_rfl) fun E K hE hK => by
    have fin : ∀ x, x = mayS s a n al → K (sv (.int .i64 x)) (memH s l) := fun x hx => hK _ _ _ _ Wk.refl ⟨x, hx, rfl, rfl⟩
    cbv
    refine ⟨hal, ?_⟩
    refine bm (fun h1 => ?_) fun h1 => ?_
    · cbv
      exact fin _ (by subst hE; simp [mayS, realE, realBin, realCmp] at h1 ⊢; simp [h1])
    · cbv
      refine bm (fun h2 => ?_) fun h2 => ?_
      · cbv
        refine bm (fun h3 => ?_) fun h3 => ?_
        · cbv
          exact fin _ (by subst hE; simp [mayS, realE, realBin, realCmp] at h1 h2 h3 ⊢; simp [h1]; omega)
        · cbv
          refine bm (fun h4 => ?_) fun h4 => ?_
          · cbv
            exact fin _ (by subst hE; simp [mayS, realE, realBin, realCmp] at h1 h2 h3 h4 ⊢; simp [h1]; omega)
          · cbv
            exact fin _ (by subst hE; simp [mayS, realE, realBin, realCmp] at h1 h2 h3 h4 ⊢; simp [h1]; omega)
      · cbv
        exact fin _ (by subst hE; simp [mayS, realE, realBin, realCmp] at h1 h2 ⊢; simp [h1]; omega)
theorem ac126 (a : Int) : AC prog 126 [u64 a] [] (fun r H => ∃ x, x = shiftS a ∧ r = u64 x ∧ H = []) :=
  AC_fn (hs := []) tyOk mixed func126 (by kernel_rfl) fun E K hE hK => by
    cbv
    exact hK _ _ _ _ Wk.refl ⟨_, by subst hE; rfl, rfl, rfl⟩
theorem ac120 (s k v : Int) (l : List (Int × Int)) : AC prog 120 [sv (.ptr 1 0), u64 k, u64 v] (memH s l) (fun r H => ∃ l', l' = setS l k v ∧ r = .tup [] ∧ H = memH s l') :=
  AC_fn (hs := []) tyOk mixed func120 (by kernel_rfl) fun E K hE hK => by
    cbv
    refine bm (fun h1 => ?_) fun h1 => ?_
    · cbv
      exact hK _ _ _ _ Wk.refl ⟨_, by subst hE; simp [realE, realCmp] at h1 ⊢; simp [setS, h1], rfl, rfl⟩
    · cbv
      exact hK _ _ _ _ Wk.refl ⟨_, by subst hE; simp [realE, realCmp] at h1 ⊢; simp [setS, h1], rfl, rfl⟩
def hs121 : List (Nat × DT) := [(1, .op 0 (.op 1 (.op 2 (.op 3 (.op 4 (.op 5 (.op 6 (.op 7 (.op 8 (.op 9 (.op 10 (.op 11 (.done)))))))))))))]
theorem shift_nn (a : Int) : 0 ≤ shiftS a := by
  have : ∀ x : Int, 0 ≤ IntKind.u64.wrap x := fun x => by simp [IntKind.wrap, IntKind.signed, IntKind.bits]; omega
  exact this _
theorem ac121 (s a : Int) (l : List (Int × Int)) : AC prog 121 [sv (.ptr 1 0), u64 a] (memH s l) (fun r H => ∃ x, x = getS l a ∧ r = sv (.int .u8 x) ∧ H = memH s l) :=
  AC_fn (hs := hs121) tyOk mixed func121 (by kernel_rfl) fun E K hE hK => by
    cbv
    refine call_sub hE [] (ac126 a) rfl rfl rfl rfl ?_
    rintro _ _ ⟨x, hx, rfl, rfl⟩
    constructor
    cbv
    refine ⟨by subst hE; rw [hx]; exact shift_nn a, ?_⟩
    exact hK _ _ _ _ Wk.refl ⟨_, by subst hE; rw [hx]; rfl, rfl, rfl⟩
theorem ac77 (s a b : Int) (l : List (Int × Int)) : AC prog 77 [sv (.ptr 1 0), u64 a, sv (.int .u8 b)] (memH s l) (fun r H => ∃ l', l' = putS l a b ∧ r = .tup [] ∧ H = memH s l') :=
  AC_fn (hs := []) tyOk mixed func77 (by kernel_rfl) fun E K hE hK => by
    cbv
    refine call_sub hE [] (ac126 a) rfl rfl rfl rfl ?_
    rintro _ _ ⟨x, hx, rfl, rfl⟩
    constructor
    cbv
    refine ⟨by subst hE; rw [hx]; exact shift_nn a, by subst hE; rw [hx]; exact shift_nn a, ?_⟩
    refine call_go hE (ac120 s _ _ l) ?_
    rintro _ _ ⟨l', hl', rfl, rfl⟩
    constructor
    cbv
    exact hK _ _ _ _ Wk.refl ⟨_, by subst hE; rw [hl', hx]; rfl, rfl, rfl⟩
theorem ac67 (s a b : Int) (l : List (Int × Int)) : AC prog 67 [sv (.ptr 1 0), u64 a, sv (.int .u8 b)] (memH s l) (fun r H => ∃ x l', x = mayS s a 1 1 ∧ l' = (if x = 0 then putS l a b else l) ∧ r = i64 x ∧ H = memH s l') :=
  AC_fn (hs := []) tyOk mixed func67 (by kernel_rfl) fun E K hE hK => by
    cbv
    refine call_go hE (ac75 s a 1 1 l (by omega)) ?_
    rintro _ _ ⟨x, hx, rfl, rfl⟩
    constructor
    cbv
    refine bm (fun h1 => ?_) fun h1 => ?_
    · cbv
      refine call_go hE (ac77 s a b l) ?_
      rintro _ _ ⟨l', hl', rfl, rfl⟩
      constructor
      cbv
      exact hK _ _ _ _ Wk.refl ⟨x, l', hx, by subst hE; simp [realE, realCmp] at h1; simp [h1, hl'], rfl, rfl⟩
    · cbv
      exact hK _ _ _ _ Wk.refl ⟨x, l, hx, by subst hE; simp [realE, realCmp] at h1; simp [h1], rfl, rfl⟩
theorem ac69 (s a v : Int) (l : List (Int × Int)) : AC prog 69 [sv (.ptr 1 0), u64 a, u64 v] (memH s l) (fun r H => ∃ x l', x = mayS s a 8 8 ∧ l' = (if x = 0 then setS l (realBin .quo .u64 a 8) v else l) ∧ r = i64 x ∧ H = memH s l') :=
  AC_fn (hs := []) tyOk mixed func69 (by kernel_rfl) fun E K hE hK => by
    cbv
    refine call_go hE (ac75 s a 8 8 l (by omega)) ?_
    rintro _ _ ⟨x, hx, rfl, rfl⟩
    constructor
    cbv
    refine bm (fun h1 => ?_) fun h1 => ?_
    · cbv
      refine call_go hE (ac120 s _ v l) ?_
      rintro _ _ ⟨l', hl', rfl, rfl⟩
      constructor
      cbv
      exact hK _ _ _ _ Wk.refl ⟨x, l', hx, by subst hE; simp [realE, realCmp] at h1; simp [h1, hl', realE], rfl, rfl⟩
    · cbv
      exact hK _ _ _ _ Wk.refl ⟨x, l, hx, by subst hE; simp [realE, realCmp] at h1; simp [h1], rfl, rfl⟩
theorem ac70 (s a v v' : Int) (l : List (Int × Int)) : AC prog 70 [sv (.ptr 1 0), u64 a, u64 v, u64 v'] (memH s l) (fun r H => ∃ x l', x = mayS s a 16 16 ∧ l' = (if x = 0 then setS (setS l (realBin .quo .u64 a 8) v) (realBin .add .u64 (realBin .quo .u64 a 8) 1) v' else l) ∧ r = i64 x ∧ H = memH s l') :=
  AC_fn (hs := []) tyOk mixed func70 (by kernel_rfl) fun E K hE hK => by
    cbv
    refine call_go hE (ac75 s a 16 16 l (by omega)) ?_
    rintro _ _ ⟨x, hx, rfl, rfl⟩
    constructor
    cbv
    refine bm (fun h1 => ?_) fun h1 => ?_
    · cbv
      refine call_go hE (ac120 s _ v l) ?_
      rintro _ _ ⟨l', hl', rfl, rfl⟩
      constructor
      cbv
      refine call_go hE (ac120 s _ v' l') ?_
      rintro _ _ ⟨l2, hl2, rfl, rfl⟩
      constructor
      cbv
      exact hK _ _ _ _ Wk.refl ⟨x, l2, hx, by subst hE; simp [realE, realCmp] at h1; simp [h1, hl', hl2, realE], rfl, rfl⟩
    · cbv
      exact hK _ _ _ _ Wk.refl ⟨x, l, hx, by subst hE; simp [realE, realCmp] at h1; simp [h1], rfl, rfl⟩
theorem ac78 (s a : Int) (l : List (Int × Int)) : AC prog 78 [sv (.ptr 1 0), u64 a] (memH s l) (fun r H => ∃ x y, x = mayS s a 1 1 ∧ y = (if x = 0 then getS l a else 0) ∧ r = .tup [.s (.int .u8 y), .s (.int .i64 x)] ∧ H = memH s l) :=
  AC_fn (hs := []) tyOk mixed func78 (by kernel_rfl) fun E K hE hK => by
    cbv
    refine call_go hE (ac75 s a 1 1 l (by omega)) ?_
    rintro _ _ ⟨x, hx, rfl, rfl⟩
    constructor
    cbv
    refine bm (fun h1 => ?_) fun h1 => ?_
    · cbv
      exact hK _ _ _ _ Wk.refl ⟨x, 0, hx, by subst hE; simp [realE, realCmp] at h1; simp [h1], rfl, rfl⟩
    · cbv
      refine call_go hE (ac121 s a l) ?_
      rintro _ _ ⟨y, hy, rfl, rfl⟩
      constructor
      cbv
      have hx0 : x = 0 := by subst hE; simpa [realE, realCmp] using h1
      subst hx0
      exact hK _ _ _ _ Wk.refl ⟨0, y, hx, by simp [hy], rfl, rfl⟩
theorem ac18 (s a : Int) (l : List (Int × Int)) : AC prog 18 [sv (.ptr 1 0), u64 a] (memH s l) (fun r H => ∃ x y, x = mayS s a 8 8 ∧ y = (if x = 0 then mgetL l (realBin .quo .u64 a 8) else 0) ∧ r = .tup [.s (.int .u64 y), .s (.int .i64 x)] ∧ H = memH s l) :=
  AC_fn (hs := []) tyOk mixed func18 (by kernel_rfl) fun E K hE hK => by
    cbv
    refine call_go hE (ac75 s a 8 8 l (by omega)) ?_
    rintro _ _ ⟨x, hx, rfl, rfl⟩
    constructor
    cbv
    refine bm (fun h1 => ?_) fun h1 => ?_
    · cbv
      exact hK _ _ _ _ Wk.refl ⟨x, 0, hx, by subst hE; simp [realE, realCmp] at h1; simp [h1], rfl, rfl⟩
    · cbv
      have hx0 : x = 0 := by subst hE; simpa [realE, realCmp] using h1
      subst hx0
      exact hK _ _ _ _ Wk.refl ⟨0, _, hx, by subst hE; simp; rfl, rfl, rfl⟩
def hs124 : List (Nat × DT) := [(4, .op 0 (.op 1 (.op 2 (.op 3 (.op 4 (.op 5 (.op 6 (.op 7 (.op 8 (.op 9 (.op 10 (.op 11 (.op 12 (.op 13 (.op 14 (.op 15 (.op 16 (.op 17 (.done)))))))))))))))))))]
theorem ac124 (s a : Int) (l : List (Int × Int)) : AC prog 124 [sv (.ptr 1 0), u64 a] (memH s l) (fun r H => ∃ x y z, x = mayS s a 16 16 ∧ y = (if x = 0 then mgetL l (realBin .quo .u64 a 8) else 0) ∧
    z = (if x = 0 then mgetL l (realBin .add .u64 (realBin .quo .u64 a 8) 1) else 0) ∧ r = .tup [.s (.int .u64 y), .s (.int .u64 z), .s (.int .i64 x)] ∧ H = memH s l) :=
  AC_fn (hs := hs124) tyOk mixed func124 (by kernel_rfl) fun E K hE hK => by
    cbv
    refine call_go hE (ac75 s a 16 16 l (by omega)) ?_
    rintro _ _ ⟨x, hx, rfl, rfl⟩
    constructor
    cbv
    refine bm (fun h1 => ?_) fun h1 => ?_
    · cbv
      exact hK _ _ _ _ Wk.refl ⟨x, 0, 0, hx, by subst hE; simp [realE, realCmp] at h1; simp [h1], by subst hE; simp [realE, realCmp] at h1; simp [h1], rfl, rfl⟩
    · cbv
      have hx0 : x = 0 := by subst hE; simpa [realE, realCmp] using h1
      subst hx0
      exact hK _ _ _ _ Wk.refl ⟨0, _, _, hx, by subst hE; simp; rfl, by subst hE; simp; rfl, rfl, rfl⟩
end Go.Proofs.Try
