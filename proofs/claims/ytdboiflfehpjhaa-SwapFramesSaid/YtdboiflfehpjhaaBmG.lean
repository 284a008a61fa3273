/- The abstract heap grows, and its objects turn. -/
import Derived.Test.YtdboiflfehpjhaaBmF
set_option linter.unusedVariables false
set_option linter.unusedSimpArgs false
namespace Bm
open Go
section
variable {P : Program} {T : TypeId → TI} {ρ : Rho} {w w' : World} {H : List AO}

theorem get_push {α : Type} {l : List α} {x y : α} {i : Nat} (h : (l ++ [x])[i]? = some y) : (i < l.length ∧ l[i]? = some y) ∨ (i = l.length ∧ y = x) := by
  rcases Nat.lt_trichotomy i l.length with hi | hi | hi
  · rw [List.getElem?_append_left hi] at h; exact .inl ⟨hi, h⟩
  · subst hi; simp at h; exact .inr ⟨rfl, h.symm⟩
  · rw [List.getElem?_eq_none (by simp; omega)] at h; cases h
theorem get_set {α : Type} {l : List α} {x y : α} {i j : Nat} (h : (l.set i x)[j]? = some y) : (i = j ∧ i < l.length ∧ y = x) ∨ (i ≠ j ∧ l[j]? = some y) := by
  rw [List.getElem?_set] at h
  split at h
  · rename_i e
    split at h
    · rename_i hl; cases h; exact .inl ⟨e, hl, rfl⟩
    · cases h
  · rename_i e; exact .inr ⟨e, h⟩

/-- What an object shows of another block: an iterator's map. -/
theorem it_block (hh : Holds H ρ w) {i m : Nat} {todo : Todo} {q : Pl} (hi : H[i]? = some (.it64 m todo)) (hq : ρ[m]? = some q) : ∃ l, H[m]? = some (.m64 l) := hh.iter i m todo hi

/-- The objects are where they were if their blocks are as they were. -/
theorem Holds.same (hh : Holds H ρ w) (hs : w.heap.size ≤ w'.heap.size) (hb : ∀ b, Owned H ρ b → w'.heap[b]? = w.heap[b]?) : Holds H ρ w' := by
  refine ⟨hh.len, fun i o p ho hp => ?_, hh.iter, hh.apart⟩
  refine (hh.rep i o p ho hp).same hs (fun b hbk => hb b ⟨i, o, p, ho, hp, hbk⟩) (fun m todo q e hq => ?_)
  subst e
  obtain ⟨l, hl⟩ := hh.iter i m todo ho
  exact hb _ ⟨m, _, q, hl, hq, rfl⟩

/-- A new block. -/
theorem Holds.push (hh : Holds H ρ w) {p : Pl} {o : AO} {obj : Obj} (hb : p.b = w.heap.size) (hw : w'.heap = w.heap.push obj) (hos : w'.os = w.os) (htp : w'.tape = w.tape) (hou : w'.output = w.output)
    (hR : o.R (ρ ++ [p]) p w') (hob : ∀ b, o.own p b → b = p.b) (hit : ∀ (m : Nat) (todo : Todo), o = .it64 m todo → ∃ l, H[m]? = some (.m64 l)) : Holds (H ++ [o]) (ρ ++ [p]) w' ∧ Ext H ρ w (H ++ [o]) (ρ ++ [p]) w' := by
  have hsz : w.heap.size ≤ w'.heap.size := by rw [hw]; simp
  have hold : ∀ b, b < w.heap.size → w'.heap[b]? = w.heap[b]? := by
    intro b hb'
    rw [hw, Array.getElem?_push, if_neg (by omega)]
  have hsame := hh.same hsz (fun b ⟨i, o, p, ho, hp, hbk⟩ => hold b ((hh.rep i o p ho hp).own_lt hbk))
  have hpre : ρ <+: ρ ++ [p] := List.prefix_append _ _
  have hown : ∀ b, Owned (H ++ [o]) (ρ ++ [p]) b → Owned H ρ b ∨ b = p.b := by
    rintro b ⟨i, o', p', ho', hp', hbk⟩
    rcases get_push ho' with ⟨hi, ho'⟩ | ⟨hi, rfl⟩
    · rw [List.getElem?_append_left (by rw [hh.len]; exact hi)] at hp'
      exact .inl ⟨i, o', p', ho', hp', hbk⟩
    · rw [hi, ← hh.len] at hp'
      simp at hp'
      subst hp'
      exact .inr (hob _ hbk)
  refine ⟨⟨by simp [hh.len], fun i o' p' ho' hp' => ?_, fun i m todo hi => ?_, fun i j o1 o2 p1 p2 b h1 h2 h3 h4 h5 h6 => ?_⟩, ⟨hpre, hsz, hos, htp, hou, fun b hb' _ => hold b hb', fun b hb' ho => ?_⟩⟩
  · rcases get_push ho' with ⟨hi, ho'⟩ | ⟨hi, rfl⟩
    · rw [List.getElem?_append_left (by rw [hh.len]; exact hi)] at hp'
      exact (hsame.rep i o' p' ho' hp').ext hpre
    · rw [hi, ← hh.len] at hp'
      simp at hp'
      subst hp'
      exact hR
  · have up : ∀ {m : Nat} {l : List (Int × Int)}, H[m]? = some (.m64 l) → (H ++ [o])[m]? = some (.m64 l) := by
      intro m l h
      rw [List.getElem?_append_left (List.getElem?_eq_some_iff.1 h).1]
      exact h
    rcases get_push hi with ⟨_, hi⟩ | ⟨_, e⟩
    · obtain ⟨l, hl⟩ := hh.iter i m todo hi; exact ⟨l, up hl⟩
    · obtain ⟨l, hl⟩ := hit m todo e.symm; exact ⟨l, up hl⟩
  · have old : ∀ {i : Nat} {o' : AO} {p' : Pl}, (H ++ [o])[i]? = some o' → (ρ ++ [p])[i]? = some p' → o'.own p' b → (i < H.length ∧ H[i]? = some o' ∧ ρ[i]? = some p' ∧ b < w.heap.size) ∨ (i = H.length ∧ b = w.heap.size) := by
      intro i o' p' ho' hp' hbk
      rcases get_push ho' with ⟨hi, ho'⟩ | ⟨hi, rfl⟩
      · rw [List.getElem?_append_left (by rw [hh.len]; exact hi)] at hp'
        exact .inl ⟨hi, ho', hp', (hh.rep i o' p' ho' hp').own_lt hbk⟩
      · rw [hi, ← hh.len] at hp'
        simp at hp'
        subst hp'
        exact .inr ⟨hi, by rw [← hb]; exact hob _ hbk⟩
    rcases old h1 h2 h5 with ⟨_, a1, a2, a3⟩ | ⟨a1, a2⟩ <;> rcases old h3 h4 h6 with ⟨_, b1, b2, b3⟩ | ⟨b1, b2⟩
    · exact hh.apart i j o1 o2 p1 p2 b a1 a2 b1 b2 h5 h6
    · omega
    · omega
    · omega
  · rcases hown b ho with h | h
    · exact h
    · omega

/-- An object turns, in its own block. -/
theorem Holds.turn (hh : Holds H ρ w) {i : Nat} {o o' : AO} {p : Pl} (ho : H[i]? = some o) (hp : ρ[i]? = some p) (hbk : o.own p p.b) (hbk' : ∀ b, o'.own p b → b = p.b)
    (hs : w'.heap.size = w.heap.size) (hw : ∀ b, b ≠ p.b → w'.heap[b]? = w.heap[b]?) (hos : w'.os = w.os) (htp : w'.tape = w.tape) (hou : w'.output = w.output)
    (hR : o'.R ρ p w') (hit : ∀ (m : Nat) (todo : Todo), o' = .it64 m todo → ∃ l, H[m]? = some (.m64 l) ∧ m ≠ i) (hmap : (∃ l, o = .m64 l) → (∃ l', o' = AO.m64 l') ∧ ∀ (j : Nat) (todo : Todo), H[j]? = some (AO.it64 i todo) → False) :
    Holds (H.set i o') ρ w' ∧ Ext H ρ w (H.set i o') ρ w' := by
  have hil : i < H.length := (List.getElem?_eq_some_iff.1 ho).1
  have hown : ∀ b, Owned (H.set i o') ρ b → Owned H ρ b := by
    rintro b ⟨j, o2, p2, ho2, hp2, hb2⟩
    rcases get_set ho2 with ⟨rfl, _, rfl⟩ | ⟨_, ho2⟩
    · rw [hp] at hp2; cases hp2
      have := hbk' b hb2
      subst this
      exact ⟨i, o, p, ho, hp, hbk⟩
    · exact ⟨j, o2, p2, ho2, hp2, hb2⟩
  have other : ∀ (j : Nat) (o2 : AO) (p2 : Pl) (b : Nat), i ≠ j → H[j]? = some o2 → ρ[j]? = some p2 → o2.own p2 b → b ≠ p.b := by
    intro j o2 p2 b hij ho2 hp2 hb2 e
    subst e
    exact hij (hh.apart i j o o2 p p2 p.b ho hp ho2 hp2 hbk hb2)
  refine ⟨⟨by simp [hh.len], fun j o2 p2 ho2 hp2 => ?_, fun j m todo hj => ?_, fun j k o2 o3 p2 p3 b h1 h2 h3 h4 h5 h6 => ?_⟩, ⟨List.prefix_refl _, Nat.le_of_eq hs.symm, hos, htp, hou, fun b hb' hn => ?_, fun b _ h => hown b h⟩⟩
  · rcases get_set ho2 with ⟨rfl, _, rfl⟩ | ⟨hij, ho2⟩
    · rw [hp] at hp2; cases hp2; exact hR
    · refine (hh.rep j o2 p2 ho2 hp2).same (Nat.le_of_eq hs.symm) (fun b hb => hw b (other j o2 p2 b hij ho2 hp2 hb)) (fun m todo q e hq => ?_)
      subst e
      obtain ⟨l, hl⟩ := hh.iter j m todo ho2
      by_cases hmi : i = m
      · subst hmi
        rw [ho] at hl
        cases hl
        exact ((hmap ⟨l, rfl⟩).2 j todo ho2).elim
      · exact hw _ (other m _ q q.b hmi hl hq rfl)
  · have keep : ∀ m : Nat, (∃ l, H[m]? = some (AO.m64 l)) → ∃ l, (H.set i o')[m]? = some (AO.m64 l) := by
      rintro m ⟨l, hl⟩
      by_cases hmi : i = m
      · subst hmi
        rw [ho] at hl; cases hl
        obtain ⟨l', rfl⟩ := (hmap ⟨l, rfl⟩).1
        exact ⟨l', by simp [hil]⟩
      · exact ⟨l, by rw [List.getElem?_set_ne hmi]; exact hl⟩
    rcases get_set hj with ⟨_, _, e⟩ | ⟨_, hj⟩
    · obtain ⟨l, hl, _⟩ := hit m todo e.symm; exact keep m ⟨l, hl⟩
    · exact keep m (hh.iter j m todo hj)
  · have down : ∀ {j : Nat} {o2 : AO} {p2 : Pl}, (H.set i o')[j]? = some o2 → ρ[j]? = some p2 → o2.own p2 b → ∃ o4, H[j]? = some o4 ∧ o4.own p2 b := by
      intro j o2 p2 ho2 hp2 hb2
      rcases get_set ho2 with ⟨rfl, _, rfl⟩ | ⟨_, ho2⟩
      · rw [hp] at hp2; cases hp2
        have := hbk' b hb2
        subst this
        exact ⟨o, ho, hbk⟩
      · exact ⟨o2, ho2, hb2⟩
    obtain ⟨o4, h7, h8⟩ := down h1 h2 h5
    obtain ⟨o5, h9, h10⟩ := down h3 h4 h6
    exact hh.apart j k o4 o5 p2 p3 b h7 h2 h9 h4 h8 h10
  · refine hw b (fun e => hn ?_)
    subst e
    exact ⟨i, o, p, ho, hp, hbk⟩

/-- An object more, wherever it lies. -/
theorem Holds.push2 (hh : Holds H ρ w) {p : Pl} {o : AO} (hs : w.heap.size ≤ w'.heap.size) (hb : ∀ b, Owned H ρ b → w'.heap[b]? = w.heap[b]?) (hf : ∀ b, o.own p b → ¬ Owned H ρ b)
    (hR : o.R (ρ ++ [p]) p w') (hit : ∀ (m : Nat) (todo : Todo), o = .it64 m todo → ∃ l, H[m]? = some (.m64 l)) : Holds (H ++ [o]) (ρ ++ [p]) w' := by
  have hpre : ρ <+: ρ ++ [p] := List.prefix_append _ _
  have hsame := hh.same hs hb
  have old : ∀ {i : Nat} {o' : AO} {p' : Pl}, (H ++ [o])[i]? = some o' → (ρ ++ [p])[i]? = some p' → (H[i]? = some o' ∧ ρ[i]? = some p') ∨ (i = H.length ∧ o' = o ∧ p' = p) := by
    intro i o' p' ho' hp'
    rcases get_push ho' with ⟨hi, ho'⟩ | ⟨hi, rfl⟩
    · rw [List.getElem?_append_left (by rw [hh.len]; exact hi)] at hp'
      exact .inl ⟨ho', hp'⟩
    · rw [hi, ← hh.len] at hp'
      simp at hp'
      exact .inr ⟨hi, rfl, hp'.symm⟩
  refine ⟨by simp [hh.len], fun i o' p' ho' hp' => ?_, fun i m todo hi => ?_, fun i j o1 o2 p1 p2 b h1 h2 h3 h4 h5 h6 => ?_⟩
  · rcases old ho' hp' with ⟨h1, h2⟩ | ⟨_, rfl, rfl⟩
    · exact (hsame.rep i o' p' h1 h2).ext hpre
    · exact hR
  · have up : ∀ {m : Nat} {l : List (Int × Int)}, H[m]? = some (.m64 l) → (H ++ [o])[m]? = some (.m64 l) := by
      intro m l h
      rw [List.getElem?_append_left (List.getElem?_eq_some_iff.1 h).1]
      exact h
    rcases get_push hi with ⟨_, hi⟩ | ⟨_, e⟩
    · obtain ⟨l, hl⟩ := hh.iter i m todo hi; exact ⟨l, up hl⟩
    · obtain ⟨l, hl⟩ := hit m todo e.symm; exact ⟨l, up hl⟩
  · rcases old h1 h2 with ⟨a1, a2⟩ | ⟨a1, rfl, rfl⟩ <;> rcases old h3 h4 with ⟨b1, b2⟩ | ⟨b1, e1, e2⟩
    · exact hh.apart i j o1 o2 p1 p2 b a1 a2 b1 b2 h5 h6
    · subst e1; subst e2; exact (hf b h6 ⟨i, o1, p1, a1, a2, h5⟩).elim
    · exact (hf b h5 ⟨j, o2, p2, b1, b2, h6⟩).elim
    · omega
theorem Owned.push {p : Pl} {o : AO} {b : Nat} (hl : ρ.length = H.length) (h : Owned (H ++ [o]) (ρ ++ [p]) b) : Owned H ρ b ∨ o.own p b := by
  obtain ⟨i, o', p', ho', hp', hbk⟩ := h
  rcases get_push ho' with ⟨hi, ho'⟩ | ⟨hi, rfl⟩
  · rw [List.getElem?_append_left (by rw [hl]; exact hi)] at hp'
    exact .inl ⟨i, o', p', ho', hp', hbk⟩
  · rw [hi, ← hl] at hp'
    simp at hp'
    subst hp'
    exact .inr hbk
/-- An object is given up. -/
theorem Holds.drop (hh : Holds H ρ w) (i : Nat) (hm : ∀ l, H[i]? ≠ some (.m64 l)) : Holds (H.set i .gone) ρ w ∧ Ext H ρ w (H.set i .gone) ρ w := by
  have down : ∀ {j : Nat} {o2 : AO}, (H.set i .gone)[j]? = some o2 → o2 = .gone ∨ H[j]? = some o2 := by
    intro j o2 h
    rcases get_set h with ⟨_, _, e⟩ | ⟨_, h⟩
    · exact .inl e
    · exact .inr h
  refine ⟨⟨by simp [hh.len], fun j o2 p2 ho2 hp2 => ?_, fun j m todo hj => ?_, fun j k o2 o3 p2 p3 b h1 h2 h3 h4 h5 h6 => ?_⟩, ⟨List.prefix_refl _, Nat.le_refl _, rfl, rfl, rfl, fun b _ _ => rfl, fun b _ ho => ?_⟩⟩
  · rcases down ho2 with rfl | h
    · trivial
    · exact hh.rep j o2 p2 h hp2
  · rcases down hj with h | h
    · cases h
    · obtain ⟨l, hl⟩ := hh.iter j m todo h
      refine ⟨l, ?_⟩
      rw [List.getElem?_set_ne]
      · exact hl
      · intro e; subst e; exact hm l hl
  · rcases down h1 with rfl | h
    · simp [AO.own] at h5
    · rcases down h3 with rfl | h'
      · simp [AO.own] at h6
      · exact hh.apart j k o2 o3 p2 p3 b h h2 h' h4 h5 h6
  · obtain ⟨j, o2, p2, h1, h2, h3⟩ := ho
    rcases down h1 with rfl | h
    · simp [AO.own] at h3
    · exact ⟨j, o2, p2, h, h2, h3⟩
theorem PV.R_inv {x : PV} {v : Value} (h : x.sv.R ρ v) : v = x.val ∧ x.ok = true := by
  cases x with
  | int k n => exact ⟨h, rfl⟩
  | bool b => exact ⟨h, rfl⟩
  | raw u => exact ⟨h.1, h.2 |> fun h2 => h2⟩
theorem PVs_inv : ∀ {l : List PV} {vs : List Value}, All2 (SV.R ρ) (l.map PV.sv) vs → vs = l.map PV.val ∧ ∀ x ∈ l, x.ok = true
  | [], [], _ => ⟨rfl, fun x h => by cases h⟩
  | x :: l, v :: vs, ⟨h1, h2⟩ => by
    obtain ⟨a, b⟩ := PV.R_inv h1
    obtain ⟨c, d⟩ := PVs_inv h2
    exact ⟨by simp [a, c], fun y hy => (List.mem_cons.1 hy).elim (fun e => by rw [e]; exact b) (d y)⟩
  | [], _ :: _, h => h.elim
  | _ :: _, [], h => h.elim
/-- A box joins a family: the family lies anew. -/
theorem Holds.absorb (hh : Holds H ρ w) {j m : Nat} {rows : List (List PV)} {row : List PV} {te : TypeId} {pj pm : Pl} (hj : H[j]? = some (.fam rows te)) (hm : H[m]? = some (.cells (row.map PV.sv) te)) (hpj : ρ[j]? = some pj) (hpm : ρ[m]? = some pm) :
    pm.off = 0 ∧ pj.bs.length = rows.length ∧ Holds ((H.set m .gone).set j .gone ++ [.fam (rows ++ [row]) te]) (ρ ++ [{ b := 0, bs := pj.bs ++ [pm.b] }]) w ∧
    Ext H ρ w ((H.set m .gone).set j .gone ++ [.fam (rows ++ [row]) te]) (ρ ++ [{ b := 0, bs := pj.bs ++ [pm.b] }]) w := by
  obtain ⟨f1, f2, f3⟩ := hh.rep j _ pj hj hpj
  obtain ⟨m0, ds, m1, m2⟩ := hh.rep m _ pm hm hpm
  obtain ⟨rfl, hok⟩ := PVs_inv m1
  have hne : m ≠ j := fun e => by subst e; rw [hj] at hm; cases hm
  obtain ⟨d1, e1⟩ := hh.drop m (fun l h => by rw [hm] at h; cases h)
  obtain ⟨d2, e2⟩ := d1.drop j (fun l h => by rw [List.getElem?_set_ne hne, hj] at h; cases h)
  have hnot : pm.b ∉ pj.bs := fun h => hne (hh.apart m j _ _ pm pj pm.b hm hpm hj hpj rfl h)
  have own : ∀ b, b ∈ pj.bs ++ [pm.b] → Owned H ρ b := by
    intro b hb
    rcases List.mem_append.1 hb with hb | hb
    · exact ⟨j, _, pj, hj, hpj, hb⟩
    · simp at hb; subst hb; exact ⟨m, _, pm, hm, hpm, rfl⟩
  have notH2 : ∀ b, b ∈ pj.bs ++ [pm.b] → ¬ Owned ((H.set m .gone).set j .gone) ρ b := by
    rintro b hb ⟨k, o, p, ho, hp, hbo⟩
    rcases get_set ho with ⟨_, _, rfl⟩ | ⟨hjk, ho⟩
    · exact hbo
    · rcases get_set ho with ⟨_, _, rfl⟩ | ⟨hmk, ho⟩
      · exact hbo
      · rcases List.mem_append.1 hb with hb | hb
        · exact hjk (hh.apart j k _ _ pj p b hj hpj ho hp hb hbo)
        · simp at hb; subst hb; exact hmk (hh.apart m k _ _ pm p _ hm hpm ho hp rfl hbo)
  have hH := d2.push2 (w' := w) (p := { b := 0, bs := pj.bs ++ [pm.b] }) (o := .fam (rows ++ [row]) te) (Nat.le_refl _) (fun _ _ => rfl) (fun b hb => notH2 b hb)
    ⟨by simp [f1], by
      rw [List.nodup_append]
      exact ⟨f2, by simp, fun x hx y hy e => by simp at hy; subst hy; subst e; exact hnot hx⟩, fun k b r hk hr => by
      rcases get_push hk with ⟨hl, hk⟩ | ⟨hl, rfl⟩
      · rw [List.getElem?_append_left (by omega)] at hr
        exact f3 k b r hk hr
      · rw [hl, f1] at hr
        simp at hr
        subst hr
        exact ⟨by simpa using m2, hok⟩⟩ (fun _ _ h => by cases h)
  refine ⟨m0, f1, hH, ⟨List.prefix_append _ _, Nat.le_refl _, rfl, rfl, rfl, fun _ _ _ => rfl, fun b hb ho => ?_⟩⟩
  rcases Owned.push d2.len ho with h | h
  · exact e1.back b hb (e2.back b hb h)
  · exact own b h
end
end Bm
