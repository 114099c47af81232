/-
  Plain Lean: cycles of a permutation as lists; lists of cycles; numbers of cycles. No program is named here.
-/
import Derived.Test.YtobbepmlmbbamaaSph
namespace Go.Proofs.Ytobbepmlmbbamaa.Pl
variable {N : Nat} {S : Nat → Prop} {f : Nat → Nat}

/-- p is the period of x. -/
def Per (f : Nat → Nat) (x p : Nat) : Prop := 0 < p ∧ it f p x = x ∧ ∀ i, 0 < i → i < p → it f i x ≠ x
theorem least_nat {P : Nat → Prop} : ∀ (n : Nat), P n → ∃ m, m ≤ n ∧ P m ∧ ∀ k, k < m → ¬ P k
  | 0, h => ⟨0, Nat.le_refl _, h, fun k hk => absurd hk (by omega)⟩
  | n + 1, h => by
    by_cases e : ∃ k, k < n + 1 ∧ P k
    · obtain ⟨k, hk, hp⟩ := e
      obtain ⟨m, h1, h2, h3⟩ := least_nat k hp
      exact ⟨m, by omega, h2, h3⟩
    · exact ⟨n + 1, Nat.le_refl _, h, fun k hk hp => e ⟨k, hk, hp⟩⟩
termination_by n => n
theorem Bij.per (h : Bij N S f) {x : Nat} (hx : S x) : ∃ p, p ≤ N ∧ Per f x p := by
  obtain ⟨q, h1, h2, h3⟩ := h.back hx
  obtain ⟨m, g1, ⟨g2, g3⟩, g4⟩ := least_nat (P := fun p => 0 < p ∧ Pl.it f p x = x) q ⟨h1, h3⟩
  exact ⟨m, by omega, g2, g3, fun i hi hm e => g4 i hm ⟨hi, e⟩⟩
/-- The cycle from x, as a list. -/
def cyc (f : Nat → Nat) (x p : Nat) : List Nat := (List.range p).map (fun i => it f i x)
theorem cyc_len (f : Nat → Nat) (x p : Nat) : (cyc f x p).length = p := by unfold cyc; simp
theorem cyc_succ (f : Nat → Nat) (x p : Nat) : cyc f x (p + 1) = cyc f x p ++ [it f p x] := by unfold cyc; rw [List.range_succ, List.map_append]; rfl
theorem cyc_get {f : Nat → Nat} {x p i : Nat} (hi : i < p) : (cyc f x p).getD i 0 = it f i x := by
  unfold cyc
  rw [List.getD_eq_getElem?_getD, List.getElem?_map, List.getElem?_range hi]; rfl
theorem mem_cyc {x p : Nat} (hp : Per f x p) {y : Nat} : y ∈ cyc f x p ↔ Orb f x y := by
  unfold cyc
  rw [List.mem_map]
  constructor
  · rintro ⟨i, _, e⟩; exact ⟨i, e⟩
  · rintro ⟨k, e⟩
    refine ⟨k % p, List.mem_range.2 (Nat.mod_lt _ hp.1), ?_⟩
    have h1 : k = k % p + k / p * p := by rw [Nat.mul_comm]; exact (Nat.mod_add_div k p).symm
    rw [h1, it_add, it_mul f p x hp.2.1] at e
    exact e
/-- The cycles that begin below k, in order; all wanted ones, each once. -/
structure Fcs (f : Nat → Nat) (W : Nat → Prop) (N k : Nat) (fs : List (List Nat)) (bs : List Bool) : Prop where
  len : bs.length = N
  is : ∀ l, l ∈ fs → ∃ h p, h < N ∧ W h ∧ Per f h p ∧ l = cyc f h p
  seen : ∀ h, h < N → (gb bs h = true ↔ ∃ l, l ∈ fs ∧ h ∈ l)
  all : ∀ h, h < k → W h → gb bs h = true
  one : ∀ (i j : Nat) (l m : List Nat) (h : Nat), fs[i]? = some l → fs[j]? = some m → h ∈ l → h ∈ m → i = j
theorem Fcs.start (f : Nat → Nat) (W : Nat → Prop) (N : Nat) : Fcs f W N 0 [] (List.replicate N false) := by
  refine ⟨by simp, fun l h => by simp at h, fun h hh => ?_, fun h hh => absurd hh (by omega), fun i j l m h e => by simp at e⟩
  constructor
  · intro e; unfold gb at e; rw [List.getD_eq_getElem?_getD, List.getElem?_replicate, if_pos hh] at e; exact absurd e (by decide)
  · rintro ⟨l, h, _⟩; simp at h
theorem Fcs.skip {W : Nat → Prop} {k : Nat} {fs : List (List Nat)} {bs : List Bool} (h : Fcs f W N k fs bs) (hs : gb bs k = true ∨ ¬ W k) : Fcs f W N (k + 1) fs bs :=
  ⟨h.len, h.is, h.seen, fun x hx hw => by
    by_cases e : x = k
    · subst e
      rcases hs with hs | hs
      · exact hs
      · exact absurd hw hs
    · exact h.all x (by omega) hw, h.one⟩
/-- A cycle's members marked, j of them. -/
def mark (bs : List Bool) : List Nat → List Bool
  | [] => bs
  | x :: l => mark (bs.set x true) l
theorem mark_append (bs : List Bool) : ∀ (l m : List Nat), mark bs (l ++ m) = mark (mark bs l) m := by
  intro l
  induction l generalizing bs with
  | nil => intro m; rfl
  | cons x l ih => intro m; exact ih (bs.set x true) m
theorem mark_len (bs : List Bool) (l : List Nat) : (mark bs l).length = bs.length := by
  induction l generalizing bs with
  | nil => rfl
  | cons x l ih => show (mark (bs.set x true) l).length = _; rw [ih, List.length_set]
theorem gb_mark {bs : List Bool} {l : List Nat} (hl : ∀ x, x ∈ l → x < bs.length) (h : Nat) : gb (mark bs l) h = true ↔ gb bs h = true ∨ h ∈ l := by
  induction l generalizing bs with
  | nil => simp [mark]
  | cons x l ih =>
    show gb (mark (bs.set x true) l) h = true ↔ _
    rw [ih (fun y hy => by rw [List.length_set]; exact hl y (List.mem_cons_of_mem _ hy)), gb_set (hl x List.mem_cons_self) true h, List.mem_cons]
    by_cases e : h = x
    · simp [e]
    · simp [e]
theorem Fcs.add {W : Nat → Prop} (hb : Bij N S f) (hS : ∀ x, x < N → S x) (hN : ∀ x, S x → x < N) {k p : Nat} {fs : List (List Nat)} {bs : List Bool} (h : Fcs f W N k fs bs) (hk : k < N) (hw : W k) (hn : gb bs k = false) (hp : Per f k p) :
    Fcs f W N (k + 1) (fs ++ [cyc f k p]) (mark bs (cyc f k p)) := by
  have hin : ∀ x, x ∈ cyc f k p → x < bs.length := fun x hx => by
    rw [h.len]; exact hN x (hb.orb_mem (hS k hk) ((mem_cyc hp).1 hx))
  have apart : ∀ l x, l ∈ fs → x ∈ l → ¬ x ∈ cyc f k p := fun l x hl hx hc => by
    obtain ⟨g, q, h1, h2, h3, rfl⟩ := h.is l hl
    have e1 := (mem_cyc h3).1 hx
    have e2 := (mem_cyc hp).1 hc
    have e3 : Orb f g k := e1.trans (hb.symm (hS k hk) e2)
    have := (h.seen k hk).2 ⟨_, hl, (mem_cyc h3).2 e3⟩
    rw [hn] at this
    exact absurd this (by decide)
  refine ⟨by rw [mark_len, h.len], fun l hl => ?_, fun x hx => ?_, fun x hx hwx => ?_, fun i j l m x e1 e2 h1 h2 => ?_⟩
  · rcases List.mem_append.1 hl with hl | hl
    · exact h.is l hl
    · rw [List.mem_singleton] at hl
      exact ⟨k, p, hk, hw, hp, hl⟩
  · rw [gb_mark hin, h.seen x hx]
    constructor
    · rintro (⟨l, h1, h2⟩ | h2)
      · exact ⟨l, List.mem_append_left _ h1, h2⟩
      · exact ⟨_, List.mem_append_right _ (List.mem_singleton.2 rfl), h2⟩
    · rintro ⟨l, h1, h2⟩
      rcases List.mem_append.1 h1 with h1 | h1
      · exact .inl ⟨l, h1, h2⟩
      · rw [List.mem_singleton] at h1; subst h1; exact .inr h2
  · rw [gb_mark hin]
    by_cases e : x = k
    · subst e; exact .inr ((mem_cyc hp).2 (Orb.refl f x))
    · exact .inl (h.all x (by omega) hwx)
  · rw [List.getElem?_append] at e1 e2
    by_cases c1 : i < fs.length
    · rw [if_pos c1] at e1
      by_cases c2 : j < fs.length
      · rw [if_pos c2] at e2
        exact h.one i j l m x e1 e2 h1 h2
      · rw [if_neg c2] at e2
        have := List.mem_of_getElem? e2
        rw [List.mem_singleton] at this
        subst this
        exact absurd h2 (apart l x (List.mem_of_getElem? e1) h1)
    · rw [if_neg c1] at e1
      have t1 := List.mem_of_getElem? e1
      rw [List.mem_singleton] at t1
      by_cases c2 : j < fs.length
      · rw [if_pos c2] at e2
        subst t1
        exact absurd h1 (apart m x (List.mem_of_getElem? e2) h2)
      · rw [if_neg c2] at e2
        have a1 := (List.getElem?_eq_some_iff.1 e1).1
        have a2 := (List.getElem?_eq_some_iff.1 e2).1
        simp only [List.length_singleton] at a1 a2
        omega
/-- Numbers of cycles: two numbers agree just where one cycle holds both. -/
theorem Fcs.label {W : Nat → Prop} (hb : Bij N S f) (hS : ∀ x, x < N → S x) {fs : List (List Nat)} {bs : List Bool} (h : Fcs f W N N fs bs) (hW : ∀ x, x < N → W x) {F : Nat → Nat} (hF : ∀ (i : Nat) (l : List Nat) (x : Nat), fs[i]? = some l → x ∈ l → F x = i) {x y : Nat} (hx : x < N) (hy : y < N) : F x = F y ↔ Orb f x y := by
  obtain ⟨l, h1, h2⟩ := (h.seen x hx).1 (h.all x hx (hW x hx))
  obtain ⟨m, g1, g2⟩ := (h.seen y hy).1 (h.all y hy (hW y hy))
  obtain ⟨i, hi⟩ := List.getElem?_of_mem h1
  obtain ⟨j, hj⟩ := List.getElem?_of_mem g1
  rw [hF i l x hi h2, hF j m y hj g2]
  obtain ⟨a, p, a1, a2, a3, rfl⟩ := h.is l h1
  have ox := (mem_cyc a3).1 h2
  constructor
  · intro e
    subst e
    rw [hi] at hj
    injection hj with hj
    subst hj
    have oy := (mem_cyc a3).1 g2
    exact (hb.symm (hS a a1) ox).trans oy
  · intro e
    exact h.one i j _ m y hi hj ((mem_cyc a3).2 (ox.trans e)) g2
end Go.Proofs.Ytobbepmlmbbamaa.Pl
