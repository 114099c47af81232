/-
  The texts Cls, Orb in one.
-/

set_option linter.unusedVariables false
set_option linter.unusedSimpArgs false

section
/-
  Plain Lean: how many classes a relation has on a finite set of numbers. No program is named here.
-/
namespace Go.Proofs.Ytobbepmlmbbamaa.Pl

/-- The relation R has k classes on the set S: a labelling by the numbers below k, each of them used. -/
def Cls (S : Nat → Prop) (R : Nat → Nat → Prop) (k : Nat) : Prop :=
  ∃ r : Nat → Nat, (∀ h, S h → r h < k) ∧ (∀ h g, S h → S g → (r h = r g ↔ R h g)) ∧ (∀ i, i < k → ∃ h, S h ∧ r h = i)

theorem pigeon : ∀ (k k' : Nat) (f : Nat → Nat), (∀ i, i < k → f i < k') → (∀ i j, i < k → j < k → f i = f j → i = j) → k ≤ k'
  | 0, _, _, _, _ => Nat.zero_le _
  | k + 1, 0, f, h, _ => absurd (h 0 (by omega)) (by omega)
  | k + 1, k' + 1, f, h, hi => by
    -- send k' to the image of k
    have := pigeon k k' (fun i => if f i = k' then f k else f i) (fun i hik => by
      have h1 := h i (by omega)
      have h2 := h k (by omega)
      by_cases e : f i = k'
      · simp only [e, if_true]
        have : f k ≠ k' := fun e2 => by have := hi i k (by omega) (by omega) (by rw [e, e2]); omega
        omega
      · simp only [e, if_false]; omega) (fun i j hik hjk hij => by
      by_cases e : f i = k' <;> by_cases e2 : f j = k'
      · exact hi i j (by omega) (by omega) (by rw [e, e2])
      · simp only [e, e2, if_true, if_false] at hij
        have := hi k j (by omega) (by omega) hij; omega
      · simp only [e, e2, if_true, if_false] at hij
        have := hi i k (by omega) (by omega) hij; omega
      · simp only [e, e2, if_false] at hij
        exact hi i j (by omega) (by omega) hij)
    omega

theorem Cls.le {S S' : Nat → Prop} {R R' : Nat → Nat → Prop} {k k' : Nat} (h : Cls S R k) (h' : Cls S' R' k') (t : Nat → Nat) (hs : ∀ x, S x → S' (t x)) (hr : ∀ x y, S x → S y → R' (t x) (t y) → R x y) : k ≤ k' := by
  obtain ⟨r, r1, r2, r3⟩ := h
  obtain ⟨q, q1, q2, q3⟩ := h'
  have hw : ∀ i : Nat, ∃ x : Nat, i < k → S x ∧ r x = i := fun i => by
    by_cases hi : i < k
    · obtain ⟨x, hx⟩ := r3 i hi; exact ⟨x, fun _ => hx⟩
    · exact ⟨0, fun h => absurd h hi⟩
  refine pigeon k k' (fun i => q (t (Classical.choose (hw i)))) (fun i hi => ?_) (fun i j hi hj e => ?_)
  · exact q1 _ (hs _ (Classical.choose_spec (hw i) hi).1)
  · have ci := Classical.choose_spec (hw i) hi
    have cj := Classical.choose_spec (hw j) hj
    have := hr _ _ ci.1 cj.1 ((q2 _ _ (hs _ ci.1) (hs _ cj.1)).1 e)
    rw [← ci.2, ← cj.2]
    exact (r2 _ _ ci.1 cj.1).2 this
theorem Cls.unique {S : Nat → Prop} {R : Nat → Nat → Prop} {k k' : Nat} (h : Cls S R k) (h' : Cls S R k') : k = k' :=
  Nat.le_antisymm (h.le h' id (fun _ hx => hx) (fun _ _ _ _ e => e)) (h'.le h id (fun _ hx => hx) (fun _ _ _ _ e => e))
theorem Cls.congr {S S' : Nat → Prop} {R R' : Nat → Nat → Prop} {k : Nat} (h : Cls S R k) (hs : ∀ x, S x ↔ S' x) (hr : ∀ x y, S x → S y → (R x y ↔ R' x y)) : Cls S' R' k := by
  obtain ⟨r, r1, r2, r3⟩ := h
  exact ⟨r, fun x hx => r1 x ((hs x).2 hx), fun x y hx hy => (r2 x y ((hs x).2 hx) ((hs y).2 hy)).trans (hr x y ((hs x).2 hx) ((hs y).2 hy)),
    fun i hi => let ⟨x, hx, e⟩ := r3 i hi; ⟨x, (hs x).1 hx, e⟩⟩

/-- An equivalence on S. -/
structure Eqv (S : Nat → Prop) (R : Nat → Nat → Prop) : Prop where
  refl : ∀ x, S x → R x x
  symm : ∀ x y, S x → S y → R x y → R y x
  trans : ∀ x y z, S x → S y → S z → R x y → R y z → R x z
theorem Cls.eqv {S : Nat → Prop} {R : Nat → Nat → Prop} {k : Nat} (h : Cls S R k) : Eqv S R := by
  obtain ⟨r, _, r2, _⟩ := h
  exact ⟨fun x hx => (r2 x x hx hx).1 rfl, fun x y hx hy e => (r2 y x hy hx).1 ((r2 x y hx hy).2 e).symm,
    fun x y z hx hy hz e e' => (r2 x z hx hz).1 (((r2 x y hx hy).2 e).trans ((r2 y z hy hz).2 e'))⟩
theorem Cls.pos {S : Nat → Prop} {R : Nat → Nat → Prop} {k : Nat} (h : Cls S R k) {a : Nat} (ha : S a) : 0 < k := by
  obtain ⟨r, r1, _, _⟩ := h
  have := r1 a ha; omega
theorem Cls.empty {S : Nat → Prop} {R : Nat → Nat → Prop} (h : ∀ x, ¬ S x) : Cls S R 0 :=
  ⟨fun _ => 0, fun x hx => absurd hx (h x), fun x _ hx => absurd hx (h x), fun i hi => absurd hi (by omega)⟩
theorem Cls.two {S : Nat → Prop} {R : Nat → Nat → Prop} {k : Nat} (h : Cls S R k) {a b : Nat} (ha : S a) (hb : S b) (hn : ¬ R a b) : 2 ≤ k := by
  obtain ⟨r, r1, r2, _⟩ := h
  have h1 := r1 a ha
  have h2 := r1 b hb
  have h3 : r a ≠ r b := fun e => hn ((r2 a b ha hb).1 e)
  omega

/-- Two classes made one. -/
def Join (R : Nat → Nat → Prop) (a b : Nat) (x y : Nat) : Prop := R x y ∨ (R x a ∧ R b y) ∨ (R x b ∧ R a y)
theorem Cls.join {S : Nat → Prop} {R : Nat → Nat → Prop} {k : Nat} (h : Cls S R (k + 1)) {a b : Nat} (ha : S a) (hb : S b) (hn : ¬ R a b) : Cls S (Join R a b) k := by
  have hE := h.eqv
  obtain ⟨r, r1, r2, r3⟩ := h
  have hne : r a ≠ r b := fun e => hn ((r2 a b ha hb).1 e)
  have la := r1 a ha
  have lb := r1 b hb
  -- the label k is given to the class of b's number; the class of b takes the label of a
  let A := if r a = k then r b else r a
  let m : Nat → Nat := fun i => if i = r b then A else if i = k then r b else i
  have hA : A < k := by
    show (if r a = k then r b else r a) < k
    split <;> omega
  have key : ∀ x y, S x → S y → (m (r x) = m (r y) ↔ Join R a b x y) := by
    intro x y hx hy
    have ex : r x = r y ↔ R x y := r2 x y hx hy
    have exa : r x = r a ↔ R x a := r2 x a hx ha
    have exb : r x = r b ↔ R x b := r2 x b hx hb
    have eya : r a = r y ↔ R a y := r2 a y ha hy
    have eyb : r b = r y ↔ R b y := r2 b y hb hy
    unfold Join
    rw [← ex, ← exa, ← exb, ← eya, ← eyb]
    have lx := r1 x hx
    have ly := r1 y hy
    show (if r x = r b then (if r a = k then r b else r a) else if r x = k then r b else r x) = (if r y = r b then (if r a = k then r b else r a) else if r y = k then r b else r y) ↔ _
    constructor
    · intro e
      split at e <;> split at e <;> (try split at e) <;> (try split at e) <;> (try split at e) <;> omega
    · intro e
      split <;> split <;> (try split) <;> (try split) <;> (try split) <;> omega
  refine ⟨fun x => m (r x), fun x hx => ?_, key, fun i hi => ?_⟩
  · show (if r x = r b then A else if r x = k then r b else r x) < k
    have lx := r1 x hx
    split
    · exact hA
    · split <;> omega
  · by_cases e : i = r b
    · obtain ⟨x, hx, ex⟩ := r3 k (by omega)
      by_cases e2 : r b = k
      · omega
      · refine ⟨x, hx, ?_⟩
        show (if r x = r b then A else if r x = k then r b else r x) = i
        rw [if_neg (by omega), if_pos ex, e]
    · obtain ⟨x, hx, ex⟩ := r3 i (by omega)
      refine ⟨x, hx, ?_⟩
      show (if r x = r b then A else if r x = k then r b else r x) = i
      rw [if_neg (by omega), if_neg (by omega), ex]

/-- Every equivalence on a bounded set has some number of classes. -/
theorem Cls.exists_ : ∀ (N : Nat) (S : Nat → Prop) (R : Nat → Nat → Prop), (∀ x, S x → x < N) → Eqv S R → ∃ k, Cls S R k
  | 0, S, R, hN, _ => ⟨0, Cls.empty fun x hx => absurd (hN x hx) (by omega)⟩
  | N + 1, S, R, hN, hE => by
    obtain ⟨k, hk⟩ := Cls.exists_ N (fun x => S x ∧ x < N) R (fun x hx => hx.2) ⟨fun x hx => hE.refl x hx.1, fun x y hx hy => hE.symm x y hx.1 hy.1, fun x y z hx hy hz => hE.trans x y z hx.1 hy.1 hz.1⟩
    by_cases hS : S N
    · by_cases hm : ∃ x, S x ∧ x < N ∧ R N x
      · obtain ⟨x0, s0, l0, e0⟩ := hm
        obtain ⟨r, r1, r2, r3⟩ := hk
        refine ⟨k, fun x => if x = N then r x0 else r x, fun x hx => ?_, fun x y hx hy => ?_, fun i hi => ?_⟩
        · have := hN x hx
          by_cases e : x = N
          · simp only [e, if_true]; exact r1 x0 ⟨s0, l0⟩
          · simp only [e, if_false]; exact r1 x ⟨hx, by omega⟩
        · have lx := hN x hx
          have ly := hN y hy
          by_cases e : x = N <;> by_cases e2 : y = N
          · subst e; subst e2; simp only [if_true, true_iff]; exact hE.refl _ hx
          · simp only [e, e2, if_true, if_false]
            rw [r2 x0 y ⟨s0, l0⟩ ⟨hy, by omega⟩]
            exact ⟨fun h => hE.trans _ _ _ hS s0 hy e0 h, fun h => hE.trans _ _ _ s0 hS hy (hE.symm _ _ hS s0 e0) h⟩
          · simp only [e, e2, if_true, if_false]
            rw [r2 x x0 ⟨hx, by omega⟩ ⟨s0, l0⟩]
            exact ⟨fun h => hE.trans _ _ _ hx s0 hS h (hE.symm _ _ hS s0 e0), fun h => hE.trans _ _ _ hx hS s0 h e0⟩
          · simp only [e, e2, if_false]
            exact r2 x y ⟨hx, by omega⟩ ⟨hy, by omega⟩
        · obtain ⟨x, hx, ex⟩ := r3 i hi
          refine ⟨x, hx.1, ?_⟩
          have : x ≠ N := by have := hx.2; omega
          simp only [this, if_false]; exact ex
      · obtain ⟨r, r1, r2, r3⟩ := hk
        have hno : ∀ y, S y → y ≠ N → ¬ R N y := fun y hy hne h => hm ⟨y, hy, by have := hN y hy; omega, h⟩
        refine ⟨k + 1, fun x => if x = N then k else r x, fun x hx => ?_, fun x y hx hy => ?_, fun i hi => ?_⟩
        · have := hN x hx
          by_cases e : x = N
          · simp only [e, if_true]; omega
          · simp only [e, if_false]; have := r1 x ⟨hx, by omega⟩; omega
        · have lx := hN x hx
          have ly := hN y hy
          by_cases e : x = N <;> by_cases e2 : y = N
          · subst e; subst e2; simp only [if_true, true_iff]; exact hE.refl _ hx
          · simp only [e, e2, if_true, if_false]
            have := r1 y ⟨hy, by omega⟩
            exact ⟨fun h => absurd h (by omega), fun h => absurd h (hno y hy e2)⟩
          · simp only [e, e2, if_true, if_false]
            have := r1 x ⟨hx, by omega⟩
            exact ⟨fun h => absurd h (by omega), fun h => absurd (hE.symm _ _ hx hS h) (hno x hx e)⟩
          · simp only [e, e2, if_false]
            exact r2 x y ⟨hx, by omega⟩ ⟨hy, by omega⟩
        · by_cases e : i = k
          · exact ⟨N, hS, by simp only [if_true]; exact e.symm⟩
          · obtain ⟨x, hx, ex⟩ := r3 i (by omega)
            refine ⟨x, hx.1, ?_⟩
            have : x ≠ N := by have := hx.2; omega
            simp only [this, if_false]; exact ex
    · exact ⟨k, hk.congr (fun x => ⟨fun h => h.1, fun h => ⟨h, by
        have := hN x h
        by_cases e : x = N
        · subst e; exact absurd h hS
        · omega⟩⟩) (fun _ _ _ _ => Iff.rfl)⟩

/-- Sets that no pair joins: the numbers add up. -/
theorem Cls.add {S T : Nat → Prop} {R : Nat → Nat → Prop} {k l : Nat} (h : Cls S R k) (h' : Cls T R l) (hd : ∀ x y, S x → T y → ¬ R x y) (hd' : ∀ x y, S x → T y → ¬ R y x) (hdis : ∀ x, S x → ¬ T x) : Cls (fun x => S x ∨ T x) R (k + l) := by
  obtain ⟨r, r1, r2, r3⟩ := h
  obtain ⟨q, q1, q2, q3⟩ := h'
  refine ⟨fun x => open Classical in if S x then r x else k + q x, fun x hx => ?_, fun x y hx hy => ?_, fun i hi => ?_⟩
  · by_cases e : S x
    · simp only [e, if_true]; have := r1 x e; omega
    · simp only [e, if_false]; have := q1 x (hx.resolve_left e); omega
  · by_cases e : S x <;> by_cases e2 : S y
    · simp only [e, e2, if_true]; exact r2 x y e e2
    · simp only [e, e2, if_true, if_false]
      have := r1 x e
      exact ⟨fun h => absurd h (by omega), fun h => absurd h (hd x y e (hy.resolve_left e2))⟩
    · simp only [e, e2, if_true, if_false]
      have := r1 y e2
      exact ⟨fun h => absurd h (by omega), fun h => absurd h (hd' y x e2 (hx.resolve_left e))⟩
    · simp only [e, e2, if_false]
      rw [← q2 x y (hx.resolve_left e) (hy.resolve_left e2)]; omega
  · by_cases e : i < k
    · obtain ⟨x, hx, ex⟩ := r3 i e
      exact ⟨x, .inl hx, by simp only [hx, if_true]; exact ex⟩
    · obtain ⟨x, hx, ex⟩ := q3 (i - k) (by omega)
      have : ¬ S x := fun h => hdis x h hx
      exact ⟨x, .inr hx, by simp only [this, if_false]; omega⟩
/-- A part that meets every class has as many. -/
theorem Cls.sub {S D : Nat → Prop} {R : Nat → Nat → Prop} {k : Nat} (h : Cls S R k) (hD : ∀ x, D x → S x) (hm : ∀ x, S x → ∃ y, D y ∧ R x y) : Cls D R k := by
  obtain ⟨r, r1, r2, r3⟩ := h
  refine ⟨r, fun x hx => r1 x (hD x hx), fun x y hx hy => r2 x y (hD x hx) (hD y hy), fun i hi => ?_⟩
  obtain ⟨x, hx, ex⟩ := r3 i hi
  obtain ⟨y, hy, e⟩ := hm x hx
  exact ⟨y, hy, by rw [← ex]; exact ((r2 x y hx (hD y hy)).2 e).symm⟩
theorem Cls.sup {S D : Nat → Prop} {R : Nat → Nat → Prop} {k : Nat} (h : Cls D R k) (hE : Eqv S R) (hD : ∀ x, D x → S x) (hm : ∀ x, S x → ∃ y, D y ∧ R x y) : Cls S R k := by
  obtain ⟨r, r1, r2, r3⟩ := h
  have hw : ∀ x : Nat, ∃ y : Nat, S x → D y ∧ R x y := fun x => by
    by_cases hx : S x
    · obtain ⟨y, hy⟩ := hm x hx; exact ⟨y, fun _ => hy⟩
    · exact ⟨0, fun h => absurd h hx⟩
  refine ⟨fun x => r (Classical.choose (hw x)), fun x hx => r1 _ (Classical.choose_spec (hw x) hx).1, fun x y hx hy => ?_, fun i hi => ?_⟩
  · have cx := Classical.choose_spec (hw x) hx
    have cy := Classical.choose_spec (hw y) hy
    refine (r2 _ _ cx.1 cy.1).trans ⟨fun e => ?_, fun e => ?_⟩
    · exact hE.trans _ _ _ hx (hD _ cx.1) hy cx.2 (hE.trans _ _ _ (hD _ cx.1) (hD _ cy.1) hy e (hE.symm _ _ hy (hD _ cy.1) cy.2))
    · exact hE.trans _ _ _ (hD _ cx.1) hx (hD _ cy.1) (hE.symm _ _ hx (hD _ cx.1) cx.2) (hE.trans _ _ _ hx hy (hD _ cy.1) e cy.2)
  · obtain ⟨x, hx, ex⟩ := r3 i hi
    have cx := Classical.choose_spec (hw x) (hD x hx)
    exact ⟨x, hD x hx, by rw [← ex]; exact ((r2 _ _ hx cx.1).2 cx.2).symm⟩
/-- Numbers given anew. -/
theorem Cls.map {S T : Nat → Prop} {R Q : Nat → Nat → Prop} {k : Nat} (h : Cls S R k) (t : Nat → Nat) (hs : ∀ x, S x → T (t x)) (ht : ∀ y, T y → ∃ x, S x ∧ t x = y) (hr : ∀ x y, S x → S y → (R x y ↔ Q (t x) (t y))) : Cls T Q k := by
  obtain ⟨r, r1, r2, r3⟩ := h
  have hw : ∀ y : Nat, ∃ x : Nat, T y → S x ∧ t x = y := fun y => by
    by_cases hy : T y
    · obtain ⟨x, hx⟩ := ht y hy; exact ⟨x, fun _ => hx⟩
    · exact ⟨0, fun h => absurd h hy⟩
  refine ⟨fun y => r (Classical.choose (hw y)), fun y hy => r1 _ (Classical.choose_spec (hw y) hy).1, fun x y hx hy => ?_, fun i hi => ?_⟩
  · have cx := Classical.choose_spec (hw x) hx
    have cy := Classical.choose_spec (hw y) hy
    rw [r2 _ _ cx.1 cy.1, hr _ _ cx.1 cy.1, cx.2, cy.2]
  · obtain ⟨x, hx, ex⟩ := r3 i hi
    have cx := Classical.choose_spec (hw (t x)) (hs x hx)
    refine ⟨t x, hs x hx, ?_⟩
    rw [← ex]
    refine (r2 _ _ cx.1 hx).2 ((hr _ _ cx.1 hx).2 ?_)
    rw [cx.2]
    exact (hr x x hx hx).1 ((r2 x x hx hx).1 rfl)
end Go.Proofs.Ytobbepmlmbbamaa.Pl
end

section
/-
  Plain Lean: the orbits of a permutation of a finite set of numbers, and what a transposition does to them. No program is named here.
-/
namespace Go.Proofs.Ytobbepmlmbbamaa.Pl

def it (f : Nat → Nat) : Nat → Nat → Nat
  | 0, x => x
  | k + 1, x => f (it f k x)
theorem it_add (f : Nat → Nat) (j : Nat) : ∀ (k x : Nat), it f (j + k) x = it f j (it f k x) := by
  induction j with
  | zero => intro k x; rw [Nat.zero_add]; rfl
  | succ j ih => intro k x; rw [Nat.succ_add]; show f (it f (j + k) x) = f (it f j (it f k x)); rw [ih]
theorem it_one (f : Nat → Nat) (x : Nat) : it f 1 x = f x := rfl
theorem it_succ' (f : Nat → Nat) (k x : Nat) : it f (k + 1) x = it f k (f x) := it_add f k 1 x

/-- f permutes the finite set S. -/
structure Bij (N : Nat) (S : Nat → Prop) (f : Nat → Nat) : Prop where
  lt : ∀ x, S x → x < N
  maps : ∀ x, S x → S (f x)
  inj : ∀ x y, S x → S y → f x = f y → x = y

variable {N : Nat} {S : Nat → Prop} {f : Nat → Nat}
theorem Bij.it (h : Bij N S f) (k : Nat) : ∀ x, S x → S (it f k x) := by
  induction k with
  | zero => intro x hx; exact hx
  | succ k ih => intro x hx; exact h.maps _ (ih x hx)
theorem Bij.it_inj (h : Bij N S f) (k : Nat) : ∀ x y, S x → S y → Pl.it f k x = Pl.it f k y → x = y := by
  induction k with
  | zero => intro x y _ _ e; exact e
  | succ k ih => intro x y hx hy e; exact ih x y hx hy (h.inj _ _ (h.it k x hx) (h.it k y hy) e)
/-- Each element comes back within N steps. -/
theorem Bij.back (h : Bij N S f) {x : Nat} (hx : S x) : ∃ p, 0 < p ∧ p ≤ N ∧ Pl.it f p x = x := by
  by_cases hc : ∃ i j, i < j ∧ j ≤ N ∧ Pl.it f i x = Pl.it f j x
  · obtain ⟨i, j, hij, hj, e⟩ := hc
    refine ⟨j - i, by omega, by omega, ?_⟩
    have e2 : j = i + (j - i) := by omega
    rw [e2, it_add] at e
    exact (h.it_inj i _ _ hx (h.it _ x hx) e).symm
  · have := pigeon (N + 1) N (fun i => Pl.it f i x) (fun i _ => h.lt _ (h.it i x hx)) (fun i j hi hj e => by
      rcases Nat.lt_trichotomy i j with h1 | h1 | h1
      · exact absurd ⟨i, j, h1, by omega, e⟩ hc
      · exact h1
      · exact absurd ⟨j, i, h1, by omega, e.symm⟩ hc)
    omega

/-- y stands in the orbit of x. -/
def Orb (f : Nat → Nat) (x y : Nat) : Prop := ∃ k, it f k x = y
theorem Orb.refl (f : Nat → Nat) (x : Nat) : Orb f x x := ⟨0, rfl⟩
theorem Orb.step (f : Nat → Nat) (x : Nat) : Orb f x (f x) := ⟨1, rfl⟩
theorem Orb.trans {f : Nat → Nat} {x y z : Nat} (h : Orb f x y) (h' : Orb f y z) : Orb f x z := by
  obtain ⟨k, rfl⟩ := h
  obtain ⟨j, rfl⟩ := h'
  exact ⟨j + k, it_add f j k x⟩
theorem Bij.orb_mem (h : Bij N S f) {x y : Nat} (hx : S x) (e : Orb f x y) : S y := by
  obtain ⟨k, rfl⟩ := e
  exact h.it k x hx
theorem it_mul (f : Nat → Nat) (p x : Nat) (h : it f p x = x) : ∀ m, it f (m * p) x = x
  | 0 => by rw [Nat.zero_mul]; rfl
  | m + 1 => by rw [Nat.succ_mul, it_add, h, it_mul f p x h m]
theorem Bij.symm (h : Bij N S f) {x y : Nat} (hx : S x) (e : Orb f x y) : Orb f y x := by
  obtain ⟨k, rfl⟩ := e
  obtain ⟨p, hp, _, e⟩ := h.back hx
  refine ⟨k * p - k, ?_⟩
  rw [← it_add, show k * p - k + k = k * p from Nat.sub_add_cancel (Nat.le_mul_of_pos_right k hp), it_mul f p x e]
theorem Bij.eqv (h : Bij N S f) : Eqv S (Orb f) :=
  ⟨fun x _ => Orb.refl f x, fun _ _ hx _ e => h.symm hx e, fun _ _ _ _ _ _ e e' => e.trans e'⟩
/-- What is closed under f holds on the whole orbit. -/
theorem orb_closed {f : Nat → Nat} {P : Nat → Prop} (hP : ∀ x, P x → P (f x)) {x y : Nat} (hx : P x) (e : Orb f x y) : P y := by
  obtain ⟨k, rfl⟩ := e
  induction k with
  | zero => exact hx
  | succ k ih => exact hP _ ih
/-- A relation that is transitive and holds of each step holds on the whole orbit. -/
theorem orb_sub {f : Nat → Nat} {R : Nat → Nat → Prop} (h : Bij N S f) (hE : Eqv S R) (hs : ∀ x, S x → R x (f x)) {x y : Nat} (hx : S x) (e : Orb f x y) : R x y := by
  obtain ⟨k, rfl⟩ := e
  induction k with
  | zero => exact hE.refl x hx
  | succ k ih => exact hE.trans _ _ _ hx (h.it k x hx) (h.it (k + 1) x hx) ih (hs _ (h.it k x hx))

/-- f, the values at a and at b exchanged. -/
def tr (f : Nat → Nat) (a b x : Nat) : Nat := if x = a then f b else if x = b then f a else f x
theorem tr_a (f : Nat → Nat) (a b : Nat) : tr f a b a = f b := by simp [tr]
theorem tr_b (f : Nat → Nat) (a b : Nat) : tr f a b b = f a := by
  unfold tr
  by_cases h : b = a
  · rw [if_pos h, h]
  · rw [if_neg h, if_pos rfl]
theorem tr_ne {f : Nat → Nat} {a b x : Nat} (h1 : x ≠ a) (h2 : x ≠ b) : tr f a b x = f x := by unfold tr; rw [if_neg h1, if_neg h2]
theorem tr_tr (f : Nat → Nat) (a b : Nat) : tr (tr f a b) a b = f := by
  funext x
  by_cases h1 : x = a
  · subst h1; rw [tr_a, tr_b]
  · by_cases h2 : x = b
    · subst h2; rw [tr_b, tr_a]
    · rw [tr_ne h1 h2, tr_ne h1 h2]
theorem tr_comm (f : Nat → Nat) (a b : Nat) : tr f a b = tr f b a := by
  funext x
  by_cases h1 : x = a
  · subst h1; rw [tr_a, tr_b]
  · by_cases h2 : x = b
    · subst h2; rw [tr_b, tr_a]
    · rw [tr_ne h1 h2, tr_ne h2 h1]
theorem Bij.tr (h : Bij N S f) {a b : Nat} (ha : S a) (hb : S b) : Bij N S (tr f a b) := by
  refine ⟨h.lt, fun x hx => ?_, fun x y hx hy e => ?_⟩
  · unfold Pl.tr
    split
    · exact h.maps b hb
    · split
      · exact h.maps a ha
      · exact h.maps x hx
  · unfold Pl.tr at e
    split at e <;> split at e <;> (try split at e) <;> (try split at e) <;>
      first
        | (have := h.inj _ _ ha hb e; omega)
        | (have := h.inj _ _ hb ha e; omega)
        | (have := h.inj _ _ ha hy e; omega)
        | (have := h.inj _ _ hb hy e; omega)
        | (have := h.inj _ _ hx ha e; omega)
        | (have := h.inj _ _ hx hb e; omega)
        | exact h.inj _ _ hx hy e
        | omega

theorem Bij.join_eqv {R : Nat → Nat → Prop} (hE : Eqv S R) {a b : Nat} (ha : S a) (hb : S b) : Eqv S (Join R a b) := by
  refine ⟨fun x hx => .inl (hE.refl x hx), fun x y hx hy e => ?_, fun x y z hx hy hz e e' => ?_⟩
  · rcases e with e | ⟨e1, e2⟩ | ⟨e1, e2⟩
    · exact .inl (hE.symm _ _ hx hy e)
    · exact .inr (.inr ⟨hE.symm _ _ hb hy e2, hE.symm _ _ hx ha e1⟩)
    · exact .inr (.inl ⟨hE.symm _ _ ha hy e2, hE.symm _ _ hx hb e1⟩)
  · rcases e with e | ⟨e1, e2⟩ | ⟨e1, e2⟩ <;> rcases e' with e' | ⟨e3, e4⟩ | ⟨e3, e4⟩
    · exact .inl (hE.trans _ _ _ hx hy hz e e')
    · exact .inr (.inl ⟨hE.trans _ _ _ hx hy ha e e3, e4⟩)
    · exact .inr (.inr ⟨hE.trans _ _ _ hx hy hb e e3, e4⟩)
    · exact .inr (.inl ⟨e1, hE.trans _ _ _ hb hy hz e2 e'⟩)
    · exact .inr (.inl ⟨e1, e4⟩)
    · exact .inl (hE.trans _ _ _ hx ha hz e1 e4)
    · exact .inr (.inr ⟨e1, hE.trans _ _ _ ha hy hz e2 e'⟩)
    · exact .inl (hE.trans _ _ _ hx hb hz e1 e4)
    · exact .inr (.inr ⟨e1, e4⟩)

/-- From a, the exchanged permutation runs through b's orbit to b. -/
theorem Bij.run (h : Bij N S f) {a b : Nat} (hb : S b) (hn : ¬ Orb f a b) (ha : S a) : Orb (Pl.tr f a b) a b := by
  obtain ⟨p, hp, hle, e⟩ := h.back hb
  clear hle
  -- the least period of b
  have hmin : ∃ p, 0 < p ∧ Pl.it f p b = b ∧ ∀ i, 0 < i → i < p → Pl.it f i b ≠ b := by
    revert hp e
    induction p using Nat.strongRecOn with
    | _ p ih =>
      intro hp e
      by_cases hx : ∃ i, 0 < i ∧ i < p ∧ Pl.it f i b = b
      · obtain ⟨i, h1, h2, h3⟩ := hx
        exact ih i h2 h1 h3
      · exact ⟨p, hp, e, fun i h1 h2 h3 => hx ⟨i, h1, h2, h3⟩⟩
  obtain ⟨q, hq, e, hm⟩ := hmin
  have hna : ∀ i, Pl.it f i b ≠ a := fun i ei => hn (h.symm hb ⟨i, ei⟩)
  have key : ∀ i, i < q → Pl.it (Pl.tr f a b) (i + 1) a = Pl.it f (i + 1) b := by
    intro i
    induction i with
    | zero => intro _; exact tr_a f a b
    | succ i ih =>
      intro hi
      show Pl.tr f a b (Pl.it (Pl.tr f a b) (i + 1) a) = f (Pl.it f (i + 1) b)
      rw [ih (by omega), tr_ne (hna _) (hm _ (by omega) (by omega))]
  refine ⟨q, ?_⟩
  have := key (q - 1) (by omega)
  rw [show q - 1 + 1 = q by omega, e] at this
  exact this
/-- TWO ORBITS: the exchange makes them one. -/
theorem Bij.merge (h : Bij N S f) {a b : Nat} (ha : S a) (hb : S b) (hn : ¬ Orb f a b) {x y : Nat} (hx : S x) : Orb (Pl.tr f a b) x y ↔ Join (Orb f) a b x y := by
  have hg := h.tr ha hb
  have gab := h.run hb hn ha
  have gba := hg.symm ha gab
  have fsub : ∀ {x y}, S x → Orb f x y → Orb (Pl.tr f a b) x y := by
    intro x y hx e
    refine orb_sub h hg.eqv (fun z hz => ?_) hx e
    by_cases h1 : z = a
    · subst h1
      have := gab.trans (Orb.step (Pl.tr f z b) b)
      rwa [tr_b] at this
    · by_cases h2 : z = b
      · subst h2
        have := gba.trans (Orb.step (Pl.tr f a z) a)
        rwa [tr_a] at this
      · have := Orb.step (Pl.tr f a b) z
        rwa [tr_ne h1 h2] at this
  constructor
  · intro e
    refine orb_sub hg (Bij.join_eqv h.eqv ha hb) (fun z hz => ?_) hx e
    by_cases h1 : z = a
    · subst h1; rw [tr_a]; exact .inr (.inl ⟨Orb.refl f z, Orb.step f b⟩)
    · by_cases h2 : z = b
      · subst h2; rw [tr_b]; exact .inr (.inr ⟨Orb.refl f z, Orb.step f a⟩)
      · rw [tr_ne h1 h2]; exact .inl (Orb.step f z)
  · rintro (e | ⟨e1, e2⟩ | ⟨e1, e2⟩)
    · exact fsub hx e
    · exact (fsub hx e1).trans (gab.trans (fsub hb e2))
    · exact (fsub hx e1).trans (gba.trans (fsub ha e2))
/-- ONE ORBIT: the exchange parts it. -/
theorem Bij.part (h : Bij N S f) {a b : Nat} (ha : S a) (hb : S b) (hne : a ≠ b) (ho : Orb f a b) : ¬ Orb (Pl.tr f a b) a b := by
  obtain ⟨k0, e0⟩ := ho
  have hmin : ∃ k, Pl.it f k a = b ∧ ∀ i, i < k → Pl.it f i a ≠ b := by
    revert e0
    induction k0 using Nat.strongRecOn with
    | _ p ih =>
      intro e
      by_cases hx : ∃ i, i < p ∧ Pl.it f i a = b
      · obtain ⟨i, h2, h3⟩ := hx
        exact ih i h2 h3
      · exact ⟨p, e, fun i h2 h3 => hx ⟨i, h2, h3⟩⟩
  obtain ⟨k, e, hm⟩ := hmin
  have hk : 0 < k := by
    rcases Nat.eq_zero_or_pos k with h0 | h0
    · subst h0; exact absurd e hne
    · exact h0
  have hg := h.tr ha hb
  intro ho
  have hba := hg.symm ha ho
  have : ∃ i, 0 < i ∧ i ≤ k ∧ Pl.it f i a = a := by
    refine orb_closed (f := Pl.tr f a b) (P := fun z => ∃ i, 0 < i ∧ i ≤ k ∧ Pl.it f i a = z) (fun z hz => ?_) ⟨k, hk, Nat.le_refl _, e⟩ hba
    obtain ⟨i, h1, h2, rfl⟩ := hz
    by_cases e1 : Pl.it f i a = b
    · refine ⟨1, by omega, by omega, ?_⟩
      rw [e1, tr_b]; rfl
    · by_cases e2 : Pl.it f i a = a
      · -- then b comes earlier
        have hik : i < k := by
          rcases Nat.lt_or_ge i k with h3 | h3
          · exact h3
          · have : i = k := by omega
            subst this; exact absurd e e1
        have : Pl.it f (k - i) a = b := by
          rw [← e]
          conv => rhs; rw [show k = (k - i) + i by omega, it_add, e2]
        exact absurd this (hm _ (by omega))
      · have hik : i < k := by
          rcases Nat.lt_or_ge i k with h3 | h3
          · exact h3
          · have : i = k := by omega
            subst this; exact absurd e e1
        exact ⟨i + 1, by omega, by omega, by rw [tr_ne e2 e1]; rfl⟩
  obtain ⟨i, h1, h2, h3⟩ := this
  have hik : i < k := by
    rcases Nat.lt_or_ge i k with h4 | h4
    · exact h4
    · have : i = k := by omega
      subst this; rw [e] at h3; exact absurd h3.symm hne
  have : Pl.it f (k - i) a = b := by
    rw [← e]
    conv => rhs; rw [show k = (k - i) + i by omega, it_add, h3]
  exact absurd this (hm _ (by omega))

theorem Cls.merge (h : Bij N S f) {a b k : Nat} (ha : S a) (hb : S b) (hn : ¬ Orb f a b) (hc : Cls S (Orb f) (k + 1)) : Cls S (Orb (Pl.tr f a b)) k :=
  (hc.join ha hb hn).congr (fun _ => Iff.rfl) (fun _ _ hx _ => (h.merge ha hb hn hx).symm)
theorem Cls.part (h : Bij N S f) {a b k : Nat} (ha : S a) (hb : S b) (hne : a ≠ b) (ho : Orb f a b) (hc : Cls S (Orb f) k) : Cls S (Orb (Pl.tr f a b)) (k + 1) := by
  have hg := h.tr ha hb
  have hn := h.part ha hb hne ho
  obtain ⟨l, hl⟩ := Cls.exists_ N S (Orb (Pl.tr f a b)) h.lt hg.eqv
  have h2 := hl.two ha hb hn
  obtain ⟨l, rfl⟩ : ∃ j, l = j + 1 := ⟨l - 1, by omega⟩
  have := Cls.merge hg ha hb hn hl
  rw [tr_tr] at this
  rw [hc.unique this]
  exact hl
end Go.Proofs.Ytobbepmlmbbamaa.Pl
end
