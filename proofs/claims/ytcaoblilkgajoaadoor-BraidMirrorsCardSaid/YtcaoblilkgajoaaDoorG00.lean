/-
 The texts Cls, Orb, Gen, Dg, Mem, Wa in one.
-/
import Derived.WalkKit
import Derived.WalkSpells
import Derived.WalkLawsBesides
import Derived.Test.YtcaoblilkgajoaaDoorRows
import Derived.BigQuiet
import Derived.Deep.QuietTactic
import Derived.Deep.Light
set_option linter.unusedVariables false
set_option linter.unusedSimpArgs false
section
namespace Go.Proofs.YtcaoblilkgajoaaDoor.Pl
/-- The relation R has k classes on the set S: a labelling by the numbers below k, each of them used. -/
def Cls (S : Nat → Prop) (R : Nat → Nat → Prop) (k : Nat) : Prop :=
 ∃ r : Nat → Nat, (∀ h, S h → r h < k) ∧ (∀ h g, S h → S g → (r h = r g ↔ R h g)) ∧ (∀ i, i < k → ∃ h, S h ∧ r h = i)
theorem pigeon : ∀ (k k' : Nat) (f : Nat → Nat), (∀ i, i < k → f i < k') → (∀ i j, i < k → j < k → f i = f j → i = j) → k ≤ k'
 | 0, _, _, _, _ => Nat.zero_le _
 | k + 1, 0, f, h, _ => absurd (h 0 (by omega)) (by omega)
 | k + 1, k' + 1, f, h, hi => by
   -- send k' to the image of k
   have := pigeon k k' (fun i => if f i = k' then f k else f i) (fun i hik => by
    have h1 := h i (by omega)
    have h2 := h k (by omega)
    by_cases e : f i = k'
    ·simp only [e, if_true]
     have : f k ≠ k' := fun e2 => by have := hi i k (by omega) (by omega) (by rw [e, e2]); omega
     omega
    ·simp only [e, if_false]; omega) (fun i j hik hjk hij => by
    by_cases e : f i = k' <;> by_cases e2 : f j = k'
    ·exact hi i j (by omega) (by omega) (by rw [e, e2])
    ·simp only [e, e2, if_true, if_false] at hij
     have := hi k j (by omega) (by omega) hij; omega
    ·simp only [e, e2, if_true, if_false] at hij
     have := hi i k (by omega) (by omega) hij; omega
    ·simp only [e, e2, if_false] at hij
     exact hi i j (by omega) (by omega) hij)
   omega
theorem Cls.le {S S' : Nat → Prop} {R R' : Nat → Nat → Prop} {k k' : Nat} (h : Cls S R k) (h' : Cls S' R' k') (t : Nat → Nat) (hs : ∀ x, S x → S' (t x)) (hr : ∀ x y, S x → S y → R' (t x) (t y) → R x y) : k ≤ k' := by
 obtain ⟨r, r1, r2, r3⟩ := h
 obtain ⟨q, q1, q2, q3⟩ := h'
 have hw : ∀ i : Nat, ∃ x : Nat, i < k → S x ∧ r x = i := fun i => by
  by_cases hi : i < k
  ·obtain ⟨x, hx⟩ := r3 i hi; exact ⟨x, fun _ => hx⟩
  ·exact ⟨0, fun h => absurd h hi⟩
 refine pigeon k k' (fun i => q (t (Classical.choose (hw i)))) (fun i hi => ?_) (fun i j hi hj e => ?_)
 ·exact q1 _ (hs _ (Classical.choose_spec (hw i) hi).1)
 ·have ci := Classical.choose_spec (hw i) hi
  have cj := Classical.choose_spec (hw j) hj
  have := hr _ _ ci.1 cj.1 ((q2 _ _ (hs _ ci.1) (hs _ cj.1)).1 e)
  rw [← ci.2, ← cj.2]
  exact (r2 _ _ ci.1 cj.1).2 this
theorem Cls.unique {S : Nat → Prop} {R : Nat → Nat → Prop} {k k' : Nat} (h : Cls S R k) (h' : Cls S R k') : k = k' :=
 Nat.le_antisymm (h.le h' id (fun _ hx => hx) (fun _ _ _ _ e => e)) (h'.le h id (fun _ hx => hx) (fun _ _ _ _ e => e))
theorem Cls.congr {S S' : Nat → Prop} {R R' : Nat → Nat → Prop} {k : Nat} (h : Cls S R k) (hs : ∀ x, S x ↔ S' x) (hr : ∀ x y, S x → S y → (R x y ↔ R' x y)) : Cls S' R' k := by
 obtain ⟨r, r1, r2, r3⟩ := h
 exact ⟨r, fun x hx => r1 x ((hs x).2 hx), fun x y hx hy => (r2 x y ((hs x).2 hx) ((hs y).2 hy)).trans (hr x y ((hs x).2 hx) ((hs y).2 hy)),
  fun i hi => let ⟨x, hx, e⟩ := r3 i hi; ⟨x, (hs x).1 hx, e⟩⟩
/-- An equivalence on S. -/
structure Eqv (S : Nat → Prop) (R : Nat → Nat → Prop) : Prop where
 refl : ∀ x, S x → R x x
 symm : ∀ x y, S x → S y → R x y → R y x
 trans : ∀ x y z, S x → S y → S z → R x y → R y z → R x z
theorem Cls.eqv {S : Nat → Prop} {R : Nat → Nat → Prop} {k : Nat} (h : Cls S R k) : Eqv S R := by
 obtain ⟨r, _, r2, _⟩ := h
 exact ⟨fun x hx => (r2 x x hx hx).1 rfl, fun x y hx hy e => (r2 y x hy hx).1 ((r2 x y hx hy).2 e).symm,
  fun x y z hx hy hz e e' => (r2 x z hx hz).1 (((r2 x y hx hy).2 e).trans ((r2 y z hy hz).2 e'))⟩
theorem Cls.pos {S : Nat → Prop} {R : Nat → Nat → Prop} {k : Nat} (h : Cls S R k) {a : Nat} (ha : S a) : 0 < k := by
 obtain ⟨r, r1, _, _⟩ := h
 have := r1 a ha; omega
theorem Cls.empty {S : Nat → Prop} {R : Nat → Nat → Prop} (h : ∀ x, ¬ S x) : Cls S R 0 :=
 ⟨fun _ => 0, fun x hx => absurd hx (h x), fun x _ hx => absurd hx (h x), fun i hi => absurd hi (by omega)⟩
theorem Cls.two {S : Nat → Prop} {R : Nat → Nat → Prop} {k : Nat} (h : Cls S R k) {a b : Nat} (ha : S a) (hb : S b) (hn : ¬ R a b) : 2 ≤ k := by
 obtain ⟨r, r1, r2, _⟩ := h
 have h1 := r1 a ha
 have h2 := r1 b hb
 have h3 : r a ≠ r b := fun e => hn ((r2 a b ha hb).1 e)
 omega
/-- Two classes made one. -/
def Join (R : Nat → Nat → Prop) (a b : Nat) (x y : Nat) : Prop := R x y ∨ (R x a ∧ R b y) ∨ (R x b ∧ R a y)
theorem Cls.join {S : Nat → Prop} {R : Nat → Nat → Prop} {k : Nat} (h : Cls S R (k + 1)) {a b : Nat} (ha : S a) (hb : S b) (hn : ¬ R a b) : Cls S (Join R a b) k := by
 have hE := h.eqv
 obtain ⟨r, r1, r2, r3⟩ := h
 have hne : r a ≠ r b := fun e => hn ((r2 a b ha hb).1 e)
 have la := r1 a ha
 have lb := r1 b hb
 -- the label k is given to the class of b's number; the class of b takes the label of a
 let A := if r a = k then r b else r a
 let m : Nat → Nat := fun i => if i = r b then A else if i = k then r b else i
 have hA : A < k := by
  show (if r a = k then r b else r a) < k
  split <;> omega
 have key : ∀ x y, S x → S y → (m (r x) = m (r y) ↔ Join R a b x y) := by
  intro x y hx hy
  have ex : r x = r y ↔ R x y := r2 x y hx hy
  have exa : r x = r a ↔ R x a := r2 x a hx ha
  have exb : r x = r b ↔ R x b := r2 x b hx hb
  have eya : r a = r y ↔ R a y := r2 a y ha hy
  have eyb : r b = r y ↔ R b y := r2 b y hb hy
  unfold Join
  rw [← ex, ← exa, ← exb, ← eya, ← eyb]
  have lx := r1 x hx
  have ly := r1 y hy
  show (if r x = r b then (if r a = k then r b else r a) else if r x = k then r b else r x) = (if r y = r b then (if r a = k then r b else r a) else if r y = k then r b else r y) ↔ _
  constructor
  ·intro e
   split at e <;> split at e <;> (try split at e) <;> (try split at e) <;> (try split at e) <;> omega
  ·intro e
   split <;> split <;> (try split) <;> (try split) <;> (try split) <;> omega
 refine ⟨fun x => m (r x), fun x hx => ?_, key, fun i hi => ?_⟩
 ·show (if r x = r b then A else if r x = k then r b else r x) < k
  have lx := r1 x hx
  split
  ·exact hA
  ·split <;> omega
 ·by_cases e : i = r b
  ·obtain ⟨x, hx, ex⟩ := r3 k (by omega)
   by_cases e2 : r b = k
   ·omega
   ·refine ⟨x, hx, ?_⟩
    show (if r x = r b then A else if r x = k then r b else r x) = i
    rw [if_neg (by omega), if_pos ex, e]
  ·obtain ⟨x, hx, ex⟩ := r3 i (by omega)
   refine ⟨x, hx, ?_⟩
   show (if r x = r b then A else if r x = k then r b else r x) = i
   rw [if_neg (by omega), if_neg (by omega), ex]
/-- Every equivalence on a bounded set has some number of classes. -/
theorem Cls.exists_ : ∀ (N : Nat) (S : Nat → Prop) (R : Nat → Nat → Prop), (∀ x, S x → x < N) → Eqv S R → ∃ k, Cls S R k
 | 0, S, R, hN, _ => ⟨0, Cls.empty fun x hx => absurd (hN x hx) (by omega)⟩
 | N + 1, S, R, hN, hE => by
   obtain ⟨k, hk⟩ := Cls.exists_ N (fun x => S x ∧ x < N) R (fun x hx => hx.2) ⟨fun x hx => hE.refl x hx.1, fun x y hx hy => hE.symm x y hx.1 hy.1, fun x y z hx hy hz => hE.trans x y z hx.1 hy.1 hz.1⟩
   by_cases hS : S N
   ·by_cases hm : ∃ x, S x ∧ x < N ∧ R N x
    ·obtain ⟨x0, s0, l0, e0⟩ := hm
     obtain ⟨r, r1, r2, r3⟩ := hk
     refine ⟨k, fun x => if x = N then r x0 else r x, fun x hx => ?_, fun x y hx hy => ?_, fun i hi => ?_⟩
     ·have := hN x hx
      by_cases e : x = N
      ·simp only [e, if_true]; exact r1 x0 ⟨s0, l0⟩
      ·simp only [e, if_false]; exact r1 x ⟨hx, by omega⟩
     ·have lx := hN x hx
      have ly := hN y hy
      by_cases e : x = N <;> by_cases e2 : y = N
      ·subst e; subst e2; simp only [if_true, true_iff]; exact hE.refl _ hx
      ·simp only [e, e2, if_true, if_false]
       rw [r2 x0 y ⟨s0, l0⟩ ⟨hy, by omega⟩]
       exact ⟨fun h => hE.trans _ _ _ hS s0 hy e0 h, fun h => hE.trans _ _ _ s0 hS hy (hE.symm _ _ hS s0 e0) h⟩
      ·simp only [e, e2, if_true, if_false]
       rw [r2 x x0 ⟨hx, by omega⟩ ⟨s0, l0⟩]
       exact ⟨fun h => hE.trans _ _ _ hx s0 hS h (hE.symm _ _ hS s0 e0), fun h => hE.trans _ _ _ hx hS s0 h e0⟩
      ·simp only [e, e2, if_false]
       exact r2 x y ⟨hx, by omega⟩ ⟨hy, by omega⟩
     ·obtain ⟨x, hx, ex⟩ := r3 i hi
      refine ⟨x, hx.1, ?_⟩
      have : x ≠ N := by have := hx.2; omega
      simp only [this, if_false]; exact ex
    ·obtain ⟨r, r1, r2, r3⟩ := hk
     have hno : ∀ y, S y → y ≠ N → ¬ R N y := fun y hy hne h => hm ⟨y, hy, by have := hN y hy; omega, h⟩
     refine ⟨k + 1, fun x => if x = N then k else r x, fun x hx => ?_, fun x y hx hy => ?_, fun i hi => ?_⟩
     ·have := hN x hx
      by_cases e : x = N
      ·simp only [e, if_true]; omega
      ·simp only [e, if_false]; have := r1 x ⟨hx, by omega⟩; omega
     ·have lx := hN x hx
      have ly := hN y hy
      by_cases e : x = N <;> by_cases e2 : y = N
      ·subst e; subst e2; simp only [if_true, true_iff]; exact hE.refl _ hx
      ·simp only [e, e2, if_true, if_false]
       have := r1 y ⟨hy, by omega⟩
       exact ⟨fun h => absurd h (by omega), fun h => absurd h (hno y hy e2)⟩
      ·simp only [e, e2, if_true, if_false]
       have := r1 x ⟨hx, by omega⟩
       exact ⟨fun h => absurd h (by omega), fun h => absurd (hE.symm _ _ hx hS h) (hno x hx e)⟩
      ·simp only [e, e2, if_false]
       exact r2 x y ⟨hx, by omega⟩ ⟨hy, by omega⟩
     ·by_cases e : i = k
      ·exact ⟨N, hS, by simp only [if_true]; exact e.symm⟩
      ·obtain ⟨x, hx, ex⟩ := r3 i (by omega)
       refine ⟨x, hx.1, ?_⟩
       have : x ≠ N := by have := hx.2; omega
       simp only [this, if_false]; exact ex
   ·exact ⟨k, hk.congr (fun x => ⟨fun h => h.1, fun h => ⟨h, by
     have := hN x h
     by_cases e : x = N
     ·subst e; exact absurd h hS
     ·omega⟩⟩) (fun _ _ _ _ => Iff.rfl)⟩
/-- Sets that no pair joins: the numbers add up. -/
theorem Cls.add {S T : Nat → Prop} {R : Nat → Nat → Prop} {k l : Nat} (h : Cls S R k) (h' : Cls T R l) (hd : ∀ x y, S x → T y → ¬ R x y) (hd' : ∀ x y, S x → T y → ¬ R y x) (hdis : ∀ x, S x → ¬ T x) : Cls (fun x => S x ∨ T x) R (k + l) := by
 obtain ⟨r, r1, r2, r3⟩ := h
 obtain ⟨q, q1, q2, q3⟩ := h'
 refine ⟨fun x => open Classical in if S x then r x else k + q x, fun x hx => ?_, fun x y hx hy => ?_, fun i hi => ?_⟩
 ·by_cases e : S x
  ·simp only [e, if_true]; have := r1 x e; omega
  ·simp only [e, if_false]; have := q1 x (hx.resolve_left e); omega
 ·by_cases e : S x <;> by_cases e2 : S y
  ·simp only [e, e2, if_true]; exact r2 x y e e2
  ·simp only [e, e2, if_true, if_false]
   have := r1 x e
   exact ⟨fun h => absurd h (by omega), fun h => absurd h (hd x y e (hy.resolve_left e2))⟩
  ·simp only [e, e2, if_true, if_false]
   have := r1 y e2
   exact ⟨fun h => absurd h (by omega), fun h => absurd h (hd' y x e2 (hx.resolve_left e))⟩
  ·simp only [e, e2, if_false]
   rw [← q2 x y (hx.resolve_left e) (hy.resolve_left e2)]; omega
 ·by_cases e : i < k
  ·obtain ⟨x, hx, ex⟩ := r3 i e
   exact ⟨x, .inl hx, by simp only [hx, if_true]; exact ex⟩
  ·obtain ⟨x, hx, ex⟩ := q3 (i - k) (by omega)
   have : ¬ S x := fun h => hdis x h hx
   exact ⟨x, .inr hx, by simp only [this, if_false]; omega⟩
/-- A part that meets every class has as many. -/
theorem Cls.sub {S D : Nat → Prop} {R : Nat → Nat → Prop} {k : Nat} (h : Cls S R k) (hD : ∀ x, D x → S x) (hm : ∀ x, S x → ∃ y, D y ∧ R x y) : Cls D R k := by
 obtain ⟨r, r1, r2, r3⟩ := h
 refine ⟨r, fun x hx => r1 x (hD x hx), fun x y hx hy => r2 x y (hD x hx) (hD y hy), fun i hi => ?_⟩
 obtain ⟨x, hx, ex⟩ := r3 i hi
 obtain ⟨y, hy, e⟩ := hm x hx
 exact ⟨y, hy, by rw [← ex]; exact ((r2 x y hx (hD y hy)).2 e).symm⟩
theorem Cls.sup {S D : Nat → Prop} {R : Nat → Nat → Prop} {k : Nat} (h : Cls D R k) (hE : Eqv S R) (hD : ∀ x, D x → S x) (hm : ∀ x, S x → ∃ y, D y ∧ R x y) : Cls S R k := by
 obtain ⟨r, r1, r2, r3⟩ := h
 have hw : ∀ x : Nat, ∃ y : Nat, S x → D y ∧ R x y := fun x => by
  by_cases hx : S x
  ·obtain ⟨y, hy⟩ := hm x hx; exact ⟨y, fun _ => hy⟩
  ·exact ⟨0, fun h => absurd h hx⟩
 refine ⟨fun x => r (Classical.choose (hw x)), fun x hx => r1 _ (Classical.choose_spec (hw x) hx).1, fun x y hx hy => ?_, fun i hi => ?_⟩
 ·have cx := Classical.choose_spec (hw x) hx
  have cy := Classical.choose_spec (hw y) hy
  refine (r2 _ _ cx.1 cy.1).trans ⟨fun e => ?_, fun e => ?_⟩
  ·exact hE.trans _ _ _ hx (hD _ cx.1) hy cx.2 (hE.trans _ _ _ (hD _ cx.1) (hD _ cy.1) hy e (hE.symm _ _ hy (hD _ cy.1) cy.2))
  ·exact hE.trans _ _ _ (hD _ cx.1) hx (hD _ cy.1) (hE.symm _ _ hx (hD _ cx.1) cx.2) (hE.trans _ _ _ hx hy (hD _ cy.1) e cy.2)
 ·obtain ⟨x, hx, ex⟩ := r3 i hi
  have cx := Classical.choose_spec (hw x) (hD x hx)
  exact ⟨x, hD x hx, by rw [← ex]; exact ((r2 _ _ hx cx.1).2 cx.2).symm⟩
/-- Numbers given anew. -/
theorem Cls.map {S T : Nat → Prop} {R Q : Nat → Nat → Prop} {k : Nat} (h : Cls S R k) (t : Nat → Nat) (hs : ∀ x, S x → T (t x)) (ht : ∀ y, T y → ∃ x, S x ∧ t x = y) (hr : ∀ x y, S x → S y → (R x y ↔ Q (t x) (t y))) : Cls T Q k := by
 obtain ⟨r, r1, r2, r3⟩ := h
 have hw : ∀ y : Nat, ∃ x : Nat, T y → S x ∧ t x = y := fun y => by
  by_cases hy : T y
  ·obtain ⟨x, hx⟩ := ht y hy; exact ⟨x, fun _ => hx⟩
  ·exact ⟨0, fun h => absurd h hy⟩
 refine ⟨fun y => r (Classical.choose (hw y)), fun y hy => r1 _ (Classical.choose_spec (hw y) hy).1, fun x y hx hy => ?_, fun i hi => ?_⟩
 ·have cx := Classical.choose_spec (hw x) hx
  have cy := Classical.choose_spec (hw y) hy
  rw [r2 _ _ cx.1 cy.1, hr _ _ cx.1 cy.1, cx.2, cy.2]
 ·obtain ⟨x, hx, ex⟩ := r3 i hi
  have cx := Classical.choose_spec (hw (t x)) (hs x hx)
  refine ⟨t x, hs x hx, ?_⟩
  rw [← ex]
  refine (r2 _ _ cx.1 hx).2 ((hr _ _ cx.1 hx).2 ?_)
  rw [cx.2]
  exact (hr x x hx hx).1 ((r2 x x hx hx).1 rfl)
end Go.Proofs.YtcaoblilkgajoaaDoor.Pl
end
section
namespace Go.Proofs.YtcaoblilkgajoaaDoor.Pl
def it (f : Nat → Nat) : Nat → Nat → Nat
 | 0, x => x
 | k + 1, x => f (it f k x)
theorem it_add (f : Nat → Nat) (j : Nat) : ∀ (k x : Nat), it f (j + k) x = it f j (it f k x) := by
 induction j with
 | zero => intro k x; rw [Nat.zero_add]; rfl
 | succ j ih => intro k x; rw [Nat.succ_add]; show f (it f (j + k) x) = f (it f j (it f k x)); rw [ih]
theorem it_succ' (f : Nat → Nat) (k x : Nat) : it f (k + 1) x = it f k (f x) := it_add f k 1 x
/-- f permutes the finite set S. -/
structure Bij (N : Nat) (S : Nat → Prop) (f : Nat → Nat) : Prop where
 lt : ∀ x, S x → x < N
 maps : ∀ x, S x → S (f x)
 inj : ∀ x y, S x → S y → f x = f y → x = y
variable {N : Nat} {S : Nat → Prop} {f : Nat → Nat}
theorem Bij.it (h : Bij N S f) (k : Nat) : ∀ x, S x → S (it f k x) := by
 induction k with
 | zero => intro x hx; exact hx
 | succ k ih => intro x hx; exact h.maps _ (ih x hx)
theorem Bij.it_inj (h : Bij N S f) (k : Nat) : ∀ x y, S x → S y → Pl.it f k x = Pl.it f k y → x = y := by
 induction k with
 | zero => intro x y _ _ e; exact e
 | succ k ih => intro x y hx hy e; exact ih x y hx hy (h.inj _ _ (h.it k x hx) (h.it k y hy) e)
/-- Each element comes back within N steps. -/
theorem Bij.back (h : Bij N S f) {x : Nat} (hx : S x) : ∃ p, 0 < p ∧ p ≤ N ∧ Pl.it f p x = x := by
 by_cases hc : ∃ i j, i < j ∧ j ≤ N ∧ Pl.it f i x = Pl.it f j x
 ·obtain ⟨i, j, hij, hj, e⟩ := hc
  refine ⟨j - i, by omega, by omega, ?_⟩
  have e2 : j = i + (j - i) := by omega
  rw [e2, it_add] at e
  exact (h.it_inj i _ _ hx (h.it _ x hx) e).symm
 ·have := pigeon (N + 1) N (fun i => Pl.it f i x) (fun i _ => h.lt _ (h.it i x hx)) (fun i j hi hj e => by
   rcases Nat.lt_trichotomy i j with h1 | h1 | h1
   ·exact absurd ⟨i, j, h1, by omega, e⟩ hc
   ·exact h1
   ·exact absurd ⟨j, i, h1, by omega, e.symm⟩ hc)
  omega
/-- y stands in the orbit of x. -/
def Orb (f : Nat → Nat) (x y : Nat) : Prop := ∃ k, it f k x = y
theorem Orb.refl (f : Nat → Nat) (x : Nat) : Orb f x x := ⟨0, rfl⟩
theorem Orb.step (f : Nat → Nat) (x : Nat) : Orb f x (f x) := ⟨1, rfl⟩
theorem Orb.trans {f : Nat → Nat} {x y z : Nat} (h : Orb f x y) (h' : Orb f y z) : Orb f x z := by
 obtain ⟨k, rfl⟩ := h
 obtain ⟨j, rfl⟩ := h'
 exact ⟨j + k, it_add f j k x⟩
theorem Bij.orb_mem (h : Bij N S f) {x y : Nat} (hx : S x) (e : Orb f x y) : S y := by
 obtain ⟨k, rfl⟩ := e
 exact h.it k x hx
theorem it_mul (f : Nat → Nat) (p x : Nat) (h : it f p x = x) : ∀ m, it f (m * p) x = x
 | 0 => by rw [Nat.zero_mul]; rfl
 | m + 1 => by rw [Nat.succ_mul, it_add, h, it_mul f p x h m]
theorem Bij.symm (h : Bij N S f) {x y : Nat} (hx : S x) (e : Orb f x y) : Orb f y x := by
 obtain ⟨k, rfl⟩ := e
 obtain ⟨p, hp, _, e⟩ := h.back hx
 refine ⟨k * p - k, ?_⟩
 rw [← it_add, show k * p - k + k = k * p from Nat.sub_add_cancel (Nat.le_mul_of_pos_right k hp), it_mul f p x e]
theorem Bij.eqv (h : Bij N S f) : Eqv S (Orb f) :=
 ⟨fun x _ => Orb.refl f x, fun _ _ hx _ e => h.symm hx e, fun _ _ _ _ _ _ e e' => e.trans e'⟩
/-- What is closed under f holds on the whole orbit. -/
theorem orb_closed {f : Nat → Nat} {P : Nat → Prop} (hP : ∀ x, P x → P (f x)) {x y : Nat} (hx : P x) (e : Orb f x y) : P y := by
 obtain ⟨k, rfl⟩ := e
 induction k with
 | zero => exact hx
 | succ k ih => exact hP _ ih
/-- A relation that is transitive and holds of each step holds on the whole orbit. -/
theorem orb_sub {f : Nat → Nat} {R : Nat → Nat → Prop} (h : Bij N S f) (hE : Eqv S R) (hs : ∀ x, S x → R x (f x)) {x y : Nat} (hx : S x) (e : Orb f x y) : R x y := by
 obtain ⟨k, rfl⟩ := e
 induction k with
 | zero => exact hE.refl x hx
 | succ k ih => exact hE.trans _ _ _ hx (h.it k x hx) (h.it (k + 1) x hx) ih (hs _ (h.it k x hx))
/-- f, the values at a and at b exchanged. -/
def tr (f : Nat → Nat) (a b x : Nat) : Nat := if x = a then f b else if x = b then f a else f x
theorem tr_a (f : Nat → Nat) (a b : Nat) : tr f a b a = f b := by simp [tr]
theorem tr_b (f : Nat → Nat) (a b : Nat) : tr f a b b = f a := by
 unfold tr
 by_cases h : b = a
 ·rw [if_pos h, h]
 ·rw [if_neg h, if_pos rfl]
theorem tr_ne {f : Nat → Nat} {a b x : Nat} (h1 : x ≠ a) (h2 : x ≠ b) : tr f a b x = f x := by unfold tr; rw [if_neg h1, if_neg h2]
theorem tr_tr (f : Nat → Nat) (a b : Nat) : tr (tr f a b) a b = f := by
 funext x
 by_cases h1 : x = a
 ·subst h1; rw [tr_a, tr_b]
 ·by_cases h2 : x = b
  ·subst h2; rw [tr_b, tr_a]
  ·rw [tr_ne h1 h2, tr_ne h1 h2]
theorem Bij.tr (h : Bij N S f) {a b : Nat} (ha : S a) (hb : S b) : Bij N S (tr f a b) := by
 refine ⟨h.lt, fun x hx => ?_, fun x y hx hy e => ?_⟩
 ·unfold Pl.tr
  split
  ·exact h.maps b hb
  ·split
   ·exact h.maps a ha
   ·exact h.maps x hx
 ·unfold Pl.tr at e
  split at e <;> split at e <;> (try split at e) <;> (try split at e) <;>
   first
    | (have := h.inj _ _ ha hb e; omega)
    | (have := h.inj _ _ hb ha e; omega)
    | (have := h.inj _ _ ha hy e; omega)
    | (have := h.inj _ _ hb hy e; omega)
    | (have := h.inj _ _ hx ha e; omega)
    | (have := h.inj _ _ hx hb e; omega)
    | exact h.inj _ _ hx hy e
    | omega
theorem Bij.join_eqv {R : Nat → Nat → Prop} (hE : Eqv S R) {a b : Nat} (ha : S a) (hb : S b) : Eqv S (Join R a b) := by
 refine ⟨fun x hx => .inl (hE.refl x hx), fun x y hx hy e => ?_, fun x y z hx hy hz e e' => ?_⟩
 ·rcases e with e | ⟨e1, e2⟩ | ⟨e1, e2⟩
  ·exact .inl (hE.symm _ _ hx hy e)
  ·exact .inr (.inr ⟨hE.symm _ _ hb hy e2, hE.symm _ _ hx ha e1⟩)
  ·exact .inr (.inl ⟨hE.symm _ _ ha hy e2, hE.symm _ _ hx hb e1⟩)
 ·rcases e with e | ⟨e1, e2⟩ | ⟨e1, e2⟩ <;> rcases e' with e' | ⟨e3, e4⟩ | ⟨e3, e4⟩
  ·exact .inl (hE.trans _ _ _ hx hy hz e e')
  ·exact .inr (.inl ⟨hE.trans _ _ _ hx hy ha e e3, e4⟩)
  ·exact .inr (.inr ⟨hE.trans _ _ _ hx hy hb e e3, e4⟩)
  ·exact .inr (.inl ⟨e1, hE.trans _ _ _ hb hy hz e2 e'⟩)
  ·exact .inr (.inl ⟨e1, e4⟩)
  ·exact .inl (hE.trans _ _ _ hx ha hz e1 e4)
  ·exact .inr (.inr ⟨e1, hE.trans _ _ _ ha hy hz e2 e'⟩)
  ·exact .inl (hE.trans _ _ _ hx hb hz e1 e4)
  ·exact .inr (.inr ⟨e1, e4⟩)
/-- From a, the exchanged permutation runs through b's orbit to b. -/
theorem Bij.run (h : Bij N S f) {a b : Nat} (hb : S b) (hn : ¬ Orb f a b) (ha : S a) : Orb (Pl.tr f a b) a b := by
 obtain ⟨p, hp, hle, e⟩ := h.back hb
 clear hle
 -- the least period of b
 have hmin : ∃ p, 0 < p ∧ Pl.it f p b = b ∧ ∀ i, 0 < i → i < p → Pl.it f i b ≠ b := by
  revert hp e
  induction p using Nat.strongRecOn with
  | _ p ih =>
    intro hp e
    by_cases hx : ∃ i, 0 < i ∧ i < p ∧ Pl.it f i b = b
    ·obtain ⟨i, h1, h2, h3⟩ := hx
     exact ih i h2 h1 h3
    ·exact ⟨p, hp, e, fun i h1 h2 h3 => hx ⟨i, h1, h2, h3⟩⟩
 obtain ⟨q, hq, e, hm⟩ := hmin
 have hna : ∀ i, Pl.it f i b ≠ a := fun i ei => hn (h.symm hb ⟨i, ei⟩)
 have key : ∀ i, i < q → Pl.it (Pl.tr f a b) (i + 1) a = Pl.it f (i + 1) b := by
  intro i
  induction i with
  | zero => intro _; exact tr_a f a b
  | succ i ih =>
    intro hi
    show Pl.tr f a b (Pl.it (Pl.tr f a b) (i + 1) a) = f (Pl.it f (i + 1) b)
    rw [ih (by omega), tr_ne (hna _) (hm _ (by omega) (by omega))]
 refine ⟨q, ?_⟩
 have := key (q - 1) (by omega)
 rw [show q - 1 + 1 = q by omega, e] at this
 exact this
/-- TWO ORBITS: the exchange makes them one. -/
theorem Bij.merge (h : Bij N S f) {a b : Nat} (ha : S a) (hb : S b) (hn : ¬ Orb f a b) {x y : Nat} (hx : S x) : Orb (Pl.tr f a b) x y ↔ Join (Orb f) a b x y := by
 have hg := h.tr ha hb
 have gab := h.run hb hn ha
 have gba := hg.symm ha gab
 have fsub : ∀ {x y}, S x → Orb f x y → Orb (Pl.tr f a b) x y := by
  intro x y hx e
  refine orb_sub h hg.eqv (fun z hz => ?_) hx e
  by_cases h1 : z = a
  ·subst h1
   have := gab.trans (Orb.step (Pl.tr f z b) b)
   rwa [tr_b] at this
  ·by_cases h2 : z = b
   ·subst h2
    have := gba.trans (Orb.step (Pl.tr f a z) a)
    rwa [tr_a] at this
   ·have := Orb.step (Pl.tr f a b) z
    rwa [tr_ne h1 h2] at this
 constructor
 ·intro e
  refine orb_sub hg (Bij.join_eqv h.eqv ha hb) (fun z hz => ?_) hx e
  by_cases h1 : z = a
  ·subst h1; rw [tr_a]; exact .inr (.inl ⟨Orb.refl f z, Orb.step f b⟩)
  ·by_cases h2 : z = b
   ·subst h2; rw [tr_b]; exact .inr (.inr ⟨Orb.refl f z, Orb.step f a⟩)
   ·rw [tr_ne h1 h2]; exact .inl (Orb.step f z)
 ·rintro (e | ⟨e1, e2⟩ | ⟨e1, e2⟩)
  ·exact fsub hx e
  ·exact (fsub hx e1).trans (gab.trans (fsub hb e2))
  ·exact (fsub hx e1).trans (gba.trans (fsub ha e2))
/-- ONE ORBIT: the exchange parts it. -/
theorem Bij.part (h : Bij N S f) {a b : Nat} (ha : S a) (hb : S b) (hne : a ≠ b) (ho : Orb f a b) : ¬ Orb (Pl.tr f a b) a b := by
 obtain ⟨k0, e0⟩ := ho
 have hmin : ∃ k, Pl.it f k a = b ∧ ∀ i, i < k → Pl.it f i a ≠ b := by
  revert e0
  induction k0 using Nat.strongRecOn with
  | _ p ih =>
    intro e
    by_cases hx : ∃ i, i < p ∧ Pl.it f i a = b
    ·obtain ⟨i, h2, h3⟩ := hx
     exact ih i h2 h3
    ·exact ⟨p, e, fun i h2 h3 => hx ⟨i, h2, h3⟩⟩
 obtain ⟨k, e, hm⟩ := hmin
 have hk : 0 < k := by
  rcases Nat.eq_zero_or_pos k with h0 | h0
  ·subst h0; exact absurd e hne
  ·exact h0
 have hg := h.tr ha hb
 intro ho
 have hba := hg.symm ha ho
 have : ∃ i, 0 < i ∧ i ≤ k ∧ Pl.it f i a = a := by
  refine orb_closed (f := Pl.tr f a b) (P := fun z => ∃ i, 0 < i ∧ i ≤ k ∧ Pl.it f i a = z) (fun z hz => ?_) ⟨k, hk, Nat.le_refl _, e⟩ hba
  obtain ⟨i, h1, h2, rfl⟩ := hz
  by_cases e1 : Pl.it f i a = b
  ·refine ⟨1, by omega, by omega, ?_⟩
   rw [e1, tr_b]; rfl
  ·by_cases e2 : Pl.it f i a = a
   ·-- then b comes earlier
    have hik : i < k := by
     rcases Nat.lt_or_ge i k with h3 | h3
     ·exact h3
     ·have : i = k := by omega
      subst this; exact absurd e e1
    have : Pl.it f (k - i) a = b := by
     rw [← e]
     conv => rhs; rw [show k = (k - i) + i by omega, it_add, e2]
    exact absurd this (hm _ (by omega))
   ·have hik : i < k := by
     rcases Nat.lt_or_ge i k with h3 | h3
     ·exact h3
     ·have : i = k := by omega
      subst this; exact absurd e e1
    exact ⟨i + 1, by omega, by omega, by rw [tr_ne e2 e1]; rfl⟩
 obtain ⟨i, h1, h2, h3⟩ := this
 have hik : i < k := by
  rcases Nat.lt_or_ge i k with h4 | h4
  ·exact h4
  ·have : i = k := by omega
   subst this; rw [e] at h3; exact absurd h3.symm hne
 have : Pl.it f (k - i) a = b := by
  rw [← e]
  conv => rhs; rw [show k = (k - i) + i by omega, it_add, h3]
 exact absurd this (hm _ (by omega))
theorem Cls.merge (h : Bij N S f) {a b k : Nat} (ha : S a) (hb : S b) (hn : ¬ Orb f a b) (hc : Cls S (Orb f) (k + 1)) : Cls S (Orb (Pl.tr f a b)) k :=
 (hc.join ha hb hn).congr (fun _ => Iff.rfl) (fun _ _ hx _ => (h.merge ha hb hn hx).symm)
theorem Cls.part (h : Bij N S f) {a b k : Nat} (ha : S a) (hb : S b) (hne : a ≠ b) (ho : Orb f a b) (hc : Cls S (Orb f) k) : Cls S (Orb (Pl.tr f a b)) (k + 1) := by
 have hg := h.tr ha hb
 have hn := h.part ha hb hne ho
 obtain ⟨l, hl⟩ := Cls.exists_ N S (Orb (Pl.tr f a b)) h.lt hg.eqv
 have h2 := hl.two ha hb hn
 obtain ⟨l, rfl⟩ : ∃ j, l = j + 1 := ⟨l - 1, by omega⟩
 have := Cls.merge hg ha hb hn hl
 rw [tr_tr] at this
 rw [hc.unique this]
 exact hl
end Go.Proofs.YtcaoblilkgajoaaDoor.Pl
end
section
namespace Go.Proofs.YtcaoblilkgajoaaDoor.Pl
/-- y is reached from x by f and g. -/
inductive Con (f g : Nat → Nat) (x : Nat) : Nat → Prop
 | refl : Con f g x x
 | left {y : Nat} : Con f g x y → Con f g x (f y)
 | right {y : Nat} : Con f g x y → Con f g x (g y)
theorem Con.trans {f g : Nat → Nat} {x y z : Nat} (h : Con f g x y) (h' : Con f g y z) : Con f g x z := by
 induction h' with
 | refl => exact h
 | left _ ih => exact ih.left
 | right _ ih => exact ih.right
theorem orb_con_left {f : Nat → Nat} (g : Nat → Nat) {x y : Nat} (h : Orb f x y) : Con f g x y := by
 obtain ⟨k, rfl⟩ := h
 induction k with
 | zero => exact .refl
 | succ k ih => exact ih.left
theorem orb_con_right (f : Nat → Nat) {g : Nat → Nat} {x y : Nat} (h : Orb g x y) : Con f g x y := by
 obtain ⟨k, rfl⟩ := h
 induction k with
 | zero => exact .refl
 | succ k ih => exact ih.right
/-- Darts: r turns about the vertices, a goes along the edges (a dart that a leaves where it is has no edge). -/
structure Hm (N : Nat) (S : Nat → Prop) (r a : Nat → Nat) : Prop where
 rb : Bij N S r
 ab : Bij N S a
 inv : ∀ x, S x → a (a x) = x
variable {N : Nat} {S : Nat → Prop} {r a : Nat → Nat}
/-- Along an edge and round its end's vertex: the next dart of the face. -/
def phi (r a : Nat → Nat) (x : Nat) : Nat := r (a x)
theorem Hm.pb (h : Hm N S r a) : Bij N S (phi r a) :=
 ⟨h.rb.lt, fun x hx => h.rb.maps _ (h.ab.maps x hx), fun x y hx hy e => h.ab.inj _ _ hx hy (h.rb.inj _ _ (h.ab.maps x hx) (h.ab.maps y hy) e)⟩
theorem Hm.con_mem (h : Hm N S r a) {x y : Nat} (hx : S x) (e : Con r a x y) : S y := by
 induction e with
 | refl => exact hx
 | left _ ih => exact h.rb.maps _ ih
 | right _ ih => exact h.ab.maps _ ih
theorem Hm.con_symm (h : Hm N S r a) {x y : Nat} (hx : S x) (e : Con r a x y) : Con r a y x := by
 induction e with
 | refl => exact .refl
 | left e' ih => exact (orb_con_left a (h.rb.symm (h.con_mem hx e') (Orb.step r _))).trans ih
 | right e' ih => exact (orb_con_right r (h.ab.symm (h.con_mem hx e') (Orb.step a _))).trans ih
theorem Hm.ceqv (h : Hm N S r a) : Eqv S (Con r a) :=
 ⟨fun _ _ => .refl, fun _ _ hx _ e => h.con_symm hx e, fun _ _ _ _ _ _ e e' => e.trans e'⟩
theorem orb_phi_con {x y : Nat} (e : Orb (phi r a) x y) : Con r a x y := by
 obtain ⟨k, rfl⟩ := e
 induction k with
 | zero => exact .refl
 | succ k ih => exact ih.right.left
theorem con_sub (h : Hm N S r a) {R : Nat → Nat → Prop} (hE : Eqv S R) (h1 : ∀ x, S x → R x (r x)) (h2 : ∀ x, S x → R x (a x)) {x y : Nat} (hx : S x) (e : Con r a x y) : R x y := by
 induction e with
 | refl => exact hE.refl x hx
 | left e' ih => exact hE.trans _ _ _ hx (h.con_mem hx e') (h.rb.maps _ (h.con_mem hx e')) ih (h1 _ (h.con_mem hx e'))
 | right e' ih => exact hE.trans _ _ _ hx (h.con_mem hx e') (h.ab.maps _ (h.con_mem hx e')) ih (h2 _ (h.con_mem hx e'))
/-- The genus, twice: components, vertices, edges and faces are counted by classes. -/
def Gen (S : Nat → Prop) (r a : Nat → Nat) (z : Int) : Prop :=
 ∃ v d k f c : Nat, Cls S (Orb r) v ∧ Cls S Eq d ∧ Cls S (Orb a) k ∧ Cls S (Orb (phi r a)) f ∧ Cls S (Con r a) c ∧ z = 2 * (c : Int) - v + d - k - f
theorem Gen.unique {z z' : Int} (h : Gen S r a z) (h' : Gen S r a z') : z = z' := by
 obtain ⟨v, d, k, f, c, h1, h2, h3, h4, h5, rfl⟩ := h
 obtain ⟨v', d', k', f', c', g1, g2, g3, g4, g5, rfl⟩ := h'
 rw [h1.unique g1, h2.unique g2, h3.unique g3, h4.unique g4, h5.unique g5]
theorem Hm.gen (h : Hm N S r a) : ∃ z, Gen S r a z := by
 obtain ⟨v, h1⟩ := Cls.exists_ N S _ h.rb.lt h.rb.eqv
 obtain ⟨d, h2⟩ := Cls.exists_ N S Eq h.rb.lt ⟨fun _ _ => rfl, fun _ _ _ _ e => e.symm, fun _ _ _ _ _ _ e e' => e.trans e'⟩
 obtain ⟨k, h3⟩ := Cls.exists_ N S _ h.ab.lt h.ab.eqv
 obtain ⟨f, h4⟩ := Cls.exists_ N S _ h.pb.lt h.pb.eqv
 obtain ⟨c, h5⟩ := Cls.exists_ N S _ h.rb.lt h.ceqv
 exact ⟨_, v, d, k, f, c, h1, h2, h3, h4, h5, rfl⟩
theorem phi_tr (r a : Nat → Nat) (x y : Nat) : phi r (tr a x y) = tr (phi r a) x y := by
 funext z
 unfold phi tr
 split
 ·rfl
 ·split <;> rfl
theorem free_orb {x y : Nat} (fx : a x = x) (e : Orb a x y) : y = x :=
 orb_closed (P := fun z => z = x) (fun z hz => by rw [hz]; exact fx) rfl e
theorem Hm.tr (h : Hm N S r a) {x y : Nat} (hx : S x) (hy : S y) (fx : a x = x) (fy : a y = y) : Hm N S r (Pl.tr a x y) := by
 refine ⟨h.rb, h.ab.tr hx hy, fun z hz => ?_⟩
 by_cases h1 : z = x
 ·subst h1; rw [tr_a, fy, tr_b, fx]
 ·by_cases h2 : z = y
  ·subst h2; rw [tr_b, fx, tr_a, fy]
  ·rw [tr_ne h1 h2]
   have e := h.inv z hz
   have n1 : a z ≠ x := fun e1 => h1 (by rw [← e, e1, fx])
   have n2 : a z ≠ y := fun e1 => h2 (by rw [← e, e1, fy])
   rw [tr_ne n1 n2, e]
/-- An edge more: what it connects. -/
theorem Hm.con_tr (h : Hm N S r a) {x y : Nat} (hx : S x) (hy : S y) (fx : a x = x) (fy : a y = y) {u v : Nat} (hu : S u) : Con r (Pl.tr a x y) u v ↔ Join (Con r a) x y u v := by
 have hg := h.tr hx hy fx fy
 have exy : Con r (Pl.tr a x y) x y := by
  have := (Con.refl (f := r) (g := Pl.tr a x y) (x := x)).right
  rwa [tr_a, fy] at this
 have eyx := hg.con_symm hx exy
 have sub : ∀ {u v}, S u → Con r a u v → Con r (Pl.tr a x y) u v := by
  intro u v hu e
  refine con_sub h hg.ceqv (fun z _ => (Con.refl).left) (fun z hz => ?_) hu e
  by_cases h1 : z = x
  ·subst h1; rw [fx]; exact .refl
  ·by_cases h2 : z = y
   ·subst h2; rw [fy]; exact .refl
   ·have := (Con.refl (f := r) (g := Pl.tr a x y) (x := z)).right
    rwa [tr_ne h1 h2] at this
 constructor
 ·intro e
  refine con_sub hg (Bij.join_eqv h.ceqv hx hy) (fun z _ => .inl (Con.refl).left) (fun z hz => ?_) hu e
  by_cases h1 : z = x
  ·subst h1; rw [tr_a, fy]; exact .inr (.inl ⟨.refl, .refl⟩)
  ·by_cases h2 : z = y
   ·subst h2; rw [tr_b, fx]; exact .inr (.inr ⟨.refl, .refl⟩)
   ·rw [tr_ne h1 h2]; exact .inl (Con.refl).right
 ·rintro (e | ⟨e1, e2⟩ | ⟨e1, e2⟩)
  ·exact sub hu e
  ·exact (sub hu e1).trans (exy.trans (sub hy e2))
  ·exact (sub hu e1).trans (eyx.trans (sub hx e2))
theorem join_same {R : Nat → Nat → Prop} (hE : Eqv S R) {x y : Nat} (hx : S x) (hy : S y) (e : R x y) {u v : Nat} (hu : S u) (hv : S v) : Join R x y u v ↔ R u v := by
 constructor
 ·rintro (e0 | ⟨e1, e2⟩ | ⟨e1, e2⟩)
  ·exact e0
  ·exact hE.trans _ _ _ hu hx hv e1 (hE.trans _ _ _ hx hy hv e e2)
  ·exact hE.trans _ _ _ hu hy hv e1 (hE.trans _ _ _ hy hx hv (hE.symm _ _ hx hy e) e2)
 ·exact .inl
/-- AN EDGE MORE WITHIN A FACE: the genus stays. -/
theorem Gen.within (h : Hm N S r a) {x y : Nat} {z : Int} (hx : S x) (hy : S y) (hne : x ≠ y) (fx : a x = x) (fy : a y = y) (ho : Orb (phi r a) x y) (hz : Gen S r a z) : Gen S r (tr a x y) z := by
 obtain ⟨v, d, k, f, c, h1, h2, h3, h4, h5, rfl⟩ := hz
 have hn : ¬ Orb a x y := fun e => hne (free_orb fx e).symm
 have h3' : 2 ≤ k := h3.two hx hy hn
 obtain ⟨k, rfl⟩ : ∃ j, k = j + 1 := ⟨k - 1, by omega⟩
 refine ⟨v, d, k, f + 1, c, h1, h2, Cls.merge h.ab hx hy hn h3, ?_, h5.congr (fun _ => Iff.rfl) (fun u v hu hv => ?_), by omega⟩
 ·rw [phi_tr]; exact Cls.part h.pb hx hy hne ho h4
 ·rw [h.con_tr hx hy fx fy hu]
  exact (join_same h.ceqv hx hy (orb_phi_con ho) hu hv).symm
/-- AN EDGE MORE BETWEEN TWO COMPONENTS: the genus stays. -/
theorem Gen.between (h : Hm N S r a) {x y : Nat} {z : Int} (hx : S x) (hy : S y) (fx : a x = x) (fy : a y = y) (hc : ¬ Con r a x y) (hz : Gen S r a z) : Gen S r (tr a x y) z := by
 obtain ⟨v, d, k, f, c, h1, h2, h3, h4, h5, rfl⟩ := hz
 have hne : x ≠ y := fun e => hc (e ▸ .refl)
 have hn : ¬ Orb a x y := fun e => hne (free_orb fx e).symm
 have ho : ¬ Orb (phi r a) x y := fun e => hc (orb_phi_con e)
 have h3' : 2 ≤ k := h3.two hx hy hn
 have h4' : 2 ≤ f := h4.two hx hy ho
 have h5' : 2 ≤ c := h5.two hx hy hc
 obtain ⟨k, rfl⟩ : ∃ j, k = j + 1 := ⟨k - 1, by omega⟩
 obtain ⟨f, rfl⟩ : ∃ j, f = j + 1 := ⟨f - 1, by omega⟩
 obtain ⟨c, rfl⟩ : ∃ j, c = j + 1 := ⟨c - 1, by omega⟩
 refine ⟨v, d, k, f, c, h1, h2, Cls.merge h.ab hx hy hn h3, ?_, (h5.join hx hy hc).congr (fun _ => Iff.rfl) (fun u v hu _ => (h.con_tr hx hy fx fy hu).symm), by omega⟩
 rw [phi_tr]; exact Cls.merge h.pb hx hy ho h4
/-- AN EDGE MORE BETWEEN TWO FACES OF ONE COMPONENT: a handle more. -/
theorem Gen.handle (h : Hm N S r a) {x y : Nat} {z : Int} (hx : S x) (hy : S y) (fx : a x = x) (fy : a y = y) (ho : ¬ Orb (phi r a) x y) (hc : Con r a x y) (hz : Gen S r a z) : Gen S r (tr a x y) (z + 2) := by
 obtain ⟨v, d, k, f, c, h1, h2, h3, h4, h5, rfl⟩ := hz
 have hne : x ≠ y := fun e => ho (e ▸ Orb.refl _ _)
 have hn : ¬ Orb a x y := fun e => hne (free_orb fx e).symm
 have h3' : 2 ≤ k := h3.two hx hy hn
 have h4' : 2 ≤ f := h4.two hx hy ho
 obtain ⟨k, rfl⟩ : ∃ j, k = j + 1 := ⟨k - 1, by omega⟩
 obtain ⟨f, rfl⟩ : ∃ j, f = j + 1 := ⟨f - 1, by omega⟩
 refine ⟨v, d, k, f, c, h1, h2, Cls.merge h.ab hx hy hn h3, ?_, h5.congr (fun _ => Iff.rfl) (fun u v hu hv => ?_), by omega⟩
 ·rw [phi_tr]; exact Cls.merge h.pb hx hy ho h4
 ·rw [h.con_tr hx hy fx fy hu]
  exact (join_same h.ceqv hx hy hc hu hv).symm
/-- An edge that was put in last can be taken away: a less an edge. -/
theorem Hm.cut (h : Hm N S r a) {x : Nat} (hx : S x) (hne : a x ≠ x) : Hm N S r (Pl.tr a x (a x)) ∧ Pl.tr a x (a x) x = x ∧ Pl.tr a x (a x) (a x) = a x := by
 have hy := h.ab.maps x hx
 have e := h.inv x hx
 have e1 : Pl.tr a x (a x) x = x := by rw [tr_a, e]
 have e2 : Pl.tr a x (a x) (a x) = a x := by rw [tr_b]
 refine ⟨⟨h.rb, h.ab.tr hx hy, fun z hz => ?_⟩, e1, e2⟩
 by_cases h1 : z = x
 ·subst h1; rw [e1, e1]
 ·by_cases h2 : z = a x
  ·rw [h2, e2, e2]
  ·rw [tr_ne h1 h2]
   have ez := h.inv z hz
   have n1 : a z ≠ x := fun e3 => h2 (by rw [← ez, e3])
   have n2 : a z ≠ a x := fun e3 => h1 (h.ab.inj _ _ hz hx e3)
   rw [tr_ne n1 n2, ez]
/-- How many darts of those below m have an edge. -/
noncomputable def edged (a : Nat → Nat) (S : Nat → Prop) : Nat → Nat
 | 0 => 0
 | m + 1 => edged a S m + (open Classical in if S m ∧ a m ≠ m then 1 else 0)
theorem edged_le {a b : Nat → Nat} {S : Nat → Prop} (h : ∀ x, S x → b x ≠ x → a x ≠ x) : ∀ m, edged b S m ≤ edged a S m
 | 0 => Nat.le_refl _
 | m + 1 => by
   have := edged_le h m
   unfold edged
   by_cases h1 : S m ∧ b m ≠ m
   ·rw [if_pos h1, if_pos ⟨h1.1, h m h1.1 h1.2⟩]; omega
   ·rw [if_neg h1]; omega
theorem edged_lt {a b : Nat → Nat} {S : Nat → Prop} (h : ∀ x, S x → b x ≠ x → a x ≠ x) {x : Nat} (hx : S x) (h1 : a x ≠ x) (h2 : b x = x) : ∀ m, x < m → edged b S m < edged a S m
 | 0, hm => absurd hm (by omega)
 | m + 1, hm => by
   unfold edged
   by_cases e : x = m
   ·subst e
    have := edged_le h x
    rw [if_neg (fun h3 => h3.2 h2), if_pos ⟨hx, h1⟩]; omega
   ·have := edged_lt h hx h1 h2 m (by omega)
    by_cases h3 : S m ∧ b m ≠ m
    ·rw [if_pos h3, if_pos ⟨h3.1, h m h3.1 h3.2⟩]; omega
    ·rw [if_neg h3]; omega
/-- EULER'S INEQUALITY. -/
theorem Hm.nonneg : ∀ (n : Nat) (a : Nat → Nat), Hm N S r a → edged a S N ≤ n → ∀ z, Gen S r a z → 0 ≤ z
 | n, a, h, hn, z, hz => by
   by_cases hx : ∃ x, S x ∧ a x ≠ x
   ·obtain ⟨x, hx, hne⟩ := hx
    obtain ⟨h0, f1, f2⟩ := h.cut hx hne
    have hy := h.ab.maps x hx
    have hlt := edged_lt (a := a) (b := Pl.tr a x (a x)) (S := S) (fun u hu hb ha => hb (by
     by_cases e1 : u = x
     ·subst e1; exact f1
     ·by_cases e2 : u = a x
      ·rw [e2]; exact f2
      ·rw [tr_ne e1 e2, ha])) hx hne f1 N (h.ab.lt x hx)
    match n, hn with
    | 0, hn => omega
    | n + 1, hn =>
      obtain ⟨z0, hz0⟩ := h0.gen
      have i0 := Hm.nonneg n _ h0 (by omega) z0 hz0
      have hh : Pl.tr (Pl.tr a x (a x)) x (a x) = a := tr_tr _ _ _
      by_cases ho : Orb (phi r (Pl.tr a x (a x))) x (a x)
      ·have := Gen.within h0 hx hy (Ne.symm hne) f1 f2 ho hz0
       rw [hh] at this
       rw [hz.unique this]; exact i0
      ·by_cases hc : Con r (Pl.tr a x (a x)) x (a x)
       ·have := Gen.handle h0 hx hy f1 f2 ho hc hz0
        rw [hh] at this
        rw [hz.unique this]; omega
       ·have := Gen.between h0 hx hy f1 f2 hc hz0
        rw [hh] at this
        rw [hz.unique this]; exact i0
   ·have hid : ∀ x, S x → a x = x := fun x h1 => Classical.byContradiction fun h2 => hx ⟨x, h1, h2⟩
    obtain ⟨v, d, k, f, c, h1, h2, h3, h4, h5, rfl⟩ := hz
    have e1 : d = k := h2.unique (h3.congr (fun _ => Iff.rfl) (fun x y hx _ => ⟨fun e => (free_orb (hid x hx) e).symm, fun e => e ▸ Orb.refl a x⟩))
    have hp : ∀ x y, S x → (Orb (phi r a) x y ↔ Orb r x y) := fun x y hx =>
     ⟨fun e => orb_sub h.pb h.rb.eqv (fun z hz => by unfold phi; rw [hid z hz]; exact Orb.step r z) hx e,
      fun e => orb_sub h.rb h.pb.eqv (fun z hz => by have := Orb.step (phi r a) z; unfold phi at this; rw [hid z hz] at this; exact this) hx e⟩
    have e2 : f = v := h4.unique (h1.congr (fun _ => Iff.rfl) (fun x y hx _ => (hp x y hx).symm))
    have e3 : c = v := h5.unique (h1.congr (fun _ => Iff.rfl) (fun x y hx _ => ⟨fun e => orb_con_left a e, fun e => con_sub h h.rb.eqv (fun z _ => Orb.step r z) (fun z hz => by rw [hid z hz]; exact Orb.refl r z) hx e⟩))
    omega
theorem Gen.nonneg (h : Hm N S r a) {z : Int} (hz : Gen S r a z) : 0 ≤ z := Hm.nonneg _ a h (Nat.le_refl _) z hz
/-- PLANE MAPS. -/
def Flat (S : Nat → Prop) (r a : Nat → Nat) : Prop := Gen S r a 0
theorem Flat.add (h : Hm N S r a) {x y : Nat} (hx : S x) (hy : S y) (hne : x ≠ y) (fx : a x = x) (fy : a y = y) (hc : Con r a x y → Orb (phi r a) x y) (hf : Flat S r a) : Flat S r (tr a x y) := by
 by_cases h1 : Con r a x y
 ·exact Gen.within h hx hy hne fx fy (hc h1) hf
 ·exact Gen.between h hx hy fx fy h1 hf
theorem Flat.del (h : Hm N S r a) {x y : Nat} (hx : S x) (hy : S y) (hne : x ≠ y) (fx : a x = x) (fy : a y = y) (hf : Flat S r (tr a x y)) : Flat S r a ∧ (Con r a x y → Orb (phi r a) x y) := by
 obtain ⟨z, hz⟩ := h.gen
 have h0 := Gen.nonneg h hz
 by_cases ho : Orb (phi r a) x y
 ·have := hf.unique (Gen.within h hx hy hne fx fy ho hz)
  subst this
  exact ⟨hz, fun _ => ho⟩
 ·by_cases hc : Con r a x y
  ·have := hf.unique (Gen.handle h hx hy fx fy ho hc hz)
   omega
  ·have := hf.unique (Gen.between h hx hy fx fy hc hz)
   subst this
   exact ⟨hz, fun e => absurd e hc⟩
/-- Two maps side by side. -/
theorem Gen.add {T : Nat → Prop} (h : Hm N S r a) (h' : Hm N T r a) (hd : ∀ x, S x → ¬ T x) {z z' : Int} (hz : Gen S r a z) (hz' : Gen T r a z') : Gen (fun x => S x ∨ T x) r a (z + z') := by
 obtain ⟨v, d, k, f, c, h1, h2, h3, h4, h5, rfl⟩ := hz
 obtain ⟨v', d', k', f', c', g1, g2, g3, g4, g5, rfl⟩ := hz'
 have o : ∀ {f : Nat → Nat}, Bij N S f → Bij N T f → (∀ x y, S x → T y → ¬ Orb f x y) ∧ (∀ x y, S x → T y → ¬ Orb f y x) := fun b b' =>
  ⟨fun x y hx hy e => hd y (b.orb_mem hx e) hy, fun x y hx hy e => hd x hx (b'.orb_mem hy e)⟩
 exact ⟨v + v', d + d', k + k', f + f', c + c', h1.add g1 (o h.rb h'.rb).1 (o h.rb h'.rb).2 hd, h2.add g2 (fun x y hx hy e => hd x hx (e ▸ hy)) (fun x y hx hy e => hd x hx (e ▸ hy)) hd,
  h3.add g3 (o h.ab h'.ab).1 (o h.ab h'.ab).2 hd, h4.add g4 (o h.pb h'.pb).1 (o h.pb h'.pb).2 hd,
  h5.add g5 (fun x y hx hy e => hd y (h.con_mem hx e) hy) (fun x y hx hy e => hd x hx (h'.con_mem hy e)) hd, by omega⟩
end Go.Proofs.YtcaoblilkgajoaaDoor.Pl
end
section
namespace Go.Proofs.YtcaoblilkgajoaaDoor.Pl
/-- A diagram whose mates are numbers of half-edges. -/
structure Dg where
 sg : List Int
 mt : List Nat
 lp : Nat
deriving DecidableEq
namespace Dg
def n (d : Dg) : Nat := d.sg.length
def s (d : Dg) (c : Nat) : Int := d.sg.getD c 0
/-- The mate; a half-edge beyond the diagram is its own mate. -/
def m (d : Dg) (h : Nat) : Nat := d.mt.getD h h
end Dg
/-- The half-edge k slots further counterclockwise. -/
def tn (h k : Nat) : Nat := h / 4 * 4 + (h % 4 + k) % 4
theorem tn_div (h k : Nat) : tn h k / 4 = h / 4 := by unfold tn; omega
theorem tn_mod (h k : Nat) : tn h k % 4 = (h % 4 + k) % 4 := by unfold tn; omega
theorem tn_lt {h k n : Nat} (hh : h < 4 * n) : tn h k < 4 * n := by unfold tn; omega
theorem tn_tn (h j k : Nat) : tn (tn h j) k = tn h (j + k) := by unfold tn; omega
theorem tn_four (h : Nat) : tn h 4 = h := by unfold tn; omega
theorem tn_zero (h : Nat) : tn h 0 = h := by unfold tn; omega
theorem tn_inj {g h k : Nat} (e : tn g k = tn h k) : g = h := by unfold tn at e; omega
/-- Is the half-edge h outgoing? -/
def out (d : Dg) (h : Nat) : Bool := h % 4 == 2 || (h % 4 == 1 && d.s (h / 4) == 1) || (h % 4 == 3 && d.s (h / 4) == -1)
/-- The next half-edge of the face to the left. -/
def nx (d : Dg) (h : Nat) : Nat := tn (d.m h) 3
/-- The next half-edge of the strand. -/
def st (d : Dg) (h : Nat) : Nat := tn (d.m h) 2
def rot (h : Nat) : Nat := tn h 3
/-- The rules of a diagram, but for the sphere. -/
structure Wf (d : Dg) : Prop where
 few : d.n ≤ 64
 len : d.mt.length = 4 * d.n
 lp : d.lp ≤ 64
 sign : ∀ c, c < d.n → d.s c = 1 ∨ d.s c = -1
 lt : ∀ h, h < 4 * d.n → d.m h < 4 * d.n
 ne : ∀ h, h < 4 * d.n → d.m h ≠ h
 inv : ∀ h, h < 4 * d.n → d.m (d.m h) = h
 way : ∀ h, h < 4 * d.n → out d h ≠ out d (d.m h)
/-- The half-edges of a diagram. -/
def dart (d : Dg) (h : Nat) : Prop := h < 4 * d.n
theorem rot_bij (k : Nat) : Bij (4 * k) (fun h => h < 4 * k) rot :=
 ⟨fun _ h => h, fun _ h => tn_lt h, fun _ _ _ _ e => tn_inj e⟩
theorem Wf.bij {d : Dg} (h : Wf d) : Bij (4 * d.n) (dart d) d.m :=
 ⟨fun _ h => h, fun x hx => h.lt x hx, fun x y hx hy e => by rw [← h.inv x hx, ← h.inv y hy, e]⟩
theorem Wf.hm {d : Dg} (h : Wf d) : Hm (4 * d.n) (dart d) rot d.m := ⟨rot_bij d.n, h.bij, h.inv⟩
/-- The crossings a and b lie in one component of the graph. -/
def Comp (d : Dg) (a b : Nat) : Prop := Con rot d.m (4 * a) (4 * b)
theorem orb_rot (h : Nat) : ∀ k, Orb rot (4 * (h / 4) + k % 4) h := by
 intro k
 have h1 : k % 4 = 0 ∨ k % 4 = 1 ∨ k % 4 = 2 ∨ k % 4 = 3 := by omega
 have h2 : h % 4 = 0 ∨ h % 4 = 1 ∨ h % 4 = 2 ∨ h % 4 = 3 := by omega
 refine ⟨(k % 4 + 4 - h % 4) % 4, ?_⟩
 have key : ∀ j x : Nat, it rot j x = tn x (3 * j) := by
  intro j
  induction j with
  | zero => intro x; exact (tn_zero x).symm
  | succ j ih => intro x; show rot (it rot j x) = _; rw [ih]; unfold rot; rw [tn_tn]; congr 1
 rw [key]
 unfold tn
 omega
theorem orb_rot0 (h : Nat) : Orb rot (4 * (h / 4)) h := orb_rot h 0
/-- Half-edges of one component: their crossings are. -/
theorem con_comp {d : Dg} (hd : Wf d) {g h : Nat} (hg : g < 4 * d.n) (hh : h < 4 * d.n) : Con rot d.m g h ↔ Comp d (g / 4) (h / 4) := by
 have H := hd.hm
 have e1 : Con rot d.m (4 * (g / 4)) g := orb_con_left _ (orb_rot0 g)
 have e2 : Con rot d.m (4 * (h / 4)) h := orb_con_left _ (orb_rot0 h)
 have s1 : dart d (4 * (g / 4)) := by unfold dart; omega
 have s2 : dart d (4 * (h / 4)) := by unfold dart; omega
 constructor
 ·intro e; exact (e1.trans e).trans (H.con_symm s2 e2)
 ·intro e; exact (H.con_symm s1 e1).trans (e.trans e2)
/-- Does a face begin at h (its least half-edge)? -/
def Least (f : Nat → Nat) (h : Nat) : Prop := ∀ k, h ≤ it f k h
open Classical in
/-- How many of the numbers below N have the property. -/
noncomputable def cnt (p : Nat → Prop) : Nat → Nat
 | 0 => 0
 | k + 1 => cnt p k + if p k then 1 else 0
/-- THE RULES OF A DIAGRAM ON THE SPHERE. -/
structure Valid (d : Dg) : Prop where
 wf : Wf d
 flat : ∀ c, c < d.n → cnt (fun h => Least (nx d) h ∧ Comp d c (h / 4)) (4 * d.n) = cnt (fun b => Comp d c b) d.n + 2
end Go.Proofs.YtcaoblilkgajoaaDoor.Pl
end
section
namespace Go.Proofs.YtcaoblilkgajoaaDoor
open Go.RowKit
theorem hide {p : Prop} (h : p) : Hid p := h
theorem ret_bool {a b : Bool} (h : a = b) : Ending.returned (.bool a) = Ending.returned (.bool b) := by rw [h]
theorem ret_int {k : IntKind} {a b : Int} (h : a = b) : Ending.returned (.int k a) = Ending.returned (.int k b) := by rw [h]
theorem lt_of_cell {w : World} {p : Addr} {v : Value} (h : w.cell? p = some v) : p.block < w.heap.size := by
 rcases Nat.lt_or_ge p.block w.heap.size with h1 | h1
 ·exact h1
 ·unfold World.cell? at h
  rw [Array.getElem?_eq_none h1] at h
  cases h
theorem cell_below {w w' : World} {p : Addr} {v : Value} (h : w.cell? p = some v) (hb : Below w.heap.size w w') : w'.cell? p = some v :=
 (hb.cell (lt_of_cell h)).trans h
/-- The slice value '.slice A n _' reads as the cells 'xs' (a cell an element). -/
def RowAt (w : World) (A : Option Addr) (n : Nat) (xs : List Value) : Prop :=
 xs.length = n ∧ (0 < n → ∃ b o, A = some ⟨b, o, none⟩ ∧ ∀ (j : Nat) u, xs[j]? = some u → w.cell? ⟨b, o + j, none⟩ = some u)
theorem RowAt.nil (w : World) : RowAt w none 0 [] := ⟨rfl, fun h => absurd h (by omega)⟩
theorem RowAt.zero (w : World) (A : Option Addr) : RowAt w A 0 [] := ⟨rfl, fun h => absurd h (by omega)⟩
theorem RowAt.keep {w w' : World} {A : Option Addr} {n : Nat} {xs : List Value} (h : RowAt w A n xs) (hb : Below w.heap.size w w') : RowAt w' A n xs :=
 ⟨h.1, fun hn => let ⟨b, o, e, hc⟩ := h.2 hn; ⟨b, o, e, fun j u hu => cell_below (hc j u hu) hb⟩⟩
theorem RowAt.at_ {w : World} {A : Option Addr} {n k : Nat} {xs : List Value} (h : RowAt w A n xs) (hk : k < n) :
 ∃ b o, A = some ⟨b, o, none⟩ ∧ w.cell? ⟨b, o + k, none⟩ = some (xs[k]'(by have := h.1; omega)) := by
 obtain ⟨b, o, e, hc⟩ := h.2 (by omega)
 have := h.1
 exact ⟨b, o, e, hc k _ (List.getElem?_eq_getElem (by omega))⟩
/-- The same, the row's block known, with its elements' type. -/
def RowT (w : World) (t : TypeId) (A : Option Addr) (n : Nat) (xs : List Value) : Prop :=
 xs.length = n ∧ (0 < n → ∃ b o cs fr, A = some ⟨b, o, none⟩ ∧ w.heap[b]? = some (.cells cs t fr) ∧ ∀ (j : Nat) u, xs[j]? = some u → cs[o + j]? = some u)
theorem RowT.row {w : World} {t : TypeId} {A : Option Addr} {n : Nat} {xs : List Value} (h : RowT w t A n xs) : RowAt w A n xs :=
 ⟨h.1, fun hn => let ⟨b, o, cs, fr, e, hb, hc⟩ := h.2 hn; ⟨b, o, e, fun j u hu => by rw [cell_of_row w b _ cs t fr hb]; exact hc j u hu⟩⟩
theorem RowT.keep {w w' : World} {t : TypeId} {A : Option Addr} {n : Nat} {xs : List Value} (h : RowT w t A n xs) (hb : Below w.heap.size w w') : RowT w' t A n xs :=
 ⟨h.1, fun hn => let ⟨b, o, cs, fr, e, hg, hc⟩ := h.2 hn; ⟨b, o, cs, fr, e, (hb.block b (by
   rcases Nat.lt_or_ge b w.heap.size with h1 | h1
   ·exact h1
   ·rw [Array.getElem?_eq_none h1] at hg; cases hg)).trans hg, hc⟩⟩
/-- .. behind an append to a row of another type's. -/
theorem RowT.grown {w w' : World} {t t' : TypeId} {A : Option Addr} {n : Nat} {xs : List Value} {row : Option Nat} (h : RowT w t A n xs) (hg : w.grownBy w' row) (hr : ∀ g, row = some g → ∃ cs fr, w.heap[g]? = some (.cells cs t' fr)) (hne : t ≠ t') : RowT w' t A n xs :=
 ⟨h.1, fun hn => let ⟨b, o, cs, fr, e, hb, hc⟩ := h.2 hn; ⟨b, o, cs, fr, e, (hg.block b (by
   rcases Nat.lt_or_ge b w.heap.size with h1 | h1
   ·exact h1
   ·rw [Array.getElem?_eq_none h1] at hb; cases hb) (fun he => by
    obtain ⟨cs', fr', h3⟩ := hr b he.symm
    rw [hb] at h3
    injection h3 with h3
    injection h3 with _ h4
    exact hne h4)).trans hb, hc⟩⟩
theorem ownsRow_block {w : World} {base : Nat} {e : TypeId} {size : Nat} {v : Value} {n : Nat} {xs : List Value} (h : w.ownsRow base e size v n xs) : ∀ g, v.ownBlock = some g → ∃ cs fr, w.heap[g]? = some (.cells cs e fr) := by
 intro g hg
 rcases h.2 with ⟨rfl, _⟩ | ⟨g', cap, cur, rfl, _, h3, _⟩
 ·simp [Value.ownBlock] at hg
 ·simp [Value.ownBlock] at hg
  subst hg
  exact ⟨_, _, h3⟩
/-- A slice of numbers. -/
def IntsAt (w : World) (A : Option Addr) (n : Nat) (zs : List Int) : Prop := RowAt w A n (zs.map (.int .i64))
theorem IntsAt.keep {w w' : World} {A : Option Addr} {n : Nat} {zs : List Int} (h : IntsAt w A n zs) (hb : Below w.heap.size w w') : IntsAt w' A n zs := RowAt.keep h hb
theorem IntsAt.len {w : World} {A : Option Addr} {n : Nat} {zs : List Int} (h : IntsAt w A n zs) : zs.length = n := by have := h.1; simpa using this
theorem IntsAt.at_ {w : World} {A : Option Addr} {n k : Nat} {zs : List Int} (h : IntsAt w A n zs) (hk : k < n) :
 ∃ b o, A = some ⟨b, o, none⟩ ∧ w.cell? ⟨b, o + k, none⟩ = some (.int .i64 (zs.getD k 0)) := by
 obtain ⟨b, o, e, hc⟩ := RowAt.at_ h hk
 refine ⟨b, o, e, hc.trans ?_⟩
 have := h.len
 rw [List.getElem_map, List.getD_eq_getElem?_getD, List.getElem?_eq_getElem (by omega)]; rfl
/-- Mates, as numbers. -/
def nats (l : List Nat) : List Int := l.map (fun m : Nat => (m : Int))
/-- The two slices of a diagram. -/
structure DgAt (w : World) (A : Option Addr) (B : Option Addr) (d : Pl.Dg) : Prop where
 s : IntsAt w A d.n d.sg
 m : IntsAt w B (4 * d.n) (nats d.mt)
theorem DgAt.keep {w w' : World} {A B : Option Addr} {d : Pl.Dg} (h : DgAt w A B d) (hb : Below w.heap.size w w') : DgAt w' A B d := ⟨h.s.keep hb, h.m.keep hb⟩
theorem DgAt.sign {w : World} {A B : Option Addr} {d : Pl.Dg} (h : DgAt w A B d) {c : Nat} (hc : c < d.n) :
 ∃ b o, A = some ⟨b, o, none⟩ ∧ w.cell? ⟨b, o + c, none⟩ = some (.int .i64 (d.s c)) := h.s.at_ hc
theorem sign_at {w : World} {A : Option Addr} {d : Pl.Dg} (h : IntsAt w A d.n d.sg) {c : Nat} (hc : c < d.n) :
 ∃ b o, A = some ⟨b, o, none⟩ ∧ w.cell? ⟨b, o + c, none⟩ = some (.int .i64 (d.s c)) := h.at_ hc
theorem mate_at {w : World} {B : Option Addr} {d : Pl.Dg} (h : IntsAt w B (4 * d.n) (nats d.mt)) {k : Nat} (hk : k < 4 * d.n) :
 ∃ b o, B = some ⟨b, o, none⟩ ∧ w.cell? ⟨b, o + k, none⟩ = some (.int .i64 (d.m k : Nat)) := by
 obtain ⟨b, o, e, hc⟩ := h.at_ hk
 refine ⟨b, o, e, hc.trans ?_⟩
 have hl := h.len
 unfold nats at hl
 rw [List.length_map] at hl
 unfold nats Pl.Dg.m
 rw [List.getD_eq_getElem?_getD, List.getD_eq_getElem?_getD, List.getElem?_map, List.getElem?_eq_getElem (by omega)]; rfl
theorem DgAt.mate {w : World} {A B : Option Addr} {d : Pl.Dg} (h : DgAt w A B d) {k : Nat} (hk : k < 4 * d.n) :
 ∃ b o, B = some ⟨b, o, none⟩ ∧ w.cell? ⟨b, o + k, none⟩ = some (.int .i64 (d.m k : Nat)) := mate_at h.m hk
end Go.Proofs.YtcaoblilkgajoaaDoor
end
section
namespace Go.Proofs.YtcaoblilkgajoaaDoor
open Go.RowKit
theorem turn_back (h : Nat) (w : World) (hh : h ≤ 1000000) :
 Calls Tryd.prog 70 #[.int .i64 (h : Int), .int .i64 (-1)] w fun e w' => e = .returned (.int .i64 (Pl.tn h 3 : Nat)) ∧ w = w' := by
 go_enter Tryd.func70, Tryd.ntmps70
 go_wp2
 go_ret
 exact ⟨ret_int (by unfold Pl.tn; omega), rfl⟩
theorem out_zero {d : Pl.Dg} {h : Nat} (e : h % 4 = 0) : Pl.out d h = false := by unfold Pl.out; simp [e]
theorem out_one {d : Pl.Dg} {h : Nat} (e : h % 4 = 1) : Pl.out d h = (d.s (h / 4) == 1) := by unfold Pl.out; simp [e]
theorem out_two {d : Pl.Dg} {h : Nat} (e : h % 4 = 2) : Pl.out d h = true := by unfold Pl.out; simp [e]
theorem out_three {d : Pl.Dg} {h : Nat} (e : h % 4 = 3) : Pl.out d h = (d.s (h / 4) == -1) := by unfold Pl.out; simp [e]
/-- The first 'outgoing'. -/
theorem out_any (d : Pl.Dg) (A B : Option Addr) (cp q cq : Nat) (l : Value) (h : Nat) (w : World) (hh : h < 4 * d.n) (hn : d.n ≤ 1000) (hs : IntsAt w A d.n d.sg) :
 Calls Tryd.prog 56 #[.agg #[.slice A d.n cp, .slice B q cq, l], .int .i64 (h : Int)] w fun e w' => e = .returned (.bool (Pl.out d h)) ∧ Below w.heap.size w w' := by
 obtain ⟨b, o, rfl, hc⟩ := sign_at hs (c := h / 4) (by omega)
 have hb : Below w.heap.size w (w.alloc (.cells #[.slice (some ⟨b, o, none⟩) d.n cp, .slice B q cq, l] 28)) := (Below.refl _ _).alloc (Nat.le_refl _) _
 have hc2 := cell_below hc hb
 go_enter Tryd.func56, Tryd.ntmps56
 go_wp2
 all_goals
  go_ret
  refine ⟨ret_bool ?_, hb⟩
  simp only [beq_iff_eq, beq_eq_false_iff_ne, ne_eq] at *
 ·rw [out_one (by omega)]
 ·rw [out_two (by omega)]
 ·rw [out_three (by omega)]
 ·rw [out_zero (by omega)]
theorem out_n (d : Pl.Dg) (A B : Option Addr) (n cp q cq : Nat) (l : Value) (h : Nat) (w : World) (e : n = d.n) (hh : h < 4 * n) (hn : n ≤ 1000) (hs : IntsAt w A n d.sg) :
 Calls Tryd.prog 56 #[.agg #[.slice A n cp, .slice B q cq, l], .int .i64 (h : Int)] w fun e w' => e = .returned (.bool (Pl.out d h)) ∧ Below w.heap.size w w' := by
 subst e; exact out_any d A B cp q cq l h w hh hn hs
end Go.Proofs.YtcaoblilkgajoaaDoor
end
