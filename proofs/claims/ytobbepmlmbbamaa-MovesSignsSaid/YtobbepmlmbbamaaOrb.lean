/-
  Plain Lean: the orbits of a permutation of a finite set of numbers, and what a transposition does to them. No program is named here.
-/
import Derived.Test.YtobbepmlmbbamaaCls
namespace Go.Proofs.Ytobbepmlmbbamaa.Pl

def it (f : Nat → Nat) : Nat → Nat → Nat
  | 0, x => x
  | k + 1, x => f (it f k x)
theorem it_add (f : Nat → Nat) (j : Nat) : ∀ (k x : Nat), it f (j + k) x = it f j (it f k x) := by
  induction j with
  | zero => intro k x; rw [Nat.zero_add]; rfl
  | succ j ih => intro k x; rw [Nat.succ_add]; show f (it f (j + k) x) = f (it f j (it f k x)); rw [ih]
theorem it_one (f : Nat → Nat) (x : Nat) : it f 1 x = f x := rfl
theorem it_succ' (f : Nat → Nat) (k x : Nat) : it f (k + 1) x = it f k (f x) := it_add f k 1 x

/-- f permutes the finite set S. -/
structure Bij (N : Nat) (S : Nat → Prop) (f : Nat → Nat) : Prop where
  lt : ∀ x, S x → x < N
  maps : ∀ x, S x → S (f x)
  inj : ∀ x y, S x → S y → f x = f y → x = y

variable {N : Nat} {S : Nat → Prop} {f : Nat → Nat}
theorem Bij.it (h : Bij N S f) (k : Nat) : ∀ x, S x → S (it f k x) := by
  induction k with
  | zero => intro x hx; exact hx
  | succ k ih => intro x hx; exact h.maps _ (ih x hx)
theorem Bij.it_inj (h : Bij N S f) (k : Nat) : ∀ x y, S x → S y → Pl.it f k x = Pl.it f k y → x = y := by
  induction k with
  | zero => intro x y _ _ e; exact e
  | succ k ih => intro x y hx hy e; exact ih x y hx hy (h.inj _ _ (h.it k x hx) (h.it k y hy) e)
/-- Each element comes back within N steps. -/
theorem Bij.back (h : Bij N S f) {x : Nat} (hx : S x) : ∃ p, 0 < p ∧ p ≤ N ∧ Pl.it f p x = x := by
  by_cases hc : ∃ i j, i < j ∧ j ≤ N ∧ Pl.it f i x = Pl.it f j x
  · obtain ⟨i, j, hij, hj, e⟩ := hc
    refine ⟨j - i, by omega, by omega, ?_⟩
    have e2 : j = i + (j - i) := by omega
    rw [e2, it_add] at e
    exact (h.it_inj i _ _ hx (h.it _ x hx) e).symm
  · have := pigeon (N + 1) N (fun i => Pl.it f i x) (fun i _ => h.lt _ (h.it i x hx)) (fun i j hi hj e => by
      rcases Nat.lt_trichotomy i j with h1 | h1 | h1
      · exact absurd ⟨i, j, h1, by omega, e⟩ hc
      · exact h1
      · exact absurd ⟨j, i, h1, by omega, e.symm⟩ hc)
    omega

/-- y stands in the orbit of x. -/
def Orb (f : Nat → Nat) (x y : Nat) : Prop := ∃ k, it f k x = y
theorem Orb.refl (f : Nat → Nat) (x : Nat) : Orb f x x := ⟨0, rfl⟩
theorem Orb.step (f : Nat → Nat) (x : Nat) : Orb f x (f x) := ⟨1, rfl⟩
theorem Orb.trans {f : Nat → Nat} {x y z : Nat} (h : Orb f x y) (h' : Orb f y z) : Orb f x z := by
  obtain ⟨k, rfl⟩ := h
  obtain ⟨j, rfl⟩ := h'
  exact ⟨j + k, it_add f j k x⟩
theorem Bij.orb_mem (h : Bij N S f) {x y : Nat} (hx : S x) (e : Orb f x y) : S y := by
  obtain ⟨k, rfl⟩ := e
  exact h.it k x hx
theorem it_mul (f : Nat → Nat) (p x : Nat) (h : it f p x = x) : ∀ m, it f (m * p) x = x
  | 0 => by rw [Nat.zero_mul]; rfl
  | m + 1 => by rw [Nat.succ_mul, it_add, h, it_mul f p x h m]
theorem Bij.symm (h : Bij N S f) {x y : Nat} (hx : S x) (e : Orb f x y) : Orb f y x := by
  obtain ⟨k, rfl⟩ := e
  obtain ⟨p, hp, _, e⟩ := h.back hx
  refine ⟨k * p - k, ?_⟩
  rw [← it_add, show k * p - k + k = k * p from Nat.sub_add_cancel (Nat.le_mul_of_pos_right k hp), it_mul f p x e]
theorem Bij.eqv (h : Bij N S f) : Eqv S (Orb f) :=
  ⟨fun x _ => Orb.refl f x, fun _ _ hx _ e => h.symm hx e, fun _ _ _ _ _ _ e e' => e.trans e'⟩
/-- What is closed under f holds on the whole orbit. -/
theorem orb_closed {f : Nat → Nat} {P : Nat → Prop} (hP : ∀ x, P x → P (f x)) {x y : Nat} (hx : P x) (e : Orb f x y) : P y := by
  obtain ⟨k, rfl⟩ := e
  induction k with
  | zero => exact hx
  | succ k ih => exact hP _ ih
/-- A relation that is transitive and holds of each step holds on the whole orbit. -/
theorem orb_sub {f : Nat → Nat} {R : Nat → Nat → Prop} (h : Bij N S f) (hE : Eqv S R) (hs : ∀ x, S x → R x (f x)) {x y : Nat} (hx : S x) (e : Orb f x y) : R x y := by
  obtain ⟨k, rfl⟩ := e
  induction k with
  | zero => exact hE.refl x hx
  | succ k ih => exact hE.trans _ _ _ hx (h.it k x hx) (h.it (k + 1) x hx) ih (hs _ (h.it k x hx))

/-- f, the values at a and at b exchanged. -/
def tr (f : Nat → Nat) (a b x : Nat) : Nat := if x = a then f b else if x = b then f a else f x
theorem tr_a (f : Nat → Nat) (a b : Nat) : tr f a b a = f b := by simp [tr]
theorem tr_b (f : Nat → Nat) (a b : Nat) : tr f a b b = f a := by
  unfold tr
  by_cases h : b = a
  · rw [if_pos h, h]
  · rw [if_neg h, if_pos rfl]
theorem tr_ne {f : Nat → Nat} {a b x : Nat} (h1 : x ≠ a) (h2 : x ≠ b) : tr f a b x = f x := by unfold tr; rw [if_neg h1, if_neg h2]
theorem tr_tr (f : Nat → Nat) (a b : Nat) : tr (tr f a b) a b = f := by
  funext x
  by_cases h1 : x = a
  · subst h1; rw [tr_a, tr_b]
  · by_cases h2 : x = b
    · subst h2; rw [tr_b, tr_a]
    · rw [tr_ne h1 h2, tr_ne h1 h2]
theorem tr_comm (f : Nat → Nat) (a b : Nat) : tr f a b = tr f b a := by
  funext x
  by_cases h1 : x = a
  · subst h1; rw [tr_a, tr_b]
  · by_cases h2 : x = b
    · subst h2; rw [tr_b, tr_a]
    · rw [tr_ne h1 h2, tr_ne h2 h1]
theorem Bij.tr (h : Bij N S f) {a b : Nat} (ha : S a) (hb : S b) : Bij N S (tr f a b) := by
  refine ⟨h.lt, fun x hx => ?_, fun x y hx hy e => ?_⟩
  · unfold Pl.tr
    split
    · exact h.maps b hb
    · split
      · exact h.maps a ha
      · exact h.maps x hx
  · unfold Pl.tr at e
    split at e <;> split at e <;> (try split at e) <;> (try split at e) <;>
      first
        | (have := h.inj _ _ ha hb e; omega)
        | (have := h.inj _ _ hb ha e; omega)
        | (have := h.inj _ _ ha hy e; omega)
        | (have := h.inj _ _ hb hy e; omega)
        | (have := h.inj _ _ hx ha e; omega)
        | (have := h.inj _ _ hx hb e; omega)
        | exact h.inj _ _ hx hy e
        | omega

theorem Bij.join_eqv {R : Nat → Nat → Prop} (hE : Eqv S R) {a b : Nat} (ha : S a) (hb : S b) : Eqv S (Join R a b) := by
  refine ⟨fun x hx => .inl (hE.refl x hx), fun x y hx hy e => ?_, fun x y z hx hy hz e e' => ?_⟩
  · rcases e with e | ⟨e1, e2⟩ | ⟨e1, e2⟩
    · exact .inl (hE.symm _ _ hx hy e)
    · exact .inr (.inr ⟨hE.symm _ _ hb hy e2, hE.symm _ _ hx ha e1⟩)
    · exact .inr (.inl ⟨hE.symm _ _ ha hy e2, hE.symm _ _ hx hb e1⟩)
  · rcases e with e | ⟨e1, e2⟩ | ⟨e1, e2⟩ <;> rcases e' with e' | ⟨e3, e4⟩ | ⟨e3, e4⟩
    · exact .inl (hE.trans _ _ _ hx hy hz e e')
    · exact .inr (.inl ⟨hE.trans _ _ _ hx hy ha e e3, e4⟩)
    · exact .inr (.inr ⟨hE.trans _ _ _ hx hy hb e e3, e4⟩)
    · exact .inr (.inl ⟨e1, hE.trans _ _ _ hb hy hz e2 e'⟩)
    · exact .inr (.inl ⟨e1, e4⟩)
    · exact .inl (hE.trans _ _ _ hx ha hz e1 e4)
    · exact .inr (.inr ⟨e1, hE.trans _ _ _ ha hy hz e2 e'⟩)
    · exact .inl (hE.trans _ _ _ hx hb hz e1 e4)
    · exact .inr (.inr ⟨e1, e4⟩)

/-- From a, the exchanged permutation runs through b's orbit to b. -/
theorem Bij.run (h : Bij N S f) {a b : Nat} (hb : S b) (hn : ¬ Orb f a b) (ha : S a) : Orb (Pl.tr f a b) a b := by
  obtain ⟨p, hp, hle, e⟩ := h.back hb
  clear hle
  -- the least period of b
  have hmin : ∃ p, 0 < p ∧ Pl.it f p b = b ∧ ∀ i, 0 < i → i < p → Pl.it f i b ≠ b := by
    revert hp e
    induction p using Nat.strongRecOn with
    | _ p ih =>
      intro hp e
      by_cases hx : ∃ i, 0 < i ∧ i < p ∧ Pl.it f i b = b
      · obtain ⟨i, h1, h2, h3⟩ := hx
        exact ih i h2 h1 h3
      · exact ⟨p, hp, e, fun i h1 h2 h3 => hx ⟨i, h1, h2, h3⟩⟩
  obtain ⟨q, hq, e, hm⟩ := hmin
  have hna : ∀ i, Pl.it f i b ≠ a := fun i ei => hn (h.symm hb ⟨i, ei⟩)
  have key : ∀ i, i < q → Pl.it (Pl.tr f a b) (i + 1) a = Pl.it f (i + 1) b := by
    intro i
    induction i with
    | zero => intro _; exact tr_a f a b
    | succ i ih =>
      intro hi
      show Pl.tr f a b (Pl.it (Pl.tr f a b) (i + 1) a) = f (Pl.it f (i + 1) b)
      rw [ih (by omega), tr_ne (hna _) (hm _ (by omega) (by omega))]
  refine ⟨q, ?_⟩
  have := key (q - 1) (by omega)
  rw [show q - 1 + 1 = q by omega, e] at this
  exact this
/-- TWO ORBITS: the exchange makes them one. -/
theorem Bij.merge (h : Bij N S f) {a b : Nat} (ha : S a) (hb : S b) (hn : ¬ Orb f a b) {x y : Nat} (hx : S x) : Orb (Pl.tr f a b) x y ↔ Join (Orb f) a b x y := by
  have hg := h.tr ha hb
  have gab := h.run hb hn ha
  have gba := hg.symm ha gab
  have fsub : ∀ {x y}, S x → Orb f x y → Orb (Pl.tr f a b) x y := by
    intro x y hx e
    refine orb_sub h hg.eqv (fun z hz => ?_) hx e
    by_cases h1 : z = a
    · subst h1
      have := gab.trans (Orb.step (Pl.tr f z b) b)
      rwa [tr_b] at this
    · by_cases h2 : z = b
      · subst h2
        have := gba.trans (Orb.step (Pl.tr f a z) a)
        rwa [tr_a] at this
      · have := Orb.step (Pl.tr f a b) z
        rwa [tr_ne h1 h2] at this
  constructor
  · intro e
    refine orb_sub hg (Bij.join_eqv h.eqv ha hb) (fun z hz => ?_) hx e
    by_cases h1 : z = a
    · subst h1; rw [tr_a]; exact .inr (.inl ⟨Orb.refl f z, Orb.step f b⟩)
    · by_cases h2 : z = b
      · subst h2; rw [tr_b]; exact .inr (.inr ⟨Orb.refl f z, Orb.step f a⟩)
      · rw [tr_ne h1 h2]; exact .inl (Orb.step f z)
  · rintro (e | ⟨e1, e2⟩ | ⟨e1, e2⟩)
    · exact fsub hx e
    · exact (fsub hx e1).trans (gab.trans (fsub hb e2))
    · exact (fsub hx e1).trans (gba.trans (fsub ha e2))
/-- ONE ORBIT: the exchange parts it. -/
theorem Bij.part (h : Bij N S f) {a b : Nat} (ha : S a) (hb : S b) (hne : a ≠ b) (ho : Orb f a b) : ¬ Orb (Pl.tr f a b) a b := by
  obtain ⟨k0, e0⟩ := ho
  have hmin : ∃ k, Pl.it f k a = b ∧ ∀ i, i < k → Pl.it f i a ≠ b := by
    revert e0
    induction k0 using Nat.strongRecOn with
    | _ p ih =>
      intro e
      by_cases hx : ∃ i, i < p ∧ Pl.it f i a = b
      · obtain ⟨i, h2, h3⟩ := hx
        exact ih i h2 h3
      · exact ⟨p, e, fun i h2 h3 => hx ⟨i, h2, h3⟩⟩
  obtain ⟨k, e, hm⟩ := hmin
  have hk : 0 < k := by
    rcases Nat.eq_zero_or_pos k with h0 | h0
    · subst h0; exact absurd e hne
    · exact h0
  have hg := h.tr ha hb
  intro ho
  have hba := hg.symm ha ho
  have : ∃ i, 0 < i ∧ i ≤ k ∧ Pl.it f i a = a := by
    refine orb_closed (f := Pl.tr f a b) (P := fun z => ∃ i, 0 < i ∧ i ≤ k ∧ Pl.it f i a = z) (fun z hz => ?_) ⟨k, hk, Nat.le_refl _, e⟩ hba
    obtain ⟨i, h1, h2, rfl⟩ := hz
    by_cases e1 : Pl.it f i a = b
    · refine ⟨1, by omega, by omega, ?_⟩
      rw [e1, tr_b]; rfl
    · by_cases e2 : Pl.it f i a = a
      · -- then b comes earlier
        have hik : i < k := by
          rcases Nat.lt_or_ge i k with h3 | h3
          · exact h3
          · have : i = k := by omega
            subst this; exact absurd e e1
        have : Pl.it f (k - i) a = b := by
          rw [← e]
          conv => rhs; rw [show k = (k - i) + i by omega, it_add, e2]
        exact absurd this (hm _ (by omega))
      · have hik : i < k := by
          rcases Nat.lt_or_ge i k with h3 | h3
          · exact h3
          · have : i = k := by omega
            subst this; exact absurd e e1
        exact ⟨i + 1, by omega, by omega, by rw [tr_ne e2 e1]; rfl⟩
  obtain ⟨i, h1, h2, h3⟩ := this
  have hik : i < k := by
    rcases Nat.lt_or_ge i k with h4 | h4
    · exact h4
    · have : i = k := by omega
      subst this; rw [e] at h3; exact absurd h3.symm hne
  have : Pl.it f (k - i) a = b := by
    rw [← e]
    conv => rhs; rw [show k = (k - i) + i by omega, it_add, h3]
  exact absurd this (hm _ (by omega))

theorem Cls.merge (h : Bij N S f) {a b k : Nat} (ha : S a) (hb : S b) (hn : ¬ Orb f a b) (hc : Cls S (Orb f) (k + 1)) : Cls S (Orb (Pl.tr f a b)) k :=
  (hc.join ha hb hn).congr (fun _ => Iff.rfl) (fun _ _ hx _ => (h.merge ha hb hn hx).symm)
theorem Cls.part (h : Bij N S f) {a b k : Nat} (ha : S a) (hb : S b) (hne : a ≠ b) (ho : Orb f a b) (hc : Cls S (Orb f) k) : Cls S (Orb (Pl.tr f a b)) (k + 1) := by
  have hg := h.tr ha hb
  have hn := h.part ha hb hne ho
  obtain ⟨l, hl⟩ := Cls.exists_ N S (Orb (Pl.tr f a b)) h.lt hg.eqv
  have h2 := hl.two ha hb hn
  obtain ⟨l, rfl⟩ : ∃ j, l = j + 1 := ⟨l - 1, by omega⟩
  have := Cls.merge hg ha hb hn hl
  rw [tr_tr] at this
  rw [hc.unique this]
  exact hl
end Go.Proofs.Ytobbepmlmbbamaa.Pl
