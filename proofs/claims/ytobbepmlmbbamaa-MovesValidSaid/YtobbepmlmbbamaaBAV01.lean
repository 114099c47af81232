/-
  The texts Gen, Dg, Mem, Wa in one.
-/
import Derived.Test.YtobbepmlmbbamaaBAV00
import Derived.WalkKit
import Derived.WalkSpells
import Derived.WalkLawsBesides
import Derived.Test.YtobbepmlmbbamaaRows
import Derived.BigQuiet
import Derived.Deep.QuietTactic
import Derived.Deep.Light
set_option linter.unusedVariables false
set_option linter.unusedSimpArgs false

section
/-
  Plain Lean: maps on surfaces as two permutations of a finite set of darts; the genus, and what an edge more does to it. No program is named here.
-/
namespace Go.Proofs.Ytobbepmlmbbamaa.Pl

/-- y is reached from x by f and g. -/
inductive Con (f g : Nat → Nat) (x : Nat) : Nat → Prop
  | refl : Con f g x x
  | left {y : Nat} : Con f g x y → Con f g x (f y)
  | right {y : Nat} : Con f g x y → Con f g x (g y)
theorem Con.trans {f g : Nat → Nat} {x y z : Nat} (h : Con f g x y) (h' : Con f g y z) : Con f g x z := by
  induction h' with
  | refl => exact h
  | left _ ih => exact ih.left
  | right _ ih => exact ih.right
theorem orb_con_left {f : Nat → Nat} (g : Nat → Nat) {x y : Nat} (h : Orb f x y) : Con f g x y := by
  obtain ⟨k, rfl⟩ := h
  induction k with
  | zero => exact .refl
  | succ k ih => exact ih.left
theorem orb_con_right (f : Nat → Nat) {g : Nat → Nat} {x y : Nat} (h : Orb g x y) : Con f g x y := by
  obtain ⟨k, rfl⟩ := h
  induction k with
  | zero => exact .refl
  | succ k ih => exact ih.right

/-- Darts: r turns about the vertices, a goes along the edges (a dart that a leaves where it is has no edge). -/
structure Hm (N : Nat) (S : Nat → Prop) (r a : Nat → Nat) : Prop where
  rb : Bij N S r
  ab : Bij N S a
  inv : ∀ x, S x → a (a x) = x
variable {N : Nat} {S : Nat → Prop} {r a : Nat → Nat}
/-- Along an edge and round its end's vertex: the next dart of the face. -/
def phi (r a : Nat → Nat) (x : Nat) : Nat := r (a x)
theorem Hm.pb (h : Hm N S r a) : Bij N S (phi r a) :=
  ⟨h.rb.lt, fun x hx => h.rb.maps _ (h.ab.maps x hx), fun x y hx hy e => h.ab.inj _ _ hx hy (h.rb.inj _ _ (h.ab.maps x hx) (h.ab.maps y hy) e)⟩
theorem Hm.con_mem (h : Hm N S r a) {x y : Nat} (hx : S x) (e : Con r a x y) : S y := by
  induction e with
  | refl => exact hx
  | left _ ih => exact h.rb.maps _ ih
  | right _ ih => exact h.ab.maps _ ih
theorem Hm.con_symm (h : Hm N S r a) {x y : Nat} (hx : S x) (e : Con r a x y) : Con r a y x := by
  induction e with
  | refl => exact .refl
  | left e' ih => exact (orb_con_left a (h.rb.symm (h.con_mem hx e') (Orb.step r _))).trans ih
  | right e' ih => exact (orb_con_right r (h.ab.symm (h.con_mem hx e') (Orb.step a _))).trans ih
theorem Hm.ceqv (h : Hm N S r a) : Eqv S (Con r a) :=
  ⟨fun _ _ => .refl, fun _ _ hx _ e => h.con_symm hx e, fun _ _ _ _ _ _ e e' => e.trans e'⟩
theorem orb_phi_con {x y : Nat} (e : Orb (phi r a) x y) : Con r a x y := by
  obtain ⟨k, rfl⟩ := e
  induction k with
  | zero => exact .refl
  | succ k ih => exact ih.right.left
theorem con_sub (h : Hm N S r a) {R : Nat → Nat → Prop} (hE : Eqv S R) (h1 : ∀ x, S x → R x (r x)) (h2 : ∀ x, S x → R x (a x)) {x y : Nat} (hx : S x) (e : Con r a x y) : R x y := by
  induction e with
  | refl => exact hE.refl x hx
  | left e' ih => exact hE.trans _ _ _ hx (h.con_mem hx e') (h.rb.maps _ (h.con_mem hx e')) ih (h1 _ (h.con_mem hx e'))
  | right e' ih => exact hE.trans _ _ _ hx (h.con_mem hx e') (h.ab.maps _ (h.con_mem hx e')) ih (h2 _ (h.con_mem hx e'))

/-- The genus, twice: components, vertices, edges and faces are counted by classes. -/
def Gen (S : Nat → Prop) (r a : Nat → Nat) (z : Int) : Prop :=
  ∃ v d k f c : Nat, Cls S (Orb r) v ∧ Cls S Eq d ∧ Cls S (Orb a) k ∧ Cls S (Orb (phi r a)) f ∧ Cls S (Con r a) c ∧ z = 2 * (c : Int) - v + d - k - f
theorem Gen.unique {z z' : Int} (h : Gen S r a z) (h' : Gen S r a z') : z = z' := by
  obtain ⟨v, d, k, f, c, h1, h2, h3, h4, h5, rfl⟩ := h
  obtain ⟨v', d', k', f', c', g1, g2, g3, g4, g5, rfl⟩ := h'
  rw [h1.unique g1, h2.unique g2, h3.unique g3, h4.unique g4, h5.unique g5]
theorem Hm.gen (h : Hm N S r a) : ∃ z, Gen S r a z := by
  obtain ⟨v, h1⟩ := Cls.exists_ N S _ h.rb.lt h.rb.eqv
  obtain ⟨d, h2⟩ := Cls.exists_ N S Eq h.rb.lt ⟨fun _ _ => rfl, fun _ _ _ _ e => e.symm, fun _ _ _ _ _ _ e e' => e.trans e'⟩
  obtain ⟨k, h3⟩ := Cls.exists_ N S _ h.ab.lt h.ab.eqv
  obtain ⟨f, h4⟩ := Cls.exists_ N S _ h.pb.lt h.pb.eqv
  obtain ⟨c, h5⟩ := Cls.exists_ N S _ h.rb.lt h.ceqv
  exact ⟨_, v, d, k, f, c, h1, h2, h3, h4, h5, rfl⟩

theorem phi_tr (r a : Nat → Nat) (x y : Nat) : phi r (tr a x y) = tr (phi r a) x y := by
  funext z
  unfold phi tr
  split
  · rfl
  · split <;> rfl
theorem free_orb {x y : Nat} (fx : a x = x) (e : Orb a x y) : y = x :=
  orb_closed (P := fun z => z = x) (fun z hz => by rw [hz]; exact fx) rfl e
theorem Hm.tr (h : Hm N S r a) {x y : Nat} (hx : S x) (hy : S y) (fx : a x = x) (fy : a y = y) : Hm N S r (Pl.tr a x y) := by
  refine ⟨h.rb, h.ab.tr hx hy, fun z hz => ?_⟩
  by_cases h1 : z = x
  · subst h1; rw [tr_a, fy, tr_b, fx]
  · by_cases h2 : z = y
    · subst h2; rw [tr_b, fx, tr_a, fy]
    · rw [tr_ne h1 h2]
      have e := h.inv z hz
      have n1 : a z ≠ x := fun e1 => h1 (by rw [← e, e1, fx])
      have n2 : a z ≠ y := fun e1 => h2 (by rw [← e, e1, fy])
      rw [tr_ne n1 n2, e]
/-- An edge more: what it connects. -/
theorem Hm.con_tr (h : Hm N S r a) {x y : Nat} (hx : S x) (hy : S y) (fx : a x = x) (fy : a y = y) {u v : Nat} (hu : S u) : Con r (Pl.tr a x y) u v ↔ Join (Con r a) x y u v := by
  have hg := h.tr hx hy fx fy
  have exy : Con r (Pl.tr a x y) x y := by
    have := (Con.refl (f := r) (g := Pl.tr a x y) (x := x)).right
    rwa [tr_a, fy] at this
  have eyx := hg.con_symm hx exy
  have sub : ∀ {u v}, S u → Con r a u v → Con r (Pl.tr a x y) u v := by
    intro u v hu e
    refine con_sub h hg.ceqv (fun z _ => (Con.refl).left) (fun z hz => ?_) hu e
    by_cases h1 : z = x
    · subst h1; rw [fx]; exact .refl
    · by_cases h2 : z = y
      · subst h2; rw [fy]; exact .refl
      · have := (Con.refl (f := r) (g := Pl.tr a x y) (x := z)).right
        rwa [tr_ne h1 h2] at this
  constructor
  · intro e
    refine con_sub hg (Bij.join_eqv h.ceqv hx hy) (fun z _ => .inl (Con.refl).left) (fun z hz => ?_) hu e
    by_cases h1 : z = x
    · subst h1; rw [tr_a, fy]; exact .inr (.inl ⟨.refl, .refl⟩)
    · by_cases h2 : z = y
      · subst h2; rw [tr_b, fx]; exact .inr (.inr ⟨.refl, .refl⟩)
      · rw [tr_ne h1 h2]; exact .inl (Con.refl).right
  · rintro (e | ⟨e1, e2⟩ | ⟨e1, e2⟩)
    · exact sub hu e
    · exact (sub hu e1).trans (exy.trans (sub hy e2))
    · exact (sub hu e1).trans (eyx.trans (sub hx e2))
theorem join_same {R : Nat → Nat → Prop} (hE : Eqv S R) {x y : Nat} (hx : S x) (hy : S y) (e : R x y) {u v : Nat} (hu : S u) (hv : S v) : Join R x y u v ↔ R u v := by
  constructor
  · rintro (e0 | ⟨e1, e2⟩ | ⟨e1, e2⟩)
    · exact e0
    · exact hE.trans _ _ _ hu hx hv e1 (hE.trans _ _ _ hx hy hv e e2)
    · exact hE.trans _ _ _ hu hy hv e1 (hE.trans _ _ _ hy hx hv (hE.symm _ _ hx hy e) e2)
  · exact .inl

/-- AN EDGE MORE WITHIN A FACE: the genus stays. -/
theorem Gen.within (h : Hm N S r a) {x y : Nat} {z : Int} (hx : S x) (hy : S y) (hne : x ≠ y) (fx : a x = x) (fy : a y = y) (ho : Orb (phi r a) x y) (hz : Gen S r a z) : Gen S r (tr a x y) z := by
  obtain ⟨v, d, k, f, c, h1, h2, h3, h4, h5, rfl⟩ := hz
  have hn : ¬ Orb a x y := fun e => hne (free_orb fx e).symm
  have h3' : 2 ≤ k := h3.two hx hy hn
  obtain ⟨k, rfl⟩ : ∃ j, k = j + 1 := ⟨k - 1, by omega⟩
  refine ⟨v, d, k, f + 1, c, h1, h2, Cls.merge h.ab hx hy hn h3, ?_, h5.congr (fun _ => Iff.rfl) (fun u v hu hv => ?_), by omega⟩
  · rw [phi_tr]; exact Cls.part h.pb hx hy hne ho h4
  · rw [h.con_tr hx hy fx fy hu]
    exact (join_same h.ceqv hx hy (orb_phi_con ho) hu hv).symm
/-- AN EDGE MORE BETWEEN TWO COMPONENTS: the genus stays. -/
theorem Gen.between (h : Hm N S r a) {x y : Nat} {z : Int} (hx : S x) (hy : S y) (fx : a x = x) (fy : a y = y) (hc : ¬ Con r a x y) (hz : Gen S r a z) : Gen S r (tr a x y) z := by
  obtain ⟨v, d, k, f, c, h1, h2, h3, h4, h5, rfl⟩ := hz
  have hne : x ≠ y := fun e => hc (e ▸ .refl)
  have hn : ¬ Orb a x y := fun e => hne (free_orb fx e).symm
  have ho : ¬ Orb (phi r a) x y := fun e => hc (orb_phi_con e)
  have h3' : 2 ≤ k := h3.two hx hy hn
  have h4' : 2 ≤ f := h4.two hx hy ho
  have h5' : 2 ≤ c := h5.two hx hy hc
  obtain ⟨k, rfl⟩ : ∃ j, k = j + 1 := ⟨k - 1, by omega⟩
  obtain ⟨f, rfl⟩ : ∃ j, f = j + 1 := ⟨f - 1, by omega⟩
  obtain ⟨c, rfl⟩ : ∃ j, c = j + 1 := ⟨c - 1, by omega⟩
  refine ⟨v, d, k, f, c, h1, h2, Cls.merge h.ab hx hy hn h3, ?_, (h5.join hx hy hc).congr (fun _ => Iff.rfl) (fun u v hu _ => (h.con_tr hx hy fx fy hu).symm), by omega⟩
  rw [phi_tr]; exact Cls.merge h.pb hx hy ho h4
/-- AN EDGE MORE BETWEEN TWO FACES OF ONE COMPONENT: a handle more. -/
theorem Gen.handle (h : Hm N S r a) {x y : Nat} {z : Int} (hx : S x) (hy : S y) (fx : a x = x) (fy : a y = y) (ho : ¬ Orb (phi r a) x y) (hc : Con r a x y) (hz : Gen S r a z) : Gen S r (tr a x y) (z + 2) := by
  obtain ⟨v, d, k, f, c, h1, h2, h3, h4, h5, rfl⟩ := hz
  have hne : x ≠ y := fun e => ho (e ▸ Orb.refl _ _)
  have hn : ¬ Orb a x y := fun e => hne (free_orb fx e).symm
  have h3' : 2 ≤ k := h3.two hx hy hn
  have h4' : 2 ≤ f := h4.two hx hy ho
  obtain ⟨k, rfl⟩ : ∃ j, k = j + 1 := ⟨k - 1, by omega⟩
  obtain ⟨f, rfl⟩ : ∃ j, f = j + 1 := ⟨f - 1, by omega⟩
  refine ⟨v, d, k, f, c, h1, h2, Cls.merge h.ab hx hy hn h3, ?_, h5.congr (fun _ => Iff.rfl) (fun u v hu hv => ?_), by omega⟩
  · rw [phi_tr]; exact Cls.merge h.pb hx hy ho h4
  · rw [h.con_tr hx hy fx fy hu]
    exact (join_same h.ceqv hx hy hc hu hv).symm

/-- An edge that was put in last can be taken away: a less an edge. -/
theorem Hm.cut (h : Hm N S r a) {x : Nat} (hx : S x) (hne : a x ≠ x) : Hm N S r (Pl.tr a x (a x)) ∧ Pl.tr a x (a x) x = x ∧ Pl.tr a x (a x) (a x) = a x := by
  have hy := h.ab.maps x hx
  have e := h.inv x hx
  have e1 : Pl.tr a x (a x) x = x := by rw [tr_a, e]
  have e2 : Pl.tr a x (a x) (a x) = a x := by rw [tr_b]
  refine ⟨⟨h.rb, h.ab.tr hx hy, fun z hz => ?_⟩, e1, e2⟩
  by_cases h1 : z = x
  · subst h1; rw [e1, e1]
  · by_cases h2 : z = a x
    · rw [h2, e2, e2]
    · rw [tr_ne h1 h2]
      have ez := h.inv z hz
      have n1 : a z ≠ x := fun e3 => h2 (by rw [← ez, e3])
      have n2 : a z ≠ a x := fun e3 => h1 (h.ab.inj _ _ hz hx e3)
      rw [tr_ne n1 n2, ez]

/-- How many darts of those below m have an edge. -/
noncomputable def edged (a : Nat → Nat) (S : Nat → Prop) : Nat → Nat
  | 0 => 0
  | m + 1 => edged a S m + (open Classical in if S m ∧ a m ≠ m then 1 else 0)
theorem edged_le {a b : Nat → Nat} {S : Nat → Prop} (h : ∀ x, S x → b x ≠ x → a x ≠ x) : ∀ m, edged b S m ≤ edged a S m
  | 0 => Nat.le_refl _
  | m + 1 => by
    have := edged_le h m
    unfold edged
    by_cases h1 : S m ∧ b m ≠ m
    · rw [if_pos h1, if_pos ⟨h1.1, h m h1.1 h1.2⟩]; omega
    · rw [if_neg h1]; omega
theorem edged_lt {a b : Nat → Nat} {S : Nat → Prop} (h : ∀ x, S x → b x ≠ x → a x ≠ x) {x : Nat} (hx : S x) (h1 : a x ≠ x) (h2 : b x = x) : ∀ m, x < m → edged b S m < edged a S m
  | 0, hm => absurd hm (by omega)
  | m + 1, hm => by
    unfold edged
    by_cases e : x = m
    · subst e
      have := edged_le h x
      rw [if_neg (fun h3 => h3.2 h2), if_pos ⟨hx, h1⟩]; omega
    · have := edged_lt h hx h1 h2 m (by omega)
      by_cases h3 : S m ∧ b m ≠ m
      · rw [if_pos h3, if_pos ⟨h3.1, h m h3.1 h3.2⟩]; omega
      · rw [if_neg h3]; omega
/-- EULER'S INEQUALITY. -/
theorem Hm.nonneg : ∀ (n : Nat) (a : Nat → Nat), Hm N S r a → edged a S N ≤ n → ∀ z, Gen S r a z → 0 ≤ z
  | n, a, h, hn, z, hz => by
    by_cases hx : ∃ x, S x ∧ a x ≠ x
    · obtain ⟨x, hx, hne⟩ := hx
      obtain ⟨h0, f1, f2⟩ := h.cut hx hne
      have hy := h.ab.maps x hx
      have hlt := edged_lt (a := a) (b := Pl.tr a x (a x)) (S := S) (fun u hu hb ha => hb (by
        by_cases e1 : u = x
        · subst e1; exact f1
        · by_cases e2 : u = a x
          · rw [e2]; exact f2
          · rw [tr_ne e1 e2, ha])) hx hne f1 N (h.ab.lt x hx)
      match n, hn with
      | 0, hn => omega
      | n + 1, hn =>
        obtain ⟨z0, hz0⟩ := h0.gen
        have i0 := Hm.nonneg n _ h0 (by omega) z0 hz0
        have hh : Pl.tr (Pl.tr a x (a x)) x (a x) = a := tr_tr _ _ _
        by_cases ho : Orb (phi r (Pl.tr a x (a x))) x (a x)
        · have := Gen.within h0 hx hy (Ne.symm hne) f1 f2 ho hz0
          rw [hh] at this
          rw [hz.unique this]; exact i0
        · by_cases hc : Con r (Pl.tr a x (a x)) x (a x)
          · have := Gen.handle h0 hx hy f1 f2 ho hc hz0
            rw [hh] at this
            rw [hz.unique this]; omega
          · have := Gen.between h0 hx hy f1 f2 hc hz0
            rw [hh] at this
            rw [hz.unique this]; exact i0
    · have hid : ∀ x, S x → a x = x := fun x h1 => Classical.byContradiction fun h2 => hx ⟨x, h1, h2⟩
      obtain ⟨v, d, k, f, c, h1, h2, h3, h4, h5, rfl⟩ := hz
      have e1 : d = k := h2.unique (h3.congr (fun _ => Iff.rfl) (fun x y hx _ => ⟨fun e => (free_orb (hid x hx) e).symm, fun e => e ▸ Orb.refl a x⟩))
      have hp : ∀ x y, S x → (Orb (phi r a) x y ↔ Orb r x y) := fun x y hx =>
        ⟨fun e => orb_sub h.pb h.rb.eqv (fun z hz => by unfold phi; rw [hid z hz]; exact Orb.step r z) hx e,
         fun e => orb_sub h.rb h.pb.eqv (fun z hz => by have := Orb.step (phi r a) z; unfold phi at this; rw [hid z hz] at this; exact this) hx e⟩
      have e2 : f = v := h4.unique (h1.congr (fun _ => Iff.rfl) (fun x y hx _ => (hp x y hx).symm))
      have e3 : c = v := h5.unique (h1.congr (fun _ => Iff.rfl) (fun x y hx _ => ⟨fun e => orb_con_left a e, fun e => con_sub h h.rb.eqv (fun z _ => Orb.step r z) (fun z hz => by rw [hid z hz]; exact Orb.refl r z) hx e⟩))
      omega
theorem Gen.nonneg (h : Hm N S r a) {z : Int} (hz : Gen S r a z) : 0 ≤ z := Hm.nonneg _ a h (Nat.le_refl _) z hz

/-- PLANE MAPS. -/
def Flat (S : Nat → Prop) (r a : Nat → Nat) : Prop := Gen S r a 0
theorem Flat.add (h : Hm N S r a) {x y : Nat} (hx : S x) (hy : S y) (hne : x ≠ y) (fx : a x = x) (fy : a y = y) (hc : Con r a x y → Orb (phi r a) x y) (hf : Flat S r a) : Flat S r (tr a x y) := by
  by_cases h1 : Con r a x y
  · exact Gen.within h hx hy hne fx fy (hc h1) hf
  · exact Gen.between h hx hy fx fy h1 hf
theorem Flat.del (h : Hm N S r a) {x y : Nat} (hx : S x) (hy : S y) (hne : x ≠ y) (fx : a x = x) (fy : a y = y) (hf : Flat S r (tr a x y)) : Flat S r a ∧ (Con r a x y → Orb (phi r a) x y) := by
  obtain ⟨z, hz⟩ := h.gen
  have h0 := Gen.nonneg h hz
  by_cases ho : Orb (phi r a) x y
  · have := hf.unique (Gen.within h hx hy hne fx fy ho hz)
    subst this
    exact ⟨hz, fun _ => ho⟩
  · by_cases hc : Con r a x y
    · have := hf.unique (Gen.handle h hx hy fx fy ho hc hz)
      omega
    · have := hf.unique (Gen.between h hx hy fx fy hc hz)
      subst this
      exact ⟨hz, fun e => absurd e hc⟩

/-- Two maps side by side. -/
theorem Gen.add {T : Nat → Prop} (h : Hm N S r a) (h' : Hm N T r a) (hd : ∀ x, S x → ¬ T x) {z z' : Int} (hz : Gen S r a z) (hz' : Gen T r a z') : Gen (fun x => S x ∨ T x) r a (z + z') := by
  obtain ⟨v, d, k, f, c, h1, h2, h3, h4, h5, rfl⟩ := hz
  obtain ⟨v', d', k', f', c', g1, g2, g3, g4, g5, rfl⟩ := hz'
  have o : ∀ {f : Nat → Nat}, Bij N S f → Bij N T f → (∀ x y, S x → T y → ¬ Orb f x y) ∧ (∀ x y, S x → T y → ¬ Orb f y x) := fun b b' =>
    ⟨fun x y hx hy e => hd y (b.orb_mem hx e) hy, fun x y hx hy e => hd x hx (b'.orb_mem hy e)⟩
  exact ⟨v + v', d + d', k + k', f + f', c + c', h1.add g1 (o h.rb h'.rb).1 (o h.rb h'.rb).2 hd, h2.add g2 (fun x y hx hy e => hd x hx (e ▸ hy)) (fun x y hx hy e => hd x hx (e ▸ hy)) hd,
    h3.add g3 (o h.ab h'.ab).1 (o h.ab h'.ab).2 hd, h4.add g4 (o h.pb h'.pb).1 (o h.pb h'.pb).2 hd,
    h5.add g5 (fun x y hx hy e => hd y (h.con_mem hx e) hy) (fun x y hx hy e => hd x hx (h'.con_mem hy e)) hd, by omega⟩
end Go.Proofs.Ytobbepmlmbbamaa.Pl
end

section
/-
  Plain Lean: link diagrams as lists of signs and mates; half-edges, faces, graph components, and when a diagram is valid. No program is named here.
-/
namespace Go.Proofs.Ytobbepmlmbbamaa.Pl

/-- A diagram whose mates are numbers of half-edges. -/
structure Dg where
  sg : List Int
  mt : List Nat
  lp : Nat
deriving DecidableEq

namespace Dg
def n (d : Dg) : Nat := d.sg.length
def s (d : Dg) (c : Nat) : Int := d.sg.getD c 0
/-- The mate; a half-edge beyond the diagram is its own mate. -/
def m (d : Dg) (h : Nat) : Nat := d.mt.getD h h
end Dg

/-- The half-edge k slots further counterclockwise. -/
def tn (h k : Nat) : Nat := h / 4 * 4 + (h % 4 + k) % 4
theorem tn_div (h k : Nat) : tn h k / 4 = h / 4 := by unfold tn; omega
theorem tn_mod (h k : Nat) : tn h k % 4 = (h % 4 + k) % 4 := by unfold tn; omega
theorem tn_lt {h k n : Nat} (hh : h < 4 * n) : tn h k < 4 * n := by unfold tn; omega
theorem tn_tn (h j k : Nat) : tn (tn h j) k = tn h (j + k) := by unfold tn; omega
theorem tn_four (h : Nat) : tn h 4 = h := by unfold tn; omega
theorem tn_zero (h : Nat) : tn h 0 = h := by unfold tn; omega
theorem tn_inj {g h k : Nat} (e : tn g k = tn h k) : g = h := by unfold tn at e; omega
theorem tn_mod4 (h k : Nat) : tn h (k % 4) = tn h k := by unfold tn; omega

/-- Is the half-edge h outgoing? -/
def out (d : Dg) (h : Nat) : Bool := h % 4 == 2 || (h % 4 == 1 && d.s (h / 4) == 1) || (h % 4 == 3 && d.s (h / 4) == -1)
/-- The next half-edge of the face to the left. -/
def nx (d : Dg) (h : Nat) : Nat := tn (d.m h) 3
/-- The next half-edge of the strand. -/
def st (d : Dg) (h : Nat) : Nat := tn (d.m h) 2
def rot (h : Nat) : Nat := tn h 3
theorem nx_phi (d : Dg) : nx d = phi rot d.m := rfl

/-- The rules of a diagram, but for the sphere. -/
structure Wf (d : Dg) : Prop where
  few : d.n ≤ 64
  len : d.mt.length = 4 * d.n
  lp : d.lp ≤ 64
  sign : ∀ c, c < d.n → d.s c = 1 ∨ d.s c = -1
  lt : ∀ h, h < 4 * d.n → d.m h < 4 * d.n
  ne : ∀ h, h < 4 * d.n → d.m h ≠ h
  inv : ∀ h, h < 4 * d.n → d.m (d.m h) = h
  way : ∀ h, h < 4 * d.n → out d h ≠ out d (d.m h)

/-- The half-edges of a diagram. -/
def dart (d : Dg) (h : Nat) : Prop := h < 4 * d.n
theorem rot_bij (k : Nat) : Bij (4 * k) (fun h => h < 4 * k) rot :=
  ⟨fun _ h => h, fun _ h => tn_lt h, fun _ _ _ _ e => tn_inj e⟩
theorem Wf.bij {d : Dg} (h : Wf d) : Bij (4 * d.n) (dart d) d.m :=
  ⟨fun _ h => h, fun x hx => h.lt x hx, fun x y hx hy e => by rw [← h.inv x hx, ← h.inv y hy, e]⟩
theorem Wf.hm {d : Dg} (h : Wf d) : Hm (4 * d.n) (dart d) rot d.m := ⟨rot_bij d.n, h.bij, h.inv⟩

/-- The crossings a and b lie in one component of the graph. -/
def Comp (d : Dg) (a b : Nat) : Prop := Con rot d.m (4 * a) (4 * b)

theorem orb_rot (h : Nat) : ∀ k, Orb rot (4 * (h / 4) + k % 4) h := by
  intro k
  have h1 : k % 4 = 0 ∨ k % 4 = 1 ∨ k % 4 = 2 ∨ k % 4 = 3 := by omega
  have h2 : h % 4 = 0 ∨ h % 4 = 1 ∨ h % 4 = 2 ∨ h % 4 = 3 := by omega
  refine ⟨(k % 4 + 4 - h % 4) % 4, ?_⟩
  have key : ∀ j x : Nat, it rot j x = tn x (3 * j) := by
    intro j
    induction j with
    | zero => intro x; exact (tn_zero x).symm
    | succ j ih => intro x; show rot (it rot j x) = _; rw [ih]; unfold rot; rw [tn_tn]; congr 1
  rw [key]
  unfold tn
  omega
theorem orb_rot0 (h : Nat) : Orb rot (4 * (h / 4)) h := orb_rot h 0
/-- Half-edges of one component: their crossings are. -/
theorem con_comp {d : Dg} (hd : Wf d) {g h : Nat} (hg : g < 4 * d.n) (hh : h < 4 * d.n) : Con rot d.m g h ↔ Comp d (g / 4) (h / 4) := by
  have H := hd.hm
  have e1 : Con rot d.m (4 * (g / 4)) g := orb_con_left _ (orb_rot0 g)
  have e2 : Con rot d.m (4 * (h / 4)) h := orb_con_left _ (orb_rot0 h)
  have s1 : dart d (4 * (g / 4)) := by unfold dart; omega
  have s2 : dart d (4 * (h / 4)) := by unfold dart; omega
  constructor
  · intro e; exact (e1.trans e).trans (H.con_symm s2 e2)
  · intro e; exact (H.con_symm s1 e1).trans (e.trans e2)

/-- Does a face begin at h (its least half-edge)? -/
def Least (f : Nat → Nat) (h : Nat) : Prop := ∀ k, h ≤ it f k h

open Classical in
/-- How many of the numbers below N have the property. -/
noncomputable def cnt (p : Nat → Prop) : Nat → Nat
  | 0 => 0
  | k + 1 => cnt p k + if p k then 1 else 0

/-- THE RULES OF A DIAGRAM ON THE SPHERE. -/
structure Valid (d : Dg) : Prop where
  wf : Wf d
  flat : ∀ c, c < d.n → cnt (fun h => Least (nx d) h ∧ Comp d c (h / 4)) (4 * d.n) = cnt (fun b => Comp d c b) d.n + 2
end Go.Proofs.Ytobbepmlmbbamaa.Pl
end

section
/-
  What memory holds, said as lists: a slice of numbers, a diagram; kept behind 'Below'. No program is named here.
-/
namespace Go.Proofs.Ytobbepmlmbbamaa
open Go.RowKit

theorem hide {p : Prop} (h : p) : Hid p := h

theorem ret_bool {a b : Bool} (h : a = b) : Ending.returned (.bool a) = Ending.returned (.bool b) := by rw [h]
theorem ret_int {k : IntKind} {a b : Int} (h : a = b) : Ending.returned (.int k a) = Ending.returned (.int k b) := by rw [h]

theorem block_of_add (a : Addr) (n : Nat) : (a.add n).block = a.block := by unfold Addr.add; split <;> rfl
theorem add_of_add (a : Addr) (i j : Nat) : (a.add i).add j = a.add (i + j) := by
  unfold Addr.add
  by_cases hi : i = 0 <;> by_cases hj : j = 0 <;> simp [hi, hj, Nat.add_assoc]
theorem add_zero' (a : Addr) : a.add 0 = a := rfl

theorem lt_of_cell {w : World} {p : Addr} {v : Value} (h : w.cell? p = some v) : p.block < w.heap.size := by
  rcases Nat.lt_or_ge p.block w.heap.size with h1 | h1
  · exact h1
  · unfold World.cell? at h
    rw [Array.getElem?_eq_none h1] at h
    cases h
theorem cell_below {w w' : World} {p : Addr} {v : Value} (h : w.cell? p = some v) (hb : Below w.heap.size w w') : w'.cell? p = some v :=
  (hb.cell (lt_of_cell h)).trans h

/-- The slice value '.slice A n _' reads as the cells 'xs' (a cell an element). -/
def RowAt (w : World) (A : Option Addr) (n : Nat) (xs : List Value) : Prop :=
  xs.length = n ∧ (0 < n → ∃ b o, A = some ⟨b, o, none⟩ ∧ ∀ (j : Nat) u, xs[j]? = some u → w.cell? ⟨b, o + j, none⟩ = some u)

theorem RowAt.nil (w : World) : RowAt w none 0 [] := ⟨rfl, fun h => absurd h (by omega)⟩
theorem RowAt.zero (w : World) (A : Option Addr) : RowAt w A 0 [] := ⟨rfl, fun h => absurd h (by omega)⟩
theorem RowAt.keep {w w' : World} {A : Option Addr} {n : Nat} {xs : List Value} (h : RowAt w A n xs) (hb : Below w.heap.size w w') : RowAt w' A n xs :=
  ⟨h.1, fun hn => let ⟨b, o, e, hc⟩ := h.2 hn; ⟨b, o, e, fun j u hu => cell_below (hc j u hu) hb⟩⟩
theorem RowAt.at_ {w : World} {A : Option Addr} {n k : Nat} {xs : List Value} (h : RowAt w A n xs) (hk : k < n) :
    ∃ b o, A = some ⟨b, o, none⟩ ∧ w.cell? ⟨b, o + k, none⟩ = some (xs[k]'(by have := h.1; omega)) := by
  obtain ⟨b, o, e, hc⟩ := h.2 (by omega)
  have := h.1
  exact ⟨b, o, e, hc k _ (List.getElem?_eq_getElem (by omega))⟩

/-- The same, the row's block known, with its elements' type. -/
def RowT (w : World) (t : TypeId) (A : Option Addr) (n : Nat) (xs : List Value) : Prop :=
  xs.length = n ∧ (0 < n → ∃ b o cs fr, A = some ⟨b, o, none⟩ ∧ w.heap[b]? = some (.cells cs t fr) ∧ ∀ (j : Nat) u, xs[j]? = some u → cs[o + j]? = some u)
theorem RowT.row {w : World} {t : TypeId} {A : Option Addr} {n : Nat} {xs : List Value} (h : RowT w t A n xs) : RowAt w A n xs :=
  ⟨h.1, fun hn => let ⟨b, o, cs, fr, e, hb, hc⟩ := h.2 hn; ⟨b, o, e, fun j u hu => by rw [cell_of_row w b _ cs t fr hb]; exact hc j u hu⟩⟩
theorem RowT.keep {w w' : World} {t : TypeId} {A : Option Addr} {n : Nat} {xs : List Value} (h : RowT w t A n xs) (hb : Below w.heap.size w w') : RowT w' t A n xs :=
  ⟨h.1, fun hn => let ⟨b, o, cs, fr, e, hg, hc⟩ := h.2 hn; ⟨b, o, cs, fr, e, (hb.block b (by
    rcases Nat.lt_or_ge b w.heap.size with h1 | h1
    · exact h1
    · rw [Array.getElem?_eq_none h1] at hg; cases hg)).trans hg, hc⟩⟩
/-- .. behind an append to a row of another type's. -/
theorem RowT.grown {w w' : World} {t t' : TypeId} {A : Option Addr} {n : Nat} {xs : List Value} {row : Option Nat} (h : RowT w t A n xs) (hg : w.grownBy w' row) (hr : ∀ g, row = some g → ∃ cs fr, w.heap[g]? = some (.cells cs t' fr)) (hne : t ≠ t') : RowT w' t A n xs :=
  ⟨h.1, fun hn => let ⟨b, o, cs, fr, e, hb, hc⟩ := h.2 hn; ⟨b, o, cs, fr, e, (hg.block b (by
    rcases Nat.lt_or_ge b w.heap.size with h1 | h1
    · exact h1
    · rw [Array.getElem?_eq_none h1] at hb; cases hb) (fun he => by
      obtain ⟨cs', fr', h3⟩ := hr b he.symm
      rw [hb] at h3
      injection h3 with h3
      injection h3 with _ h4
      exact hne h4)).trans hb, hc⟩⟩
theorem ownsRow_block {w : World} {base : Nat} {e : TypeId} {size : Nat} {v : Value} {n : Nat} {xs : List Value} (h : w.ownsRow base e size v n xs) : ∀ g, v.ownBlock = some g → ∃ cs fr, w.heap[g]? = some (.cells cs e fr) := by
  intro g hg
  rcases h.2 with ⟨rfl, _⟩ | ⟨g', cap, cur, rfl, _, h3, _⟩
  · simp [Value.ownBlock] at hg
  · simp [Value.ownBlock] at hg
    subst hg
    exact ⟨_, _, h3⟩

/-- A slice of numbers. -/
def IntsAt (w : World) (A : Option Addr) (n : Nat) (zs : List Int) : Prop := RowAt w A n (zs.map (.int .i64))
theorem IntsAt.keep {w w' : World} {A : Option Addr} {n : Nat} {zs : List Int} (h : IntsAt w A n zs) (hb : Below w.heap.size w w') : IntsAt w' A n zs := RowAt.keep h hb
theorem IntsAt.len {w : World} {A : Option Addr} {n : Nat} {zs : List Int} (h : IntsAt w A n zs) : zs.length = n := by have := h.1; simpa using this
theorem IntsAt.at_ {w : World} {A : Option Addr} {n k : Nat} {zs : List Int} (h : IntsAt w A n zs) (hk : k < n) :
    ∃ b o, A = some ⟨b, o, none⟩ ∧ w.cell? ⟨b, o + k, none⟩ = some (.int .i64 (zs.getD k 0)) := by
  obtain ⟨b, o, e, hc⟩ := RowAt.at_ h hk
  refine ⟨b, o, e, hc.trans ?_⟩
  have := h.len
  rw [List.getElem_map, List.getD_eq_getElem?_getD, List.getElem?_eq_getElem (by omega)]; rfl
/-- Mates, as numbers. -/
def nats (l : List Nat) : List Int := l.map (fun m : Nat => (m : Int))
/-- The two slices of a diagram. -/
structure DgAt (w : World) (A : Option Addr) (B : Option Addr) (d : Pl.Dg) : Prop where
  s : IntsAt w A d.n d.sg
  m : IntsAt w B (4 * d.n) (nats d.mt)
theorem DgAt.keep {w w' : World} {A B : Option Addr} {d : Pl.Dg} (h : DgAt w A B d) (hb : Below w.heap.size w w') : DgAt w' A B d := ⟨h.s.keep hb, h.m.keep hb⟩
theorem DgAt.sign {w : World} {A B : Option Addr} {d : Pl.Dg} (h : DgAt w A B d) {c : Nat} (hc : c < d.n) :
    ∃ b o, A = some ⟨b, o, none⟩ ∧ w.cell? ⟨b, o + c, none⟩ = some (.int .i64 (d.s c)) := h.s.at_ hc
theorem sign_at {w : World} {A : Option Addr} {d : Pl.Dg} (h : IntsAt w A d.n d.sg) {c : Nat} (hc : c < d.n) :
    ∃ b o, A = some ⟨b, o, none⟩ ∧ w.cell? ⟨b, o + c, none⟩ = some (.int .i64 (d.s c)) := h.at_ hc
theorem mate_at {w : World} {B : Option Addr} {d : Pl.Dg} (h : IntsAt w B (4 * d.n) (nats d.mt)) {k : Nat} (hk : k < 4 * d.n) :
    ∃ b o, B = some ⟨b, o, none⟩ ∧ w.cell? ⟨b, o + k, none⟩ = some (.int .i64 (d.m k : Nat)) := by
  obtain ⟨b, o, e, hc⟩ := h.at_ hk
  refine ⟨b, o, e, hc.trans ?_⟩
  have hl := h.len
  unfold nats at hl
  rw [List.length_map] at hl
  unfold nats Pl.Dg.m
  rw [List.getD_eq_getElem?_getD, List.getD_eq_getElem?_getD, List.getElem?_map, List.getElem?_eq_getElem (by omega)]; rfl
theorem DgAt.mate {w : World} {A B : Option Addr} {d : Pl.Dg} (h : DgAt w A B d) {k : Nat} (hk : k < 4 * d.n) :
    ∃ b o, B = some ⟨b, o, none⟩ ∧ w.cell? ⟨b, o + k, none⟩ = some (.int .i64 (d.m k : Nat)) := mate_at h.m hk
end Go.Proofs.Ytobbepmlmbbamaa
end

section
/-
  Walks: the small functions of diagram and moves.
-/
namespace Go.Proofs.Ytobbepmlmbbamaa
open Go.RowKit

theorem turn_back (h : Nat) (w : World) (hh : h ≤ 1000000) :
    Calls Try.prog 108 #[.int .i64 (h : Int), .int .i64 (-1)] w fun e w' => e = .returned (.int .i64 (Pl.tn h 3 : Nat)) ∧ w = w' := by
  go_enter Try.func108, Try.ntmps108
  go_wp2
  go_ret
  exact ⟨ret_int (by unfold Pl.tn; omega), rfl⟩
theorem turn_opp (h : Nat) (w : World) (hh : h ≤ 1000000) :
    Calls Try.prog 108 #[.int .i64 (h : Int), .int .i64 2] w fun e w' => e = .returned (.int .i64 (Pl.tn h 2 : Nat)) ∧ w = w' := by
  go_enter Try.func108, Try.ntmps108
  go_wp2
  go_ret
  exact ⟨ret_int (by unfold Pl.tn; omega), rfl⟩
theorem opposite_any (h : Nat) (w : World) (hh : h ≤ 1000000) :
    Calls Try.prog 121 #[.int .i64 (h : Int)] w fun e w' => e = .returned (.int .i64 (Pl.tn h 2 : Nat)) ∧ w = w' := by
  go_enter Try.func121, Try.ntmps121
  go_wp2_with fail
  refine (turn_opp h _ hh).mono ?_
  rintro e w1 ⟨rfl, rfl⟩
  go_wp2
  go_ret
  exact ⟨rfl, rfl⟩

theorem out_zero {d : Pl.Dg} {h : Nat} (e : h % 4 = 0) : Pl.out d h = false := by unfold Pl.out; simp [e]
theorem out_one {d : Pl.Dg} {h : Nat} (e : h % 4 = 1) : Pl.out d h = (d.s (h / 4) == 1) := by unfold Pl.out; simp [e]
theorem out_two {d : Pl.Dg} {h : Nat} (e : h % 4 = 2) : Pl.out d h = true := by unfold Pl.out; simp [e]
theorem out_three {d : Pl.Dg} {h : Nat} (e : h % 4 = 3) : Pl.out d h = (d.s (h / 4) == -1) := by unfold Pl.out; simp [e]

/-- The first 'outgoing'. -/
theorem out_any (d : Pl.Dg) (A B : Option Addr) (cp q cq : Nat) (l : Value) (h : Nat) (w : World) (hh : h < 4 * d.n) (hn : d.n ≤ 1000) (hs : IntsAt w A d.n d.sg) :
    Calls Try.prog 58 #[.agg #[.slice A d.n cp, .slice B q cq, l], .int .i64 (h : Int)] w fun e w' => e = .returned (.bool (Pl.out d h)) ∧ Below w.heap.size w w' := by
  obtain ⟨b, o, rfl, hc⟩ := sign_at hs (c := h / 4) (by omega)
  have hb : Below w.heap.size w (w.alloc (.cells #[.slice (some ⟨b, o, none⟩) d.n cp, .slice B q cq, l] 24)) := (Below.refl _ _).alloc (Nat.le_refl _) _
  have hc2 := cell_below hc hb
  go_enter Try.func58, Try.ntmps58
  go_wp2
  all_goals
    go_ret
    refine ⟨ret_bool ?_, hb⟩
    simp only [beq_iff_eq, beq_eq_false_iff_ne, ne_eq] at *
  · rw [out_one (by omega)]
  · rw [out_two (by omega)]
  · rw [out_three (by omega)]
  · rw [out_zero (by omega)]

theorem out_n (d : Pl.Dg) (A B : Option Addr) (n cp q cq : Nat) (l : Value) (h : Nat) (w : World) (e : n = d.n) (hh : h < 4 * n) (hn : n ≤ 1000) (hs : IntsAt w A n d.sg) :
    Calls Try.prog 58 #[.agg #[.slice A n cp, .slice B q cq, l], .int .i64 (h : Int)] w fun e w' => e = .returned (.bool (Pl.out d h)) ∧ Below w.heap.size w w' := by
  subst e; exact out_any d A B cp q cq l h w hh hn hs
/-- The second. -/
theorem out2_any (d : Pl.Dg) (A B : Option Addr) (cp q cq : Nat) (l : Value) (h : Nat) (w : World) (hh : h < 4 * d.n) (hn : d.n ≤ 1000) (hs : IntsAt w A d.n d.sg) :
    Calls Try.prog 119 #[.agg #[.slice A d.n cp, .slice B q cq, l], .int .i64 (h : Int)] w fun e w' => e = .returned (.bool (Pl.out d h)) ∧ Below w.heap.size w w' := by
  obtain ⟨b, o, rfl, hc⟩ := sign_at hs (c := h / 4) (by omega)
  have hb : Below w.heap.size w (w.alloc (.cells #[.slice (some ⟨b, o, none⟩) d.n cp, .slice B q cq, l] 24)) := (Below.refl _ _).alloc (Nat.le_refl _) _
  have hc2 := cell_below hc hb
  go_enter Try.func119, Try.ntmps119
  go_wp2
  all_goals
    go_ret
    refine ⟨ret_bool ?_, hb⟩
  · rw [out_two (by omega)]
  · rename_i e1
    rw [out_one (by omega)]; try simp [e1]
  · rename_i e1
    rw [out_one (by omega)]; try simp [e1]
  · rw [out_three (by omega)]
  · rw [out_zero (by omega)]; simp; omega
theorem out2_n (d : Pl.Dg) (A B : Option Addr) (n cp q cq : Nat) (l : Value) (h : Nat) (w : World) (e : n = d.n) (hh : h < 4 * n) (hn : n ≤ 1000) (hs : IntsAt w A n d.sg) :
    Calls Try.prog 119 #[.agg #[.slice A n cp, .slice B q cq, l], .int .i64 (h : Int)] w fun e w' => e = .returned (.bool (Pl.out d h)) ∧ Below w.heap.size w w' := by
  subst e; exact out2_any d A B cp q cq l h w hh hn hs
/-- The next half-edge of a face. -/
theorem next_any (d : Pl.Dg) (B : Option Addr) (cq : Nat) (h : Nat) (w : World) (hh : h < 4 * d.n) (hn : d.n ≤ 1000) (hm : IntsAt w B (4 * d.n) (nats d.mt)) (hlt : d.m h < 4 * d.n) :
    Calls Try.prog 95 #[.slice B (4 * d.n) cq, .int .i64 (h : Int)] w fun e w' => e = .returned (.int .i64 (Pl.nx d h : Nat)) ∧ w = w' := by
  obtain ⟨b, o, rfl, hc⟩ := mate_at hm hh
  go_enter Try.func95, Try.ntmps95
  go_wp2_with fail
  refine (turn_back _ _ (by omega)).mono ?_
  rintro e w1 ⟨rfl, rfl⟩
  go_wp2
  go_ret
  exact ⟨rfl, rfl⟩
end Go.Proofs.Ytobbepmlmbbamaa
end
