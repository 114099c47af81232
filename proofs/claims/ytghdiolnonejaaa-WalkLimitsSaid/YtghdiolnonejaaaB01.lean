/-
  The texts Vf, Push, Byp, Lab, Sph, Mk in one.
-/
import Derived.Test.YtghdiolnonejaaaB00
set_option linter.unusedVariables false
set_option linter.unusedSimpArgs false

section
namespace Go.Proofs.Ytghdiolnonejaaa.Pl
/-- The least of its class. -/
def Lst (S : Nat → Prop) (R : Nat → Nat → Prop) (h : Nat) : Prop := S h ∧ ∀ g, S g → R h g → h ≤ g
theorem cnt_step_pos {p : Nat → Prop} {k : Nat} (h : p k) : cnt p (k + 1) = cnt p k + 1 := by rw [cnt, if_pos h]
theorem cnt_step_neg {p : Nat → Prop} {k : Nat} (h : ¬ p k) : cnt p (k + 1) = cnt p k := by rw [cnt, if_neg h]; omega
theorem cnt_le (p : Nat → Prop) (j : Nat) : ∀ k, cnt p j ≤ cnt p (j + k)
  | 0 => Nat.le_refl _
  | k + 1 => by
    have := cnt_le p j k
    by_cases h : p (j + k)
    · rw [← Nat.add_assoc, cnt_step_pos h]; omega
    · rw [← Nat.add_assoc, cnt_step_neg h]; omega
theorem cnt_mono (p : Nat → Prop) {j k : Nat} (h : j ≤ k) : cnt p j ≤ cnt p k := by
  have := cnt_le p j (k - j)
  rwa [Nat.add_sub_cancel' h] at this
theorem cnt_lt {p : Nat → Prop} {j k : Nat} (hj : p j) (h : j < k) : cnt p j < cnt p k := by
  have h1 := cnt_mono p (show j + 1 ≤ k by omega)
  rw [cnt_step_pos hj] at h1
  omega
theorem cnt_surj (p : Nat → Prop) : ∀ (N i : Nat), i < cnt p N → ∃ x, x < N ∧ p x ∧ cnt p x = i
  | 0, i, h => by simp [cnt] at h
  | N + 1, i, h => by
    by_cases hp : p N
    · rw [cnt_step_pos hp] at h
      by_cases e : i = cnt p N
      · exact ⟨N, by omega, hp, e.symm⟩
      · obtain ⟨x, h1, h2, h3⟩ := cnt_surj p N i (by omega)
        exact ⟨x, by omega, h2, h3⟩
    · rw [cnt_step_neg hp] at h
      obtain ⟨x, h1, h2, h3⟩ := cnt_surj p N i h
      exact ⟨x, by omega, h2, h3⟩
theorem cnt_congr {p q : Nat → Prop} : ∀ (N : Nat), (∀ x, x < N → (p x ↔ q x)) → cnt p N = cnt q N
  | 0, _ => rfl
  | N + 1, h => by
    have ih := cnt_congr N (fun x hx => h x (by omega))
    by_cases hp : p N
    · rw [cnt_step_pos hp, cnt_step_pos ((h N (by omega)).1 hp), ih]
    · rw [cnt_step_neg hp, cnt_step_neg (fun hq => hp ((h N (by omega)).2 hq)), ih]
theorem cnt_top (p : Nat → Prop) : ∀ N, cnt p N ≤ N
  | 0 => Nat.le_refl _
  | N + 1 => by
    have := cnt_top p N
    by_cases h : p N
    · rw [cnt_step_pos h]; omega
    · rw [cnt_step_neg h]; omega
theorem least_of {p : Nat → Prop} (x : Nat) (hx : p x) : ∃ y, p y ∧ ∀ z, p z → y ≤ z := by
  induction x using Nat.strongRecOn with
  | _ x ih =>
    by_cases h : ∃ z, p z ∧ z < x
    · obtain ⟨z, h1, h2⟩ := h; exact ih z h2 h1
    · exact ⟨x, hx, fun z hz => Nat.le_of_not_lt fun h1 => h ⟨z, hz, h1⟩⟩
/-- The classes are counted by their least elements. -/
theorem Cls.count {S : Nat → Prop} {R : Nat → Nat → Prop} (N : Nat) (hN : ∀ x, S x → x < N) (hE : Eqv S R) : Cls S R (cnt (Lst S R) N) := by
  have hw : ∀ x : Nat, ∃ y : Nat, S x → Lst S R y ∧ R x y := fun x => by
    by_cases hx : S x
    · obtain ⟨y, hy, hm⟩ := least_of (p := fun y => S y ∧ R x y) x ⟨hx, hE.refl x hx⟩
      exact ⟨y, fun _ => ⟨⟨hy.1, fun g hg e => hm g ⟨hg, hE.trans _ _ _ hx hy.1 hg hy.2 e⟩⟩, hy.2⟩⟩
    · exact ⟨0, fun h => absurd h hx⟩
  have un : ∀ y z, Lst S R y → Lst S R z → R y z → y = z := fun y z hy hz e => Nat.le_antisymm (hy.2 z hz.1 e) (hz.2 y hy.1 (hE.symm _ _ hy.1 hz.1 e))
  refine ⟨fun x => cnt (Lst S R) (Classical.choose (hw x)), fun x hx => ?_, fun x y hx hy => ?_, fun i hi => ?_⟩
  · have c := Classical.choose_spec (hw x) hx
    exact cnt_lt c.1 (hN _ c.1.1)
  · have c := Classical.choose_spec (hw x) hx
    have c' := Classical.choose_spec (hw y) hy
    constructor
    · intro e
      have e2 : Classical.choose (hw x) = Classical.choose (hw y) := by
        rcases Nat.lt_trichotomy (Classical.choose (hw x)) (Classical.choose (hw y)) with h | h | h
        · have := cnt_lt c.1 h; exact absurd (show cnt (Lst S R) (Classical.choose (hw x)) = cnt (Lst S R) (Classical.choose (hw y)) from e) (by omega)
        · exact h
        · have := cnt_lt c'.1 h; exact absurd (show cnt (Lst S R) (Classical.choose (hw x)) = cnt (Lst S R) (Classical.choose (hw y)) from e) (by omega)
      exact hE.trans _ _ _ hx c.1.1 hy c.2 (e2 ▸ hE.symm _ _ hy c'.1.1 c'.2)
    · intro e
      have e2 := un _ _ c.1 c'.1 (hE.trans _ _ _ c.1.1 hx c'.1.1 (hE.symm _ _ hx c.1.1 c.2) (hE.trans _ _ _ hx hy c'.1.1 e c'.2))
      show cnt (Lst S R) (Classical.choose (hw x)) = cnt (Lst S R) (Classical.choose (hw y))
      rw [e2]
  · obtain ⟨x, h1, h2, h3⟩ := cnt_surj _ N i hi
    have c := Classical.choose_spec (hw x) h2.1
    have e2 := un _ _ h2 c.1 c.2
    refine ⟨x, h2.1, ?_⟩
    show cnt (Lst S R) (Classical.choose (hw x)) = i
    rw [← e2]; exact h3
theorem eq_eqv (S : Nat → Prop) : Eqv S Eq := ⟨fun _ _ => rfl, fun _ _ _ _ e => e.symm, fun _ _ _ _ _ _ e e' => e.trans e'⟩
theorem Cls.card {S : Nat → Prop} (N : Nat) (hN : ∀ x, S x → x < N) : Cls S Eq (cnt S N) := by
  have := Cls.count (R := Eq) N hN (eq_eqv S)
  rwa [cnt_congr N (fun x _ => ⟨fun h => h.1, fun h => ⟨h, fun g _ e => Nat.le_of_eq e⟩⟩)] at this
/-- The half-edges of the component of a crossing. -/
def part (d : Dg) (c h : Nat) : Prop := h < 4 * d.n ∧ Comp d c (h / 4)
variable {d : Dg}
theorem comp_mem (hd : Wf d) {a b : Nat} (ha : a < d.n) (e : Comp d a b) : b < d.n := by
  have := hd.hm.con_mem (x := 4 * a) (by unfold dart; omega) e
  unfold dart at this; omega
theorem comp_symm (hd : Wf d) {a b : Nat} (ha : a < d.n) (e : Comp d a b) : Comp d b a := hd.hm.con_symm (by unfold dart; omega) e
theorem part_con (hd : Wf d) {c g h : Nat} (_ : c < d.n) (hg : part d c g) (e : Con rot d.m g h) : part d c h := by
  have hh := hd.hm.con_mem (x := g) hg.1 e
  exact ⟨hh, hg.2.trans ((con_comp hd hg.1 hh).1 e)⟩
theorem part_hm (hd : Wf d) {c : Nat} (hc : c < d.n) : Hm (4 * d.n) (part d c) rot d.m :=
  ⟨⟨fun _ h => h.1, fun x hx => part_con hd hc hx (Con.refl.left), fun _ _ _ _ e => tn_inj e⟩,
   ⟨fun _ h => h.1, fun x hx => part_con hd hc hx (Con.refl.right), fun x y hx hy e => hd.bij.inj x y hx.1 hy.1 e⟩, fun x hx => hd.inv x hx.1⟩
theorem part_one (hd : Wf d) {c g h : Nat} (hc : c < d.n) (hg : part d c g) (hh : part d c h) : Con rot d.m g h :=
  (con_comp hd hg.1 hh.1).2 ((comp_symm hd hc hg.2).trans hh.2)
theorem out_way (hd : Wf d) {h : Nat} (hh : h < 4 * d.n) : out d (d.m h) = !out d h := by
  have := hd.way h hh
  cases h1 : out d h <;> cases h2 : out d (d.m h) <;> simp_all
theorem orb_div {x y : Nat} (e : Orb rot x y) : y / 4 = x / 4 := orb_closed (P := fun z => z / 4 = x / 4) (fun z hz => by show rot z / 4 = _; unfold rot; rw [tn_div, hz]) rfl e
/-- A component's genus: two more than its crossings, less its faces. -/
theorem part_gen (hd : Wf d) {c : Nat} (hc : c < d.n) :
    Gen (part d c) rot d.m (2 + (cnt (fun b => Comp d c b) d.n : Int) - (cnt (fun h => Least (nx d) h ∧ Comp d c (h / 4)) (4 * d.n) : Int)) := by
  have H := part_hm hd hc
  -- crossings
  have cb : Cls (fun b => b < d.n ∧ Comp d c b) Eq (cnt (fun b => Comp d c b) d.n) := by
    have := Cls.card (S := fun b => b < d.n ∧ Comp d c b) d.n (fun _ h => h.1)
    rwa [cnt_congr (q := fun b => Comp d c b) d.n (fun x hx => ⟨fun h => h.2, fun h => ⟨hx, h⟩⟩)] at this
  have slot : ∀ k, k < 4 → Cls (fun h => part d c h ∧ h % 4 = k) Eq (cnt (fun b => Comp d c b) d.n) := fun k hk =>
    cb.map (fun b => 4 * b + k) (fun x hx => by
      refine ⟨⟨by have := hx.1; omega, ?_⟩, by omega⟩
      rw [show (4 * x + k) / 4 = x by omega]; exact hx.2) (fun y hy => ⟨y / 4, ⟨by have := hy.1.1; omega, hy.1.2⟩, by have := hy.2; omega⟩) (fun x y _ _ => by omega)
  have hv : Cls (part d c) (Orb rot) (cnt (fun b => Comp d c b) d.n) := by
    refine Cls.sup (D := fun h => part d c h ∧ h % 4 = 0) ((slot 0 (by omega)).congr (fun _ => Iff.rfl) (fun x y hx hy => ⟨fun e => e ▸ Orb.refl _ _, fun e => ?_⟩)) H.rb.eqv (fun _ h => h.1) (fun x hx => ?_)
    · have h1 := orb_div e
      have h2 := hx.2
      have h3 := hy.2
      omega
    · have h1 := H.rb.lt x hx
      refine ⟨4 * (x / 4), ⟨⟨by omega, ?_⟩, by omega⟩, (rot_bij d.n).symm (show 4 * (x / 4) < 4 * d.n by omega) (orb_rot0 x)⟩
      rw [show 4 * (x / 4) / 4 = x / 4 by omega]; exact hx.2
  have hdn : Cls (part d c) Eq (cnt (fun b => Comp d c b) d.n * 4) := by
    have e0 := slot 0 (by omega)
    have e1 := e0.add (slot 1 (by omega)) (fun x y hx hy e => by have h1 := hx.2; have h2 := hy.2; omega) (fun x y hx hy e => by have h1 := hx.2; have h2 := hy.2; omega) (fun x hx hy => by have h1 := hx.2; have h2 := hy.2; omega)
    have e2 := e1.add (slot 2 (by omega)) (fun x y hx hy e => by have h2 := hy.2; rcases hx with hx | hx <;> have h1 := hx.2 <;> omega) (fun x y hx hy e => by have h2 := hy.2; rcases hx with hx | hx <;> have h1 := hx.2 <;> omega) (fun x hx hy => by have h2 := hy.2; rcases hx with hx | hx <;> have h1 := hx.2 <;> omega)
    have e3 := e2.add (slot 3 (by omega)) (fun x y hx hy e => by have h2 := hy.2; rcases hx with (hx | hx) | hx <;> have h1 := hx.2 <;> omega) (fun x y hx hy e => by have h2 := hy.2; rcases hx with (hx | hx) | hx <;> have h1 := hx.2 <;> omega) (fun x hx hy => by have h2 := hy.2; rcases hx with (hx | hx) | hx <;> have h1 := hx.2 <;> omega)
    have := e3.congr (S' := part d c) (R' := Eq) (fun x => ⟨fun h => by rcases h with ((h | h) | h) | h <;> exact h.1, fun h => by
      have : x % 4 = 0 ∨ x % 4 = 1 ∨ x % 4 = 2 ∨ x % 4 = 3 := by omega
      rcases this with e | e | e | e
      · exact .inl (.inl (.inl ⟨h, e⟩))
      · exact .inl (.inl (.inr ⟨h, e⟩))
      · exact .inl (.inr ⟨h, e⟩)
      · exact .inr ⟨h, e⟩⟩) (fun _ _ _ _ => Iff.rfl)
    rwa [show cnt (fun b => Comp d c b) d.n + cnt (fun b => Comp d c b) d.n + cnt (fun b => Comp d c b) d.n + cnt (fun b => Comp d c b) d.n = cnt (fun b => Comp d c b) d.n * 4 by omega] at this
  -- edges
  have ho : Cls (fun h => part d c h ∧ out d h = true) Eq (cnt (fun h => part d c h ∧ out d h = true) (4 * d.n)) := Cls.card _ (fun _ h => h.1.1)
  have hi : Cls (fun h => part d c h ∧ out d h = false) Eq (cnt (fun h => part d c h ∧ out d h = true) (4 * d.n)) :=
    ho.map d.m (fun x hx => ⟨H.ab.maps x hx.1, by rw [out_way hd hx.1.1, hx.2]; rfl⟩)
      (fun y hy => ⟨d.m y, ⟨H.ab.maps y hy.1, by rw [out_way hd hy.1.1, hy.2]; rfl⟩, hd.inv y hy.1.1⟩) (fun x y hx hy => ⟨fun e => by rw [e], fun e => hd.bij.inj x y hx.1.1 hy.1.1 e⟩)
  have hboth := ho.add hi (fun x y hx hy e => by have h1 := hx.2; have h2 := hy.2; rw [e, h2] at h1; cases h1) (fun x y hx hy e => by have h1 := hx.2; have h2 := hy.2; rw [e, h1] at h2; cases h2) (fun x hx hy => by have h1 := hx.2; rw [hy.2] at h1; cases h1)
  have hda := hdn.unique (hboth.congr (S' := part d c) (fun x => ⟨fun h => by rcases h with h | h <;> exact h.1, fun h => by
    rcases Bool.eq_false_or_eq_true (out d x) with e | e
    · exact .inl ⟨h, e⟩
    · exact .inr ⟨h, e⟩⟩) (fun _ _ _ _ => Iff.rfl))
  have hk : Cls (part d c) (Orb d.m) (cnt (fun h => part d c h ∧ out d h = true) (4 * d.n)) := by
    refine Cls.sup (D := fun h => part d c h ∧ out d h = true) (ho.congr (fun _ => Iff.rfl) (fun x y hx hy => ⟨fun e => e ▸ Orb.refl _ _, fun e => ?_⟩)) H.ab.eqv (fun _ h => h.1) (fun x hx => ?_)
    · have : y = x ∨ y = d.m x := orb_closed (P := fun z => z = x ∨ z = d.m x) (fun z hz => by
        rcases hz with rfl | rfl
        · exact .inr rfl
        · exact .inl (hd.inv x hx.1.1)) (.inl rfl) e
      rcases this with h | h
      · exact h.symm
      · have h2 := hy.2; rw [h, out_way hd hx.1.1, hx.2] at h2; cases h2
    · rcases Bool.eq_false_or_eq_true (out d x) with e | e
      · exact ⟨x, ⟨hx, e⟩, Orb.refl _ _⟩
      · exact ⟨d.m x, ⟨H.ab.maps x hx, by rw [out_way hd hx.1, e]; rfl⟩, Orb.step _ _⟩
  -- faces
  have hf : Cls (part d c) (Orb (phi rot d.m)) (cnt (fun h => Least (nx d) h ∧ Comp d c (h / 4)) (4 * d.n)) := by
    have := Cls.count (4 * d.n) H.pb.lt H.pb.eqv
    rwa [cnt_congr (q := fun h => Least (nx d) h ∧ Comp d c (h / 4)) (4 * d.n) (fun x hx => ⟨fun h => ⟨fun k => h.2 _ (H.pb.it k x h.1) ⟨k, rfl⟩, h.1.2⟩, fun h => ⟨⟨hx, h.2⟩, fun g _ e => by
      obtain ⟨k, rfl⟩ := e
      exact h.1 k⟩⟩)] at this
  -- one component
  have hc1 : Cls (part d c) (Con rot d.m) 1 :=
    ⟨fun _ => 0, fun _ _ => Nat.zero_lt_one, fun x y hx hy => ⟨fun _ => part_one hd hc hx hy, fun _ => rfl⟩, fun i hi => ⟨4 * c, ⟨by omega, by rw [show 4 * c / 4 = c by omega]; exact .refl⟩, show 0 = i by omega⟩⟩
  exact ⟨_, _, _, _, _, hv, hdn, hk, hf, hc1, by omega⟩
/-- THE RULE OF FACES SAYS: a plane map. -/
theorem flat_iff (hd : Wf d) : (∀ c, c < d.n → cnt (fun h => Least (nx d) h ∧ Comp d c (h / 4)) (4 * d.n) = cnt (fun b => Comp d c b) d.n + 2) ↔ Flat (dart d) rot d.m := by
  constructor
  · intro h
    -- by crossings
    have key : ∀ k, k ≤ d.n → Gen (fun h => h < 4 * d.n ∧ ∃ c, c < k ∧ Comp d c (h / 4)) rot d.m 0 ∧ Hm (4 * d.n) (fun h => h < 4 * d.n ∧ ∃ c, c < k ∧ Comp d c (h / 4)) rot d.m := by
      intro k hk
      refine ⟨?_, ⟨⟨fun _ h => h.1, fun x hx => ⟨tn_lt hx.1, ?_⟩, fun _ _ _ _ e => tn_inj e⟩, ⟨fun _ h => h.1, fun x hx => ?_, fun x y hx hy e => hd.bij.inj x y hx.1 hy.1 e⟩, fun x hx => hd.inv x hx.1⟩⟩
      · induction k with
        | zero =>
          have e : ∀ x, ¬ (x < 4 * d.n ∧ ∃ c, c < 0 ∧ Comp d c (x / 4)) := fun x hx => by obtain ⟨_, c, h, _⟩ := hx; omega
          exact ⟨0, 0, 0, 0, 0, Cls.empty e, Cls.empty e, Cls.empty e, Cls.empty e, Cls.empty e, rfl⟩
        | succ k ih =>
          have ih := ih (by omega)
          by_cases hx : ∃ c, c < k ∧ Comp d c k
          · obtain ⟨c0, h1, h2⟩ := hx
            have e : (fun h => h < 4 * d.n ∧ ∃ c, c < k + 1 ∧ Comp d c (h / 4)) = (fun h => h < 4 * d.n ∧ ∃ c, c < k ∧ Comp d c (h / 4)) := by
              funext x
              refine propext ⟨fun ⟨a, c, h3, h4⟩ => ⟨a, ?_⟩, fun ⟨a, c, h3, h4⟩ => ⟨a, c, by omega, h4⟩⟩
              by_cases e : c = k
              · subst e; exact ⟨c0, h1, h2.trans h4⟩
              · exact ⟨c, by omega, h4⟩
            rw [e]; exact ih
          · have hp := part_gen hd (c := k) (by omega)
            rw [h k (by omega), show (2 : Int) + (cnt (fun b => Comp d k b) d.n : Int) - ((cnt (fun b => Comp d k b) d.n + 2 : Nat) : Int) = 0 by omega] at hp
            have hh : Hm (4 * d.n) (fun h => h < 4 * d.n ∧ ∃ c, c < k ∧ Comp d c (h / 4)) rot d.m := by
              refine ⟨⟨fun _ h => h.1, fun x hx => ⟨tn_lt hx.1, ?_⟩, fun _ _ _ _ e => tn_inj e⟩, ⟨fun _ h => h.1, fun x hx => ?_, fun x y hx hy e => hd.bij.inj x y hx.1 hy.1 e⟩, fun x hx => hd.inv x hx.1⟩
              · obtain ⟨_, c, h1, h2⟩ := hx
                exact ⟨c, h1, by unfold rot; rw [tn_div]; exact h2⟩
              · obtain ⟨h0, c, h1, h2⟩ := hx
                have := part_con hd (c := c) (g := x) (by omega) ⟨h0, h2⟩ (Con.refl.right)
                exact ⟨this.1, c, h1, this.2⟩
            have := Gen.add hh (part_hm hd (c := k) (by omega)) (fun x hx1 hx2 => by
              obtain ⟨h0, c, h1, h2⟩ := hx1
              exact hx ⟨c, h1, h2.trans (comp_symm hd (by omega) hx2.2)⟩) ih hp
            have e : (fun h => h < 4 * d.n ∧ ∃ c, c < k + 1 ∧ Comp d c (h / 4)) = (fun x => (x < 4 * d.n ∧ ∃ c, c < k ∧ Comp d c (x / 4)) ∨ part d k x) := by
              funext x
              refine propext ⟨fun ⟨a, c, h3, h4⟩ => ?_, fun h => ?_⟩
              · by_cases e : c = k
                · subst e; exact .inr ⟨a, h4⟩
                · exact .inl ⟨a, c, by omega, h4⟩
              · rcases h with ⟨a, c, h3, h4⟩ | ⟨a, h4⟩
                · exact ⟨a, c, by omega, h4⟩
                · exact ⟨a, k, by omega, h4⟩
            rw [e]
            simpa using this
      · obtain ⟨_, c, h1, h2⟩ := hx
        exact ⟨c, h1, by unfold rot; rw [tn_div]; exact h2⟩
      · obtain ⟨h0, c, h1, h2⟩ := hx
        have := part_con hd (c := c) (g := x) (by omega) ⟨h0, h2⟩ (Con.refl.right)
        exact ⟨this.1, c, h1, this.2⟩
    have := (key d.n (Nat.le_refl _)).1
    have e : (fun h => h < 4 * d.n ∧ ∃ c, c < d.n ∧ Comp d c (h / 4)) = dart d := by
      funext x
      exact propext ⟨fun h => h.1, fun h => ⟨h, x / 4, by unfold dart at h; omega, .refl⟩⟩
    rw [e] at this
    exact this
  · intro hf c hc
    have hp := part_gen hd hc
    -- the others
    have hr : Hm (4 * d.n) (fun h => h < 4 * d.n ∧ ¬ Comp d c (h / 4)) rot d.m := by
      refine ⟨⟨fun _ h => h.1, fun x hx => ⟨tn_lt hx.1, by unfold rot; rw [tn_div]; exact hx.2⟩, fun _ _ _ _ e => tn_inj e⟩, ⟨fun _ h => h.1, fun x hx => ⟨hd.lt x hx.1, fun e => hx.2 ?_⟩, fun x y hx hy e => hd.bij.inj x y hx.1 hy.1 e⟩, fun x hx => hd.inv x hx.1⟩
      have := part_con hd (c := c) (g := d.m x) hc ⟨hd.lt x hx.1, e⟩ (Con.refl.right)
      rw [hd.inv x hx.1] at this
      exact this.2
    obtain ⟨z, hz⟩ := hr.gen
    have hs := Gen.add (part_hm hd hc) hr (fun x h1 h2 => h2.2 h1.2) hp hz
    have e : (fun x => part d c x ∨ (x < 4 * d.n ∧ ¬ Comp d c (x / 4))) = dart d := by
      funext x
      refine propext ⟨fun h => by rcases h with h | h <;> exact h.1, fun h => ?_⟩
      by_cases e : Comp d c (x / 4)
      · exact .inl ⟨h, e⟩
      · exact .inr ⟨h, e⟩
    rw [e] at hs
    have h1 := hf.unique hs
    have h2 := Gen.nonneg (part_hm hd hc) hp
    have h3 := Gen.nonneg hr hz
    omega
theorem Valid.iff : Valid d ↔ Wf d ∧ Flat (dart d) rot d.m :=
  ⟨fun h => ⟨h.wf, (flat_iff h.wf).1 h.flat⟩, fun h => ⟨h.1, (flat_iff h.1).2 h.2⟩⟩
end Go.Proofs.Ytghdiolnonejaaa.Pl
end

section
namespace Go.Proofs.Ytghdiolnonejaaa.Pl
variable {N : Nat} {S : Nat → Prop} {r a : Nat → Nat}
/-- No edges: plane. -/
theorem gen_id (h : Hm N S r a) (hid : ∀ x, S x → a x = x) : Gen S r a 0 := by
  obtain ⟨z, hz⟩ := h.gen
  have hz' := hz
  obtain ⟨v, d, k, f, c, h1, h2, h3, h4, h5, rfl⟩ := hz
  have e1 : d = k := h2.unique (h3.congr (fun _ => Iff.rfl) (fun x y hx _ => ⟨fun e => (free_orb (hid x hx) e).symm, fun e => e ▸ Orb.refl a x⟩))
  have hp : ∀ x y, S x → (Orb (phi r a) x y ↔ Orb r x y) := fun x y hx =>
    ⟨fun e => orb_sub h.pb h.rb.eqv (fun z hz => by unfold phi; rw [hid z hz]; exact Orb.step r z) hx e,
     fun e => orb_sub h.rb h.pb.eqv (fun z hz => by have := Orb.step (phi r a) z; unfold phi at this; rw [hid z hz] at this; exact this) hx e⟩
  have e2 : f = v := h4.unique (h1.congr (fun _ => Iff.rfl) (fun x y hx _ => (hp x y hx).symm))
  have e3 : c = v := h5.unique (h1.congr (fun _ => Iff.rfl) (fun x y hx _ => ⟨fun e => orb_con_left a e, fun e => con_sub h h.rb.eqv (fun z _ => Orb.step r z) (fun z hz => by rw [hid z hz]; exact Orb.refl r z) hx e⟩))
  have : (2 * (c : Int) - v + d - k - f) = 0 := by omega
  rw [this] at hz'
  exact hz'
/-- Two maps that agree on the set. -/
theorem Orb.congr {f g : Nat → Nat} (hm : ∀ x, S x → S (f x)) (h : ∀ x, S x → f x = g x) {x y : Nat} (hx : S x) : Orb f x y ↔ Orb g x y := by
  have key : ∀ k, it f k x = it g k x ∧ S (it f k x) := by
    intro k
    induction k with
    | zero => exact ⟨rfl, hx⟩
    | succ k ih => exact ⟨by show f (it f k x) = g (it g k x); rw [← ih.1, h _ ih.2], hm _ ih.2⟩
  constructor
  · rintro ⟨k, rfl⟩; exact ⟨k, (key k).1.symm⟩
  · rintro ⟨k, rfl⟩; exact ⟨k, (key k).1⟩
theorem Con.congr {f g f' g' : Nat → Nat} (h1 : ∀ x, S x → S (f x)) (h2 : ∀ x, S x → S (g x)) (e1 : ∀ x, S x → f x = f' x) (e2 : ∀ x, S x → g x = g' x) {x y : Nat} (hx : S x) : Con f g x y ↔ Con f' g' x y := by
  constructor
  · intro h
    have : Con f' g' x y ∧ S y := by
      induction h with
      | refl => exact ⟨.refl, hx⟩
      | left _ ih => exact ⟨by rw [e1 _ ih.2]; exact ih.1.left, h1 _ ih.2⟩
      | right _ ih => exact ⟨by rw [e2 _ ih.2]; exact ih.1.right, h2 _ ih.2⟩
    exact this.1
  · intro h
    have : Con f g x y ∧ S y := by
      induction h with
      | refl => exact ⟨.refl, hx⟩
      | left _ ih => exact ⟨by rw [← e1 _ ih.2]; exact ih.1.left, by rw [← e1 _ ih.2]; exact h1 _ ih.2⟩
      | right _ ih => exact ⟨by rw [← e2 _ ih.2]; exact ih.1.right, by rw [← e2 _ ih.2]; exact h2 _ ih.2⟩
    exact this.1
theorem Gen.congr {r' a' : Nat → Nat} {z : Int} (h : Hm N S r a) (e1 : ∀ x, S x → r x = r' x) (e2 : ∀ x, S x → a x = a' x) (hz : Gen S r a z) : Gen S r' a' z := by
  obtain ⟨v, d, k, f, c, h1, h2, h3, h4, h5, rfl⟩ := hz
  exact ⟨v, d, k, f, c, h1.congr (fun _ => Iff.rfl) (fun _ _ hx _ => Orb.congr h.rb.maps e1 hx), h2, h3.congr (fun _ => Iff.rfl) (fun _ _ hx _ => Orb.congr h.ab.maps e2 hx),
    h4.congr (fun _ => Iff.rfl) (fun _ _ hx _ => Orb.congr h.pb.maps (fun x hx => by unfold phi; rw [← e2 x hx, e1 _ (h.ab.maps x hx)]) hx),
    h5.congr (fun _ => Iff.rfl) (fun _ _ hx _ => Con.congr h.rb.maps h.ab.maps e1 e2 hx), rfl⟩
theorem Hm.congr {r' a' : Nat → Nat} (h : Hm N S r a) (e1 : ∀ x, S x → r x = r' x) (e2 : ∀ x, S x → a x = a' x) : Hm N S r' a' :=
  ⟨⟨h.rb.lt, fun x hx => by rw [← e1 x hx]; exact h.rb.maps x hx, fun x y hx hy e => h.rb.inj x y hx hy (by rw [e1 x hx, e1 y hy, e])⟩,
   ⟨h.ab.lt, fun x hx => by rw [← e2 x hx]; exact h.ab.maps x hx, fun x y hx hy e => h.ab.inj x y hx hy (by rw [e2 x hx, e2 y hy, e])⟩,
   fun x hx => by rw [← e2 x hx, ← e2 _ (h.ab.maps x hx)]; exact h.inv x hx⟩
/-- The genus with an edge more, all three cases in one. -/
theorem Gen.edge (h : Hm N S r a) {x y : Nat} {z : Int} (hx : S x) (hy : S y) (hne : x ≠ y) (fx : a x = x) (fy : a y = y) (hz : Gen S r a z) :
    ((Con r a x y → Orb (phi r a) x y) ∧ Gen S r (tr a x y) z) ∨ ((Con r a x y ∧ ¬ Orb (phi r a) x y) ∧ Gen S r (tr a x y) (z + 2)) := by
  by_cases ho : Orb (phi r a) x y
  · exact .inl ⟨fun _ => ho, Gen.within h hx hy hne fx fy ho hz⟩
  · by_cases hc : Con r a x y
    · exact .inr ⟨⟨hc, ho⟩, Gen.handle h hx hy fx fy ho hc hz⟩
    · exact .inl ⟨fun e => absurd e hc, Gen.between h hx hy fx fy hc hz⟩
/-- A DETOUR: x goes to u, and v, in the same face as u, goes to y: as if x went to y. -/
theorem Gen.detour (h : Hm N S r a) {x y u v : Nat} (hx : S x) (hy : S y) (hu : S u) (hv : S v) (hxy : x ≠ y) (huv : u ≠ v) (fx : a x = x) (fy : a y = y) (fu : a u = u) (fv : a v = v)
    (n1 : ¬ Con r a x u) (n2 : ¬ Con r a y u) (ho : Orb (phi r a) v u) {z : Int} (hz : Gen S r (tr a x y) z) : Gen S r (tr (tr a x u) v y) z := by
  have hvu := orb_phi_con ho
  have n3 : ¬ Con r a v y := fun e => n2 ((h.con_symm hv e).trans hvu)
  have n4 : ¬ Con r a x v := fun e => n1 (e.trans hvu)
  have xu : x ≠ u := fun e => n1 (e ▸ .refl)
  have xv : x ≠ v := fun e => n4 (e ▸ .refl)
  have vy : v ≠ y := fun e => n3 (e ▸ .refl)
  have yu : y ≠ u := fun e => n2 (e ▸ .refl)
  obtain ⟨z0, hz0⟩ := h.gen
  have h1 := h.tr hx hu fx fu
  have g1 := Gen.between h hx hu fx fu n1 hz0
  have fv1 : tr a x u v = v := by rw [tr_ne (Ne.symm xv) (Ne.symm huv), fv]
  have fy1 : tr a x u y = y := by rw [tr_ne (Ne.symm hxy) yu, fy]
  have nf : ¬ Orb (phi r a) x u := fun e => n1 (orb_phi_con e)
  -- connected, and in one face, at the same time
  have ec : Con r (tr a x u) v y ↔ Con r a x y := by
    rw [h.con_tr hx hu fx fu hv]
    constructor
    · rintro (e | ⟨e1, _⟩ | ⟨_, e2⟩)
      · exact absurd e n3
      · exact absurd (h.con_symm hv e1) n4
      · exact e2
    · intro e; exact .inr (.inr ⟨hvu, e⟩)
  have eo : Orb (phi r (tr a x u)) v y ↔ Orb (phi r a) x y := by
    rw [phi_tr, h.pb.merge hx hu nf hv]
    constructor
    · rintro (e | ⟨e1, _⟩ | ⟨_, e2⟩)
      · exact absurd (orb_phi_con e) n3
      · exact absurd (h.con_symm hv (orb_phi_con e1)) n4
      · exact e2
    · intro e; exact .inr (.inr ⟨ho, e⟩)
  rcases Gen.edge h hx hy hxy fx fy hz0 with ⟨c1, k1⟩ | ⟨c1, k1⟩ <;> rcases Gen.edge h1 hv hy vy fv1 fy1 g1 with ⟨c2, k2⟩ | ⟨c2, k2⟩
  · rw [hz.unique k1]; exact k2
  · rw [ec, eo] at c2; exact absurd (c1 c2.1) c2.2
  · rw [ec, eo] at c2; exact absurd (c2 c1.1) c1.2
  · rw [hz.unique k1]; exact k2
/-- PUSHED: the other way, where y lies in c's face, or is not connected with it. -/
theorem Flat.push (h : Hm N S r a) {y y' c d p : Nat} (hy : S y) (hy' : S y') (hc : S c) (hd : S d) (yy : y ≠ y') (yc : y ≠ c) (yd : y ≠ d) (cd : c ≠ d) (y'c : y' ≠ c) (y'd : y' ≠ d)
    (fy : a y = y) (fy' : a y' = y') (fc : a c = c) (fd : a d = d) (e1 : phi r a d = p) (e2 : phi r a p = c) (py : p ≠ y) (pc : p ≠ c)
    (hn : Orb (phi r (tr a y y')) c y ∨ ¬ Con r (tr a y y') c y) (hf : Flat S r (tr a y y')) : Flat S r (tr (tr a y c) d y') := by
  have h1 := h.tr hy hc fy fc
  have h2 := h.tr hy hy' fy fy'
  have fd1 : tr a y c d = d := by rw [tr_ne (Ne.symm yd) (Ne.symm cd), fd]
  have fy1 : tr a y c y' = y' := by rw [tr_ne (Ne.symm yy) y'c, fy']
  obtain ⟨f0, k0⟩ := Flat.del h hy hy' yy fy fy' hf
  have odc : Orb (phi r a) d c := ⟨2, by show phi r a (phi r a d) = c; rw [e1, e2]⟩
  have cdc := orb_phi_con odc
  have odc' : Orb (phi r (tr a y c)) d c := by
    refine ⟨2, ?_⟩
    show phi r (tr a y c) (phi r (tr a y c) d) = c
    rw [phi_tr, tr_ne (Ne.symm yd) (Ne.symm cd), e1, tr_ne py pc, e2]
  -- what a holds, the map with (y y') holds
  have up : ∀ {u v}, S u → Con r a u v → Con r (tr a y y') u v := fun hu e => (h.con_tr hy hy' fy fy' hu).2 (.inl e)
  have eyy : Con r (tr a y y') y y' := (h.con_tr hy hy' fy fy' hy).2 (.inr (.inl ⟨.refl, .refl⟩))
  by_cases hcy : Con r (tr a y y') c y
  · have hocy := hn.resolve_right (fun e => e hcy)
    by_cases hyy : Con r a y y'
    · -- (i): one orbit of a, parted by (y y')
      have oyy := k0 hyy
      have hno : ¬ Orb (phi r (tr a y y')) y y' := by rw [phi_tr]; exact h.pb.part hy hy' yy oyy
      have ocy : Orb (phi r a) c y := by
        have hg := h.pb.tr hy hy'
        have := (hg.merge hy hy' (h.pb.part hy hy' yy oyy) hc (y := y)).2 (.inl (by rw [← phi_tr]; exact hocy))
        rwa [tr_tr] at this
      have f1 : Flat S r (tr a y c) := Flat.add h hy hc yc fy fc (fun _ => h.pb.symm hc ocy) f0
      refine Flat.add h1 hd hy' (Ne.symm y'd) fd1 fy1 (fun _ => odc'.trans ?_) f1
      -- c and y' in one orbit behind (y c): by the three values
      have key : phi r (tr a y c) = tr (tr (phi r (tr a y y')) y c) c y' := by
        rw [phi_tr, phi_tr]
        funext x
        by_cases x1 : x = y
        · subst x1
          rw [tr_a, tr_ne yc yy, tr_a, tr_ne (Ne.symm yc) (Ne.symm y'c)]
        · by_cases x2 : x = c
          · subst x2
            rw [tr_b, tr_a, tr_ne (Ne.symm yy) y'c, tr_b]
          · by_cases x3 : x = y'
            · subst x3
              rw [tr_ne x1 x2, tr_b, tr_b, tr_a]
            · rw [tr_ne x1 x2, tr_ne x2 x3, tr_ne x1 x2, tr_ne x1 x3]
      have hg2 : Bij N S (tr (phi r (tr a y y')) y c) := h2.pb.tr hy hc
      have hn2 : ¬ Orb (tr (phi r (tr a y y')) y c) c y' := by
        intro e
        have oyc2 : Orb (phi r (tr a y y')) y c := h2.pb.symm hc hocy
        have hn3 := h2.pb.part hy hc yc oyc2
        have := (hg2.merge hy hc hn3 hc (y := y')).2 (.inl e)
        rw [tr_tr] at this
        exact hno (oyc2.trans this)
      rw [key]
      exact hg2.run hy' hn2 hc
    · have nf : ¬ Orb (phi r a) y y' := fun e => hyy (orb_phi_con e)
      rw [phi_tr, h.pb.merge hy hy' nf hc] at hocy
      rcases hocy with e | ⟨e3, e4⟩ | ⟨e3, _⟩
      · -- c in y's orbit
        have f1 : Flat S r (tr a y c) := Flat.add h hy hc yc fy fc (fun _ => h.pb.symm hc e) f0
        refine Flat.add h1 hd hy' (Ne.symm y'd) fd1 fy1 (fun hx => ?_) f1
        rw [h.con_tr hy hc fy fc hd] at hx
        have ecy := orb_phi_con e
        rcases hx with x1 | ⟨_, x2⟩ | ⟨_, x2⟩
        · exact absurd (((h.con_symm hc ecy).trans (h.con_symm hd cdc)).trans x1) hyy
        · exact absurd ((h.con_symm hc ecy).trans x2) hyy
        · exact absurd x2 hyy
      · exact absurd (h.con_symm hy' (orb_phi_con e4)) hyy
      · -- c in the orbit of y'
        have ncy : ¬ Con r a y c := fun e => hyy (e.trans (orb_phi_con e3))
        have f1 : Flat S r (tr a y c) := Flat.add h hy hc yc fy fc (fun e => absurd e ncy) f0
        refine Flat.add h1 hd hy' (Ne.symm y'd) fd1 fy1 (fun _ => ?_) f1
        rw [phi_tr, h.pb.merge hy hc (fun e => ncy (orb_phi_con e)) hd]
        exact .inl (odc.trans e3)
  · have ncy : ¬ Con r a y c := fun e => hcy (h2.con_symm hy (up hy e))
    have f1 : Flat S r (tr a y c) := Flat.add h hy hc yc fy fc (fun e => absurd e ncy) f0
    refine Flat.add h1 hd hy' (Ne.symm y'd) fd1 fy1 (fun hx => ?_) f1
    rw [h.con_tr hy hc fy fc hd] at hx
    rw [phi_tr, h.pb.merge hy hc (fun e => ncy (orb_phi_con e)) hd]
    rcases hx with x1 | ⟨x1, _⟩ | ⟨_, x2⟩
    · have : Con r (tr a y y') c y := (up hc (h.con_symm hd cdc)).trans ((up hd x1).trans (h2.con_symm hy eyy))
      exact absurd this hcy
    · exact absurd ((h.con_symm hd x1).trans cdc) ncy
    · exact .inr (.inr ⟨odc, k0 x2⟩)
end Go.Proofs.Ytghdiolnonejaaa.Pl
end

section
namespace Go.Proofs.Ytghdiolnonejaaa.Pl
variable {N : Nat} {S : Nat → Prop} {r a : Nat → Nat}
/-- BYPASSED: u and v lie in one face, u leads to x, v to y: then x may lead to y at once. -/
theorem Flat.bypass (h : Hm N S r a) {x y u v : Nat} (hx : S x) (hy : S y) (hu : S u) (hv : S v) (hxy : x ≠ y) (huv : u ≠ v) (xu : x ≠ u) (xv : x ≠ v) (yu : y ≠ u) (yv : y ≠ v)
    (fx : a x = x) (fy : a y = y) (fu : a u = u) (fv : a v = v) (ho : Orb (phi r a) u v) (hf : Flat S r (tr (tr a u x) v y)) : Flat S r (tr a x y) := by
  have h1 := h.tr hu hx fu fx
  have fv1 : tr a u x v = v := by rw [tr_ne (Ne.symm huv) (Ne.symm xv), fv]
  have fy1 : tr a u x y = y := by rw [tr_ne yu (Ne.symm hxy), fy]
  obtain ⟨f1, k1⟩ := Flat.del h1 hv hy (Ne.symm yv) fv1 fy1 hf
  obtain ⟨f0, k0⟩ := Flat.del h hu hx (Ne.symm xu) fu fx f1
  have cuv := orb_phi_con ho
  have ovu := h.pb.symm hu ho
  have cvu := orb_phi_con ovu
  refine Flat.add h hx hy hxy fx fy (fun hc => ?_) f0
  have c2 : Con r (tr a u x) v y := (h.con_tr hu hx fu fx hv).2 (.inr (.inl ⟨cvu, hc⟩))
  have o2 := k1 c2
  by_cases oux : Orb (phi r a) u x
  · have sub : Orb (phi r a) v y := by
      rw [phi_tr] at o2
      refine orb_sub (h.pb.tr hu hx) h.pb.eqv (fun z hz => ?_) hv o2
      by_cases z1 : z = u
      · subst z1; rw [tr_a]; exact oux.trans (Orb.step _ _)
      · by_cases z2 : z = x
        · subst z2; rw [tr_b]; exact (h.pb.symm hu oux).trans (Orb.step _ _)
        · rw [tr_ne z1 z2]; exact Orb.step _ _
    exact (h.pb.symm hu oux).trans (ho.trans sub)
  · rw [phi_tr, h.pb.merge hu hx oux hv] at o2
    rcases o2 with e | ⟨_, e⟩ | ⟨e, _⟩
    · exact absurd (k0 ((orb_phi_con (ho.trans e)).trans (h.con_symm hx hc))) oux
    · exact e
    · exact absurd (ho.trans e) oux
/-- Both edges cut. -/
def cut2 (a : Nat → Nat) (u v : Nat) : Nat → Nat := tr (tr a u (a u)) v (a v)
/-- What becomes of the edges when u and v are bypassed. -/
def byp (a : Nat → Nat) (u v : Nat) : Nat → Nat := tr (cut2 a u v) (a u) (a v)
theorem cut2_hm (h : Hm N S r a) {u v : Nat} (hu : S u) (hv : S v) (huv : u ≠ v) (nu : a u ≠ u) (nv : a v ≠ v) (nuv : a u ≠ v) :
    Hm N S r (cut2 a u v) ∧ cut2 a u v u = u ∧ cut2 a u v v = v ∧ cut2 a u v (a u) = a u ∧ cut2 a u v (a v) = a v ∧ a = tr (tr (cut2 a u v) u (a u)) v (a v) ∧ a u ≠ a v ∧ a v ≠ u := by
  have n1 : a u ≠ a v := fun e => huv (h.ab.inj _ _ hu hv e)
  have n2 : a v ≠ u := fun e => nuv (by rw [← e, h.inv v hv])
  obtain ⟨c1, c2, c3⟩ := Hm.cut h hu nu
  have e1 : tr a u (a u) v = a v := tr_ne (Ne.symm huv) (Ne.symm nuv)
  have e2 : tr a u (a u) v ≠ v := by rw [e1]; exact nv
  obtain ⟨d1, d2, d3⟩ := Hm.cut c1 hv e2
  rw [e1] at d1 d2 d3
  refine ⟨d1, ?_, d2, ?_, d3, ?_, n1, n2⟩
  · unfold cut2; rw [tr_ne huv (Ne.symm n2), c2]
  · unfold cut2; rw [tr_ne nuv n1, c3]
  · unfold cut2
    funext z
    by_cases z1 : z = v
    · subst z1
      rw [tr_a]
      rw [tr_ne n2 (Ne.symm n1), tr_b, tr_ne (Ne.symm huv) (Ne.symm nuv)]
    · by_cases z2 : z = a v
      · subst z2
        rw [tr_b, tr_ne (Ne.symm huv) (Ne.symm nuv), tr_a, tr_ne n2 (Ne.symm n1)]
      · rw [tr_ne z1 z2]
        by_cases z3 : z = u
        · subst z3
          rw [tr_a, tr_ne nuv n1, tr_b]
        · by_cases z4 : z = a u
          · subst z4
            rw [tr_b, tr_ne huv (Ne.symm n2), tr_a]
          · rw [tr_ne z3 z4, tr_ne z1 z2, tr_ne z3 z4]
theorem byp_flat (h : Hm N S r a) {u v : Nat} (hu : S u) (hv : S v) (huv : u ≠ v) (nu : a u ≠ u) (nv : a v ≠ v) (nuv : a u ≠ v) (ho : Orb (phi r (cut2 a u v)) u v) (hf : Flat S r a) :
    Hm N S r (byp a u v) ∧ Flat S r (byp a u v) := by
  obtain ⟨c0, c1, c2, c3, c4, c5, c6, c7⟩ := cut2_hm h hu hv huv nu nv nuv
  have hx := h.ab.maps u hu
  have hy := h.ab.maps v hv
  exact ⟨c0.tr hx hy c3 c4, Flat.bypass c0 hx hy hu hv c6 huv nu nuv c7 nv c3 c4 c1 c2 ho (by rw [← c5]; exact hf)⟩
/-- The values of the bypassed map. -/
theorem byp_at (h : Hm N S r a) {u v : Nat} (hu : S u) (hv : S v) (huv : u ≠ v) (nu : a u ≠ u) (nv : a v ≠ v) (nuv : a u ≠ v) :
    byp a u v u = u ∧ byp a u v v = v ∧ byp a u v (a u) = a v ∧ byp a u v (a v) = a u ∧ ∀ z, z ≠ u → z ≠ v → z ≠ a u → z ≠ a v → byp a u v z = a z := by
  obtain ⟨c0, c1, c2, c3, c4, c5, c6, c7⟩ := cut2_hm h hu hv huv nu nv nuv
  unfold byp
  refine ⟨by rw [tr_ne (Ne.symm nu) (Ne.symm c7), c1], by rw [tr_ne (Ne.symm nuv) (Ne.symm nv), c2], by rw [tr_a, c4], by rw [tr_b, c3], fun z z1 z2 z3 z4 => ?_⟩
  rw [tr_ne z3 z4]
  unfold cut2
  rw [tr_ne z2 z4, tr_ne z1 z3]
theorem cut2_at (u v : Nat) {z : Nat} (z1 : z ≠ u) (z2 : z ≠ v) (z3 : z ≠ a u) (z4 : z ≠ a v) : cut2 a u v z = a z := by
  unfold cut2
  rw [tr_ne z2 z4, tr_ne z1 z3]
end Go.Proofs.Ytghdiolnonejaaa.Pl
end

section
namespace Go.Proofs.Ytghdiolnonejaaa.Pl
/-- The label of a crossing. -/
def pv (ps : List Int) (a : Nat) : Int := ps.getD a 0
theorem pv_set {ps : List Int} {i : Nat} (hi : i < ps.length) (v : Int) (a : Nat) : pv (ps.set i v) a = if a = i then v else pv ps a := by
  unfold pv
  rw [List.getD_eq_getElem?_getD, List.getD_eq_getElem?_getD, List.getElem?_set]
  by_cases h : i = a
  · subst h; simp [hi]
  · rw [if_neg h, if_neg (fun e => h e.symm)]
def unl (ps : List Int) : Nat := ps.countP (fun z => decide (z < 0))
theorem unl_set {ps : List Int} {i : Nat} (hi : i < ps.length) (hn : pv ps i < 0) {v : Int} (hv : 0 ≤ v) : unl (ps.set i v) + 1 = unl ps := by
  have e : pv ps i = ps[i] := by unfold pv; rw [List.getD_eq_getElem?_getD, List.getElem?_eq_getElem hi]; rfl
  have hp : 0 < unl ps := by
    unfold unl
    rw [List.countP_pos_iff]
    exact ⟨ps[i], List.getElem_mem hi, by rw [← e]; simpa using hn⟩
  unfold unl at hp ⊢
  rw [List.countP_set hi]
  have h1 : decide (ps[i] < 0) = true := by rw [← e]; simpa using hn
  have h2 : decide (v < 0) = false := by simpa using hv
  rw [h1, h2]
  simp only [if_true, Bool.false_eq_true, if_false]
  omega
theorem fill_set {k n : Nat} (h : k < n) : (List.replicate k (-1 : Int) ++ List.replicate (n - k) 0).set k (-1) = List.replicate (k + 1) (-1) ++ List.replicate (n - (k + 1)) 0 := by
  refine List.ext_getElem (by simp; omega) (fun i h1 h2 => ?_)
  simp only [List.getElem_set, List.getElem_append, List.getElem_replicate, List.length_replicate]
  split <;> split <;> (try split) <;> omega
variable {d : Dg}
/-- The crossing at the other end of an edge. -/
def nb (d : Dg) (a t : Nat) : Nat := d.m (4 * a + t) / 4
theorem nb_lt (hd : Wf d) {a t : Nat} (ha : a < d.n) (ht : t < 4) : nb d a t < d.n := by
  have := hd.lt (4 * a + t) (by omega)
  unfold nb; omega
theorem nb_comp (hd : Wf d) {a t : Nat} (ha : a < d.n) (ht : t < 4) : Comp d a (nb d a t) := by
  have h1 := (con_comp hd (g := 4 * a + t) (h := d.m (4 * a + t)) (by omega) (hd.lt _ (by omega))).1 (Con.refl.right)
  rwa [show (4 * a + t) / 4 = a by omega] at h1
/-- A set of crossings that holds its neighbours holds its components. -/
theorem comp_closed (hd : Wf d) {P : Nat → Prop} (hP : ∀ a, a < d.n → P a → ∀ t, t < 4 → P (nb d a t)) {a b : Nat} (ha : a < d.n) (h : P a) (e : Comp d a b) : P b := by
  have : ∀ y, Con rot d.m (4 * a) y → y < 4 * d.n ∧ P (y / 4) := by
    intro y e
    induction e with
    | refl => exact ⟨by omega, by rw [show 4 * a / 4 = a by omega]; exact h⟩
    | left _ ih => exact ⟨tn_lt ih.1, by unfold rot; rw [tn_div]; exact ih.2⟩
    | right _ ih =>
      rename_i y _
      refine ⟨hd.lt y ih.1, ?_⟩
      have := hP (y / 4) (by omega) ih.2 (y % 4) (by omega)
      unfold nb at this
      rwa [show 4 * (y / 4) + y % 4 = y by omega] at this
  have := (this _ e).2
  rwa [show 4 * b / 4 = b by omega] at this
/-- Whole components bear the labels below P, each its own. -/
structure LB (d : Dg) (ps : List Int) (P : Nat) : Prop where
  len : ps.length = d.n
  lo : ∀ a, a < d.n → -1 ≤ pv ps a ∧ pv ps a < P
  same : ∀ a b, a < d.n → Comp d a b → 0 ≤ pv ps a → pv ps b = pv ps a
  conn : ∀ a b, a < d.n → b < d.n → 0 ≤ pv ps a → pv ps a = pv ps b → Comp d a b
  all : ∀ p : Nat, p < P → ∃ a, a < d.n ∧ pv ps a = p
theorem LB.le {ps : List Int} {P : Nat} (h : LB d ps P) : P ≤ d.n := by
  have hw : ∀ p : Nat, ∃ a : Nat, p < P → a < d.n ∧ pv ps a = p := fun p => by
    by_cases hp : p < P
    · obtain ⟨a, ha⟩ := h.all p hp; exact ⟨a, fun _ => ha⟩
    · exact ⟨0, fun e => absurd e hp⟩
  refine pigeon P d.n (fun p => Classical.choose (hw p)) (fun p hp => (Classical.choose_spec (hw p) hp).1) (fun p q hp hq e => ?_)
  have e1 := (Classical.choose_spec (hw p) hp).2
  have e2 := (Classical.choose_spec (hw q) hq).2
  have e' : Classical.choose (hw p) = Classical.choose (hw q) := e
  rw [e', e2] at e1
  omega
theorem LB.start (d : Dg) : LB d (List.replicate d.n (-1)) 0 := by
  have e : ∀ a, a < d.n → pv (List.replicate d.n (-1)) a = -1 := fun a ha => by
    unfold pv; rw [List.getD_eq_getElem?_getD, List.getElem?_replicate, if_pos ha]; rfl
  exact ⟨by simp, fun a ha => by rw [e a ha]; omega, fun a b ha _ h => by rw [e a ha] at h; omega, fun a b ha _ h => by rw [e a ha] at h; omega, fun p hp => by omega⟩
/-- No crossing of the component of an unlabelled one is labelled. -/
theorem LB.none (hd : Wf d) {ps : List Int} {P : Nat} (h : LB d ps P) {c b : Nat} (hc : c < d.n) (hn : pv ps c < 0) (e : Comp d c b) : pv ps b < 0 := by
  have hb := comp_mem hd hc e
  by_cases h0 : 0 ≤ pv ps b
  · have := h.same b c hb (comp_symm hd hc e) h0
    omega
  · omega
/-- While the component of c is searched: qs waits, the slots of u below s are done. -/
structure LQ (d : Dg) (c : Nat) (p0 : List Int) (P : Nat) (ps : List Int) (qs : List Nat) (u s : Nat) : Prop where
  base : LB d p0 P
  hc : c < d.n
  new : pv p0 c < 0
  len : ps.length = d.n
  me : pv ps c = P
  mine : ∀ a, a < d.n → pv ps a = P → Comp d c a
  old : ∀ a, a < d.n → pv ps a ≠ P → pv ps a = pv p0 a
  wait : ∀ q, q ∈ qs → q < d.n ∧ pv ps q = P
  brd : ∀ a, a < d.n → pv ps a = P → a ∈ qs ∨ ∀ t, t < 4 → (a = u → t < s) → 0 ≤ pv ps (nb d a t)
theorem LQ.start {c : Nat} {p0 : List Int} {P : Nat} (h : LB d p0 P) (hc : c < d.n) (hn : pv p0 c < 0) : LQ d c p0 P (p0.set c P) [c] d.n 0 := by
  have hl : c < p0.length := by rw [h.len]; exact hc
  refine ⟨h, hc, hn, by rw [List.length_set, h.len], by rw [pv_set hl, if_pos rfl], fun a ha e => ?_, fun a ha e => ?_, fun q hq => ?_, fun a ha e => ?_⟩
  · rw [pv_set hl] at e
    by_cases h1 : a = c
    · subst h1; exact .refl
    · rw [if_neg h1] at e; have := (h.lo a ha).2; omega
  · rw [pv_set hl] at e ⊢
    by_cases h1 : a = c
    · rw [if_pos h1] at e; exact absurd rfl e
    · rw [if_neg h1]
  · rw [List.mem_singleton] at hq; subst hq; exact ⟨hc, by rw [pv_set hl, if_pos rfl]⟩
  · rw [pv_set hl] at e
    by_cases h1 : a = c
    · exact .inl (by rw [h1]; simp)
    · rw [if_neg h1] at e; have := (h.lo a ha).2; omega
theorem LQ.pop {c : Nat} {p0 ps : List Int} {P q s u : Nat} {qs : List Nat} (h : LQ d c p0 P ps (q :: qs) u s) (hu : u = d.n) : LQ d c p0 P ps qs q 0 := by
  refine ⟨h.base, h.hc, h.new, h.len, h.me, h.mine, h.old, fun x hx => h.wait x (by simp [hx]), fun a ha e => ?_⟩
  rcases h.brd a ha e with h1 | h1
  · by_cases h2 : a = q
    · exact .inr fun t _ h3 => absurd (h3 h2) (by omega)
    · exact .inl (by simpa [h2] using h1)
  · exact .inr fun t ht _ => h1 t ht (fun e => absurd e (by omega))
theorem LQ.ge {c : Nat} {p0 ps : List Int} {P s u : Nat} {qs : List Nat} (h : LQ d c p0 P ps qs u s) {a : Nat} (ha : a < d.n) : -1 ≤ pv ps a ∧ pv ps a < (P + 1 : Nat) := by
  by_cases e : pv ps a = P
  · omega
  · rw [h.old a ha e]; have := h.base.lo a ha; omega
/-- The neighbour at the slot s has a label. -/
theorem LQ.skip {c : Nat} {p0 ps : List Int} {P s u : Nat} {qs : List Nat} (h : LQ d c p0 P ps qs u s) (hn : 0 ≤ pv ps (nb d u s)) : LQ d c p0 P ps qs u (s + 1) := by
  refine ⟨h.base, h.hc, h.new, h.len, h.me, h.mine, h.old, h.wait, fun a ha e => ?_⟩
  rcases h.brd a ha e with h1 | h1
  · exact .inl h1
  · refine .inr fun t ht h2 => ?_
    by_cases h3 : a = u ∧ t = s
    · obtain ⟨rfl, rfl⟩ := h3; exact hn
    · exact h1 t ht (fun e => by
        have := h2 e
        have : t ≠ s := fun e2 => h3 ⟨e, e2⟩
        omega)
/-- It has none: it gets one, and waits. -/
theorem LQ.push (hd : Wf d) {c : Nat} {p0 ps : List Int} {P s u : Nat} {qs : List Nat} (h : LQ d c p0 P ps qs u s) (hu : u < d.n) (hup : pv ps u = P) (hs : s < 4) (_ : pv ps (nb d u s) < 0) :
    LQ d c p0 P (ps.set (nb d u s) P) (qs ++ [nb d u s]) u (s + 1) := by
  have hb := nb_lt hd hu hs
  have hl : nb d u s < ps.length := by rw [h.len]; exact hb
  have hcb : Comp d c (nb d u s) := (h.mine u hu hup).trans (nb_comp hd hu hs)
  refine ⟨h.base, h.hc, h.new, by rw [List.length_set, h.len], ?_, fun a ha e => ?_, fun a ha e => ?_, fun q hq => ?_, fun a ha e => ?_⟩
  · rw [pv_set hl]; split
    · rfl
    · exact h.me
  · rw [pv_set hl] at e
    by_cases h1 : a = nb d u s
    · rw [h1]; exact hcb
    · rw [if_neg h1] at e; exact h.mine a ha e
  · rw [pv_set hl] at e ⊢
    by_cases h1 : a = nb d u s
    · rw [if_pos h1] at e; exact absurd rfl e
    · rw [if_neg h1] at e ⊢; exact h.old a ha e
  · rw [List.mem_append, List.mem_singleton] at hq
    rw [pv_set hl]
    rcases hq with hq | hq
    · exact ⟨(h.wait q hq).1, by split; rfl; exact (h.wait q hq).2⟩
    · subst hq; exact ⟨hb, by rw [if_pos rfl]⟩
  · by_cases h1 : a = nb d u s
    · exact .inl (by rw [h1]; simp)
    · rw [pv_set hl, if_neg h1] at e
      rcases h.brd a ha e with h2 | h2
      · exact .inl (by simp [h2])
      · refine .inr fun t ht h3 => ?_
        rw [pv_set hl]
        split
        · omega
        · rename_i h4
          refine h2 t ht (fun e => ?_)
          have := h3 e
          have : t ≠ s := fun e2 => h4 (by rw [e, e2])
          omega
theorem LQ.rest {c : Nat} {p0 ps : List Int} {P u : Nat} {qs : List Nat} (h : LQ d c p0 P ps qs u 4) : LQ d c p0 P ps qs d.n 0 :=
  ⟨h.base, h.hc, h.new, h.len, h.me, h.mine, h.old, h.wait, fun a ha e => (h.brd a ha e).imp id fun h1 t ht _ => h1 t ht (fun _ => ht)⟩
/-- THE QUEUE IS EMPTY: the component is done. -/
theorem LQ.done (hd : Wf d) {c : Nat} {p0 ps : List Int} {P s : Nat} (h : LQ d c p0 P ps [] d.n s) : LB d ps (P + 1) ∧ (∀ a, a < d.n → 0 ≤ pv p0 a → 0 ≤ pv ps a) ∧ 0 ≤ pv ps c := by
  have full : ∀ b, Comp d c b → pv ps b = P := by
    intro b e
    have : b < d.n ∧ pv ps b = P := by
      refine comp_closed hd (P := fun a => a < d.n ∧ pv ps a = P) (fun a ha ⟨_, h2⟩ t ht => ?_) h.hc ⟨h.hc, h.me⟩ e
      refine ⟨nb_lt hd ha ht, ?_⟩
      rcases h.brd a ha h2 with h3 | h3
      · cases h3
      · have h4 := h3 t ht (fun e => absurd e (by omega))
        by_cases h5 : pv ps (nb d a t) = P
        · exact h5
        · have h6 := h.old _ (nb_lt hd ha ht) h5
          have := h.base.none hd h.hc h.new ((h.mine a ha h2).trans (nb_comp hd ha ht))
          omega
    exact this.2
  have cls : ∀ a, a < d.n → (pv ps a = P ↔ Comp d c a) := fun a ha => ⟨h.mine a ha, full a⟩
  refine ⟨⟨h.len, fun a ha => h.ge ha, fun a b ha e h0 => ?_, fun a b ha hb h0 e => ?_, fun p hp => ?_⟩, fun a ha h0 => ?_, by rw [h.me]; omega⟩
  · have hb := comp_mem hd ha e
    by_cases h1 : pv ps a = P
    · rw [h1]; exact full b ((h.mine a ha h1).trans e)
    · have h2 : pv ps b ≠ P := fun h3 => h1 ((cls a ha).2 ((h.mine b hb h3).trans (comp_symm hd ha e)))
      rw [h.old a ha h1, h.old b hb h2]
      rw [h.old a ha h1] at h0
      exact h.base.same a b ha e h0
  · by_cases h1 : pv ps a = P
    · rw [h1] at e
      exact (comp_symm hd h.hc (h.mine a ha h1)).trans (h.mine b hb e.symm)
    · have h2 : pv ps b ≠ P := fun h3 => h1 (by rw [e, h3])
      rw [h.old a ha h1, h.old b hb h2] at e
      rw [h.old a ha h1] at h0
      exact h.base.conn a b ha hb h0 e
  · by_cases h1 : p = P
    · exact ⟨c, h.hc, by rw [h.me, h1]⟩
    · obtain ⟨a, ha, e⟩ := h.base.all p (by omega)
      refine ⟨a, ha, ?_⟩
      by_cases h2 : pv ps a = P
      · have := h.base.none hd h.hc h.new (h.mine a ha h2)
        omega
      · rw [h.old a ha h2, e]
  · by_cases h1 : pv ps a = P
    · rw [h1]; omega
    · rw [h.old a ha h1]; exact h0
end Go.Proofs.Ytghdiolnonejaaa.Pl
end

section
namespace Go.Proofs.Ytghdiolnonejaaa.Pl
variable {d : Dg}
noncomputable def vb (p : Prop) : Bool := open Classical in decide p
theorem vb_true {p : Prop} (h : p) : vb p = true := by unfold vb; simpa using h
theorem vb_false {p : Prop} (h : ¬ p) : vb p = false := by unfold vb; simpa using h
theorem vb_iff {p : Prop} : vb p = true ↔ p := by unfold vb; simp
theorem Wf.nxb (hd : Wf d) : Bij (4 * d.n) (dart d) (nx d) := hd.hm.pb
def gb (bs : List Bool) (g : Nat) : Bool := bs.getD g false
theorem gb_set {bs : List Bool} {i : Nat} (hi : i < bs.length) (v : Bool) (a : Nat) : gb (bs.set i v) a = if a = i then v else gb bs a := by
  unfold gb
  rw [List.getD_eq_getElem?_getD, List.getD_eq_getElem?_getD, List.getElem?_set]
  by_cases h : i = a
  · subst h; simp [hi]
  · rw [if_neg h, if_neg (fun e => h e.symm)]
def uns (bs : List Bool) : Nat := bs.countP (fun b => !b)
theorem uns_set {bs : List Bool} {i : Nat} (hi : i < bs.length) (hn : gb bs i = false) : uns (bs.set i true) + 1 = uns bs := by
  have e : gb bs i = bs[i] := by unfold gb; rw [List.getD_eq_getElem?_getD, List.getElem?_eq_getElem hi]; rfl
  have hb : bs[i] = false := by rw [← e, hn]
  have hp : 0 < uns bs := by
    unfold uns
    rw [List.countP_pos_iff]
    exact ⟨bs[i], List.getElem_mem hi, by rw [hb]; rfl⟩
  unfold uns at hp ⊢
  rw [List.countP_set hi, hb]
  simp only [Bool.not_false, if_true, Bool.not_true, Bool.false_eq_true, if_false]
  omega
/-- Marked are the faces of the half-edges below k. -/
structure SQ (d : Dg) (k : Nat) (bs : List Bool) : Prop where
  len : bs.length = 4 * d.n
  iff : ∀ g, g < 4 * d.n → (gb bs g = true ↔ ∃ h, h < k ∧ Orb (nx d) h g)
theorem SQ.start (d : Dg) : SQ d 0 (List.replicate (4 * d.n) false) := by
  refine ⟨by simp, fun g hg => ?_⟩
  have : gb (List.replicate (4 * d.n) false) g = false := by
    unfold gb; rw [List.getD_eq_getElem?_getD, List.getElem?_replicate, if_pos hg]; rfl
  rw [this]
  exact ⟨fun h => (Bool.false_ne_true h).elim, fun ⟨h, h1, _⟩ => by omega⟩
/-- .. and the first i half-edges of the face of k. -/
structure SI (d : Dg) (k i : Nat) (bs : List Bool) : Prop where
  len : bs.length = 4 * d.n
  hk : k < 4 * d.n
  new : ¬ ∃ h, h < k ∧ Orb (nx d) h k
  iff : ∀ g, g < 4 * d.n → (gb bs g = true ↔ (∃ h, h < k ∧ Orb (nx d) h g) ∨ ∃ j, j < i ∧ it (nx d) j k = g)
theorem SQ.seen (hd : Wf d) {k : Nat} {bs : List Bool} (h : SQ d k bs) (hk : k < 4 * d.n) (hs : gb bs k = true) : SQ d (k + 1) bs ∧ ¬ Least (nx d) k := by
  obtain ⟨h0, h1, h2⟩ := (h.iff k hk).1 hs
  have h0n : h0 < 4 * d.n := by omega
  refine ⟨⟨h.len, fun g hg => (h.iff g hg).trans ⟨fun ⟨x, hx, e⟩ => ⟨x, by omega, e⟩, fun ⟨x, hx, e⟩ => ?_⟩⟩, fun hl => ?_⟩
  · by_cases e2 : x = k
    · subst e2; exact ⟨h0, h1, h2.trans e⟩
    · exact ⟨x, by omega, e⟩
  · obtain ⟨j, hj⟩ := hd.nxb.symm h0n h2
    have := hl j
    omega
theorem SQ.enter (hd : Wf d) {k : Nat} {bs : List Bool} (h : SQ d k bs) (hk : k < 4 * d.n) (hs : gb bs k = false) : SI d k 0 bs ∧ Least (nx d) k := by
  have hn : ¬ ∃ h, h < k ∧ Orb (nx d) h k := fun e => by rw [(h.iff k hk).2 e] at hs; cases hs
  refine ⟨⟨h.len, hk, hn, fun g hg => (h.iff g hg).trans ⟨.inl, fun e => e.resolve_right (fun ⟨j, hj, _⟩ => by omega)⟩⟩, fun j => ?_⟩
  refine Nat.le_of_not_lt fun hlt => hn ⟨_, hlt, hd.nxb.symm hk ⟨j, rfl⟩⟩
theorem SI.lt (hd : Wf d) {k i : Nat} {bs : List Bool} (h : SI d k i bs) : it (nx d) i k < 4 * d.n := hd.nxb.it i k h.hk
theorem SI.step (hd : Wf d) {k i : Nat} {bs : List Bool} (h : SI d k i bs) : SI d k (i + 1) (bs.set (it (nx d) i k) true) := by
  have hl : it (nx d) i k < bs.length := by rw [h.len]; exact h.lt hd
  refine ⟨by rw [List.length_set, h.len], h.hk, h.new, fun g hg => ?_⟩
  rw [gb_set hl]
  by_cases e : g = it (nx d) i k
  · rw [if_pos e]
    exact ⟨fun _ => .inr ⟨i, by omega, e.symm⟩, fun _ => rfl⟩
  · rw [if_neg e, h.iff g hg]
    constructor
    · rintro (h1 | ⟨j, hj, e1⟩)
      · exact .inl h1
      · exact .inr ⟨j, by omega, e1⟩
    · rintro (h1 | ⟨j, hj, e1⟩)
      · exact .inl h1
      · by_cases e2 : j = i
        · subst e2; exact absurd e1.symm e
        · exact .inr ⟨j, by omega, e1⟩
theorem SI.done (hd : Wf d) {k i : Nat} {bs : List Bool} (h : SI d k i bs) (hs : gb bs (it (nx d) i k) = true) : SQ d (k + 1) bs := by
  have hb := hd.nxb
  -- the face has come back
  have hback : ∃ p, 0 < p ∧ p ≤ i ∧ it (nx d) p k = k := by
    rcases (h.iff _ (h.lt hd)).1 hs with ⟨x, hx, e⟩ | ⟨j, hj, e⟩
    · exact absurd ⟨x, hx, e.trans (hb.symm h.hk ⟨i, rfl⟩)⟩ h.new
    · refine ⟨i - j, by omega, by omega, ?_⟩
      have e2 : it (nx d) i k = it (nx d) j (it (nx d) (i - j) k) := by rw [← it_add, Nat.add_sub_cancel' (by omega)]
      rw [e2] at e
      exact (hb.it_inj j _ _ h.hk (hb.it _ k h.hk) e).symm
  obtain ⟨p, hp, hpi, e⟩ := hback
  have all : ∀ g, Orb (nx d) k g → ∃ j, j < i ∧ it (nx d) j k = g := by
    intro g hg
    have : ∃ j, j < p ∧ it (nx d) j k = g := orb_closed (P := fun g => ∃ j, j < p ∧ it (nx d) j k = g) (fun z ⟨j, hj, ej⟩ => by
      by_cases e3 : j + 1 = p
      · refine ⟨0, hp, ?_⟩
        rw [← ej]
        show k = it (nx d) (j + 1) k
        rw [e3, e]
      · exact ⟨j + 1, by omega, by rw [← ej]; rfl⟩) ⟨0, hp, rfl⟩ hg
    obtain ⟨j, hj, ej⟩ := this
    exact ⟨j, by omega, ej⟩
  refine ⟨h.len, fun g hg => (h.iff g hg).trans ⟨?_, ?_⟩⟩
  · rintro (⟨x, hx, e1⟩ | ⟨j, _, e1⟩)
    · exact ⟨x, by omega, e1⟩
    · exact ⟨k, by omega, j, e1⟩
  · rintro ⟨x, hx, e1⟩
    by_cases e2 : x = k
    · subst e2; exact .inr (all g e1)
    · exact .inl ⟨x, by omega, e1⟩
/-- How many crossings a label has, and how many faces. -/
noncomputable def nv (ps : List Int) (p k : Nat) : Nat := cnt (fun a => pv ps a = p) k
noncomputable def nf (d : Dg) (ps : List Int) (p k : Nat) : Nat := cnt (fun h => Least (nx d) h ∧ pv ps (h / 4) = p) k
/-- The numbers of the rule while they are counted. -/
def Ex (d : Dg) (ps es : List Int) (P k m : Nat) : Prop := es.length = P ∧ ∀ p, p < P → pv es p = (nf d ps p m : Int) - (nv ps p k : Int)
theorem Ex.start (d : Dg) (ps : List Int) (P : Nat) : Ex d ps (List.replicate P 0) P 0 0 := by
  refine ⟨by simp, fun p hp => ?_⟩
  have : pv (List.replicate P 0) p = 0 := by
    unfold pv; rw [List.getD_eq_getElem?_getD, List.getElem?_replicate, if_pos hp]; rfl
  rw [this]
  simp [nf, nv, cnt]
theorem Ex.less {ps es : List Int} {P k : Nat} (h : Ex d ps es P k 0) {q : Nat} (hq : q < P) (e : pv ps k = q) : Ex d ps (es.set q (pv es q - 1)) P (k + 1) 0 := by
  refine ⟨by rw [List.length_set, h.1], fun p hp => ?_⟩
  rw [pv_set (by rw [h.1]; exact hq)]
  have hp0 := h.2 p hp
  by_cases e2 : p = q
  · subst e2
    rw [if_pos rfl, hp0]
    unfold nv
    rw [cnt_step_pos e]; omega
  · rw [if_neg e2, hp0]
    unfold nv
    rw [cnt_step_neg (fun e3 => e2 (by rw [e] at e3; omega))]
theorem Ex.more {ps es : List Int} {P k m : Nat} (h : Ex d ps es P k m) {q : Nat} (hq : q < P) (e : pv ps (m / 4) = q) (hl : Least (nx d) m) : Ex d ps (es.set q (pv es q + 1)) P k (m + 1) := by
  refine ⟨by rw [List.length_set, h.1], fun p hp => ?_⟩
  rw [pv_set (by rw [h.1]; exact hq)]
  have hp0 := h.2 p hp
  by_cases e2 : p = q
  · subst e2
    rw [if_pos rfl, hp0]
    unfold nf
    rw [cnt_step_pos ⟨hl, e⟩]; omega
  · rw [if_neg e2, hp0]
    unfold nf
    rw [cnt_step_neg (fun e3 => e2 (by have := e3.2; rw [e] at this; omega))]
theorem Ex.same {ps es : List Int} {P k m : Nat} (h : Ex d ps es P k m) (hl : ¬ Least (nx d) m) : Ex d ps es P k (m + 1) := by
  refine ⟨h.1, fun p hp => ?_⟩
  rw [h.2 p hp]
  unfold nf
  rw [cnt_step_neg (fun e3 => hl e3.1)]
/-- The rule of faces. -/
def Rule (d : Dg) : Prop := ∀ c, c < d.n → cnt (fun h => Least (nx d) h ∧ Comp d c (h / 4)) (4 * d.n) = cnt (fun b => Comp d c b) d.n + 2
theorem Ex.rule (hd : Wf d) {ps es : List Int} {P : Nat} (hb : LB d ps P) (hall : ∀ a, a < d.n → 0 ≤ pv ps a) (h : Ex d ps es P d.n (4 * d.n)) : (∀ p, p < P → pv es p = 2) ↔ Rule d := by
  have key : ∀ c p : Nat, c < d.n → pv ps c = p → nf d ps p (4 * d.n) = cnt (fun h => Least (nx d) h ∧ Comp d c (h / 4)) (4 * d.n) ∧ nv ps p d.n = cnt (fun b => Comp d c b) d.n := by
    intro c p hc e
    have one : ∀ b, b < d.n → (pv ps b = p ↔ Comp d c b) := fun b hb' => ⟨fun e2 => hb.conn c b hc hb' (hall c hc) (by rw [e, e2]), fun e2 => by rw [hb.same c b hc e2 (hall c hc), e]⟩
    refine ⟨cnt_congr _ (fun x hx => ?_), cnt_congr _ (fun x hx => one x hx)⟩
    rw [one (x / 4) (by omega)]
  constructor
  · intro h2 c hc
    have hlo := hb.lo c hc
    have h0 := hall c hc
    obtain ⟨p, hp⟩ : ∃ p : Nat, pv ps c = p := ⟨(pv ps c).toNat, by omega⟩
    obtain ⟨k1, k2⟩ := key c p hc hp
    have h3 := h2 p (by omega)
    rw [h.2 p (by omega), k1, k2] at h3
    omega
  · intro h2 p hp
    obtain ⟨c, hc, e⟩ := hb.all p hp
    obtain ⟨k1, k2⟩ := key c p hc e
    rw [h.2 p hp, k1, k2, h2 c hc]
    omega
end Go.Proofs.Ytghdiolnonejaaa.Pl
end

section
namespace Go.Proofs.Ytghdiolnonejaaa.Pl
/-- The diagram that the lists would be. -/
def mk (sg mt : List Int) (lp : Int) : Dg := ⟨sg, mt.map Int.toNat, lp.toNat⟩
/-- The lists are a valid diagram. -/
def VL (sg mt : List Int) (lp : Int) : Prop := Valid (mk sg mt lp) ∧ (∀ z, z ∈ mt → 0 ≤ z) ∧ 0 ≤ lp
variable {sg mt : List Int} {lp : Int}
theorem mk_n (sg mt : List Int) (lp : Int) : (mk sg mt lp).n = sg.length := rfl
theorem mk_m {h : Nat} (hh : h < mt.length) : (mk sg mt lp).m h = (pv mt h).toNat := by
  unfold Dg.m mk pv
  rw [List.getD_eq_getElem?_getD, List.getD_eq_getElem?_getD, List.getElem?_map, List.getElem?_eq_getElem hh]; rfl
theorem nats_mk (h : ∀ z, z ∈ mt → 0 ≤ z) : (mk sg mt lp).mt.map (fun m : Nat => (m : Int)) = mt := by
  unfold mk
  rw [List.map_map]
  refine (List.map_congr_left (fun z hz => ?_)).trans (List.map_id mt)
  have := h z hz
  simp only [Function.comp_apply, id_eq]
  omega
theorem pv_mem {l : List Int} {h : Nat} (hh : h < l.length) : pv l h ∈ l := by
  unfold pv
  rw [List.getD_eq_getElem?_getD, List.getElem?_eq_getElem hh]
  exact List.getElem_mem hh
theorem VL.few (h : VL sg mt lp) : sg.length ≤ 64 := h.1.wf.few
theorem VL.len (h : VL sg mt lp) : mt.length = 4 * sg.length := by have := h.1.wf.len; unfold mk Dg.n at this; simpa using this
theorem VL.loops (h : VL sg mt lp) : 0 ≤ lp ∧ lp ≤ 64 := by
  have h1 := h.1.wf.lp
  have h2 := h.2.2
  unfold mk at h1
  simp only at h1
  omega
theorem VL.sign (h : VL sg mt lp) {c : Nat} (hc : c < sg.length) : pv sg c = 1 ∨ pv sg c = -1 := h.1.wf.sign c hc
theorem VL.mate (h : VL sg mt lp) {k : Nat} (hk : k < mt.length) : 0 ≤ pv mt k ∧ pv mt k < mt.length ∧ pv mt k ≠ k ∧ pv mt (pv mt k).toNat = k ∧ out (mk sg mt lp) k ≠ out (mk sg mt lp) (pv mt k).toNat := by
  have hl := h.len
  have hw := h.1.wf
  have h0 := h.2.1 _ (pv_mem hk)
  have hk4 : k < 4 * (mk sg mt lp).n := by rw [mk_n]; omega
  have h1 := hw.lt k hk4
  have h2 := hw.ne k hk4
  have h3 := hw.inv k hk4
  have h4 := hw.way k hk4
  rw [mk_m hk] at h1 h2 h3 h4
  rw [mk_n] at h1
  have hm : (pv mt k).toNat < mt.length := by omega
  rw [mk_m hm] at h3
  have h5 := h.2.1 _ (pv_mem hm)
  exact ⟨h0, by omega, by omega, by omega, h4⟩
/-- All rules but the sphere's. -/
theorem wf_of (h1 : sg.length ≤ 64) (h2 : mt.length = 4 * sg.length) (h3 : 0 ≤ lp ∧ lp ≤ 64) (h4 : ∀ c, c < sg.length → pv sg c = 1 ∨ pv sg c = -1)
    (h5 : ∀ k, k < mt.length → 0 ≤ pv mt k ∧ pv mt k < mt.length ∧ pv mt k ≠ k ∧ pv mt (pv mt k).toNat = k ∧ out (mk sg mt lp) k ≠ out (mk sg mt lp) (pv mt k).toNat) : Wf (mk sg mt lp) := by
  refine ⟨h1, by unfold mk Dg.n; simpa using h2, by unfold mk; simp only; omega, h4, fun h hh => ?_, fun h hh => ?_, fun h hh => ?_, fun h hh => ?_⟩
  all_goals
    rw [mk_n] at hh
    have hl : h < mt.length := by omega
    obtain ⟨g1, g2, g3, g4, g5⟩ := h5 h hl
    rw [mk_m hl]
  · rw [mk_n]; omega
  · omega
  · rw [mk_m (by omega), g4]; rfl
  · exact g5
theorem VL.of (hw : Wf (mk sg mt lp)) (hp : ∀ z, z ∈ mt → 0 ≤ z) (hl : 0 ≤ lp) : VL sg mt lp ↔ Rule (mk sg mt lp) :=
  ⟨fun h => h.1.flat, fun h => ⟨⟨hw, h⟩, hp, hl⟩⟩
theorem mem_pv {l : List Int} {z : Int} (h : z ∈ l) : ∃ k, k < l.length ∧ pv l k = z := by
  obtain ⟨k, hk, e⟩ := List.mem_iff_getElem.1 h
  exact ⟨k, hk, by unfold pv; rw [List.getD_eq_getElem?_getD, List.getElem?_eq_getElem hk]; exact e⟩
end Go.Proofs.Ytghdiolnonejaaa.Pl
end
