/-
  Plain Lean: plane maps stay plane when an edge is given a kink, and when one edge is pushed over another one. No program is named here.
-/
import Derived.Test.YtobbepmlmbbamaaVf
namespace Go.Proofs.Ytobbepmlmbbamaa.Pl
variable {N : Nat} {S : Nat → Prop} {r a : Nat → Nat}

/-- No edges: plane. -/
theorem gen_id (h : Hm N S r a) (hid : ∀ x, S x → a x = x) : Gen S r a 0 := by
  obtain ⟨z, hz⟩ := h.gen
  have hz' := hz
  obtain ⟨v, d, k, f, c, h1, h2, h3, h4, h5, rfl⟩ := hz
  have e1 : d = k := h2.unique (h3.congr (fun _ => Iff.rfl) (fun x y hx _ => ⟨fun e => (free_orb (hid x hx) e).symm, fun e => e ▸ Orb.refl a x⟩))
  have hp : ∀ x y, S x → (Orb (phi r a) x y ↔ Orb r x y) := fun x y hx =>
    ⟨fun e => orb_sub h.pb h.rb.eqv (fun z hz => by unfold phi; rw [hid z hz]; exact Orb.step r z) hx e,
     fun e => orb_sub h.rb h.pb.eqv (fun z hz => by have := Orb.step (phi r a) z; unfold phi at this; rw [hid z hz] at this; exact this) hx e⟩
  have e2 : f = v := h4.unique (h1.congr (fun _ => Iff.rfl) (fun x y hx _ => (hp x y hx).symm))
  have e3 : c = v := h5.unique (h1.congr (fun _ => Iff.rfl) (fun x y hx _ => ⟨fun e => orb_con_left a e, fun e => con_sub h h.rb.eqv (fun z _ => Orb.step r z) (fun z hz => by rw [hid z hz]; exact Orb.refl r z) hx e⟩))
  have : (2 * (c : Int) - v + d - k - f) = 0 := by omega
  rw [this] at hz'
  exact hz'
/-- Two maps that agree on the set. -/
theorem Orb.congr {f g : Nat → Nat} (hm : ∀ x, S x → S (f x)) (h : ∀ x, S x → f x = g x) {x y : Nat} (hx : S x) : Orb f x y ↔ Orb g x y := by
  have key : ∀ k, it f k x = it g k x ∧ S (it f k x) := by
    intro k
    induction k with
    | zero => exact ⟨rfl, hx⟩
    | succ k ih => exact ⟨by show f (it f k x) = g (it g k x); rw [← ih.1, h _ ih.2], hm _ ih.2⟩
  constructor
  · rintro ⟨k, rfl⟩; exact ⟨k, (key k).1.symm⟩
  · rintro ⟨k, rfl⟩; exact ⟨k, (key k).1⟩
theorem Con.congr {f g f' g' : Nat → Nat} (h1 : ∀ x, S x → S (f x)) (h2 : ∀ x, S x → S (g x)) (e1 : ∀ x, S x → f x = f' x) (e2 : ∀ x, S x → g x = g' x) {x y : Nat} (hx : S x) : Con f g x y ↔ Con f' g' x y := by
  constructor
  · intro h
    have : Con f' g' x y ∧ S y := by
      induction h with
      | refl => exact ⟨.refl, hx⟩
      | left _ ih => exact ⟨by rw [e1 _ ih.2]; exact ih.1.left, h1 _ ih.2⟩
      | right _ ih => exact ⟨by rw [e2 _ ih.2]; exact ih.1.right, h2 _ ih.2⟩
    exact this.1
  · intro h
    have : Con f g x y ∧ S y := by
      induction h with
      | refl => exact ⟨.refl, hx⟩
      | left _ ih => exact ⟨by rw [← e1 _ ih.2]; exact ih.1.left, by rw [← e1 _ ih.2]; exact h1 _ ih.2⟩
      | right _ ih => exact ⟨by rw [← e2 _ ih.2]; exact ih.1.right, by rw [← e2 _ ih.2]; exact h2 _ ih.2⟩
    exact this.1
theorem Gen.congr {r' a' : Nat → Nat} {z : Int} (h : Hm N S r a) (e1 : ∀ x, S x → r x = r' x) (e2 : ∀ x, S x → a x = a' x) (hz : Gen S r a z) : Gen S r' a' z := by
  obtain ⟨v, d, k, f, c, h1, h2, h3, h4, h5, rfl⟩ := hz
  exact ⟨v, d, k, f, c, h1.congr (fun _ => Iff.rfl) (fun _ _ hx _ => Orb.congr h.rb.maps e1 hx), h2, h3.congr (fun _ => Iff.rfl) (fun _ _ hx _ => Orb.congr h.ab.maps e2 hx),
    h4.congr (fun _ => Iff.rfl) (fun _ _ hx _ => Orb.congr h.pb.maps (fun x hx => by unfold phi; rw [← e2 x hx, e1 _ (h.ab.maps x hx)]) hx),
    h5.congr (fun _ => Iff.rfl) (fun _ _ hx _ => Con.congr h.rb.maps h.ab.maps e1 e2 hx), rfl⟩
theorem Hm.congr {r' a' : Nat → Nat} (h : Hm N S r a) (e1 : ∀ x, S x → r x = r' x) (e2 : ∀ x, S x → a x = a' x) : Hm N S r' a' :=
  ⟨⟨h.rb.lt, fun x hx => by rw [← e1 x hx]; exact h.rb.maps x hx, fun x y hx hy e => h.rb.inj x y hx hy (by rw [e1 x hx, e1 y hy, e])⟩,
   ⟨h.ab.lt, fun x hx => by rw [← e2 x hx]; exact h.ab.maps x hx, fun x y hx hy e => h.ab.inj x y hx hy (by rw [e2 x hx, e2 y hy, e])⟩,
   fun x hx => by rw [← e2 x hx, ← e2 _ (h.ab.maps x hx)]; exact h.inv x hx⟩

/-- The genus with an edge more, all three cases in one. -/
theorem Gen.edge (h : Hm N S r a) {x y : Nat} {z : Int} (hx : S x) (hy : S y) (hne : x ≠ y) (fx : a x = x) (fy : a y = y) (hz : Gen S r a z) :
    ((Con r a x y → Orb (phi r a) x y) ∧ Gen S r (tr a x y) z) ∨ ((Con r a x y ∧ ¬ Orb (phi r a) x y) ∧ Gen S r (tr a x y) (z + 2)) := by
  by_cases ho : Orb (phi r a) x y
  · exact .inl ⟨fun _ => ho, Gen.within h hx hy hne fx fy ho hz⟩
  · by_cases hc : Con r a x y
    · exact .inr ⟨⟨hc, ho⟩, Gen.handle h hx hy fx fy ho hc hz⟩
    · exact .inl ⟨fun e => absurd e hc, Gen.between h hx hy fx fy hc hz⟩

/-- A DETOUR: x goes to u, and v, in the same face as u, goes to y: as if x went to y. -/
theorem Gen.detour (h : Hm N S r a) {x y u v : Nat} (hx : S x) (hy : S y) (hu : S u) (hv : S v) (hxy : x ≠ y) (huv : u ≠ v) (fx : a x = x) (fy : a y = y) (fu : a u = u) (fv : a v = v)
    (n1 : ¬ Con r a x u) (n2 : ¬ Con r a y u) (ho : Orb (phi r a) v u) {z : Int} (hz : Gen S r (tr a x y) z) : Gen S r (tr (tr a x u) v y) z := by
  have hvu := orb_phi_con ho
  have n3 : ¬ Con r a v y := fun e => n2 ((h.con_symm hv e).trans hvu)
  have n4 : ¬ Con r a x v := fun e => n1 (e.trans hvu)
  have xu : x ≠ u := fun e => n1 (e ▸ .refl)
  have xv : x ≠ v := fun e => n4 (e ▸ .refl)
  have vy : v ≠ y := fun e => n3 (e ▸ .refl)
  have yu : y ≠ u := fun e => n2 (e ▸ .refl)
  obtain ⟨z0, hz0⟩ := h.gen
  have h1 := h.tr hx hu fx fu
  have g1 := Gen.between h hx hu fx fu n1 hz0
  have fv1 : tr a x u v = v := by rw [tr_ne (Ne.symm xv) (Ne.symm huv), fv]
  have fy1 : tr a x u y = y := by rw [tr_ne (Ne.symm hxy) yu, fy]
  have nf : ¬ Orb (phi r a) x u := fun e => n1 (orb_phi_con e)
  -- connected, and in one face, at the same time
  have ec : Con r (tr a x u) v y ↔ Con r a x y := by
    rw [h.con_tr hx hu fx fu hv]
    constructor
    · rintro (e | ⟨e1, _⟩ | ⟨_, e2⟩)
      · exact absurd e n3
      · exact absurd (h.con_symm hv e1) n4
      · exact e2
    · intro e; exact .inr (.inr ⟨hvu, e⟩)
  have eo : Orb (phi r (tr a x u)) v y ↔ Orb (phi r a) x y := by
    rw [phi_tr, h.pb.merge hx hu nf hv]
    constructor
    · rintro (e | ⟨e1, _⟩ | ⟨_, e2⟩)
      · exact absurd (orb_phi_con e) n3
      · exact absurd (h.con_symm hv (orb_phi_con e1)) n4
      · exact e2
    · intro e; exact .inr (.inr ⟨ho, e⟩)
  rcases Gen.edge h hx hy hxy fx fy hz0 with ⟨c1, k1⟩ | ⟨c1, k1⟩ <;> rcases Gen.edge h1 hv hy vy fv1 fy1 g1 with ⟨c2, k2⟩ | ⟨c2, k2⟩
  · rw [hz.unique k1]; exact k2
  · rw [ec, eo] at c2; exact absurd (c1 c2.1) c2.2
  · rw [ec, eo] at c2; exact absurd (c2 c1.1) c1.2
  · rw [hz.unique k1]; exact k2

/-- PULLED APART: where y goes to c and d goes to y', d coming just before c in its face, y may go to y' at once. -/
theorem Flat.pull (h : Hm N S r a) {y y' c d p : Nat} (hy : S y) (hy' : S y') (hc : S c) (hd : S d) (yy : y ≠ y') (yc : y ≠ c) (yd : y ≠ d) (cd : c ≠ d) (y'c : y' ≠ c) (y'd : y' ≠ d)
    (fy : a y = y) (fy' : a y' = y') (fc : a c = c) (fd : a d = d) (e1 : phi r a d = p) (e2 : phi r a p = c) (py : p ≠ y) (pc : p ≠ c)
    (hf : Flat S r (tr (tr a y c) d y')) : Flat S r (tr a y y') := by
  have h1 := h.tr hy hc fy fc
  have fd1 : tr a y c d = d := by rw [tr_ne (Ne.symm yd) (Ne.symm cd), fd]
  have fy1 : tr a y c y' = y' := by rw [tr_ne (Ne.symm yy) y'c, fy']
  obtain ⟨f1, k1⟩ := Flat.del h1 hd hy' (Ne.symm y'd) fd1 fy1 hf
  obtain ⟨f0, k0⟩ := Flat.del h hy hc yc fy fc f1
  have odc : Orb (phi r a) d c := ⟨2, by show phi r a (phi r a d) = c; rw [e1, e2]⟩
  have cdc := orb_phi_con odc
  refine Flat.add h hy hy' yy fy fy' (fun hcon => ?_) f0
  have hdy : Con r (tr a y c) d y' := (h.con_tr hy hc fy fc hd).2 (.inr (.inr ⟨cdc, hcon⟩))
  have ho := k1 hdy
  by_cases hyc : Con r a y c
  · have oyc := k0 hyc
    have sub : ∀ {u v}, S u → Orb (phi r (tr a y c)) u v → Orb (phi r a) u v := by
      intro u v hu e
      rw [phi_tr] at e
      have hg := h.pb.tr hy hc
      have hn := h.pb.part hy hc yc oyc
      have := (hg.merge hy hc hn hu (y := v)).2 (.inl e)
      rwa [tr_tr] at this
    have odc' : Orb (phi r (tr a y c)) d c := by
      refine ⟨2, ?_⟩
      show phi r (tr a y c) (phi r (tr a y c) d) = c
      rw [phi_tr, tr_ne (Ne.symm yd) (Ne.symm cd), e1, tr_ne py pc, e2]
    have o2 : Orb (phi r (tr a y c)) c y' := (h1.pb.symm hd odc').trans ho
    exact oyc.trans (sub hc o2)
  · have nf : ¬ Orb (phi r a) y c := fun e => hyc (orb_phi_con e)
    rw [phi_tr, h.pb.merge hy hc nf hd] at ho
    rcases ho with e | ⟨e3, _⟩ | ⟨_, e4⟩
    · exact absurd (hcon.trans ((h.con_symm hd (orb_phi_con e)).trans cdc)) hyc
    · exact absurd ((h.con_symm hd (orb_phi_con e3)).trans cdc) hyc
    · exact e4

/-- PUSHED: the other way, where y lies in c's face, or is not connected with it. -/
theorem Flat.push (h : Hm N S r a) {y y' c d p : Nat} (hy : S y) (hy' : S y') (hc : S c) (hd : S d) (yy : y ≠ y') (yc : y ≠ c) (yd : y ≠ d) (cd : c ≠ d) (y'c : y' ≠ c) (y'd : y' ≠ d)
    (fy : a y = y) (fy' : a y' = y') (fc : a c = c) (fd : a d = d) (e1 : phi r a d = p) (e2 : phi r a p = c) (py : p ≠ y) (pc : p ≠ c)
    (hn : Orb (phi r (tr a y y')) c y ∨ ¬ Con r (tr a y y') c y) (hf : Flat S r (tr a y y')) : Flat S r (tr (tr a y c) d y') := by
  have h1 := h.tr hy hc fy fc
  have h2 := h.tr hy hy' fy fy'
  have fd1 : tr a y c d = d := by rw [tr_ne (Ne.symm yd) (Ne.symm cd), fd]
  have fy1 : tr a y c y' = y' := by rw [tr_ne (Ne.symm yy) y'c, fy']
  obtain ⟨f0, k0⟩ := Flat.del h hy hy' yy fy fy' hf
  have odc : Orb (phi r a) d c := ⟨2, by show phi r a (phi r a d) = c; rw [e1, e2]⟩
  have cdc := orb_phi_con odc
  have odc' : Orb (phi r (tr a y c)) d c := by
    refine ⟨2, ?_⟩
    show phi r (tr a y c) (phi r (tr a y c) d) = c
    rw [phi_tr, tr_ne (Ne.symm yd) (Ne.symm cd), e1, tr_ne py pc, e2]
  -- what a holds, the map with (y y') holds
  have up : ∀ {u v}, S u → Con r a u v → Con r (tr a y y') u v := fun hu e => (h.con_tr hy hy' fy fy' hu).2 (.inl e)
  have eyy : Con r (tr a y y') y y' := (h.con_tr hy hy' fy fy' hy).2 (.inr (.inl ⟨.refl, .refl⟩))
  by_cases hcy : Con r (tr a y y') c y
  · have hocy := hn.resolve_right (fun e => e hcy)
    by_cases hyy : Con r a y y'
    · -- (i): one orbit of a, parted by (y y')
      have oyy := k0 hyy
      have hno : ¬ Orb (phi r (tr a y y')) y y' := by rw [phi_tr]; exact h.pb.part hy hy' yy oyy
      have ocy : Orb (phi r a) c y := by
        have hg := h.pb.tr hy hy'
        have := (hg.merge hy hy' (h.pb.part hy hy' yy oyy) hc (y := y)).2 (.inl (by rw [← phi_tr]; exact hocy))
        rwa [tr_tr] at this
      have f1 : Flat S r (tr a y c) := Flat.add h hy hc yc fy fc (fun _ => h.pb.symm hc ocy) f0
      refine Flat.add h1 hd hy' (Ne.symm y'd) fd1 fy1 (fun _ => odc'.trans ?_) f1
      -- c and y' in one orbit behind (y c): by the three values
      have key : phi r (tr a y c) = tr (tr (phi r (tr a y y')) y c) c y' := by
        rw [phi_tr, phi_tr]
        funext x
        by_cases x1 : x = y
        · subst x1
          rw [tr_a, tr_ne yc yy, tr_a, tr_ne (Ne.symm yc) (Ne.symm y'c)]
        · by_cases x2 : x = c
          · subst x2
            rw [tr_b, tr_a, tr_ne (Ne.symm yy) y'c, tr_b]
          · by_cases x3 : x = y'
            · subst x3
              rw [tr_ne x1 x2, tr_b, tr_b, tr_a]
            · rw [tr_ne x1 x2, tr_ne x2 x3, tr_ne x1 x2, tr_ne x1 x3]
      have hg2 : Bij N S (tr (phi r (tr a y y')) y c) := h2.pb.tr hy hc
      have hn2 : ¬ Orb (tr (phi r (tr a y y')) y c) c y' := by
        intro e
        have oyc2 : Orb (phi r (tr a y y')) y c := h2.pb.symm hc hocy
        have hn3 := h2.pb.part hy hc yc oyc2
        have := (hg2.merge hy hc hn3 hc (y := y')).2 (.inl e)
        rw [tr_tr] at this
        exact hno (oyc2.trans this)
      rw [key]
      exact hg2.run hy' hn2 hc
    · have nf : ¬ Orb (phi r a) y y' := fun e => hyy (orb_phi_con e)
      rw [phi_tr, h.pb.merge hy hy' nf hc] at hocy
      rcases hocy with e | ⟨e3, e4⟩ | ⟨e3, _⟩
      · -- c in y's orbit
        have f1 : Flat S r (tr a y c) := Flat.add h hy hc yc fy fc (fun _ => h.pb.symm hc e) f0
        refine Flat.add h1 hd hy' (Ne.symm y'd) fd1 fy1 (fun hx => ?_) f1
        rw [h.con_tr hy hc fy fc hd] at hx
        have ecy := orb_phi_con e
        rcases hx with x1 | ⟨_, x2⟩ | ⟨_, x2⟩
        · exact absurd (((h.con_symm hc ecy).trans (h.con_symm hd cdc)).trans x1) hyy
        · exact absurd ((h.con_symm hc ecy).trans x2) hyy
        · exact absurd x2 hyy
      · exact absurd (h.con_symm hy' (orb_phi_con e4)) hyy
      · -- c in the orbit of y'
        have ncy : ¬ Con r a y c := fun e => hyy (e.trans (orb_phi_con e3))
        have f1 : Flat S r (tr a y c) := Flat.add h hy hc yc fy fc (fun e => absurd e ncy) f0
        refine Flat.add h1 hd hy' (Ne.symm y'd) fd1 fy1 (fun _ => ?_) f1
        rw [phi_tr, h.pb.merge hy hc (fun e => ncy (orb_phi_con e)) hd]
        exact .inl (odc.trans e3)
  · have ncy : ¬ Con r a y c := fun e => hcy (h2.con_symm hy (up hy e))
    have f1 : Flat S r (tr a y c) := Flat.add h hy hc yc fy fc (fun e => absurd e ncy) f0
    refine Flat.add h1 hd hy' (Ne.symm y'd) fd1 fy1 (fun hx => ?_) f1
    rw [h.con_tr hy hc fy fc hd] at hx
    rw [phi_tr, h.pb.merge hy hc (fun e => ncy (orb_phi_con e)) hd]
    rcases hx with x1 | ⟨x1, _⟩ | ⟨_, x2⟩
    · have : Con r (tr a y y') c y := (up hc (h.con_symm hd cdc)).trans ((up hd x1).trans (h2.con_symm hy eyy))
      exact absurd this hcy
    · exact absurd ((h.con_symm hd x1).trans cdc) ncy
    · exact .inr (.inr ⟨odc, k0 x2⟩)
end Go.Proofs.Ytobbepmlmbbamaa.Pl
