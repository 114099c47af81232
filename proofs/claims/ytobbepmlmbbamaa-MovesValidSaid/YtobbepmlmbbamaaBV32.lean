/-
  The texts Str, Sa, Sgn in one.
-/
import Derived.Test.YtobbepmlmbbamaaBV31
import Derived.Test.YtobbepmlmbbamaaBAV10
import Derived.Test.YtobbepmlmbbamaaBAV11
import Derived.Test.YtobbepmlmbbamaaBAV01
import Derived.Test.YtobbepmlmbbamaaBAV08
set_option linter.unusedVariables false
set_option linter.unusedSimpArgs false

section
/-
  Plain Lean: the strands: how many there are, and that no move changes the number of components. No program is named here.
-/
namespace Go.Proofs.Ytobbepmlmbbamaa.Pl

/-- Across the crossing. -/
def op (h : Nat) : Nat := tn h 2
theorem op_op (h : Nat) : op (op h) = h := by unfold op; rw [tn_tn]; exact tn_four h
theorem op_bij (k : Nat) : Bij (4 * k) (fun h => h < 4 * k) op := ⟨fun _ h => h, fun _ h => tn_lt h, fun _ _ _ _ e => tn_inj e⟩
theorem Hm.op {n : Nat} {b : Nat → Nat} (h : Hm (4 * n) (fun h => h < 4 * n) rot b) : Hm (4 * n) (fun h => h < 4 * n) Pl.op b := ⟨op_bij n, h.ab, h.inv⟩
theorem Cls.one {S : Nat → Prop} {R : Nat → Nat → Prop} {a : Nat} (hE : Eqv S R) (ha : S a) (h : ∀ x, S x → R a x) : Cls S R 1 :=
  ⟨fun _ => 0, fun _ _ => Nat.zero_lt_one, fun x y hx hy => ⟨fun _ => hE.trans _ _ _ hx ha hy (hE.symm _ _ ha hx (h x hx)) (h y hy), fun _ => rfl⟩, fun i hi => ⟨a, ha, (by omega : (0 : Nat) = i)⟩⟩
/-- The two half-edges on an edge, and the ones across: a strand's piece. -/
def grp (h u z : Nat) : Prop := z = h ∨ z = u ∨ z = tn h 2 ∨ z = tn u 2
structure Gp (n : Nat) (b : Nat → Nat) (h u : Nat) : Prop where
  hm : Hm (4 * n) (fun h => h < 4 * n) rot b
  hh : h < 4 * n
  hu : u < 4 * n
  e0 : b h = u
  n1 : h ≠ u
  n2 : h ≠ tn u 2
  n3 : u ≠ tn h 2
section
variable {n : Nat} {b : Nat → Nat} {h u : Nat}
theorem Gp.e2 (G : Gp n b h u) : b u = h := by rw [← G.e0, G.hm.inv _ G.hh]
theorem Gp.mem (G : Gp n b h u) {z : Nat} (hz : grp h u z) : z < 4 * n := by
  rcases hz with rfl | rfl | rfl | rfl
  · exact G.hh
  · exact G.hu
  · exact tn_lt G.hh
  · exact tn_lt G.hu
theorem Gp.nAB (G : Gp n b h u) : tn h 2 ≠ tn u 2 := fun e => G.n1 (tn_inj e)
theorem tt2 (h : Nat) : tn (tn h 2) 2 = h := op_op h
/-- Free ends: one class. -/
theorem Gp.free (G : Gp n b h u) (fA : b (tn h 2) = tn h 2) (fB : b (tn u 2) = tn u 2) :
    Cls (grp h u) (Orb (phi op b)) 1 ∧ (∀ z, grp h u z → grp h u (phi op b z)) ∧ Orb (phi op b) (tn h 2) (tn u 2) := by
  have p1 : phi op b h = tn u 2 := by show tn (b h) 2 = _; rw [G.e0]
  have p2 : phi op b u = tn h 2 := by show tn (b u) 2 = _; rw [G.e2]
  have p3 : phi op b (tn h 2) = h := by show tn (b (tn h 2)) 2 = _; rw [fA, tt2]
  have p4 : phi op b (tn u 2) = u := by show tn (b (tn u 2)) 2 = _; rw [fB, tt2]
  have cl : ∀ z, grp h u z → grp h u (phi op b z) := by
    rintro z (rfl | rfl | rfl | rfl)
    · rw [p1]; exact .inr (.inr (.inr rfl))
    · rw [p2]; exact .inr (.inr (.inl rfl))
    · rw [p3]; exact .inl rfl
    · rw [p4]; exact .inr (.inl rfl)
  have hE := (G.hm.op).pb.eqv
  have s1 : Orb (phi op b) h (tn u 2) := ⟨1, p1⟩
  have s2 : Orb (phi op b) h u := s1.trans ⟨1, p4⟩
  have s3 : Orb (phi op b) h (tn h 2) := s2.trans ⟨1, p2⟩
  refine ⟨Cls.one ⟨fun x hx => hE.refl x (G.mem hx), fun x y hx hy => hE.symm x y (G.mem hx) (G.mem hy), fun x y z hx hy hz => hE.trans x y z (G.mem hx) (G.mem hy) (G.mem hz)⟩ (a := h) (.inl rfl) ?_, cl, (show Orb (phi op b) (tn h 2) h from ⟨1, p3⟩).trans s1⟩
  rintro x (rfl | rfl | rfl | rfl)
  · exact Orb.refl _ _
  · exact s2
  · exact s3
  · exact s1
/-- Joined ends: two. -/
theorem Gp.closed (G : Gp n b h u) (fA : b (tn h 2) = tn u 2) : Cls (grp h u) (Orb (phi op b)) 2 ∧ ∀ z, grp h u z → grp h u (phi op b z) := by
  have fB : b (tn u 2) = tn h 2 := by rw [← fA, G.hm.inv _ (tn_lt G.hh)]
  have p1 : phi op b h = tn u 2 := by show tn (b h) 2 = _; rw [G.e0]
  have p2 : phi op b u = tn h 2 := by show tn (b u) 2 = _; rw [G.e2]
  have p3 : phi op b (tn h 2) = u := by show tn (b (tn h 2)) 2 = _; rw [fA, tt2]
  have p4 : phi op b (tn u 2) = h := by show tn (b (tn u 2)) 2 = _; rw [fB, tt2]
  have hE := (G.hm.op).pb.eqv
  have cl : ∀ z, grp h u z → grp h u (phi op b z) := by
    rintro z (rfl | rfl | rfl | rfl)
    · rw [p1]; exact .inr (.inr (.inr rfl))
    · rw [p2]; exact .inr (.inr (.inl rfl))
    · rw [p3]; exact .inr (.inl rfl)
    · rw [p4]; exact .inl rfl
  refine ⟨?_, cl⟩
  have c1 : Cls (fun z => z = h ∨ z = tn u 2) (Orb (phi op b)) 1 := by
    refine Cls.one ⟨fun x hx => Orb.refl _ _, fun x y hx hy e => hE.symm x y ?_ ?_ e, fun x y z _ _ _ e e' => e.trans e'⟩ (a := h) (.inl rfl) ?_
    · rcases hx with rfl | rfl; exact G.hh; exact tn_lt G.hu
    · rcases hy with rfl | rfl; exact G.hh; exact tn_lt G.hu
    · rintro x (rfl | rfl); exact Orb.refl _ _; exact ⟨1, p1⟩
  have c2 : Cls (fun z => z = u ∨ z = tn h 2) (Orb (phi op b)) 1 := by
    refine Cls.one ⟨fun x hx => Orb.refl _ _, fun x y hx hy e => hE.symm x y ?_ ?_ e, fun x y z _ _ _ e e' => e.trans e'⟩ (a := u) (.inl rfl) ?_
    · rcases hx with rfl | rfl; exact G.hu; exact tn_lt G.hh
    · rcases hy with rfl | rfl; exact G.hu; exact tn_lt G.hh
    · rintro x (rfl | rfl); exact Orb.refl _ _; exact ⟨1, p2⟩
  have k1 : ∀ z, (z = h ∨ z = tn u 2) → (phi op b z = h ∨ phi op b z = tn u 2) := by rintro z (rfl | rfl); exact .inr p1; exact .inl p4
  have k2 : ∀ z, (z = u ∨ z = tn h 2) → (phi op b z = u ∨ phi op b z = tn h 2) := by rintro z (rfl | rfl); exact .inr p2; exact .inl p3
  have dis : ∀ x, (x = h ∨ x = tn u 2) → ¬ (x = u ∨ x = tn h 2) := by
    rintro x (rfl | rfl) (e | e)
    · exact G.n1 e
    · unfold tn at e; omega
    · unfold tn at e; omega
    · exact G.nAB e.symm
  have := Cls.add c1 c2 (fun x y hx hy e => dis _ (orb_closed (P := fun z => z = h ∨ z = tn u 2) k1 hx e) hy) (fun x y hx hy e => dis _ hx (orb_closed (P := fun z => z = u ∨ z = tn h 2) k2 hy e)) dis
  refine Cls.congr this (fun x => ?_) (fun _ _ _ _ => Iff.rfl)
  unfold grp
  constructor
  · rintro ((e | e) | (e | e))
    · exact .inl e
    · exact .inr (.inr (.inr e))
    · exact .inr (.inl e)
    · exact .inr (.inr (.inl e))
  · rintro (e | e | e | e)
    · exact .inl (.inl e)
    · exact .inr (.inl e)
    · exact .inr (.inr e)
    · exact .inl (.inr e)
end
section
variable {N : Nat} {S : Nat → Prop} {r a : Nat → Nat}
/-- Bypassed: one class more. -/
theorem byp_cls (h : Hm N S r a) {u v : Nat} (hu : S u) (hv : S v) (huv : u ≠ v) (nu : a u ≠ u) (nv : a v ≠ v) (nuv : a u ≠ v) (ho : Orb (phi r (cut2 a u v)) u v) (nx : ¬ Orb (phi r (cut2 a u v)) u (a u)) (ny : ¬ Orb (phi r (cut2 a u v)) u (a v)) {k : Nat} (hk : Cls S (Orb (phi r a)) k) :
    Cls S (Orb (phi r (byp a u v))) (k + 1) := by
  obtain ⟨c0, c1, c2, c3, c4, c5, c6, c7⟩ := cut2_hm h hu hv huv nu nv nuv
  have hx := h.ab.maps u hu
  have hy := h.ab.maps v hv
  obtain ⟨c, hc⟩ : ∃ c, c = cut2 a u v := ⟨_, rfl⟩
  unfold byp
  rw [← hc] at ho nx ny c0 c1 c2 c3 c4 c5
  rw [← hc]
  obtain ⟨k0, hk0⟩ := Cls.exists_ N S _ c0.pb.lt c0.pb.eqv
  have hpos := hk0.pos hu
  obtain ⟨k1, rfl⟩ : ∃ k1, k0 = k1 + 1 := ⟨k0 - 1, by omega⟩
  have e1 := Cls.merge c0.pb hu hx nx hk0
  have hb1 := c0.pb.tr hu hx
  have sym := fun {x y} (hx : S x) (e : Orb (phi r c) x y) => c0.pb.symm hx e
  have mg := fun {x y} (hx' : S x) => c0.pb.merge hu hx nx (x := x) (y := y) hx'
  have nvu := sym hu ho
  rw [phi_tr]
  have hphi : phi r a = tr (tr (phi r c) u (a u)) v (a v) := by
    have : phi r a = phi r (tr (tr c u (a u)) v (a v)) := by rw [← c5]
    rw [this, phi_tr, phi_tr]
  rw [hphi] at hk
  by_cases hxy : Orb (phi r c) (a u) (a v)
  · -- parted, twice
    have hvy : Orb (tr (phi r c) u (a u)) v (a v) := (mg hv).2 (.inr (.inl ⟨nvu, hxy⟩))
    have e2 := Cls.part hb1 hv hy (Ne.symm nv) hvy e1
    have e3 := Cls.part c0.pb hx hy c6 hxy hk0
    rw [hk.unique e2]
    exact e3
  · have nvy : ¬ Orb (tr (phi r c) u (a u)) v (a v) := fun e => by
      rcases (mg hv).1 e with e | ⟨_, e⟩ | ⟨e, _⟩
      · exact ny (ho.trans e)
      · exact hxy e
      · exact nx (ho.trans e)
    have hp1 := e1.pos hv
    obtain ⟨k2, rfl⟩ : ∃ k2, k1 = k2 + 1 := ⟨k1 - 1, by omega⟩
    have e2 := Cls.merge hb1 hv hy nvy e1
    have e3 := Cls.merge c0.pb hx hy hxy hk0
    rw [hk.unique e2]
    exact e3
end
section
variable {n : Nat} {b : Nat → Nat} {h u : Nat}
/-- A strand closed behind its piece. -/
theorem Gp.cls (G : Gp n b h u) (nA : b (tn h 2) ≠ tn h 2) (nB : b (tn u 2) ≠ tn u 2) {k : Nat} (hk : Cls (fun h => h < 4 * n) (Orb (phi op b)) k) :
    Cls (fun h => h < 4 * n) (Orb (phi op (Pl.cls b (tn h 2) (tn u 2)))) (k + if b (tn h 2) = tn u 2 then 0 else 1) := by
  unfold Pl.cls
  by_cases hc : b (tn h 2) = tn u 2
  · rw [if_pos hc, if_pos hc]; exact hk
  rw [if_neg hc, if_neg hc]
  have hA : tn h 2 < 4 * n := tn_lt G.hh
  have hB : tn u 2 < 4 * n := tn_lt G.hu
  have m := G.hm.op
  have e2 := G.e2
  have c0 : Hm (4 * n) (fun h => h < 4 * n) rot (cut2 b (tn h 2) (tn u 2)) ∧ _ := cut2_hm G.hm hA hB G.nAB nA nB hc
  obtain ⟨c0, c1, c2, c3, c4, c5, c6, c7⟩ := c0
  have hhA : h ≠ b (tn h 2) := fun e => by have := G.hm.inv _ hA; rw [← e, G.e0] at this; exact G.n3 this
  have hhB : h ≠ b (tn u 2) := fun e => by have := G.hm.inv _ hB; rw [← e, G.e0] at this; unfold tn at this; omega
  have huA : u ≠ b (tn h 2) := fun e => by have := G.hm.inv _ hA; rw [← e, e2] at this; unfold tn at this; omega
  have huB : u ≠ b (tn u 2) := fun e => by have := G.hm.inv _ hB; rw [← e, e2] at this; exact G.n2 this
  have hA0 : h ≠ tn h 2 := by unfold tn; omega
  have hu0 : u ≠ tn u 2 := by unfold tn; omega
  have G' : Gp n (cut2 b (tn h 2) (tn u 2)) h u := ⟨c0, G.hh, G.hu, by rw [cut2_at _ _ hA0 G.n2 hhA hhB, G.e0], G.n1, G.n2, G.n3⟩
  obtain ⟨g1, g2, g3⟩ := G'.free c1 c2
  have no : ∀ z, Orb (phi op (cut2 b (tn h 2) (tn u 2))) (tn h 2) z → grp h u z := fun z e => orb_closed (P := grp h u) g2 (.inr (.inr (.inl rfl))) e
  refine byp_cls m hA hB G.nAB nA nB hc g3 (fun e => ?_) (fun e => ?_) hk
  · rcases no _ e with e | e | e | e
    · exact hhA e.symm
    · exact huA e.symm
    · exact nA e
    · exact hc e
  · rcases no _ e with e | e | e | e
    · exact hhB e.symm
    · exact huB e.symm
    · exact c7 e
    · exact nB e
end
/-- The strands of a diagram: classes of the outgoing half-edges. -/
def Str (d : Dg) (s : Nat) : Prop := Cls (fun h => h < 4 * d.n ∧ out d h = true) (Orb (st d)) s
section
variable {d : Dg}
theorem st_phi (d : Dg) : st d = phi op d.m := rfl
theorem out_orb (hd : Wf d) {x y : Nat} (hx : x < 4 * d.n) (e : Orb (st d) x y) : out d y = out d x := by
  obtain ⟨k, rfl⟩ := e
  exact out_it hd hx k
theorem st_back (hd : Wf d) {x y : Nat} (hx : x < 4 * d.n) (e : Orb (st d) x y) : Orb (st d) (d.m y) (d.m x) := by
  obtain ⟨k, rfl⟩ := e
  induction k with
  | zero => exact Orb.refl _ _
  | succ k ih =>
    have hz := (st_bij hd).it k x hx
    refine Orb.trans ⟨1, ?_⟩ ih
    show st d (d.m (st d (it (st d) k x))) = d.m (it (st d) k x)
    unfold st at hz ⊢
    rw [hd.inv _ (tn_lt (hd.lt _ hz)), tt2]
theorem Str.all (hd : Wf d) {s : Nat} (h : Str d s) : Cls (dart d) (Orb (st d)) (2 * s) := by
  have h2 : Cls (fun h => h < 4 * d.n ∧ out d h = false) (Orb (st d)) s := by
    refine Cls.map h d.m (fun x hx => ⟨hd.lt x hx.1, by rw [out_way hd hx.1, hx.2]; rfl⟩) (fun y hy => ⟨d.m y, ⟨hd.lt y hy.1, by rw [out_way hd hy.1, hy.2]; rfl⟩, hd.inv y hy.1⟩) (fun x y hx hy => ⟨fun e => (st_bij hd).symm (hd.lt _ hy.1) (st_back hd hx.1 e), fun e => ?_⟩)
    have := st_back hd (hd.lt _ hx.1) e
    rw [hd.inv _ hx.1, hd.inv _ hy.1] at this
    exact (st_bij hd).symm hy.1 this
  have := Cls.add h h2 (fun x y hx hy e => by have := out_orb hd hx.1 e; rw [hx.2, hy.2] at this; exact absurd this (by decide)) (fun x y hx hy e => by have := out_orb hd hy.1 e; rw [hx.2, hy.2] at this; exact absurd this (by decide)) (fun x hx hy => by rw [hx.2] at hy; exact absurd hy.2 (by decide))
  rw [show 2 * s = s + s by omega]
  refine Cls.congr this (fun x => ?_) (fun _ _ _ _ => Iff.rfl)
  unfold dart
  constructor
  · rintro (e | e) <;> exact e.1
  · intro e
    cases ho : out d x with
    | true => exact .inl ⟨e, rfl⟩
    | false => exact .inr ⟨e, rfl⟩
theorem Str.ex (hd : Wf d) : ∃ s, Str d s := Cls.exists_ (4 * d.n) _ _ (fun x hx => hx.1) ⟨fun x hx => Orb.refl _ _, fun x y hx hy e => (st_bij hd).symm hx.1 e, fun x y z _ _ _ e e' => e.trans e'⟩
theorem Str.iff (hd : Wf d) {s k : Nat} (h : Str d s) (hk : Cls (dart d) (Orb (st d)) k) : k = 2 * s := hk.unique (h.all hd)
/-- What stays, where crossings are taken out. -/
theorem Rs.cls {gs : List Nat} {mt : List Nat} {lp : Nat} {b : Nat → Nat} (R : Rs d gs mt lp b) {k g : Nat} (hk : Cls (dart d) (Orb (phi op b)) k) (hg : Cls (gone d gs) (Orb (phi op b)) g) :
    ∃ ks, k = ks + g ∧ Cls (Pl.stay d gs) (Orb (phi op b)) ks ∧ Cls (dart (rsD d gs mt lp)) (Orb (st (rsD d gs mt lp))) ks := by
  have hE := R.hm.op.pb.eqv
  have s1 : ∀ x, Pl.stay d gs x → Pl.stay d gs (phi op b x) := fun x hx => tn_stay (R.stay hx)
  have g1 : ∀ x, gone d gs x → gone d gs (phi op b x) := fun x hx => ⟨tn_lt (R.hm.ab.maps x hx.1), by show tn (b x) 2 / 4 ∈ gs; rw [tn_div]; exact R.cl x hx⟩
  obtain ⟨ks, hks⟩ := Cls.exists_ (4 * d.n) (Pl.stay d gs) (Orb (phi op b)) (fun x hx => hx.1) ⟨fun x hx => Orb.refl _ _, fun x y hx hy e => hE.symm x y hx.1 hy.1 e, fun x y z _ _ _ e e' => e.trans e'⟩
  have ha := Cls.add hks hg (fun x y hx hy e => (orb_closed (P := Pl.stay d gs) s1 hx e).2 hy.2) (fun x y hx hy e => hx.2 (orb_closed (P := gone d gs) g1 hy e).2) (fun x hx hy => hx.2 hy.2)
  have ha2 : Cls (dart d) (Orb (phi op b)) (ks + g) := Cls.congr ha (fun x => ⟨fun h => h.elim (·.1) (·.1), fun h => (Classical.em (x / 4 ∈ gs)).elim (fun e => .inr ⟨h, e⟩) (fun e => .inl ⟨h, e⟩)⟩) (fun _ _ _ _ => Iff.rfl)
  refine ⟨ks, hk.unique ha2, hks, ?_⟩
  refine Cls.map hks (shf gs) (fun x hx => shf_lt R.nd R.few mt lp hx) (fun y hy => shf_onto R.nd R.few mt lp hy) (fun x y hx hy => orb_map (S := Pl.stay d gs) (t := shf gs) s1 (fun x hx => ?_) (fun x y hx hy e => shf_inj R.nd R.few hx.2 hy.2 e) hx hy)
  show tn ((rsD d gs mt lp).m (shf gs x)) 2 = shf gs (tn (b x) 2)
  rw [R.m hx, shf_tn R.few]
end
end Go.Proofs.Ytobbepmlmbbamaa.Pl
end

section
/-
  Walks: the reference of diagrams: turns, ways out, strands, the number of components.
-/
namespace Go.Proofs.Ytobbepmlmbbamaa
open Go Go.RowKit

theorem r1turn2 (h : Nat) (w : World) (hh : h ≤ 1000000) :
    Calls Try.prog 118 #[.int .i64 (h : Int), .int .i64 2] w fun e w' => e = .returned (.int .i64 (Pl.tn h 2 : Nat)) ∧ w' = w := by
  have t1 : decide ((h : Int) < 0) = false := by simp
  go_enter Try.func118, Try.ntmps118
  go_wp2
  go_ret
  exact ⟨ret_int (by unfold Pl.tn; omega), rfl⟩
theorem r1out_any (d : Pl.Dg) (A : Option Addr) (n cp : Nat) (h : Nat) (w : World) (e : n = d.n) (hh : h < 4 * n) (hn : n ≤ 1000) (hs : IntsAt w A n d.sg) :
    Calls Try.prog 41 #[.slice A n cp, .int .i64 (h : Int)] w fun e w' => e = .returned (.bool (Pl.out d h)) ∧ w' = w := by
  subst e
  obtain ⟨b, o, rfl, hc⟩ := sign_at hs (c := h / 4) (by omega)
  have h4 : h % 4 = 0 ∨ h % 4 = 1 ∨ h % 4 = 2 ∨ h % 4 = 3 := by omega
  go_enter Try.func41, Try.ntmps41
  rcases h4 with h4 | h4 | h4 | h4
  · have E := out_zero (d := d) h4
    go_wp2
    all_goals
      go_ret
      refine ⟨ret_bool ?_, rfl⟩
      rw [E]
      first
        | done
        | rfl
        | (simp; done)
        | (simp; omega)
        | simp_all
  · have E := out_one (d := d) h4
    go_wp2
    all_goals
      go_ret
      refine ⟨ret_bool ?_, rfl⟩
      rw [E]
      first
        | done
        | rfl
        | (simp; done)
        | (simp; omega)
        | simp_all
  · have E := out_two (d := d) h4
    go_wp2
    all_goals
      go_ret
      refine ⟨ret_bool ?_, rfl⟩
      rw [E]
      first
        | done
        | rfl
        | (simp; done)
        | (simp; omega)
        | simp_all
  · have E := out_three (d := d) h4
    go_wp2
    all_goals
      go_ret
      refine ⟨ret_bool ?_, rfl⟩
      rw [E]
      first
        | done
        | rfl
        | (simp; done)
        | (simp; omega)
        | simp_all
set_option maxRecDepth 100000 in
set_option maxHeartbeats 2000000 in
/-- The strand of a half-edge. -/
theorem rstrand_any (d : Pl.Dg) (hd : Pl.Wf d) (A B : Option Addr) (cp cq m : Nat) (l : Value) (h p : Nat) (w : World) (hm : m = 4 * d.n) (hb : IntsAt w B m (nats d.mt)) (hh : h < 4 * d.n) (hp : Pl.Per (Pl.st d) h p) (hpN : p ≤ 4 * d.n) :
    Calls Try.prog 109 #[.agg #[.slice A d.n cp, .slice B m cq, l], .int .i64 (h : Int)] w (fun e w' => ∃ (A5 : Option Addr) (c5 : Nat), e = .returned (.slice A5 p c5) ∧ w'.ownsRow w.heap.size 3 1 (.slice A5 p c5) p ((Pl.cyc (Pl.st d) h p).map (fun k : Nat => Value.int .i64 k)) ∧ Below w.heap.size w w') := by
  have hn := hd.few
  have HD := hide hd
  have HP := hide hp
  have HM := hide hm
  have HB := hide hb
  have hp0 := hp.1
  have HPN := hide hpN
  have hp4 : p ≤ 256 := by omega
  have hm4 : m ≤ 256 := by omega
  have hpm : p ≤ m := by omega
  have hb1 : Below w.heap.size w (w.alloc (.cells #[.slice A d.n cp, .slice B m cq, l] 24)) := (Below.refl _ _).alloc (Nat.le_refl _) _
  have B0 := hide hb1
  have X0 := hide (row_at (W := w) (g := w.heap.size) (t := 24) (vs := [.slice A d.n cp, .slice B m cq, l]) rfl)
  clear hp hm hb hd hb1 hpN
  obtain ⟨W1, hW1⟩ : ∃ W1 : World, W1 = (w.alloc (.cells #[.slice A d.n cp, .slice B m cq, l] 24)).alloc (.cells #[.int .i64 (h : Int)] 3) := ⟨_, rfl⟩
  have B1 := hide (show Below w.heap.size w W1 by rw [hW1]; exact B0.out.alloc (by simp) _)
  have X1 := hide (show Row W1 w.heap.size 24 [.slice A d.n cp, .slice B m cq, l] by rw [hW1]; exact X0.out.alloc _)
  have O1 := hide (show W1.ownsRow (w.heap.size + 1) 3 1 (.slice (some ⟨w.heap.size + 1, 0, none⟩) 1 1) 1 [.int .i64 (h : Int)] by
    rw [hW1]
    have := own_one (w.alloc (.cells #[.slice A d.n cp, .slice B m cq, l] 24)) (.int .i64 (h : Int))
    simpa using this)
  obtain ⟨d0, d1, d2, _⟩ := box3 X1.out
  have lth := HD.out.lt h hh
  obtain ⟨mb, mo, rfl, mc⟩ := mate_at (by rw [← HM.out]; exact HB.out.keep B1.out) hh
  obtain ⟨u, hu⟩ : ∃ u, u = d.m h := ⟨_, rfl⟩
  have HU := hide hu
  rw [← hu] at mc lth
  clear hu
  have hhm : h < m := by rw [HM.out]; exact hh
  go_enter Try.func109, Try.ntmps109
  rw [hW1] at d0 d1 d2 mc
  go_wp2_with fail
  rw [← hW1]
  clear hW1 d0 d1 d2 mc
  refine (r1turn2 u _ (by omega)).mono ?_
  rintro e w2 ⟨rfl, rfl⟩
  go_wp2_with fail
  go_loopg [5, 6] (p - 1) (fun g v i wx => ∃ j : Nat, j + 1 + g = p ∧ i = .int .i64 (Pl.it (Pl.st d) (j + 1) h : Nat) ∧ wx.ownsRow (w.heap.size + 1) 3 1 v (j + 1) ((Pl.cyc (Pl.st d) h (j + 1)).map (fun k : Nat => Value.int .i64 k)) ∧ Below w.heap.size w wx ∧ Row wx w.heap.size 24 [.slice A d.n cp, .slice (some ⟨mb, mo, none⟩) m cq, l])
  case atStart => exact ⟨0, by omega, by rw [HU.out]; rfl, O1.out, B1.out, X1.out⟩
  case round =>
    clear B1 X1 O1 X0 B0
    obtain ⟨j, hjg, rfl, own, hb, hx0⟩ := hrel
    have HJ := hide hjg
    have hjp : j + 1 ≤ p := by omega
    have OWN := hide own
    have HBL := hide hb
    have X := hide hx0
    have hbs := hb.size
    obtain ⟨x, hx⟩ : ∃ x, x = Pl.it (Pl.st d) (j + 1) h := ⟨_, rfl⟩
    rw [← hx]
    have HX := hide hx
    have hxN : x < 4 * d.n := by rw [hx]; exact it_lt (fun y hy => (Pl.st_bij HD.out).maps y hy) hh (j + 1)
    clear hjg own hb hx hx0
    obtain ⟨A0, c0, hv0⟩ := owns_slice OWN.out
    by_cases he : x = h
    · have hjj : ¬ j + 1 < p := fun hlt => HP.out.2.2 (j + 1) (by omega) hlt (by rw [← HX.out, he])
      have t1 : ((x : Int) != (h : Int)) = false := by rw [bne_eq_false_iff_eq]; omega
      have HE := hide he
      obtain rfl : j + 1 = p := by omega
      subst hv0
      clear he hjj
      go_wp2
      go_ret
      exact ⟨A0, c0, rfl, own_keep OWN.out (Below.refl _ _) (by omega), HBL.out⟩
    · have t1 : ((x : Int) != (h : Int)) = true := by rw [bne_iff_ne]; omega
      have hjj : j + 1 < p := by
        rcases Nat.lt_or_ge (j + 1) p with h1 | h1
        · exact h1
        · have : j + 1 = p := by omega
          exact absurd (by rw [HX.out, this]; exact HP.out.2.1) he
      clear he
      subst hv0
      obtain ⟨i0, hi0, hz0, hz1, hz2⟩ := info_parts intInfo
      have hwz1 : w.heap.size + 1 ≤ wr.heap.size := X.out.lt
      obtain ⟨e0, e1, e2, e3⟩ := box3 X.out
      go_wp2_with (at_builtin; refine wpList_append_lies _ (by rfl) _ _ 22 (by rfl) (w.heap.size + 1) 3 i0 (.int .i64 0) 1 8 Try.underlying22 hi0 hz0 hz1 hz2 rfl (by omega) _ (j + 1) _ (by rfl) (OWN.out.alloc _) ⟨wr.heap.size, 0, none⟩ 1 1 [.int .i64 (x : Int)] (by rfl) (by rfl) (one_news wr (.int .i64 (x : Int))) (by simp [Value.oneCell']) (by omega) (by unfold maxLen; omega) (by omega) (by simp; omega) (wr.heap.size + 1) (by simp) ?_; intro g3 c3 w3 own3 grow3 at3 lt3; have OWN3 := hide own3; have GR3 := hide grow3; have X3 := hide (Row.grown (X.out.alloc (.cells #[.int .i64 (x : Int)] 3)) grow3 (fun e => by have := (OWN.out.lt _ e.symm).1; omega)); have B3 := hide ((HBL.out.alloc hbs (.cells #[.int .i64 (x : Int)] 3)).grown GR3.out (by simp; omega) (fun k hk => by have := (OWN.out.lt k hk).1; omega)); obtain ⟨d0, d1, d2, _⟩ := box3 X3.out; obtain ⟨mb', mo', e', mc⟩ := mate_at (by rw [← HM.out]; exact HB.out.keep B3.out) hxN; injection e' with e'; injection e' with e1' e2'; subst e1'; subst e2'; have ltx := HD.out.lt x hxN; obtain ⟨y, hy⟩ : ∃ y, y = d.m x := ⟨_, rfl⟩; have HY := hide hy; rw [← hy] at mc ltx; have hxm : x < m := (by rw [HM.out]; exact hxN); clear own3 grow3 at3 hy e0 e1 e2 e3)
      refine (r1turn2 y _ (by omega)).mono ?_
      rintro e w4 ⟨rfl, rfl⟩
      clear d0 d1 d2 mc
      go_wp2_with fail
      go_roundg (gk - 1)
      case measure => have := HJ.out; omega
      case rel =>
        refine ⟨j + 1, by have := HJ.out; omega, ?_, ?_, B3.out, X3.out⟩
        · rw [HY.out, HX.out]; rfl
        · have := OWN3.out
          rw [Pl.cyc_succ, List.map_append, ← HX.out]
          exact this
/-- How many strands, of those that begin below k. -/
noncomputable def strK (d : Pl.Dg) (k : Nat) : Nat := Pl.cnt (Pl.Lst (fun h => h < 4 * d.n ∧ Pl.out d h = true) (Pl.Orb (Pl.st d))) k
noncomputable def strN (d : Pl.Dg) : Nat := strK d (4 * d.n)
theorem strN_str (d : Pl.Dg) (hd : Pl.Wf d) : Pl.Str d (strN d) :=
  Pl.Cls.count (4 * d.n) (fun x hx => hx.1) ⟨fun x hx => Pl.Orb.refl _ _, fun x y hx hy e => (Pl.st_bij hd).symm hx.1 e, fun x y z _ _ _ e e' => e.trans e'⟩
theorem lst_cyc {d : Pl.Dg} (hd : Pl.Wf d) {h p : Nat} (hh : h < 4 * d.n) (ho : Pl.out d h = true) (hp : Pl.Per (Pl.st d) h p) : Pl.Lst (fun h => h < 4 * d.n ∧ Pl.out d h = true) (Pl.Orb (Pl.st d)) h ↔ ∀ i, i < p → h ≤ Pl.it (Pl.st d) i h := by
  constructor
  · intro hl i _
    exact hl.2 _ ⟨(Pl.st_bij hd).it i h hh, by rw [Pl.out_it hd hh, ho]⟩ ⟨i, rfl⟩
  · intro hi
    refine ⟨⟨hh, ho⟩, fun g _ e => ?_⟩
    have hm := (Pl.mem_cyc hp).2 e
    unfold Pl.cyc at hm
    obtain ⟨i, h1, rfl⟩ := List.mem_map.1 hm
    exact hi i (List.mem_range.1 h1)
theorem vb_step {P : Nat → Prop} (j : Nat) : Pl.vb (∀ i, i < j + 1 → P i) = (Pl.vb (∀ i, i < j → P i) && Pl.vb (P j)) := by
  rw [Bool.eq_iff_iff, Bool.and_eq_true, Pl.vb_iff, Pl.vb_iff, Pl.vb_iff]
  constructor
  · intro h; exact ⟨fun i hi => h i (by omega), h j (by omega)⟩
  · rintro ⟨h1, h2⟩ i hi
    rcases Nat.lt_or_ge i j with h | h
    · exact h1 i h
    · rw [show i = j by omega]; exact h2
set_option maxRecDepth 100000 in
set_option maxHeartbeats 4000000 in
theorem rstrands_any (d : Pl.Dg) (hd : Pl.Wf d) (A B : Option Addr) (cp cq m : Nat) (l : Value) (w : World) (hm : m = 4 * d.n) (hs : IntsAt w A d.n d.sg) (hb : IntsAt w B m (nats d.mt)) :
    Calls Try.prog 60 #[.agg #[.slice A d.n cp, .slice B m cq, l]] w (fun e w' => ∃ (A5 : Option Addr) (c5 : Nat), e = .returned (.slice A5 (strN d) c5) ∧ Below w.heap.size w w') := by
  have hn := hd.few
  have HD := hide hd
  have HM := hide hm
  have HB := hide hb
  have HS := hide hs
  have hm4 : m ≤ 256 := by omega
  have X0 := hide (row_at (W := w) (g := w.heap.size) (t := 24) (vs := [.slice A d.n cp, .slice B m cq, l]) rfl)
  have B0 := hide (show Below w.heap.size w (w.alloc (.cells #[.slice A d.n cp, .slice B m cq, l] 24)) from (Below.refl _ _).alloc (Nat.le_refl _) _)
  clear hm hb hd hs
  go_enter Try.func60, Try.ntmps60
  go_wp2
  go_loopg [3, 4] m (fun g v i wx => ∃ (k : Nat) (vs : List Value), k + g = m ∧ i = .int .i64 k ∧ vs.length = strK d k ∧ wx.ownsRow (w.heap.size + 1) 22 1 v vs.length vs ∧ Row wx w.heap.size 24 [.slice A d.n cp, .slice B m cq, l] ∧ Below w.heap.size w wx)
  case atStart => exact ⟨0, [], by omega, rfl, rfl, World.ownsRow_nil _ _ _ _, X0.out, B0.out⟩
  case round =>
    clear X0 B0
    obtain ⟨k, vs, hkg, rfl, hvl, hown, hx, hb⟩ := hrel
    have HKG := hide hkg
    have hkm : k ≤ m := by omega
    have HVL := hide hvl
    have OWN := hide hown
    have X := hide hx
    have HBL := hide hb
    have hbs := hb.size
    obtain ⟨A7, c7, rfl⟩ := owns_slice hown
    clear hkg hvl hown hx hb
    obtain ⟨d0, d1, d2, d3⟩ := box3 X.out
    by_cases hlt : k < m
    · have hk4 : k < 4 * d.n := by have := HM.out; omega
      go_wp2_with fail
      refine (r1out_any d A d.n cp k _ rfl hk4 (by omega) (HS.out.keep HBL.out)).mono ?_
      rintro e w1 ⟨rfl, rfl⟩
      cases ho : Pl.out d k with
      | false =>
        have E := hide (show strK d (k + 1) = strK d k from Pl.cnt_step_neg (fun h => by have := h.1.2; rw [ho] at this; exact absurd this (by decide)))
        clear ho
        go_wp2
        go_roundg (gk - 1)
        case measure => have := HKG.out; omega
        case rel => exact ⟨k + 1, vs, by have := HKG.out; omega, by go_num, by rw [E.out]; exact HVL.out, OWN.out, X.out, HBL.out⟩
      | true =>
        obtain ⟨p, hpN, hper⟩ := (Pl.st_bij HD.out).per (x := k) hk4
        have HPER := hide hper
        have HL := hide (lst_cyc HD.out hk4 ho hper)
        have hp0 := hper.1
        clear hper ho
        go_wp2_with fail
        refine (rstrand_any d HD.out A B cp cq m l k p _ HM.out (HB.out.keep HBL.out) hk4 HPER.out hpN).mono ?_
        rintro e w2 ⟨A5, c5, rfl, own5, hb5⟩
        have FA := hide (show FaceAt w2 (.slice A5 p c5) (Pl.cyc (Pl.st d) k p) from ⟨A5, c5, by rw [Pl.cyc_len], by rw [Pl.cyc_len]; exact own_rowT own5⟩)
        have X2 := hide (X.out.below hb5)
        have O2 := hide (own_keep OWN.out hb5 (Nat.le_refl _))
        have B2 := hide (HBL.out.trans (hb5.mono hbs))
        clear d0 d1 d2 d3 own5 hb5
        go_wp2_with fail
        obtain ⟨b5, o5, rfl, _⟩ := nats_at FA.out.ints.2 (k := 0) hp0
        go_loopg [6, 7] p (fun g b i wx => ∃ j : Nat, j + g = p ∧ i = .int .i64 j ∧ b = .bool (Pl.vb (∀ i, i < j → k ≤ Pl.it (Pl.st d) i k)) ∧ wx = w2)
        case atStart => exact ⟨0, by omega, rfl, by rw [Pl.vb_true (fun i hi => absurd hi (by omega))], rfl⟩
        case round =>
          obtain ⟨j, hjg, rfl, rfl, rfl⟩ := hrel
          have HJG := hide hjg
          have hjp : j ≤ p := by omega
          clear hjg
          by_cases hlj : j < p
          · obtain ⟨b', o', e', hcj⟩ := nats_at FA.out.ints.2 (k := j) hlj
            injection e' with e'
            injection e' with e1 e2
            subst e1
            subst e2
            rw [Pl.cyc_get hlj] at hcj
            obtain ⟨y, hy⟩ : ∃ y, y = Pl.it (Pl.st d) j k := ⟨_, rfl⟩
            rw [← hy] at hcj
            have HS := hide (vb_step (P := fun i => k ≤ Pl.it (Pl.st d) i k) j)
            have HY := hide hy
            clear hy
            cases hv : Pl.vb (∀ i, i < j → k ≤ Pl.it (Pl.st d) i k) with
            | false =>
              have HV := hide hv
              clear hv
              go_wp2
              go_roundg (gk - 1)
              case measure => have := HJG.out; omega
              case rel => exact ⟨j + 1, by have := HJG.out; omega, by go_num, by rw [HS.out, HV.out]; rfl, rfl⟩
            | true =>
              have HV := hide hv
              clear hv
              by_cases hky : k ≤ y
              · have t1 : decide ((k : Int) ≤ (y : Int)) = true := by simp; omega
                go_wp2
                go_roundg (gk - 1)
                case measure => have := HJG.out; omega
                case rel => exact ⟨j + 1, by have := HJG.out; omega, by go_num, by rw [HS.out, HV.out, Pl.vb_true (show k ≤ Pl.it (Pl.st d) j k by rw [← HY.out]; exact hky)]; rfl, rfl⟩
              · have t1 : decide ((k : Int) ≤ (y : Int)) = false := by simp; omega
                go_wp2
                go_roundg (gk - 1)
                case measure => have := HJG.out; omega
                case rel => exact ⟨j + 1, by have := HJG.out; omega, by go_num, by rw [HS.out, HV.out, Pl.vb_false (show ¬ k ≤ Pl.it (Pl.st d) j k by rw [← HY.out]; exact hky)]; rfl, rfl⟩
          · have hjj : j = p := by omega
            have HE := hide hjj
            obtain ⟨b, hb⟩ : ∃ b, b = Pl.vb (∀ i, i < j → k ≤ Pl.it (Pl.st d) i k) := ⟨_, rfl⟩
            rw [← hb]
            have HBB := hide (show (b = true ↔ Pl.Lst (fun h => h < 4 * d.n ∧ Pl.out d h = true) (Pl.Orb (Pl.st d)) k) by rw [hb, Pl.vb_iff, HE.out]; exact HL.out.symm)
            clear hb hjj
            cases b with
            | false =>
              have HN := hide (Pl.cnt_step_neg (p := Pl.Lst (fun h => h < 4 * d.n ∧ Pl.out d h = true) (Pl.Orb (Pl.st d))) (k := k) (fun h => absurd (HBB.out.2 h) (by decide)))
              go_wp2
              go_roundg (m - (k + 1))
              case measure => have := HKG.out; omega
              case rel => exact ⟨k + 1, vs, by have := HKG.out; omega, by go_num, by rw [HVL.out]; exact HN.out.symm, O2.out, X2.out, B2.out⟩
            | true =>
              have HN := hide (Pl.cnt_step_pos (p := Pl.Lst (fun h => h < 4 * d.n ∧ Pl.out d h = true) (Pl.Orb (Pl.st d))) (k := k) (HBB.out.1 rfl))
              obtain ⟨i0, hi0, hz0, hz1, hz2⟩ := info_parts rowInfo
              have P1 : ∀ u ∈ [Value.slice (some ⟨b5, o5, none⟩) p c5], u.oneCell' = true := by simp [Value.oneCell']
              have hvk : vs.length ≤ 4 * d.n := by have := HVL.out; have := Pl.cnt_top (Pl.Lst (fun h => h < 4 * d.n ∧ Pl.out d h = true) (Pl.Orb (Pl.st d))) k; unfold strK at *; omega
              have hb2s := B2.out.size
              go_wp2_with (at_builtin; refine wpList_append_lies _ (by rfl) _ _ 57 (by rfl) (w.heap.size + 1) 22 i0 (.slice none 0 0) 1 24 Try.underlying57 hi0 hz0 hz1 hz2 rfl (by omega) _ vs.length vs (by rfl) (O2.out.alloc _) ⟨wr.heap.size, 0, none⟩ 1 1 [.slice (some ⟨b5, o5, none⟩) p c5] (by rfl) (by rfl) (World.news_of_block (cs := #[.slice (some ⟨b5, o5, none⟩) p c5]) (t := 22) (fr := (0, 0)) (heap_alloc_new wr _)) P1 (by omega) (by unfold maxLen; omega) (by omega) (by have := X2.out.lt; simp; omega) (wr.heap.size + 1) (by simp) ?_; intro g3 c3 w3 own3 grow3 at3 lt3)
              go_roundg (m - (k + 1))
              case measure => have := HKG.out; omega
              case rel =>
                have hba : Below wr.heap.size wr (wr.alloc (.cells #[.slice (some ⟨b5, o5, none⟩) p c5] 22)) := (Below.refl _ _).alloc (Nat.le_refl _) _
                refine ⟨k + 1, vs ++ [.slice (some ⟨b5, o5, none⟩) p c5], by have := HKG.out; omega, by go_num, by rw [List.length_append, HVL.out]; exact HN.out.symm, by simpa using own3, ?_, ?_⟩
                · exact (X2.out.below hba).grown grow3 (fun e => by have := (O2.out.lt _ e.symm).1; omega)
                · exact (B2.out.alloc hb2s _).grown grow3 (by simp; omega) (fun k hk => by have := (O2.out.lt k hk).1; omega)
    · have hkm' : k = m := by omega
      have E := hide (show strK d k = strN d by rw [hkm', HM.out]; rfl)
      go_wp2
      go_ret
      exact ⟨A7, c7, by rw [HVL.out, E.out]; rfl, HBL.out⟩
end Go.Proofs.Ytobbepmlmbbamaa
end

section
/-
  Plain Lean: sums of signs, with crossings removed; the signs at a lens. No program is named here.
-/
namespace Go.Proofs.Ytobbepmlmbbamaa.Pl

/-- The sum of the first k. -/
def sm (f : Nat → Int) : Nat → Int
  | 0 => 0
  | k + 1 => sm f k + f k
theorem sm_congr {f g : Nat → Int} : ∀ k, (∀ c, c < k → f c = g c) → sm f k = sm g k
  | 0, _ => rfl
  | k + 1, h => by
    show sm f k + f k = sm g k + g k
    rw [sm_congr k (fun c hc => h c (by omega)), h k (by omega)]
theorem sum_append' (l r : List Int) : (l ++ r).sum = l.sum + r.sum := by simp
theorem sum_one (x : Int) : [x].sum = x := by simp
theorem left_sum_one (f : Nat → Int) (c : Nat) : ∀ k, ((left k [c]).map f).sum = sm f k - if c < k then f c else 0
  | 0 => by simp [left_zero, sm]
  | k + 1 => by
    rw [left_succ, List.map_append, sum_append', left_sum_one f c k]
    show _ = sm f k + f k - _
    by_cases h : k = c
    · subst h; simp; try omega
    · have : ([c].contains k) = false := by simp [h]
      rw [this]
      simp only [Bool.false_eq_true, if_false, List.map_cons, List.map_nil, sum_one]
      by_cases h2 : c < k
      · rw [if_pos h2, if_pos (by omega)]; omega
      · rw [if_neg h2, if_neg (by omega)]; omega
theorem left_sum_two (f : Nat → Int) {x y : Nat} (hxy : x < y) : ∀ k, ((left k [x, y]).map f).sum = sm f k - (if x < k then f x else 0) - if y < k then f y else 0
  | 0 => by simp [left_zero, sm]
  | k + 1 => by
    rw [left_succ, List.map_append, sum_append', left_sum_two f hxy k]
    show _ = sm f k + f k - _ - _
    by_cases h : k = x
    · subst h
      have : ([k, y].contains k) = true := by simp
      rw [this]
      simp only [if_true, List.map_nil, List.sum_nil]
      rw [if_neg (Nat.lt_irrefl _), if_pos (Nat.lt_succ_self _), if_neg (by omega), if_neg (by omega)]
      omega
    · by_cases h3 : k = y
      · subst h3
        have : ([x, k].contains k) = true := by simp
        rw [this]
        simp only [if_true, List.map_nil, List.sum_nil]
        rw [if_pos hxy, if_neg (Nat.lt_irrefl k), if_pos (show x < k + 1 by omega), if_pos (Nat.lt_succ_self k)]
        omega
      · have : ([x, y].contains k) = false := by simp [h, h3]
        rw [this]
        simp only [Bool.false_eq_true, if_false, List.map_cons, List.map_nil, sum_one]
        by_cases h2 : x < k <;> by_cases h4 : y < k
        · rw [if_pos h2, if_pos (show x < k + 1 by omega), if_pos h4, if_pos (show y < k + 1 by omega)]; omega
        · rw [if_pos h2, if_pos (show x < k + 1 by omega), if_neg h4, if_neg (show ¬ y < k + 1 by omega)]; omega
        · omega
        · rw [if_neg h2, if_neg (show ¬ x < k + 1 by omega), if_neg h4, if_neg (show ¬ y < k + 1 by omega)]; omega
/-- A list's sum, prefix by prefix. -/
theorem sm_list (l : List Int) : sm (fun c => l.getD c 0) l.length = l.sum := by
  have key : ∀ (l : List Int) (k : Nat), k ≤ l.length → sm (fun c => l.getD c 0) k = (l.take k).sum := by
    intro l k
    induction k with
    | zero => intro _; rfl
    | succ k ih =>
      intro h
      show sm _ k + l.getD k 0 = _
      rw [ih (by omega), List.take_add_one, List.getElem?_eq_getElem (by omega), sum_append', List.getD_eq_getElem?_getD, List.getElem?_eq_getElem (by omega)]
      simp
  rw [key l l.length (Nat.le_refl _), List.take_length]
theorem shrS_one (sg : List Int) {c : Nat} (h : c < sg.length) : (shrS [c] sg).sum = sg.sum - sg.getD c 0 := by
  unfold shrS
  rw [left_sum_one, if_pos h, sm_list]
theorem shrS_two (sg : List Int) {x y : Nat} (hxy : x < y) (h : y < sg.length) : (shrS [x, y] sg).sum = sg.sum - sg.getD x 0 - sg.getD y 0 := by
  unfold shrS
  rw [left_sum_two _ hxy, if_pos (by omega), if_pos h, sm_list]
/-- THE SIGNS OF A LENS are opposite. -/
theorem lens_signs {d : Dg} (hd : Wf d) {h : Nat} (hh : h < 4 * d.n) (hg : nx d (nx d h) = h) (hp : h % 2 = d.m h % 2) : d.s (h / 4) + d.s (nx d h / 4) = 0 := by
  have hm := hd.lt h hh
  have w1 := hd.way h hh
  have hgl : nx d h < 4 * d.n := tn_lt hm
  have w2 := hd.way (nx d h) hgl
  have s1 := hd.sign (h / 4) (by omega)
  have s2 := hd.sign (d.m h / 4) (by omega)
  have e1 : d.m (nx d h) / 4 = h / 4 := by
    have := congrArg (· / 4) hg
    simp only [nx, tn_div] at this
    exact this
  have e2 : d.m (nx d h) % 4 = (h % 4 + 1) % 4 := by
    have := congrArg (· % 4) hg
    unfold nx at this
    simp only [tn_mod] at this
    rw [← this]
    unfold nx
    omega
  have e3 : nx d h / 4 = d.m h / 4 := by unfold nx; rw [tn_div]
  have e4 : nx d h % 4 = (d.m h % 4 + 3) % 4 := by unfold nx; rw [tn_mod]
  rw [e3]
  unfold out at w1 w2
  rw [e1, e2, e3, e4] at w2
  generalize d.s (h / 4) = s at *
  generalize d.s (d.m h / 4) = t at *
  have ha : h % 4 = 0 ∨ h % 4 = 1 ∨ h % 4 = 2 ∨ h % 4 = 3 := by omega
  have hb : d.m h % 4 = 0 ∨ d.m h % 4 = 1 ∨ d.m h % 4 = 2 ∨ d.m h % 4 = 3 := by omega
  rcases ha with a | a | a | a <;> rcases hb with b | b | b | b <;> (first | (exfalso; omega) | skip) <;> rw [a, b] at w1 w2 <;> rcases s1 with rfl | rfl <;> rcases s2 with rfl | rfl <;> simp at w1 w2 ⊢
end Go.Proofs.Ytobbepmlmbbamaa.Pl
end
