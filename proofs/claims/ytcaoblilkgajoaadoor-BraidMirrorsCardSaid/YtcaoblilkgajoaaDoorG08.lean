/-
 The texts Unk, Pok, Pkv, Str in one.
-/
import Derived.Test.YtcaoblilkgajoaaDoorG07
set_option linter.unusedVariables false
set_option linter.unusedSimpArgs false
section
namespace Go.Proofs.YtcaoblilkgajoaaDoor.Pl
variable {d : Dg}
/-- Edges lead from outgoing half-edges to incoming ones. -/
def Wy (d : Dg) (b : Nat → Nat) : Prop := ∀ z, z < 4 * d.n → b z ≠ z → out d (b z) = !out d z
theorem wy_m (hd : Wf d) : Wy d d.m := fun z hz _ => out_way hd hz
theorem byp_wy {b : Nat → Nat} (h : Hm (4 * d.n) (dart d) rot b) (hw : Wy d b) {u v : Nat} (hu : u < 4 * d.n) (hv : v < 4 * d.n) (huv : u ≠ v) (nu : b u ≠ u) (nv : b v ≠ v) (nuv : b u ≠ v) (ho : out d v = !out d u) : Wy d (byp b u v) := by
 obtain ⟨b1, b2, b3, b4, b5⟩ := byp_at h hu hv huv nu nv nuv
 intro z hz hne
 by_cases z1 : z = u
 ·subst z1; exact absurd b1 hne
 ·by_cases z2 : z = v
  ·subst z2; exact absurd b2 hne
  ·by_cases z3 : z = b u
   ·rw [z3, b3, hw u hu nu, hw v hv nv, ho]
   ·by_cases z4 : z = b v
    ·rw [z4, b4, hw u hu nu, hw v hv nv, ho, Bool.not_not]
    ·rw [b5 z z1 z2 z3 z4] at hne ⊢
     exact hw z hz hne
/-- What a lens at h is: its mate u lies at another crossing; the face to the left of h is h and the half-edge behind u. -/
structure Lens (d : Dg) (h u : Nat) : Prop where
 hh : h < 4 * d.n
 m0 : d.m h = u
 m1 : d.m (tn h 1) = tn u 3
 ne : h / 4 ≠ u / 4
/-- One of the two strands closed behind the lens. -/
def cls (b : Nat → Nat) (u v : Nat) : Nat → Nat := if b u = v then b else byp b u v
section
variable {h u : Nat}
theorem Lens.hu (hd : Wf d) (L : Lens d h u) : u < 4 * d.n := by rw [← L.m0]; exact hd.lt h L.hh
theorem Lens.m2 (hd : Wf d) (L : Lens d h u) : d.m u = h := by rw [← L.m0]; exact hd.inv h L.hh
theorem Lens.m3 (hd : Wf d) (L : Lens d h u) : d.m (tn u 3) = tn h 1 := by rw [← L.m1]; exact hd.inv _ (tn_lt L.hh)
/-- The first strand. -/
def lA (d : Dg) (h u : Nat) : Nat → Nat := cls d.m (tn h 2) (tn u 2)
/-- Both. -/
def lB (d : Dg) (h u : Nat) : Nat → Nat := cls (lA d h u) (tn h 3) (tn u 1)
theorem ap {x y : Nat} (e : x / 4 ≠ y / 4) : x ≠ y := fun h => e (by rw [h])
theorem pm {j k h u : Nat} (e : h / 4 ≠ u / 4) : tn h j ≠ tn u k := ap (by rw [tn_div, tn_div]; exact e)
theorem pm0 {j h u : Nat} (e : h / 4 ≠ u / 4) : tn h j ≠ u := ap (by rw [tn_div]; exact e)
theorem pm1 {k h u : Nat} (e : h / 4 ≠ u / 4) : h ≠ tn u k := ap (by rw [tn_div]; exact e)
theorem pmz {h k : Nat} (e : k % 4 ≠ 0) : h ≠ tn h k := by unfold tn; omega
/-- What the first strand's closing leaves. -/
structure LA (d : Dg) (h u : Nat) (b : Nat → Nat) : Prop where
 hm : Hm (4 * d.n) (dart d) rot b
 fl : Flat (dart d) rot b
 wy : Wy d b
 e0 : b h = u
 e1 : b (tn h 1) = tn u 3
 e2 : b u = h
 e3 : b (tn u 3) = tn h 1
 c : (b (tn h 2) = tn u 2 ∧ b (tn u 2) = tn h 2) ∨ (b (tn h 2) = tn h 2 ∧ b (tn u 2) = tn u 2)
 nf : ∀ z, z < 4 * d.n → z ≠ tn h 2 → z ≠ tn u 2 → b z ≠ z
theorem Lens.la (hd : Valid d) (L : Lens d h u) : LA d h u (lA d h u) := by
 have hv := Valid.iff.1 hd
 have hw := hv.1
 have hu := L.hu hw
 have hh := L.hh
 have E := L.ne
 have hA : tn h 2 < 4 * d.n := tn_lt hh
 have hB : tn u 2 < 4 * d.n := tn_lt hu
 have m0 := L.m0
 have m1 := L.m1
 have m2 := L.m2 hw
 have m3 := L.m3 hw
 unfold lA cls
 by_cases hc : d.m (tn h 2) = tn u 2
 ·rw [if_pos hc]
  exact ⟨hw.hm, hv.2, wy_m hw, m0, m1, m2, m3, .inl ⟨hc, by rw [← hc, hw.inv _ hA]⟩, fun z hz _ _ => hw.ne z hz⟩
 ·rw [if_neg hc]
  have hAB : tn h 2 ≠ tn u 2 := pm E
  have nA := hw.ne _ hA
  have nB := hw.ne _ hB
  obtain ⟨b1, b2, b3, b4, b5⟩ := byp_at hw.hm hA hB hAB nA nB hc
  obtain ⟨c0, c1, c2, c3, c4, c5, c6, c7⟩ := cut2_hm hw.hm hA hB hAB nA nB hc
  -- the four inner half-edges are none of the outer ones' mates
  have ni : ∀ z, z < 4 * d.n → d.m z ≠ tn h 2 → d.m z ≠ tn u 2 → z ≠ d.m (tn h 2) ∧ z ≠ d.m (tn u 2) := fun z hz n1 n2 =>
   ⟨fun e => n1 (by rw [e, hw.inv _ hA]), fun e => n2 (by rw [e, hw.inv _ hB])⟩
  have n0 := ni h hh (by rw [m0]; exact Ne.symm (pm0 E)) (by rw [m0]; exact pmz (by omega))
  have n1 := ni (tn h 1) (tn_lt hh) (by rw [m1]; exact Ne.symm (pm E)) (by rw [m1]; exact tn_ne (by omega))
  have n2 := ni u hu (by rw [m2]; exact pmz (by omega)) (by rw [m2]; exact pm1 E)
  have n3 := ni (tn u 3) (tn_lt hu) (by rw [m3]; exact tn_ne (by omega)) (by rw [m3]; exact pm E)
  have ho : Orb (phi rot (cut2 d.m (tn h 2) (tn u 2))) (tn h 2) (tn u 2) := by
   refine ⟨2, ?_⟩
   show phi rot _ (phi rot _ (tn h 2)) = tn u 2
   have s1 : phi rot (cut2 d.m (tn h 2) (tn u 2)) (tn h 2) = tn h 1 := by unfold phi; rw [c1]; unfold rot; rw [tn_tn]; unfold tn; omega
   have s2 : phi rot (cut2 d.m (tn h 2) (tn u 2)) (tn h 1) = tn u 2 := by
    unfold phi; rw [cut2_at _ _ (tn_ne (by omega)) (pm E) n1.1 n1.2, m1]; unfold rot; rw [tn_tn]; unfold tn; omega
   rw [s1, s2]
  obtain ⟨g1, g2⟩ := byp_flat hw.hm hA hB hAB nA nB hc ho hv.2
  refine ⟨g1, g2, byp_wy hw.hm (wy_m hw) hA hB hAB nA nB hc ?_, ?_, ?_, ?_, ?_, .inr ⟨b1, b2⟩, ?_⟩
  ·rw [out_opp hw hu, out_opp hw hh, ← m0, out_way hw hh]
  ·rw [b5 h (pmz (by omega)) (pm1 E) n0.1 n0.2, m0]
  ·rw [b5 _ (tn_ne (by omega)) (pm E) n1.1 n1.2, m1]
  ·rw [b5 u (Ne.symm (pm0 E)) (pmz (by omega)) n2.1 n2.2, m2]
  ·rw [b5 _ (Ne.symm (pm E)) (tn_ne (by omega)) n3.1 n3.2, m3]
  ·intro z hz z1 z2
   by_cases z3 : z = d.m (tn h 2)
   ·rw [z3, b3]; exact Ne.symm c6
   ·by_cases z4 : z = d.m (tn u 2)
    ·rw [z4, b4]; exact c6
    ·rw [b5 z z1 z2 z3 z4]; exact hw.ne z hz
/-- What the closing of both leaves. -/
structure LB2 (d : Dg) (h u : Nat) (b : Nat → Nat) : Prop where
 hm : Hm (4 * d.n) (dart d) rot b
 fl : Flat (dart d) rot b
 wy : Wy d b
 e0 : b h = u
 e1 : b (tn h 1) = tn u 3
 e2 : b u = h
 e3 : b (tn u 3) = tn h 1
 c : (b (tn h 2) = tn u 2 ∧ b (tn u 2) = tn h 2) ∨ (b (tn h 2) = tn h 2 ∧ b (tn u 2) = tn u 2)
 c' : (b (tn h 3) = tn u 1 ∧ b (tn u 1) = tn h 3) ∨ (b (tn h 3) = tn h 3 ∧ b (tn u 1) = tn u 1)
 nf : ∀ z, z < 4 * d.n → z ≠ tn h 2 → z ≠ tn u 2 → z ≠ tn h 3 → z ≠ tn u 1 → b z ≠ z
theorem LA.lb (hw : Wf d) (L : Lens d h u) {a : Nat → Nat} (A : LA d h u a) : LB2 d h u (cls a (tn h 3) (tn u 1)) := by
 have hu := L.hu hw
 have hh := L.hh
 have E := L.ne
 have h3 : tn h 3 < 4 * d.n := tn_lt hh
 have u1 : tn u 1 < 4 * d.n := tn_lt hu
 have n3 := A.nf _ h3 (tn_ne (by omega)) (pm E)
 have n1 := A.nf _ u1 (Ne.symm (pm E)) (tn_ne (by omega))
 unfold cls
 by_cases hc : a (tn h 3) = tn u 1
 ·rw [if_pos hc]
  exact ⟨A.hm, A.fl, A.wy, A.e0, A.e1, A.e2, A.e3, A.c, .inl ⟨hc, by rw [← hc, A.hm.inv _ h3]⟩, fun z hz z1 z2 _ _ => A.nf z hz z1 z2⟩
 ·rw [if_neg hc]
  have hAB : tn h 3 ≠ tn u 1 := pm E
  obtain ⟨b1, b2, b3, b4, b5⟩ := byp_at A.hm h3 u1 hAB n3 n1 hc
  obtain ⟨c0, c1, c2, c3, c4, c5, c6, c7⟩ := cut2_hm A.hm h3 u1 hAB n3 n1 hc
  have ni : ∀ z, z < 4 * d.n → a z ≠ tn h 3 → a z ≠ tn u 1 → z ≠ a (tn h 3) ∧ z ≠ a (tn u 1) := fun z hz n1 n2 =>
   ⟨fun e => n1 (by rw [e, A.hm.inv _ h3]), fun e => n2 (by rw [e, A.hm.inv _ u1])⟩
  have k0 := ni h hh (by rw [A.e0]; exact Ne.symm (pm0 E)) (by rw [A.e0]; exact pmz (by omega))
  have k1 := ni (tn h 1) (tn_lt hh) (by rw [A.e1]; exact Ne.symm (pm E)) (by rw [A.e1]; exact tn_ne (by omega))
  have k2 := ni u hu (by rw [A.e2]; exact pmz (by omega)) (by rw [A.e2]; exact pm1 E)
  have k3 := ni (tn u 3) (tn_lt hu) (by rw [A.e3]; exact tn_ne (by omega)) (by rw [A.e3]; exact pm E)
  have k4 : tn h 2 ≠ a (tn h 3) ∧ tn h 2 ≠ a (tn u 1) := ni (tn h 2) (tn_lt hh) (by rcases A.c with ⟨e, _⟩ | ⟨e, _⟩ <;> rw [e]; exact Ne.symm (pm E); exact tn_ne (by omega)) (by rcases A.c with ⟨e, _⟩ | ⟨e, _⟩ <;> rw [e]; exact tn_ne (by omega); exact pm E)
  have k5 : tn u 2 ≠ a (tn h 3) ∧ tn u 2 ≠ a (tn u 1) := ni (tn u 2) (tn_lt hu) (by rcases A.c with ⟨_, e⟩ | ⟨_, e⟩ <;> rw [e]; exact tn_ne (by omega); exact Ne.symm (pm E)) (by rcases A.c with ⟨_, e⟩ | ⟨_, e⟩ <;> rw [e]; exact pm E; exact tn_ne (by omega))
  have r2 : cut2 a (tn h 3) (tn u 1) (tn h 2) = a (tn h 2) := cut2_at _ _ (tn_ne (by omega)) (pm E) k4.1 k4.2
  have r5 : cut2 a (tn h 3) (tn u 1) (tn u 2) = a (tn u 2) := cut2_at _ _ (Ne.symm (pm E)) (tn_ne (by omega)) k5.1 k5.2
  have r1 : cut2 a (tn h 3) (tn u 1) (tn h 1) = tn u 3 := by rw [cut2_at _ _ (tn_ne (by omega)) (pm E) k1.1 k1.2, A.e1]
  have s1 : phi rot (cut2 a (tn h 3) (tn u 1)) (tn h 3) = tn h 2 := by unfold phi; rw [c1]; unfold rot; rw [tn_tn]; unfold tn; omega
  have ho : Orb (phi rot (cut2 a (tn h 3) (tn u 1))) (tn h 3) (tn u 1) := by
   rcases A.c with ⟨e, _⟩ | ⟨e, e'⟩
   ·have s2 : phi rot (cut2 a (tn h 3) (tn u 1)) (tn h 2) = tn u 1 := by unfold phi; rw [r2, e]; unfold rot; rw [tn_tn]; unfold tn; omega
    refine ⟨2, ?_⟩
    show phi rot _ (phi rot _ (tn h 3)) = tn u 1
    rw [s1, s2]
   ·have s2 : phi rot (cut2 a (tn h 3) (tn u 1)) (tn h 2) = tn h 1 := by unfold phi; rw [r2, e]; unfold rot; rw [tn_tn]; unfold tn; omega
    have s3 : phi rot (cut2 a (tn h 3) (tn u 1)) (tn h 1) = tn u 2 := by unfold phi; rw [r1]; unfold rot; rw [tn_tn]; unfold tn; omega
    have s4 : phi rot (cut2 a (tn h 3) (tn u 1)) (tn u 2) = tn u 1 := by unfold phi; rw [r5, e']; unfold rot; rw [tn_tn]; unfold tn; omega
    refine ⟨4, ?_⟩
    show phi rot _ (phi rot _ (phi rot _ (phi rot _ (tn h 3)))) = tn u 1
    rw [s1, s2, s3, s4]
  obtain ⟨g1, g2⟩ := byp_flat A.hm h3 u1 hAB n3 n1 hc ho A.fl
  have w1 : out d (tn u 1) = !out d (tn h 3) := by
   have a1 : out d (tn (tn h 1) 2) = !out d (tn h 1) := out_opp hw (tn_lt hh)
   have a2 : out d (tn (tn u 3) 2) = !out d (tn u 3) := out_opp hw (tn_lt hu)
   rw [tn_tn] at a1 a2
   rw [show tn u (3 + 2) = tn u 1 by unfold tn; omega] at a2
   have a3 := out_way hw (tn_lt (k := 1) hh)
   rw [L.m1] at a3
   rw [a2, a3, ← a1]
  refine ⟨g1, g2, byp_wy A.hm A.wy h3 u1 hAB n3 n1 hc w1, ?_, ?_, ?_, ?_, ?_, .inr ⟨b1, b2⟩, ?_⟩
  ·rw [b5 h (pmz (by omega)) (pm1 E) k0.1 k0.2, A.e0]
  ·rw [b5 _ (tn_ne (by omega)) (pm E) k1.1 k1.2, A.e1]
  ·rw [b5 u (Ne.symm (pm0 E)) (pmz (by omega)) k2.1 k2.2, A.e2]
  ·rw [b5 _ (Ne.symm (pm E)) (tn_ne (by omega)) k3.1 k3.2, A.e3]
  ·rw [b5 _ (tn_ne (by omega)) (pm E) k4.1 k4.2, b5 _ (Ne.symm (pm E)) (tn_ne (by omega)) k5.1 k5.2]; exact A.c
  ·intro z hz z1 z2 z5 z6
   by_cases z3 : z = a (tn h 3)
   ·rw [z3, b3]; exact Ne.symm c6
   ·by_cases z4 : z = a (tn u 1)
    ·rw [z4, b4]; exact c6
    ·rw [b5 z z5 z6 z3 z4]; exact A.nf z hz z1 z2
theorem Lens.lb (hd : Valid d) (L : Lens d h u) : LB2 d h u (lB d h u) := (L.la hd).lb (Valid.iff.1 hd).1 L
theorem LB2.rs (hw : Wf d) (L : Lens d h u) {b : Nat → Nat} (B : LB2 d h u b) {x y : Nat} (hxy : x < y) (hx : (x = h / 4 ∧ y = u / 4) ∨ (x = u / 4 ∧ y = h / 4)) {mt : List Nat} {lp : Nat} (hl : lp ≤ 64)
 (hmt : ∀ z, stay d [x, y] z → mt.getD z 0 = b z) : Rs d [x, y] mt lp b := by
 have hin : ∀ z, z / 4 ∈ [x, y] ↔ z / 4 = h / 4 ∨ z / 4 = u / 4 := fun z => by
  rw [List.mem_cons, List.mem_singleton]
  rcases hx with ⟨rfl, rfl⟩ | ⟨rfl, rfl⟩
  ·exact Iff.rfl
  ·exact Or.comm
 have s0 : ∀ k, tn h k / 4 = h / 4 ∨ tn h k / 4 = u / 4 := fun k => .inl (tn_div h k)
 have s1 : ∀ k, tn u k / 4 = h / 4 ∨ tn u k / 4 = u / 4 := fun k => .inr (tn_div u k)
 refine ⟨by simp; omega, few_two hxy, B.hm, fun z hz => ?_, hmt, fun z hz e => ?_, hl⟩
 ·rw [hin]
  rcases (hin z).1 hz.2 with hz2 | hz2
  ·have : z = h ∨ z = tn h 1 ∨ z = tn h 2 ∨ z = tn h 3 := by unfold tn; omega
   rcases this with rfl | rfl | rfl | rfl
   ·rw [B.e0]; exact .inr rfl
   ·rw [B.e1]; exact s1 _
   ·rcases B.c with ⟨e, _⟩ | ⟨e, _⟩ <;> rw [e]; exact s1 _; exact s0 _
   ·rcases B.c' with ⟨e, _⟩ | ⟨e, _⟩ <;> rw [e]; exact s1 _; exact s0 _
  ·have : z = u ∨ z = tn u 1 ∨ z = tn u 2 ∨ z = tn u 3 := by unfold tn; omega
   rcases this with rfl | rfl | rfl | rfl
   ·rw [B.e2]; exact .inl rfl
   ·rcases B.c' with ⟨_, e⟩ | ⟨_, e⟩ <;> rw [e]; exact s0 _; exact s1 _
   ·rcases B.c with ⟨_, e⟩ | ⟨_, e⟩ <;> rw [e]; exact s0 _; exact s1 _
   ·rw [B.e3]; exact s0 _
 ·have hno : ¬ (z / 4 = h / 4 ∨ z / 4 = u / 4) := fun e => hz.2 ((hin z).2 e)
  have hq : ∀ k, z ≠ tn h k ∧ z ≠ tn u k := fun k => ⟨fun e => hno (by rw [e]; exact s0 k), fun e => hno (by rw [e]; exact s1 k)⟩
  have := B.wy z hz.1 (B.nf z hz.1 (hq 2).1 (hq 2).2 (hq 3).1 (hq 1).2)
  rw [this] at e
  cases h : out d z <;> rw [h] at e <;> exact absurd e (by decide)
theorem Lens.valid (hd : Valid d) (L : Lens d h u) {x y : Nat} (hxy : x < y) (hx : (x = h / 4 ∧ y = u / 4) ∨ (x = u / 4 ∧ y = h / 4)) {mt : List Nat} {lp : Nat} (hl : lp ≤ 64)
 (hmt : ∀ z, stay d [x, y] z → mt.getD z 0 = lB d h u z) : Valid (rsD d [x, y] mt lp) :=
 ((L.lb hd).rs (Valid.iff.1 hd).1 L hxy hx hl hmt).valid (Valid.iff.1 hd).1 (L.lb hd).fl
end
end Go.Proofs.YtcaoblilkgajoaaDoor.Pl
end
section
namespace Go.Proofs.YtcaoblilkgajoaaDoor.Pl
def jl (l : List Nat) (a b : Nat) : List Nat := (l.set a b).set b a
theorem jl_len (l : List Nat) (a b : Nat) : (jl l a b).length = l.length := by unfold jl; simp
theorem jset_getD (l : List Nat) (a v z : Nat) (ha : a < l.length) : (l.set a v).getD z 0 = if z = a then v else l.getD z 0 := by
 rw [List.getD_eq_getElem?_getD, List.getD_eq_getElem?_getD, List.getElem?_set]
 by_cases e : a = z
 ·subst e; simp [ha]
 ·rw [if_neg e, if_neg (Ne.symm e)]
theorem jl_at {l : List Nat} {a b : Nat} (ha : a < l.length) (hb : b < l.length) (z : Nat) : (jl l a b).getD z 0 = if z = b then a else if z = a then b else l.getD z 0 := by
 unfold jl
 rw [jset_getD _ _ _ _ (by simpa using hb), jset_getD _ _ _ _ ha]
theorem tr_fix {a : Nat → Nat} {x y z : Nat} (hne : x ≠ y) (fx : a x = x) (fy : a y = y) (e : tr a x y z = z) : a z = z ∧ z ≠ x ∧ z ≠ y := by
 by_cases h1 : z = x
 ·subst h1; rw [tr_a, fy] at e; exact absurd e.symm hne
 ·by_cases h2 : z = y
  ·subst h2; rw [tr_b, fx] at e; exact absurd e hne
  ·rw [tr_ne h1 h2] at e; exact ⟨e, h1, h2⟩
/-- A list of mates that grows: darts without a mate are fixed by a. -/
structure MS (M : Nat) (o : Nat → Bool) (l : List Nat) (a : Nat → Nat) : Prop where
 hm : Hm (4 * M) (fun h => h < 4 * M) rot a
 fl : Flat (fun h => h < 4 * M) rot a
 wy : ∀ z, z < 4 * M → a z ≠ z → o (a z) = !o z
 len : l.length = 4 * M
 at_ : ∀ z, z < 4 * M → a z ≠ z → l.getD z 0 = a z
section
variable {M : Nat} {o : Nat → Bool} {l : List Nat} {a : Nat → Nat}
theorem MS.join' (m : MS M o l a) {x y : Nat} (hx : x < 4 * M) (hy : y < 4 * M) (hne : x ≠ y) (fx : a x = x) (fy : a y = y) (ho : o y = !o x) (hf : Flat (fun h => h < 4 * M) rot (tr a x y)) : MS M o (jl l x y) (tr a x y) := by
 refine ⟨m.hm.tr hx hy fx fy, hf, fun z hz e => ?_, by rw [jl_len, m.len], fun z hz e => ?_⟩
 ·by_cases h1 : z = x
  ·subst h1; rw [tr_a, fy, ho]
  ·by_cases h2 : z = y
   ·subst h2; rw [tr_b, fx, ho, Bool.not_not]
   ·rw [tr_ne h1 h2] at e ⊢; exact m.wy z hz e
 ·rw [jl_at (by rw [m.len]; exact hx) (by rw [m.len]; exact hy)]
  by_cases h2 : z = y
  ·subst h2; rw [if_pos rfl, tr_b, fx]
  ·rw [if_neg h2]
   by_cases h1 : z = x
   ·subst h1; rw [if_pos rfl, tr_a, fy]
   ·rw [if_neg h1, tr_ne h1 h2]; rw [tr_ne h1 h2] at e; exact m.at_ z hz e
theorem MS.join (m : MS M o l a) {x y : Nat} (hx : x < 4 * M) (hy : y < 4 * M) (hne : x ≠ y) (fx : a x = x) (fy : a y = y) (ho : o y = !o x) (hc : Orb (phi rot a) x y ∨ Orb (phi rot a) y x ∨ ¬ Con rot a x y) : MS M o (jl l x y) (tr a x y) := by
 refine m.join' hx hy hne fx fy ho (Flat.add m.hm hx hy hne fx fy (fun e => ?_) m.fl)
 rcases hc with h | h | h
 ·exact h
 ·exact m.hm.pb.symm hy h
 ·exact absurd e h
/-- Two edges in the place of one, their list as it is. -/
theorem MS.two (m : MS M o l a) {x u v : Nat} (hx : x < 4 * M) (hu : u < 4 * M) (hv : v < 4 * M) (huv : u ≠ v) (nx : a x ≠ x) (fu : a u = u) (fv : a v = v) (ou : o u = !o x) (ov : o v = o x)
 (hf : Flat (fun h => h < 4 * M) rot (tr (tr (tr a x (a x)) x u) v (a x))) : MS M o (jl (jl l x u) v (a x)) (tr (tr (tr a x (a x)) x u) v (a x)) := by
 obtain ⟨c1, c2, c3⟩ := Hm.cut m.hm hx nx
 have hy : a x < 4 * M := m.hm.ab.maps x hx
 have xu : x ≠ u := fun e => nx (by rw [e]; exact fu)
 have xv : x ≠ v := fun e => nx (by rw [e]; exact fv)
 have yu : a x ≠ u := fun e => by have := m.hm.inv x hx; rw [e, fu] at this; exact xu this.symm
 have yv : a x ≠ v := fun e => by have := m.hm.inv x hx; rw [e, fv] at this; exact xv this.symm
 have fu1 : tr a x (a x) u = u := by rw [tr_ne (Ne.symm xu) (Ne.symm yu), fu]
 have fv1 : tr a x (a x) v = v := by rw [tr_ne (Ne.symm xv) (Ne.symm yv), fv]
 have h1 := c1.tr hx hu c2 fu1
 have fv2 : tr (tr a x (a x)) x u v = v := by rw [tr_ne (Ne.symm xv) (Ne.symm huv), fv1]
 have fy2 : tr (tr a x (a x)) x u (a x) = a x := by rw [tr_ne nx yu, c3]
 have oy := m.wy x hx nx
 have e1 : tr (tr (tr a x (a x)) x u) v (a x) x = u := by rw [tr_ne xv (Ne.symm nx), tr_a, fu1]
 have e2 : tr (tr (tr a x (a x)) x u) v (a x) u = x := by rw [tr_ne huv (Ne.symm yu), tr_b, c2]
 have e3 : tr (tr (tr a x (a x)) x u) v (a x) v = a x := by rw [tr_a, fy2]
 have e4 : tr (tr (tr a x (a x)) x u) v (a x) (a x) = v := by rw [tr_b, fv2]
 have e5 : ∀ z, z ≠ x → z ≠ u → z ≠ v → z ≠ a x → tr (tr (tr a x (a x)) x u) v (a x) z = a z := fun z z1 z2 z3 z4 => by rw [tr_ne z3 z4, tr_ne z1 z2, tr_ne z1 z4]
 refine ⟨h1.tr hv hy fv2 fy2, hf, fun z hz e => ?_, by rw [jl_len, jl_len, m.len], fun z hz e => ?_⟩
 ·by_cases z1 : z = x
  ·rw [z1, e1, ou]
  ·by_cases z2 : z = u
   ·rw [z2, e2, ou, Bool.not_not]
   ·by_cases z3 : z = v
    ·rw [z3, e3, oy, ov]
    ·by_cases z4 : z = a x
     ·rw [z4, e4, oy, ov, Bool.not_not]
     ·rw [e5 z z1 z2 z3 z4] at e ⊢; exact m.wy z hz e
 ·rw [jl_at (by rw [jl_len, m.len]; exact hv) (by rw [jl_len, m.len]; exact hy)]
  by_cases z4 : z = a x
  ·rw [if_pos z4, z4, e4]
  ·rw [if_neg z4]
   by_cases z3 : z = v
   ·rw [if_pos z3, z3, e3]
   ·rw [if_neg z3, jl_at (by rw [m.len]; exact hx) (by rw [m.len]; exact hu)]
    by_cases z2 : z = u
    ·rw [if_pos z2, z2, e2]
    ·rw [if_neg z2]
     by_cases z1 : z = x
     ·rw [if_pos z1, z1, e1]
     ·rw [if_neg z1, e5 z z1 z2 z3 z4]; rw [e5 z z1 z2 z3 z4] at e; exact m.at_ z hz e
theorem two_fix (m : MS M o l a) {x u v z : Nat} (hx : x < 4 * M) (hu : u < 4 * M) (hv : v < 4 * M) (huv : u ≠ v) (nx : a x ≠ x) (fu : a u = u) (fv : a v = v) (e : tr (tr (tr a x (a x)) x u) v (a x) z = z) : a z = z ∧ z ≠ u ∧ z ≠ v := by
 have xu : x ≠ u := fun e => nx (by rw [e]; exact fu)
 have xv : x ≠ v := fun e => nx (by rw [e]; exact fv)
 have yu : a x ≠ u := fun e => by have := m.hm.inv x hx; rw [e, fu] at this; exact xu this.symm
 have yv : a x ≠ v := fun e => by have := m.hm.inv x hx; rw [e, fv] at this; exact xv this.symm
 obtain ⟨c1, c2, c3⟩ := Hm.cut m.hm hx nx
 have fu1 : tr a x (a x) u = u := by rw [tr_ne (Ne.symm xu) (Ne.symm yu), fu]
 have fv1 : tr a x (a x) v = v := by rw [tr_ne (Ne.symm xv) (Ne.symm yv), fv]
 have fv2 : tr (tr a x (a x)) x u v = v := by rw [tr_ne (Ne.symm xv) (Ne.symm huv), fv1]
 have fy2 : tr (tr a x (a x)) x u (a x) = a x := by rw [tr_ne nx yu, c3]
 obtain ⟨g1, g2, g3⟩ := tr_fix (Ne.symm yv) fv2 fy2 e
 obtain ⟨g4, g5, g6⟩ := tr_fix xu c2 fu1 g1
 rw [tr_ne g5 g3] at g4
 exact ⟨g4, g6, g2⟩
/-- A part that hangs together with nothing is laid into the edge of x. -/
theorem MS.detour (m : MS M o l a) {x u v : Nat} (hx : x < 4 * M) (hu : u < 4 * M) (hv : v < 4 * M) (huv : u ≠ v) (nx : a x ≠ x) (fu : a u = u) (fv : a v = v) (ou : o u = !o x) (ov : o v = o x)
 (n1 : ¬ Con rot a x u) (ho : Orb (phi rot a) v u) : MS M o (jl (jl l x u) v (a x)) (tr (tr (tr a x (a x)) x u) v (a x)) := by
 refine m.two hx hu hv huv nx fu fv ou ov ?_
 obtain ⟨c1, c2, c3⟩ := Hm.cut m.hm hx nx
 have hy : a x < 4 * M := m.hm.ab.maps x hx
 have xu : x ≠ u := fun e => nx (by rw [e]; exact fu)
 have xv : x ≠ v := fun e => nx (by rw [e]; exact fv)
 have yu : a x ≠ u := fun e => by have := m.hm.inv x hx; rw [e, fu] at this; exact xu this.symm
 have yv : a x ≠ v := fun e => by have := m.hm.inv x hx; rw [e, fv] at this; exact xv this.symm
 have fu1 : tr a x (a x) u = u := by rw [tr_ne (Ne.symm xu) (Ne.symm yu), fu]
 have fv1 : tr a x (a x) v = v := by rw [tr_ne (Ne.symm xv) (Ne.symm yv), fv]
 -- what the cut map holds together, the whole one does
 have up : ∀ {z w}, z < 4 * M → Con rot (tr a x (a x)) z w → Con rot a z w := by
  intro z w hz e
  refine con_sub c1 m.hm.ceqv (fun t _ => Con.refl.left) (fun t ht => ?_) hz e
  by_cases t1 : t = x
  ·subst t1; rw [c2]; exact .refl
  ·by_cases t2 : t = a x
   ·subst t2; rw [c3]; exact .refl
   ·rw [tr_ne t1 t2]; exact Con.refl.right
 have cxy : Con rot a x (a x) := Con.refl.right
 have k1 : ¬ Con rot (tr a x (a x)) x u := fun e => n1 (up hx e)
 have k2 : ¬ Con rot (tr a x (a x)) (a x) u := fun e => n1 (cxy.trans (up hy e))
 -- v's face does not come to x
 have ho2 : Orb (phi rot (tr a x (a x))) v u := by
  have cv : Con rot a v u := orb_phi_con ho
  obtain ⟨k, hk⟩ := ho
  have run : ∀ j, it (phi rot (tr a x (a x))) j v = it (phi rot a) j v := by
   intro j
   induction j with
   | zero => rfl
   | succ j ih =>
     show phi rot (tr a x (a x)) (it (phi rot (tr a x (a x))) j v) = phi rot a (it (phi rot a) j v)
     rw [ih]
     have hz := m.hm.pb.it j v hv
     have ov' : Con rot a v (it (phi rot a) j v) := orb_phi_con ⟨j, rfl⟩
     have z1 : it (phi rot a) j v ≠ x := fun e => n1 (by rw [e] at ov'; exact (m.hm.con_symm hv ov').trans cv)
     have z2 : it (phi rot a) j v ≠ a x := fun e => n1 (by rw [e] at ov'; exact cxy.trans ((m.hm.con_symm hv ov').trans cv))
     show rot (tr a x (a x) (it (phi rot a) j v)) = rot (a (it (phi rot a) j v))
     rw [tr_ne z1 z2]
  exact ⟨k, by rw [run]; exact hk⟩
 have hg : Gen (fun h => h < 4 * M) rot (tr (tr a x (a x)) x (a x)) 0 := by rw [tr_tr]; exact m.fl
 exact Gen.detour c1 hx hy hu hv (Ne.symm nx) huv c2 c3 fu1 fv1 k1 k2 ho2 hg
/-- The edge of y is pushed over: what lies beside c and d is laid into it. -/
theorem MS.push (m : MS M o l a) {y c e p : Nat} (hy : y < 4 * M) (hc : c < 4 * M) (he : e < 4 * M) (ce : c ≠ e) (ny : a y ≠ y) (fc : a c = c) (fe : a e = e) (oc : o c = !o y) (oe : o e = o y)
 (e1 : phi rot a e = p) (e2 : phi rot a p = c) (py : p ≠ y) (pc : p ≠ c) (pyy : p ≠ a y) (hn : Orb (phi rot a) c y ∨ ¬ Con rot a c y) : MS M o (jl (jl l y c) e (a y)) (tr (tr (tr a y (a y)) y c) e (a y)) := by
 refine m.two hy hc he ce ny fc fe oc oe ?_
 obtain ⟨c1, c2, c3⟩ := Hm.cut m.hm hy ny
 have hy' : a y < 4 * M := m.hm.ab.maps y hy
 have yc : y ≠ c := fun h => ny (by rw [h]; exact fc)
 have ye : y ≠ e := fun h => ny (by rw [h]; exact fe)
 have yyc : a y ≠ c := fun h => by have := m.hm.inv y hy; rw [h, fc] at this; exact yc this.symm
 have yye : a y ≠ e := fun h => by have := m.hm.inv y hy; rw [h, fe] at this; exact ye this.symm
 refine Flat.push c1 (p := p) hy hy' hc he (Ne.symm ny) yc ye ce yyc yye c2 c3 (by rw [tr_ne (Ne.symm yc) (Ne.symm yyc), fc]) (by rw [tr_ne (Ne.symm ye) (Ne.symm yye), fe]) ?_ ?_ py pc ?_ ?_
 ·unfold phi; rw [tr_ne (Ne.symm ye) (Ne.symm yye)]; exact e1
 ·unfold phi; rw [tr_ne py pyy]; exact e2
 ·rw [tr_tr]; exact hn
 ·rw [tr_tr]; exact m.fl
end
/-- Valid, where every half-edge has got its mate. -/
theorem MS.valid {d' : Dg} {a : Nat → Nat} (m : MS d'.n (out d') d'.mt a) (few : d'.n ≤ 64) (lp : d'.lp ≤ 64) (sign : ∀ c, c < d'.n → d'.s c = 1 ∨ d'.s c = -1) (nf : ∀ z, z < 4 * d'.n → a z ≠ z) : Valid d' := by
 have e : ∀ z, z < 4 * d'.n → d'.m z = a z := fun z hz => by
  rw [← m.at_ z hz (nf z hz)]
  unfold Dg.m
  rw [List.getD_eq_getElem?_getD, List.getD_eq_getElem?_getD, List.getElem?_eq_getElem (by rw [m.len]; exact hz)]
  rfl
 refine Valid.iff.2 ⟨wf_by few m.len lp sign fun z hz => ?_, ?_⟩
 ·have h2 := m.hm.ab.maps z hz
  rw [e z hz, e _ h2]
  refine ⟨h2, m.hm.inv z hz, ?_⟩
  rw [m.wy z hz (nf z hz)]
  cases out d' z <;> decide
 ·exact Gen.congr m.hm (fun _ _ => rfl) (fun z hz => (e z hz).symm) m.fl
end Go.Proofs.YtcaoblilkgajoaaDoor.Pl
end
section
namespace Go.Proofs.YtcaoblilkgajoaaDoor.Pl
section
variable {M : Nat} {o : Nat → Bool} {l : List Nat} {a : Nat → Nat}
theorem two_at (m : MS M o l a) {x u v : Nat} (hx : x < 4 * M) (huv : u ≠ v) (nx : a x ≠ x) (fu : a u = u) (fv : a v = v) :
 tr (tr (tr a x (a x)) x u) v (a x) x = u ∧ tr (tr (tr a x (a x)) x u) v (a x) u = x ∧ tr (tr (tr a x (a x)) x u) v (a x) v = a x ∧ tr (tr (tr a x (a x)) x u) v (a x) (a x) = v ∧
 ∀ z, z ≠ x → z ≠ u → z ≠ v → z ≠ a x → tr (tr (tr a x (a x)) x u) v (a x) z = a z := by
 obtain ⟨c1, c2, c3⟩ := Hm.cut m.hm hx nx
 have xu : x ≠ u := fun e => nx (by rw [e]; exact fu)
 have xv : x ≠ v := fun e => nx (by rw [e]; exact fv)
 have yu : a x ≠ u := fun e => by have := m.hm.inv x hx; rw [e, fu] at this; exact xu this.symm
 have yv : a x ≠ v := fun e => by have := m.hm.inv x hx; rw [e, fv] at this; exact xv this.symm
 have fu1 : tr a x (a x) u = u := by rw [tr_ne (Ne.symm xu) (Ne.symm yu), fu]
 have fv1 : tr a x (a x) v = v := by rw [tr_ne (Ne.symm xv) (Ne.symm yv), fv]
 have fv2 : tr (tr a x (a x)) x u v = v := by rw [tr_ne (Ne.symm xv) (Ne.symm huv), fv1]
 have fy2 : tr (tr a x (a x)) x u (a x) = a x := by rw [tr_ne nx yu, c3]
 exact ⟨by rw [tr_ne xv (Ne.symm nx), tr_a, fu1], by rw [tr_ne huv (Ne.symm yu), tr_b, c2], by rw [tr_a, fy2], by rw [tr_b, fv2], fun z z1 z2 z3 z4 => by rw [tr_ne z3 z4, tr_ne z1 z2, tr_ne z1 z4]⟩
end
/-- The half-edges of a new crossing, by the sides. -/
def pp (n f t : Nat) : Nat := 4 * n + (t + f) % 4
theorem rot_pp (n f t : Nat) : rot (pp n f t) = pp n f (t + 3) := by unfold rot tn pp; omega
theorem pp_mod (n f t : Nat) : pp n f (t + 4) = pp n f t := by unfold pp; omega
theorem pp_bd (n f t : Nat) : 4 * n ≤ pp n f t ∧ pp n f t < 4 * n + 4 := by unfold pp; omega
theorem pp_ne {n f s t : Nat} (h : s % 4 ≠ t % 4) : pp n f s ≠ pp n f t := by unfold pp; omega
theorem pp_nq {n f g s t : Nat} : pp n f s ≠ pp (n + 1) g t := by unfold pp; omega
theorem pp_cover {n f z : Nat} (h : 4 * n ≤ z ∧ z < 4 * n + 4) : z = pp n f 0 ∨ z = pp n f 1 ∨ z = pp n f 2 ∨ z = pp n f 3 := by unfold pp; omega
/-- What a poke adds, but for the outer mates. -/
structure Pd (d d' : Dg) (f g : Nat) (fx fy : Bool) : Prop where
 few : d.n + 2 ≤ 64
 n : d'.n = d.n + 2
 lp : d'.lp ≤ 64
 old : ∀ c, c < d.n → d'.s c = d.s c
 s0 : d'.s d.n = 1 ∨ d'.s d.n = -1
 s1 : d'.s (d.n + 1) = 1 ∨ d'.s (d.n + 1) = -1
 p0 : out d' (pp d.n f 0) = !fy
 p1 : out d' (pp d.n f 1) = fx
 p2 : out d' (pp d.n f 2) = fy
 p3 : out d' (pp d.n f 3) = !fx
 q0 : out d' (pp (d.n + 1) g 0) = !fy
 q1 : out d' (pp (d.n + 1) g 1) = !fx
 q2 : out d' (pp (d.n + 1) g 2) = fy
 q3 : out d' (pp (d.n + 1) g 3) = fx
section
variable {d d' : Dg} {f g : Nat} {fx fy : Bool}
/-- The mates that every poke has. -/
def pkL0 (d : Dg) (f g : Nat) : List Nat := jl (jl (d.mt ++ List.replicate 8 0) (pp d.n f 1) (pp (d.n + 1) g 1)) (pp (d.n + 1) g 2) (pp d.n f 0)
def pkB (d : Dg) (f g : Nat) : Nat → Nat := tr (tr (ex d.n d.m) (pp d.n f 1) (pp (d.n + 1) g 1)) (pp (d.n + 1) g 2) (pp d.n f 0)
theorem Pd.ext (hd : Valid d) (K : Pd d d' f g fx fy) : MS (d.n + 2) (out d') (d.mt ++ List.replicate 8 0) (ex d.n d.m) := by
 have hv := Valid.iff.1 hd
 have hw := hv.1
 refine ⟨ext_hm (by omega) hw.hm, ext_gen (by omega) hw.hm hv.2, fun z hz e => ?_, by rw [List.length_append, hw.len]; simp; omega, fun z hz e => ?_⟩
 ·have hz2 : z < 4 * d.n := Nat.lt_of_not_le fun h => e (ex_new h)
  have hm := hw.lt z hz2
  rw [ex_old hz2, out_old (d := d) (K.old _ (by omega)), out_old (d := d) (K.old _ (by omega)), out_way hw hz2]
 ·have hz2 : z < 4 * d.n := Nat.lt_of_not_le fun h => e (ex_new h)
  rw [ex_old hz2, ← dg_m hw hz2, List.getD_eq_getElem?_getD, List.getD_eq_getElem?_getD, List.getElem?_append_left (by rw [hw.len]; exact hz2)]
/-- The base: its values. -/
structure Bs (d d' : Dg) (f g : Nat) (b : Nat → Nat) : Prop where
 ms : MS (d.n + 2) (out d') (pkL0 d f g) b
 old : ∀ z, z < 4 * d.n → b z = d.m z
 b1 : b (pp d.n f 1) = pp (d.n + 1) g 1
 b2 : b (pp (d.n + 1) g 1) = pp d.n f 1
 b3 : b (pp (d.n + 1) g 2) = pp d.n f 0
 b4 : b (pp d.n f 0) = pp (d.n + 1) g 2
 f1 : b (pp d.n f 2) = pp d.n f 2
 f2 : b (pp d.n f 3) = pp d.n f 3
 f3 : b (pp (d.n + 1) g 0) = pp (d.n + 1) g 0
 f4 : b (pp (d.n + 1) g 3) = pp (d.n + 1) g 3
theorem Pd.base (hd : Valid d) (K : Pd d d' f g fx fy) : Bs d d' f g (pkB d f g) := by
 have m0 := K.ext hd
 have P : ∀ t, 4 * d.n ≤ pp d.n f t ∧ pp d.n f t < 4 * d.n + 4 := pp_bd d.n f
 have Q : ∀ t, 4 * (d.n + 1) ≤ pp (d.n + 1) g t ∧ pp (d.n + 1) g t < 4 * (d.n + 1) + 4 := pp_bd (d.n + 1) g
 have fP : ∀ t, ex d.n d.m (pp d.n f t) = pp d.n f t := fun t => ex_new (P t).1
 have fQ : ∀ t, ex d.n d.m (pp (d.n + 1) g t) = pp (d.n + 1) g t := fun t => ex_new (by have := (Q t).1; omega)
 have pl : ∀ t, pp d.n f t < 4 * (d.n + 2) := fun t => by have := (P t).2; omega
 have ql : ∀ t, pp (d.n + 1) g t < 4 * (d.n + 2) := fun t => by have := (Q t).2; omega
 have m1 := m0.join (pl 1) (ql 1) pp_nq (fP 1) (fQ 1) (by rw [K.q1, K.p1]) (.inr (.inr fun e => by
  have : ∀ w, Con rot (ex d.n d.m) (pp d.n f 1) w → w / 4 = d.n := by
   intro w e
   induction e with
   | refl => have := P 1; omega
   | left _ ih => show tn _ 3 / 4 = d.n; rw [tn_div]; exact ih
   | right _ ih => rw [ex_new (by omega)]; exact ih
  have h1 := this _ e
  have := Q 1
  omega))
 have g1 : ∀ z, z ≠ pp d.n f 1 → z ≠ pp (d.n + 1) g 1 → tr (ex d.n d.m) (pp d.n f 1) (pp (d.n + 1) g 1) z = ex d.n d.m z := fun z z1 z2 => tr_ne z1 z2
 have m2 := m1.join (ql 2) (pl 0) (Ne.symm pp_nq) (by rw [g1 _ (Ne.symm pp_nq) (pp_ne (by omega)), fQ]) (by rw [g1 _ (pp_ne (by omega)) pp_nq, fP]) (by rw [K.q2, K.p0]) (.inl ⟨2, by
  show phi rot _ (phi rot _ (pp (d.n + 1) g 2)) = _
  have s1 : phi rot (tr (ex d.n d.m) (pp d.n f 1) (pp (d.n + 1) g 1)) (pp (d.n + 1) g 2) = pp (d.n + 1) g 1 := by
   unfold phi; rw [g1 _ (Ne.symm pp_nq) (pp_ne (by omega)), fQ, rot_pp, show 2 + 3 = 1 + 4 from rfl, pp_mod]
  have s2 : phi rot (tr (ex d.n d.m) (pp d.n f 1) (pp (d.n + 1) g 1)) (pp (d.n + 1) g 1) = pp d.n f 0 := by
   unfold phi; rw [tr_b, fP, rot_pp, show 1 + 3 = 0 + 4 from rfl, pp_mod]
  rw [s1, s2]⟩)
 have g2 : ∀ z, z ≠ pp (d.n + 1) g 2 → z ≠ pp d.n f 0 → z ≠ pp d.n f 1 → z ≠ pp (d.n + 1) g 1 → pkB d f g z = ex d.n d.m z := fun z z1 z2 z3 z4 => by unfold pkB; rw [tr_ne z1 z2, tr_ne z3 z4]
 refine ⟨m2, fun z hz => ?_, ?_, ?_, ?_, ?_, ?_, ?_, ?_, ?_⟩
 ·have := P 0; have := P 1; have := Q 1; have := Q 2
  rw [g2 z (by omega) (by omega) (by omega) (by omega), ex_old hz]
 ·unfold pkB; rw [tr_ne pp_nq (pp_ne (by omega)), tr_a, fQ]
 ·unfold pkB; rw [tr_ne (pp_ne (by omega)) (Ne.symm pp_nq), tr_b, fP]
 ·unfold pkB; rw [tr_a, tr_ne (pp_ne (by omega)) pp_nq, fP]
 ·unfold pkB; rw [tr_b, tr_ne (Ne.symm pp_nq) (pp_ne (by omega)), fQ]
 ·rw [g2 _ pp_nq (pp_ne (by omega)) (pp_ne (by omega)) pp_nq, fP]
 ·rw [g2 _ pp_nq (pp_ne (by omega)) (pp_ne (by omega)) pp_nq, fP]
 ·rw [g2 _ (pp_ne (by omega)) (Ne.symm pp_nq) (Ne.symm pp_nq) (pp_ne (by omega)), fQ]
 ·rw [g2 _ (pp_ne (by omega)) (Ne.symm pp_nq) (Ne.symm pp_nq) (pp_ne (by omega)), fQ]
theorem Bs.far {b : Nat → Nat} (hd : Valid d) (B : Bs d d' f g b) {x w : Nat} (hx : x < 4 * d.n) (hw : 4 * d.n ≤ w) : ¬ Con rot b x w := fun e => by
 have := con_old (n := d.n) (b := b) (fun z hz => by rw [B.old z hz]; exact (Valid.iff.1 hd).1.lt z hz) hx e
 omega
/-- What is left without a mate is one of the eight. -/
theorem Bs.fix {b : Nat → Nat} (hd : Valid d) (B : Bs d d' f g b) {z : Nat} (hz : z < 4 * (d.n + 2)) (e : b z = z) : z = pp d.n f 2 ∨ z = pp d.n f 3 ∨ z = pp (d.n + 1) g 0 ∨ z = pp (d.n + 1) g 3 := by
 rcases Nat.lt_or_ge z (4 * d.n) with h | h
 ·rw [B.old z h] at e; exact absurd e ((Valid.iff.1 hd).1.ne z h)
 ·rcases Nat.lt_or_ge z (4 * d.n + 4) with h2 | h2
  ·rcases pp_cover (f := f) ⟨h, h2⟩ with rfl | rfl | rfl | rfl
   ·rw [B.b4] at e; exact absurd e (Ne.symm pp_nq)
   ·rw [B.b1] at e; exact absurd e (Ne.symm pp_nq)
   ·exact .inl rfl
   ·exact .inr (.inl rfl)
  ·rcases pp_cover (n := d.n + 1) (f := g) (z := z) ⟨by omega, by omega⟩ with rfl | rfl | rfl | rfl
   ·exact .inr (.inr (.inl rfl))
   ·rw [B.b2] at e; exact absurd e pp_nq
   ·rw [B.b3] at e; exact absurd e pp_nq
   ·exact .inr (.inr (.inr rfl))
variable {b : Nat → Nat}
theorem stp {r b : Nat → Nat} {x y z : Nat} (e : b x = y) (h : r y = z) : phi r b x = z := by unfold phi; rw [e, h]
theorem Bs.pq (hd : Valid d) (B : Bs d d' f g b) : (∀ t, pp d.n f t < 4 * (d.n + 2)) ∧ (∀ t, pp (d.n + 1) g t < 4 * (d.n + 2)) ∧ (∀ t z, z < 4 * d.n → pp d.n f t ≠ z) ∧ (∀ t z, z < 4 * d.n → pp (d.n + 1) g t ≠ z) :=
 ⟨fun t => by have := pp_bd d.n f t; omega, fun t => by have := pp_bd (d.n + 1) g t; omega, fun t z hz => by have := pp_bd d.n f t; omega, fun t z hz => by have := pp_bd (d.n + 1) g t; omega⟩
theorem rp (n f : Nat) : rot (pp n f 0) = pp n f 3 ∧ rot (pp n f 1) = pp n f 0 ∧ rot (pp n f 2) = pp n f 1 ∧ rot (pp n f 3) = pp n f 2 :=
 ⟨rot_pp n f 0, by rw [rot_pp, show 1 + 3 = 0 + 4 from rfl, pp_mod], by rw [rot_pp, show 2 + 3 = 1 + 4 from rfl, pp_mod], by rw [rot_pp, show 3 + 3 = 2 + 4 from rfl, pp_mod]⟩
/-- Valid, at the end. -/
theorem Pd.fin (hd : Valid d) (K : Pd d d' f g fx fy) {l : List Nat} (m : MS (d.n + 2) (out d') l b) (hl : d'.mt = l) (nf : ∀ z, z < 4 * (d.n + 2) → b z ≠ z) : Valid d' := by
 have hw := (Valid.iff.1 hd).1
 refine MS.valid (a := b) (by rw [K.n, hl]; exact m) (by rw [K.n]; exact K.few) K.lp (fun c hc => ?_) (by rw [K.n]; exact nf)
 rw [K.n] at hc
 rcases Nat.lt_or_ge c d.n with h | h
 ·rw [K.old c h]; exact hw.sign c h
 ·rcases Nat.lt_or_ge d.n c with h2 | h2
  ·rw [show c = d.n + 1 by omega]; exact K.s1
  ·rw [show c = d.n by omega]; exact K.s0
/-- What the second strand's laying in leaves. -/
structure Ys (d d' : Dg) (f g : Nat) (l : List Nat) (b : Nat → Nat) : Prop where
 ms : MS (d.n + 2) (out d') l b
 v0 : b (pp d.n f 1) = pp (d.n + 1) g 1
 v2 : b (pp (d.n + 1) g 2) = pp d.n f 0
 f3 : b (pp d.n f 3) = pp d.n f 3
 f4 : b (pp (d.n + 1) g 3) = pp (d.n + 1) g 3
 fix : ∀ z, z < 4 * (d.n + 2) → b z = z → z = pp d.n f 3 ∨ z = pp (d.n + 1) g 3
theorem Ys.orb {l : List Nat} (Y : Ys d d' f g l b) : Orb (phi rot b) (pp (d.n + 1) g 3) (pp d.n f 3) := by
 obtain ⟨r0, r1, r2, r3⟩ := rp d.n f
 obtain ⟨t0, t1, t2, t3⟩ := rp (d.n + 1) g
 refine ⟨2, ?_⟩
 show phi rot b (phi rot b (pp (d.n + 1) g 3)) = _
 rw [stp Y.f4 t3, stp Y.v2 r0]
theorem Pd.yedge (hd : Valid d) (K : Pd d d' f g fx fy) {y : Nat} (hy : y < 4 * d.n) (ho : out d y = fy) :
 ∃ b, Ys d d' f g (jl (jl (pkL0 d f g) y (pp (d.n + 1) g 0)) (pp d.n f 2) (d.m y)) b ∧ (∀ z, z < 4 * d.n → z ≠ y → z ≠ d.m y → b z = d.m z) ∧ b y = pp (d.n + 1) g 0 ∧ b (pp (d.n + 1) g 0) = y ∧ b (pp d.n f 2) = d.m y ∧ b (d.m y) = pp d.n f 2 ∧
   b (pp (d.n + 1) g 1) = pp d.n f 1 ∧ b (pp d.n f 0) = pp (d.n + 1) g 2 := by
 have hw := (Valid.iff.1 hd).1
 have B := K.base hd
 obtain ⟨pl, ql, po, qo⟩ := B.pq hd
 obtain ⟨r0, r1, r2, r3⟩ := rp d.n f
 obtain ⟨t0, t1, t2, t3⟩ := rp (d.n + 1) g
 have hmy := hw.lt y hy
 have hy2 : y < 4 * (d.n + 2) := by omega
 have wy : out d' y = fy := by rw [out_old (d := d) (K.old _ (by omega)), ho]
 have ny : pkB d f g y ≠ y := by rw [B.old y hy]; exact hw.ne y hy
 have m2 := B.ms.detour hy2 (ql 0) (pl 2) (Ne.symm pp_nq) ny B.f3 B.f1 (by rw [K.q0, wy]) (by rw [K.p2, wy]) (B.far hd hy (by have := pp_bd (d.n + 1) g 0; omega)) ⟨2, by
  show phi rot _ (phi rot _ (pp d.n f 2)) = _
  rw [stp B.f1 r2, stp B.b1 t1]⟩
 obtain ⟨a1, a2, a3, a4, a5⟩ := two_at B.ms hy2 (u := pp (d.n + 1) g 0) (v := pp d.n f 2) (Ne.symm pp_nq) ny B.f3 B.f1
 have fx := fun z => two_fix (z := z) B.ms hy2 (ql 0) (pl 2) (Ne.symm pp_nq) ny B.f3 B.f1
 rw [B.old y hy] at m2 a1 a2 a3 a4 a5 fx
 refine ⟨_, ⟨m2, ?_, ?_, ?_, ?_, fun z hz e => ?_⟩, fun z hz z1 z2 => ?_, a1, a2, a3, a4, ?_, ?_⟩
 ·rw [a5 _ (po 1 y hy) pp_nq (pp_ne (by omega)) (po 1 _ hmy), B.b1]
 ·rw [a5 _ (qo 2 y hy) (pp_ne (by omega)) (Ne.symm pp_nq) (qo 2 _ hmy), B.b3]
 ·rw [a5 _ (po 3 y hy) pp_nq (pp_ne (by omega)) (po 3 _ hmy), B.f2]
 ·rw [a5 _ (qo 3 y hy) (pp_ne (by omega)) (Ne.symm pp_nq) (qo 3 _ hmy), B.f4]
 ·obtain ⟨g1, g2, g3⟩ := fx z e
  rcases B.fix hd hz g1 with h | h | h | h
  ·exact absurd h g3
  ·exact .inl h
  ·exact absurd h g2
  ·exact .inr h
 ·rw [a5 z z1 (Ne.symm (qo 0 z hz)) (Ne.symm (po 2 z hz)) z2, B.old z hz]
 ·rw [a5 _ (qo 1 y hy) (pp_ne (by omega)) (Ne.symm pp_nq) (qo 1 _ hmy), B.b2]
 ·rw [a5 _ (po 0 y hy) pp_nq (pp_ne (by omega)) (po 0 _ hmy), B.b4]
theorem Ys.end_ (hd : Valid d) (K : Pd d d' f g fx fy) {l : List Nat} (Y : Ys d d' f g l b) {x : Nat} (hx : x < 4 * d.n) (hb : b x = d.m x) (m2 : MS (d.n + 2) (out d') (jl (jl l x (pp d.n f 3)) (pp (d.n + 1) g 3) (b x)) (tr (tr (tr b x (b x)) x (pp d.n f 3)) (pp (d.n + 1) g 3) (b x))) (hl : d'.mt = jl (jl l x (pp d.n f 3)) (pp (d.n + 1) g 3) (d.m x)) : Valid d' := by
 have B := K.base hd
 obtain ⟨pl, ql, po, qo⟩ := B.pq hd
 have nx : b x ≠ x := by rw [hb]; exact (Valid.iff.1 hd).1.ne x hx
 refine K.fin hd m2 (by rw [hb]; exact hl) fun z hz e => ?_
 obtain ⟨g1, g2, g3⟩ := two_fix Y.ms (by omega) (pl 3) (ql 3) pp_nq nx Y.f3 Y.f4 e
 rcases Y.fix z hz g1 with h | h
 ·exact g2 h
 ·exact g3 h
/-- Two edges. -/
theorem Pd.edges (hd : Valid d) (K : Pd d d' f g fx fy) {x y : Nat} (hx : x < 4 * d.n) (hy : y < 4 * d.n) (ox : out d x = fx) (oy : out d y = fy) (hxy : x ≠ y) (hm : d.m x ≠ y) (hn : Orb (nx d) x y ∨ ¬ Comp d (x / 4) (y / 4))
 (hl : d'.mt = jl (jl (jl (jl (pkL0 d f g) y (pp (d.n + 1) g 0)) (pp d.n f 2) (d.m y)) x (pp d.n f 3)) (pp (d.n + 1) g 3) (d.m x)) : Valid d' := by
 have hw := (Valid.iff.1 hd).1
 have B := K.base hd
 obtain ⟨pl, ql, po, qo⟩ := B.pq hd
 obtain ⟨r0, r1, r2, r3⟩ := rp d.n f
 obtain ⟨t0, t1, t2, t3⟩ := rp (d.n + 1) g
 obtain ⟨b, Y, old, e1, e2, e3, e4, e5, e6⟩ := K.yedge hd hy oy
 have hmy := hw.lt y hy
 have hmx := hw.lt x hx
 have xmy : x ≠ d.m y := fun e => hm (by rw [e, hw.inv y hy])
 have hb : b x = d.m x := old x hx hxy xmy
 have nx' : b x ≠ x := by rw [hb]; exact hw.ne x hx
 have wx : out d' x = fx := by rw [out_old (d := d) (K.old _ (by omega)), ox]
 refine Y.end_ hd K hx hb (Y.ms.push (y := x) (c := pp d.n f 3) (e := pp (d.n + 1) g 3) (p := pp (d.n + 1) g 2) (by omega) (pl 3) (ql 3) pp_nq nx' Y.f3 Y.f4 (by rw [K.p3, wx]) (by rw [K.q3, wx]) (stp Y.f4 t3) (stp Y.v2 r0) (qo 2 x hx) (Ne.symm pp_nq) (by rw [hb]; exact qo 2 _ hmx) ?_) hl
 -- the faces of the old diagram, in the new one
 have sim : ∀ z, z < 4 * d.n → Orb (phi rot b) z (nx d z) := fun z hz => by
  by_cases z1 : z = y
  ·subst z1
   refine ⟨5, ?_⟩
   show phi rot b (phi rot b (phi rot b (phi rot b (phi rot b z)))) = _
   rw [stp e1 t0, stp Y.f4 t3, stp Y.v2 r0, stp Y.f3 r3, stp e3 rfl]
   rfl
  ·by_cases z2 : z = d.m y
   ·subst z2
    refine ⟨3, ?_⟩
    show phi rot b (phi rot b (phi rot b (d.m y))) = _
    rw [stp e4 r2, stp Y.v0 t1, stp e2 rfl]
    show _ = rot (d.m (d.m y))
    rw [hw.inv y hy]
   ·exact ⟨1, by show rot (b z) = rot (d.m z); rw [old z hz z1 z2]⟩
 have yp : Orb (phi rot b) y (pp d.n f 3) := ⟨3, by
  show phi rot b (phi rot b (phi rot b y)) = _
  rw [stp e1 t0, stp Y.f4 t3, stp Y.v2 r0]⟩
 have hM : ∀ {z}, z < 4 * d.n → z < 4 * (d.n + 2) := fun h => by omega
 have sym : ∀ {u v}, u < 4 * (d.n + 2) → Orb (phi rot b) u v → Orb (phi rot b) v u := fun hu e => Y.ms.hm.pb.symm hu e
 rcases hn with h | h
 ·left
  have hyx : Orb (nx d) y x := hw.hm.pb.symm (x := x) (y := y) hx h
  have : Orb (phi rot b) y x := by
   obtain ⟨k, hk⟩ := hyx
   have run : ∀ j, Orb (phi rot b) y (it (nx d) j y) ∧ it (nx d) j y < 4 * d.n := by
    intro j
    induction j with
    | zero => exact ⟨Orb.refl _ _, hy⟩
    | succ j ih => exact ⟨ih.1.trans (sim _ ih.2), tn_lt (hw.lt _ ih.2)⟩
   rw [← hk]
   exact (run k).1
  exact (sym (hM hy) yp).trans this
 ·right
  intro e
  have : ∀ w, Con rot b (pp d.n f 3) w → w < 4 * d.n → Con rot d.m y w := by
   have key : ∀ w, Con rot b (pp d.n f 3) w → w < 4 * (d.n + 2) ∧ (4 * d.n ≤ w ∨ (w < 4 * d.n ∧ Con rot d.m y w)) := by
    intro w e
    induction e with
    | refl => exact ⟨pl 3, .inl (pp_bd _ _ _).1⟩
    | left _ ih =>
      refine ⟨rot_lt ih.1, ?_⟩
      rcases ih.2 with h | ⟨h1, h2⟩
      ·exact .inl (rot_ge h)
      ·exact .inr ⟨rot_lt h1, h2.left⟩
    | @right w _ ih =>
      have hbw := Y.ms.hm.ab.maps w ih.1
      refine ⟨hbw, ?_⟩
      rcases Nat.lt_or_ge (b w) (4 * d.n) with h3 | h3
      ·refine .inr ⟨h3, ?_⟩
       have hinv := Y.ms.hm.inv w ih.1
       by_cases z1 : b w = y
       ·rw [z1]; exact .refl
       ·by_cases z2 : b w = d.m y
        ·rw [z2]; exact Con.refl.right
        ·rw [old _ h3 z1 z2] at hinv
         have hw2 : w < 4 * d.n := by rw [← hinv]; exact hw.lt _ h3
         rcases ih.2 with h | ⟨_, h2⟩
         ·omega
         ·have : b w = d.m w := by have h5 := hw.inv _ h3; rw [hinv] at h5; exact h5.symm
          rw [this]; exact h2.right
      ·exact .inl h3
   intro w e hwl
   rcases (key w e).2 with h | h
   ·omega
   ·exact h.2
  have := this x e hx
  exact h ((con_comp hw hx hy).1 (hw.hm.con_symm hy this))
end
end Go.Proofs.YtcaoblilkgajoaaDoor.Pl
end
section
namespace Go.Proofs.YtcaoblilkgajoaaDoor.Pl
/-- Across the crossing. -/
def op (h : Nat) : Nat := tn h 2
theorem op_op (h : Nat) : op (op h) = h := by unfold op; rw [tn_tn]; exact tn_four h
theorem op_bij (k : Nat) : Bij (4 * k) (fun h => h < 4 * k) op := ⟨fun _ h => h, fun _ h => tn_lt h, fun _ _ _ _ e => tn_inj e⟩
theorem Hm.op {n : Nat} {b : Nat → Nat} (h : Hm (4 * n) (fun h => h < 4 * n) rot b) : Hm (4 * n) (fun h => h < 4 * n) Pl.op b := ⟨op_bij n, h.ab, h.inv⟩
theorem Cls.one {S : Nat → Prop} {R : Nat → Nat → Prop} {a : Nat} (hE : Eqv S R) (ha : S a) (h : ∀ x, S x → R a x) : Cls S R 1 :=
 ⟨fun _ => 0, fun _ _ => Nat.zero_lt_one, fun x y hx hy => ⟨fun _ => hE.trans _ _ _ hx ha hy (hE.symm _ _ ha hx (h x hx)) (h y hy), fun _ => rfl⟩, fun i hi => ⟨a, ha, (by omega : (0 : Nat) = i)⟩⟩
/-- The two half-edges on an edge, and the ones across: a strand's piece. -/
def grp (h u z : Nat) : Prop := z = h ∨ z = u ∨ z = tn h 2 ∨ z = tn u 2
structure Gp (n : Nat) (b : Nat → Nat) (h u : Nat) : Prop where
 hm : Hm (4 * n) (fun h => h < 4 * n) rot b
 hh : h < 4 * n
 hu : u < 4 * n
 e0 : b h = u
 n1 : h ≠ u
 n2 : h ≠ tn u 2
 n3 : u ≠ tn h 2
section
variable {n : Nat} {b : Nat → Nat} {h u : Nat}
theorem Gp.e2 (G : Gp n b h u) : b u = h := by rw [← G.e0, G.hm.inv _ G.hh]
theorem Gp.mem (G : Gp n b h u) {z : Nat} (hz : grp h u z) : z < 4 * n := by
 rcases hz with rfl | rfl | rfl | rfl
 ·exact G.hh
 ·exact G.hu
 ·exact tn_lt G.hh
 ·exact tn_lt G.hu
theorem Gp.nAB (G : Gp n b h u) : tn h 2 ≠ tn u 2 := fun e => G.n1 (tn_inj e)
theorem tt2 (h : Nat) : tn (tn h 2) 2 = h := op_op h
/-- Free ends: one class. -/
theorem Gp.free (G : Gp n b h u) (fA : b (tn h 2) = tn h 2) (fB : b (tn u 2) = tn u 2) :
 Cls (grp h u) (Orb (phi op b)) 1 ∧ (∀ z, grp h u z → grp h u (phi op b z)) ∧ Orb (phi op b) (tn h 2) (tn u 2) := by
 have p1 : phi op b h = tn u 2 := by show tn (b h) 2 = _; rw [G.e0]
 have p2 : phi op b u = tn h 2 := by show tn (b u) 2 = _; rw [G.e2]
 have p3 : phi op b (tn h 2) = h := by show tn (b (tn h 2)) 2 = _; rw [fA, tt2]
 have p4 : phi op b (tn u 2) = u := by show tn (b (tn u 2)) 2 = _; rw [fB, tt2]
 have cl : ∀ z, grp h u z → grp h u (phi op b z) := by
  rintro z (rfl | rfl | rfl | rfl)
  ·rw [p1]; exact .inr (.inr (.inr rfl))
  ·rw [p2]; exact .inr (.inr (.inl rfl))
  ·rw [p3]; exact .inl rfl
  ·rw [p4]; exact .inr (.inl rfl)
 have hE := (G.hm.op).pb.eqv
 have s1 : Orb (phi op b) h (tn u 2) := ⟨1, p1⟩
 have s2 : Orb (phi op b) h u := s1.trans ⟨1, p4⟩
 have s3 : Orb (phi op b) h (tn h 2) := s2.trans ⟨1, p2⟩
 refine ⟨Cls.one ⟨fun x hx => hE.refl x (G.mem hx), fun x y hx hy => hE.symm x y (G.mem hx) (G.mem hy), fun x y z hx hy hz => hE.trans x y z (G.mem hx) (G.mem hy) (G.mem hz)⟩ (a := h) (.inl rfl) ?_, cl, (show Orb (phi op b) (tn h 2) h from ⟨1, p3⟩).trans s1⟩
 rintro x (rfl | rfl | rfl | rfl)
 ·exact Orb.refl _ _
 ·exact s2
 ·exact s3
 ·exact s1
/-- Joined ends: two. -/
theorem Gp.closed (G : Gp n b h u) (fA : b (tn h 2) = tn u 2) : Cls (grp h u) (Orb (phi op b)) 2 ∧ ∀ z, grp h u z → grp h u (phi op b z) := by
 have fB : b (tn u 2) = tn h 2 := by rw [← fA, G.hm.inv _ (tn_lt G.hh)]
 have p1 : phi op b h = tn u 2 := by show tn (b h) 2 = _; rw [G.e0]
 have p2 : phi op b u = tn h 2 := by show tn (b u) 2 = _; rw [G.e2]
 have p3 : phi op b (tn h 2) = u := by show tn (b (tn h 2)) 2 = _; rw [fA, tt2]
 have p4 : phi op b (tn u 2) = h := by show tn (b (tn u 2)) 2 = _; rw [fB, tt2]
 have hE := (G.hm.op).pb.eqv
 have cl : ∀ z, grp h u z → grp h u (phi op b z) := by
  rintro z (rfl | rfl | rfl | rfl)
  ·rw [p1]; exact .inr (.inr (.inr rfl))
  ·rw [p2]; exact .inr (.inr (.inl rfl))
  ·rw [p3]; exact .inr (.inl rfl)
  ·rw [p4]; exact .inl rfl
 refine ⟨?_, cl⟩
 have c1 : Cls (fun z => z = h ∨ z = tn u 2) (Orb (phi op b)) 1 := by
  refine Cls.one ⟨fun x hx => Orb.refl _ _, fun x y hx hy e => hE.symm x y ?_ ?_ e, fun x y z _ _ _ e e' => e.trans e'⟩ (a := h) (.inl rfl) ?_
  ·rcases hx with rfl | rfl; exact G.hh; exact tn_lt G.hu
  ·rcases hy with rfl | rfl; exact G.hh; exact tn_lt G.hu
  ·rintro x (rfl | rfl); exact Orb.refl _ _; exact ⟨1, p1⟩
 have c2 : Cls (fun z => z = u ∨ z = tn h 2) (Orb (phi op b)) 1 := by
  refine Cls.one ⟨fun x hx => Orb.refl _ _, fun x y hx hy e => hE.symm x y ?_ ?_ e, fun x y z _ _ _ e e' => e.trans e'⟩ (a := u) (.inl rfl) ?_
  ·rcases hx with rfl | rfl; exact G.hu; exact tn_lt G.hh
  ·rcases hy with rfl | rfl; exact G.hu; exact tn_lt G.hh
  ·rintro x (rfl | rfl); exact Orb.refl _ _; exact ⟨1, p2⟩
 have k1 : ∀ z, (z = h ∨ z = tn u 2) → (phi op b z = h ∨ phi op b z = tn u 2) := by rintro z (rfl | rfl); exact .inr p1; exact .inl p4
 have k2 : ∀ z, (z = u ∨ z = tn h 2) → (phi op b z = u ∨ phi op b z = tn h 2) := by rintro z (rfl | rfl); exact .inr p2; exact .inl p3
 have dis : ∀ x, (x = h ∨ x = tn u 2) → ¬ (x = u ∨ x = tn h 2) := by
  rintro x (rfl | rfl) (e | e)
  ·exact G.n1 e
  ·unfold tn at e; omega
  ·unfold tn at e; omega
  ·exact G.nAB e.symm
 have := Cls.add c1 c2 (fun x y hx hy e => dis _ (orb_closed (P := fun z => z = h ∨ z = tn u 2) k1 hx e) hy) (fun x y hx hy e => dis _ hx (orb_closed (P := fun z => z = u ∨ z = tn h 2) k2 hy e)) dis
 refine Cls.congr this (fun x => ?_) (fun _ _ _ _ => Iff.rfl)
 unfold grp
 constructor
 ·rintro ((e | e) | (e | e))
  ·exact .inl e
  ·exact .inr (.inr (.inr e))
  ·exact .inr (.inl e)
  ·exact .inr (.inr (.inl e))
 ·rintro (e | e | e | e)
  ·exact .inl (.inl e)
  ·exact .inr (.inl e)
  ·exact .inr (.inr e)
  ·exact .inl (.inr e)
end
section
variable {N : Nat} {S : Nat → Prop} {r a : Nat → Nat}
/-- Bypassed: one class more. -/
theorem byp_cls (h : Hm N S r a) {u v : Nat} (hu : S u) (hv : S v) (huv : u ≠ v) (nu : a u ≠ u) (nv : a v ≠ v) (nuv : a u ≠ v) (ho : Orb (phi r (cut2 a u v)) u v) (nx : ¬ Orb (phi r (cut2 a u v)) u (a u)) (ny : ¬ Orb (phi r (cut2 a u v)) u (a v)) {k : Nat} (hk : Cls S (Orb (phi r a)) k) :
 Cls S (Orb (phi r (byp a u v))) (k + 1) := by
 obtain ⟨c0, c1, c2, c3, c4, c5, c6, c7⟩ := cut2_hm h hu hv huv nu nv nuv
 have hx := h.ab.maps u hu
 have hy := h.ab.maps v hv
 obtain ⟨c, hc⟩ : ∃ c, c = cut2 a u v := ⟨_, rfl⟩
 unfold byp
 rw [← hc] at ho nx ny c0 c1 c2 c3 c4 c5
 rw [← hc]
 obtain ⟨k0, hk0⟩ := Cls.exists_ N S _ c0.pb.lt c0.pb.eqv
 have hpos := hk0.pos hu
 obtain ⟨k1, rfl⟩ : ∃ k1, k0 = k1 + 1 := ⟨k0 - 1, by omega⟩
 have e1 := Cls.merge c0.pb hu hx nx hk0
 have hb1 := c0.pb.tr hu hx
 have sym := fun {x y} (hx : S x) (e : Orb (phi r c) x y) => c0.pb.symm hx e
 have mg := fun {x y} (hx' : S x) => c0.pb.merge hu hx nx (x := x) (y := y) hx'
 have nvu := sym hu ho
 rw [phi_tr]
 have hphi : phi r a = tr (tr (phi r c) u (a u)) v (a v) := by
  have : phi r a = phi r (tr (tr c u (a u)) v (a v)) := by rw [← c5]
  rw [this, phi_tr, phi_tr]
 rw [hphi] at hk
 by_cases hxy : Orb (phi r c) (a u) (a v)
 ·-- parted, twice
  have hvy : Orb (tr (phi r c) u (a u)) v (a v) := (mg hv).2 (.inr (.inl ⟨nvu, hxy⟩))
  have e2 := Cls.part hb1 hv hy (Ne.symm nv) hvy e1
  have e3 := Cls.part c0.pb hx hy c6 hxy hk0
  rw [hk.unique e2]
  exact e3
 ·have nvy : ¬ Orb (tr (phi r c) u (a u)) v (a v) := fun e => by
   rcases (mg hv).1 e with e | ⟨_, e⟩ | ⟨e, _⟩
   ·exact ny (ho.trans e)
   ·exact hxy e
   ·exact nx (ho.trans e)
  have hp1 := e1.pos hv
  obtain ⟨k2, rfl⟩ : ∃ k2, k1 = k2 + 1 := ⟨k1 - 1, by omega⟩
  have e2 := Cls.merge hb1 hv hy nvy e1
  have e3 := Cls.merge c0.pb hx hy hxy hk0
  rw [hk.unique e2]
  exact e3
end
section
variable {n : Nat} {b : Nat → Nat} {h u : Nat}
/-- A strand closed behind its piece. -/
theorem Gp.cls (G : Gp n b h u) (nA : b (tn h 2) ≠ tn h 2) (nB : b (tn u 2) ≠ tn u 2) {k : Nat} (hk : Cls (fun h => h < 4 * n) (Orb (phi op b)) k) :
 Cls (fun h => h < 4 * n) (Orb (phi op (Pl.cls b (tn h 2) (tn u 2)))) (k + if b (tn h 2) = tn u 2 then 0 else 1) := by
 unfold Pl.cls
 by_cases hc : b (tn h 2) = tn u 2
 ·rw [if_pos hc, if_pos hc]; exact hk
 rw [if_neg hc, if_neg hc]
 have hA : tn h 2 < 4 * n := tn_lt G.hh
 have hB : tn u 2 < 4 * n := tn_lt G.hu
 have m := G.hm.op
 have e2 := G.e2
 have c0 : Hm (4 * n) (fun h => h < 4 * n) rot (cut2 b (tn h 2) (tn u 2)) ∧ _ := cut2_hm G.hm hA hB G.nAB nA nB hc
 obtain ⟨c0, c1, c2, c3, c4, c5, c6, c7⟩ := c0
 have hhA : h ≠ b (tn h 2) := fun e => by have := G.hm.inv _ hA; rw [← e, G.e0] at this; exact G.n3 this
 have hhB : h ≠ b (tn u 2) := fun e => by have := G.hm.inv _ hB; rw [← e, G.e0] at this; unfold tn at this; omega
 have huA : u ≠ b (tn h 2) := fun e => by have := G.hm.inv _ hA; rw [← e, e2] at this; unfold tn at this; omega
 have huB : u ≠ b (tn u 2) := fun e => by have := G.hm.inv _ hB; rw [← e, e2] at this; exact G.n2 this
 have hA0 : h ≠ tn h 2 := by unfold tn; omega
 have hu0 : u ≠ tn u 2 := by unfold tn; omega
 have G' : Gp n (cut2 b (tn h 2) (tn u 2)) h u := ⟨c0, G.hh, G.hu, by rw [cut2_at _ _ hA0 G.n2 hhA hhB, G.e0], G.n1, G.n2, G.n3⟩
 obtain ⟨g1, g2, g3⟩ := G'.free c1 c2
 have no : ∀ z, Orb (phi op (cut2 b (tn h 2) (tn u 2))) (tn h 2) z → grp h u z := fun z e => orb_closed (P := grp h u) g2 (.inr (.inr (.inl rfl))) e
 refine byp_cls m hA hB G.nAB nA nB hc g3 (fun e => ?_) (fun e => ?_) hk
 ·rcases no _ e with e | e | e | e
  ·exact hhA e.symm
  ·exact huA e.symm
  ·exact nA e
  ·exact hc e
 ·rcases no _ e with e | e | e | e
  ·exact hhB e.symm
  ·exact huB e.symm
  ·exact c7 e
  ·exact nB e
end
/-- The strands of a diagram: classes of the outgoing half-edges. -/
def Str (d : Dg) (s : Nat) : Prop := Cls (fun h => h < 4 * d.n ∧ out d h = true) (Orb (st d)) s
section
variable {d : Dg}
theorem st_phi (d : Dg) : st d = phi op d.m := rfl
theorem out_orb (hd : Wf d) {x y : Nat} (hx : x < 4 * d.n) (e : Orb (st d) x y) : out d y = out d x := by
 obtain ⟨k, rfl⟩ := e
 exact out_it hd hx k
theorem st_back (hd : Wf d) {x y : Nat} (hx : x < 4 * d.n) (e : Orb (st d) x y) : Orb (st d) (d.m y) (d.m x) := by
 obtain ⟨k, rfl⟩ := e
 induction k with
 | zero => exact Orb.refl _ _
 | succ k ih =>
   have hz := (st_bij hd).it k x hx
   refine Orb.trans ⟨1, ?_⟩ ih
   show st d (d.m (st d (it (st d) k x))) = d.m (it (st d) k x)
   unfold st at hz ⊢
   rw [hd.inv _ (tn_lt (hd.lt _ hz)), tt2]
theorem Str.all (hd : Wf d) {s : Nat} (h : Str d s) : Cls (dart d) (Orb (st d)) (2 * s) := by
 have h2 : Cls (fun h => h < 4 * d.n ∧ out d h = false) (Orb (st d)) s := by
  refine Cls.map h d.m (fun x hx => ⟨hd.lt x hx.1, by rw [out_way hd hx.1, hx.2]; rfl⟩) (fun y hy => ⟨d.m y, ⟨hd.lt y hy.1, by rw [out_way hd hy.1, hy.2]; rfl⟩, hd.inv y hy.1⟩) (fun x y hx hy => ⟨fun e => (st_bij hd).symm (hd.lt _ hy.1) (st_back hd hx.1 e), fun e => ?_⟩)
  have := st_back hd (hd.lt _ hx.1) e
  rw [hd.inv _ hx.1, hd.inv _ hy.1] at this
  exact (st_bij hd).symm hy.1 this
 have := Cls.add h h2 (fun x y hx hy e => by have := out_orb hd hx.1 e; rw [hx.2, hy.2] at this; exact absurd this (by decide)) (fun x y hx hy e => by have := out_orb hd hy.1 e; rw [hx.2, hy.2] at this; exact absurd this (by decide)) (fun x hx hy => by rw [hx.2] at hy; exact absurd hy.2 (by decide))
 rw [show 2 * s = s + s by omega]
 refine Cls.congr this (fun x => ?_) (fun _ _ _ _ => Iff.rfl)
 unfold dart
 constructor
 ·rintro (e | e) <;> exact e.1
 ·intro e
  cases ho : out d x with
  | true => exact .inl ⟨e, rfl⟩
  | false => exact .inr ⟨e, rfl⟩
theorem Str.ex (hd : Wf d) : ∃ s, Str d s := Cls.exists_ (4 * d.n) _ _ (fun x hx => hx.1) ⟨fun x hx => Orb.refl _ _, fun x y hx hy e => (st_bij hd).symm hx.1 e, fun x y z _ _ _ e e' => e.trans e'⟩
theorem Str.iff (hd : Wf d) {s k : Nat} (h : Str d s) (hk : Cls (dart d) (Orb (st d)) k) : k = 2 * s := hk.unique (h.all hd)
/-- What stays, where crossings are taken out. -/
theorem Rs.cls {gs : List Nat} {mt : List Nat} {lp : Nat} {b : Nat → Nat} (R : Rs d gs mt lp b) {k g : Nat} (hk : Cls (dart d) (Orb (phi op b)) k) (hg : Cls (gone d gs) (Orb (phi op b)) g) :
 ∃ ks, k = ks + g ∧ Cls (Pl.stay d gs) (Orb (phi op b)) ks ∧ Cls (dart (rsD d gs mt lp)) (Orb (st (rsD d gs mt lp))) ks := by
 have hE := R.hm.op.pb.eqv
 have s1 : ∀ x, Pl.stay d gs x → Pl.stay d gs (phi op b x) := fun x hx => tn_stay (R.stay hx)
 have g1 : ∀ x, gone d gs x → gone d gs (phi op b x) := fun x hx => ⟨tn_lt (R.hm.ab.maps x hx.1), by show tn (b x) 2 / 4 ∈ gs; rw [tn_div]; exact R.cl x hx⟩
 obtain ⟨ks, hks⟩ := Cls.exists_ (4 * d.n) (Pl.stay d gs) (Orb (phi op b)) (fun x hx => hx.1) ⟨fun x hx => Orb.refl _ _, fun x y hx hy e => hE.symm x y hx.1 hy.1 e, fun x y z _ _ _ e e' => e.trans e'⟩
 have ha := Cls.add hks hg (fun x y hx hy e => (orb_closed (P := Pl.stay d gs) s1 hx e).2 hy.2) (fun x y hx hy e => hx.2 (orb_closed (P := gone d gs) g1 hy e).2) (fun x hx hy => hx.2 hy.2)
 have ha2 : Cls (dart d) (Orb (phi op b)) (ks + g) := Cls.congr ha (fun x => ⟨fun h => h.elim (·.1) (·.1), fun h => (Classical.em (x / 4 ∈ gs)).elim (fun e => .inr ⟨h, e⟩) (fun e => .inl ⟨h, e⟩)⟩) (fun _ _ _ _ => Iff.rfl)
 refine ⟨ks, hk.unique ha2, hks, ?_⟩
 refine Cls.map hks (shf gs) (fun x hx => shf_lt R.nd R.few mt lp hx) (fun y hy => shf_onto R.nd R.few mt lp hy) (fun x y hx hy => orb_map (S := Pl.stay d gs) (t := shf gs) s1 (fun x hx => ?_) (fun x y hx hy e => shf_inj R.nd R.few hx.2 hy.2 e) hx hy)
 show tn ((rsD d gs mt lp).m (shf gs x)) 2 = shf gs (tn (b x) 2)
 rw [R.m hx, shf_tn R.few]
end
end Go.Proofs.YtcaoblilkgajoaaDoor.Pl
end
