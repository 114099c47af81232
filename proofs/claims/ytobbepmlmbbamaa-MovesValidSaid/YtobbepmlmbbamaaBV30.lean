/-
  The texts Unk, Pok in one.
-/
import Derived.Test.YtobbepmlmbbamaaBV29
set_option linter.unusedVariables false
set_option linter.unusedSimpArgs false

section
/-
  Plain Lean: a lens taken out: what stays. No program is named here.
-/
namespace Go.Proofs.Ytobbepmlmbbamaa.Pl
variable {d : Dg}

/-- Edges lead from outgoing half-edges to incoming ones. -/
def Wy (d : Dg) (b : Nat → Nat) : Prop := ∀ z, z < 4 * d.n → b z ≠ z → out d (b z) = !out d z
theorem wy_m (hd : Wf d) : Wy d d.m := fun z hz _ => out_way hd hz
theorem byp_wy {b : Nat → Nat} (h : Hm (4 * d.n) (dart d) rot b) (hw : Wy d b) {u v : Nat} (hu : u < 4 * d.n) (hv : v < 4 * d.n) (huv : u ≠ v) (nu : b u ≠ u) (nv : b v ≠ v) (nuv : b u ≠ v) (ho : out d v = !out d u) : Wy d (byp b u v) := by
  obtain ⟨b1, b2, b3, b4, b5⟩ := byp_at h hu hv huv nu nv nuv
  intro z hz hne
  by_cases z1 : z = u
  · subst z1; exact absurd b1 hne
  · by_cases z2 : z = v
    · subst z2; exact absurd b2 hne
    · by_cases z3 : z = b u
      · rw [z3, b3, hw u hu nu, hw v hv nv, ho]
      · by_cases z4 : z = b v
        · rw [z4, b4, hw u hu nu, hw v hv nv, ho, Bool.not_not]
        · rw [b5 z z1 z2 z3 z4] at hne ⊢
          exact hw z hz hne
/-- What a lens at h is: its mate u lies at another crossing; the face to the left of h is h and the half-edge behind u. -/
structure Lens (d : Dg) (h u : Nat) : Prop where
  hh : h < 4 * d.n
  m0 : d.m h = u
  m1 : d.m (tn h 1) = tn u 3
  ne : h / 4 ≠ u / 4
/-- One of the two strands closed behind the lens. -/
def cls (b : Nat → Nat) (u v : Nat) : Nat → Nat := if b u = v then b else byp b u v
section
variable {h u : Nat}
theorem Lens.hu (hd : Wf d) (L : Lens d h u) : u < 4 * d.n := by rw [← L.m0]; exact hd.lt h L.hh
theorem Lens.m2 (hd : Wf d) (L : Lens d h u) : d.m u = h := by rw [← L.m0]; exact hd.inv h L.hh
theorem Lens.m3 (hd : Wf d) (L : Lens d h u) : d.m (tn u 3) = tn h 1 := by rw [← L.m1]; exact hd.inv _ (tn_lt L.hh)
/-- The first strand. -/
def lA (d : Dg) (h u : Nat) : Nat → Nat := cls d.m (tn h 2) (tn u 2)
/-- Both. -/
def lB (d : Dg) (h u : Nat) : Nat → Nat := cls (lA d h u) (tn h 3) (tn u 1)
theorem ap {x y : Nat} (e : x / 4 ≠ y / 4) : x ≠ y := fun h => e (by rw [h])
theorem pm {j k h u : Nat} (e : h / 4 ≠ u / 4) : tn h j ≠ tn u k := ap (by rw [tn_div, tn_div]; exact e)
theorem pm0 {j h u : Nat} (e : h / 4 ≠ u / 4) : tn h j ≠ u := ap (by rw [tn_div]; exact e)
theorem pm1 {k h u : Nat} (e : h / 4 ≠ u / 4) : h ≠ tn u k := ap (by rw [tn_div]; exact e)
theorem pmz {h k : Nat} (e : k % 4 ≠ 0) : h ≠ tn h k := by unfold tn; omega
/-- What the first strand's closing leaves. -/
structure LA (d : Dg) (h u : Nat) (b : Nat → Nat) : Prop where
  hm : Hm (4 * d.n) (dart d) rot b
  fl : Flat (dart d) rot b
  wy : Wy d b
  e0 : b h = u
  e1 : b (tn h 1) = tn u 3
  e2 : b u = h
  e3 : b (tn u 3) = tn h 1
  c : (b (tn h 2) = tn u 2 ∧ b (tn u 2) = tn h 2) ∨ (b (tn h 2) = tn h 2 ∧ b (tn u 2) = tn u 2)
  nf : ∀ z, z < 4 * d.n → z ≠ tn h 2 → z ≠ tn u 2 → b z ≠ z
theorem Lens.la (hd : Valid d) (L : Lens d h u) : LA d h u (lA d h u) := by
  have hv := Valid.iff.1 hd
  have hw := hv.1
  have hu := L.hu hw
  have hh := L.hh
  have E := L.ne
  have hA : tn h 2 < 4 * d.n := tn_lt hh
  have hB : tn u 2 < 4 * d.n := tn_lt hu
  have m0 := L.m0
  have m1 := L.m1
  have m2 := L.m2 hw
  have m3 := L.m3 hw
  unfold lA cls
  by_cases hc : d.m (tn h 2) = tn u 2
  · rw [if_pos hc]
    exact ⟨hw.hm, hv.2, wy_m hw, m0, m1, m2, m3, .inl ⟨hc, by rw [← hc, hw.inv _ hA]⟩, fun z hz _ _ => hw.ne z hz⟩
  · rw [if_neg hc]
    have hAB : tn h 2 ≠ tn u 2 := pm E
    have nA := hw.ne _ hA
    have nB := hw.ne _ hB
    obtain ⟨b1, b2, b3, b4, b5⟩ := byp_at hw.hm hA hB hAB nA nB hc
    obtain ⟨c0, c1, c2, c3, c4, c5, c6, c7⟩ := cut2_hm hw.hm hA hB hAB nA nB hc
    -- the four inner half-edges are none of the outer ones' mates
    have ni : ∀ z, z < 4 * d.n → d.m z ≠ tn h 2 → d.m z ≠ tn u 2 → z ≠ d.m (tn h 2) ∧ z ≠ d.m (tn u 2) := fun z hz n1 n2 =>
      ⟨fun e => n1 (by rw [e, hw.inv _ hA]), fun e => n2 (by rw [e, hw.inv _ hB])⟩
    have n0 := ni h hh (by rw [m0]; exact Ne.symm (pm0 E)) (by rw [m0]; exact pmz (by omega))
    have n1 := ni (tn h 1) (tn_lt hh) (by rw [m1]; exact Ne.symm (pm E)) (by rw [m1]; exact tn_ne (by omega))
    have n2 := ni u hu (by rw [m2]; exact pmz (by omega)) (by rw [m2]; exact pm1 E)
    have n3 := ni (tn u 3) (tn_lt hu) (by rw [m3]; exact tn_ne (by omega)) (by rw [m3]; exact pm E)
    have ho : Orb (phi rot (cut2 d.m (tn h 2) (tn u 2))) (tn h 2) (tn u 2) := by
      refine ⟨2, ?_⟩
      show phi rot _ (phi rot _ (tn h 2)) = tn u 2
      have s1 : phi rot (cut2 d.m (tn h 2) (tn u 2)) (tn h 2) = tn h 1 := by unfold phi; rw [c1]; unfold rot; rw [tn_tn]; unfold tn; omega
      have s2 : phi rot (cut2 d.m (tn h 2) (tn u 2)) (tn h 1) = tn u 2 := by
        unfold phi; rw [cut2_at _ _ (tn_ne (by omega)) (pm E) n1.1 n1.2, m1]; unfold rot; rw [tn_tn]; unfold tn; omega
      rw [s1, s2]
    obtain ⟨g1, g2⟩ := byp_flat hw.hm hA hB hAB nA nB hc ho hv.2
    refine ⟨g1, g2, byp_wy hw.hm (wy_m hw) hA hB hAB nA nB hc ?_, ?_, ?_, ?_, ?_, .inr ⟨b1, b2⟩, ?_⟩
    · rw [out_opp hw hu, out_opp hw hh, ← m0, out_way hw hh]
    · rw [b5 h (pmz (by omega)) (pm1 E) n0.1 n0.2, m0]
    · rw [b5 _ (tn_ne (by omega)) (pm E) n1.1 n1.2, m1]
    · rw [b5 u (Ne.symm (pm0 E)) (pmz (by omega)) n2.1 n2.2, m2]
    · rw [b5 _ (Ne.symm (pm E)) (tn_ne (by omega)) n3.1 n3.2, m3]
    · intro z hz z1 z2
      by_cases z3 : z = d.m (tn h 2)
      · rw [z3, b3]; exact Ne.symm c6
      · by_cases z4 : z = d.m (tn u 2)
        · rw [z4, b4]; exact c6
        · rw [b5 z z1 z2 z3 z4]; exact hw.ne z hz
/-- What the closing of both leaves. -/
structure LB2 (d : Dg) (h u : Nat) (b : Nat → Nat) : Prop where
  hm : Hm (4 * d.n) (dart d) rot b
  fl : Flat (dart d) rot b
  wy : Wy d b
  e0 : b h = u
  e1 : b (tn h 1) = tn u 3
  e2 : b u = h
  e3 : b (tn u 3) = tn h 1
  c : (b (tn h 2) = tn u 2 ∧ b (tn u 2) = tn h 2) ∨ (b (tn h 2) = tn h 2 ∧ b (tn u 2) = tn u 2)
  c' : (b (tn h 3) = tn u 1 ∧ b (tn u 1) = tn h 3) ∨ (b (tn h 3) = tn h 3 ∧ b (tn u 1) = tn u 1)
  nf : ∀ z, z < 4 * d.n → z ≠ tn h 2 → z ≠ tn u 2 → z ≠ tn h 3 → z ≠ tn u 1 → b z ≠ z
theorem LA.lb (hw : Wf d) (L : Lens d h u) {a : Nat → Nat} (A : LA d h u a) : LB2 d h u (cls a (tn h 3) (tn u 1)) := by
  have hu := L.hu hw
  have hh := L.hh
  have E := L.ne
  have h3 : tn h 3 < 4 * d.n := tn_lt hh
  have u1 : tn u 1 < 4 * d.n := tn_lt hu
  have n3 := A.nf _ h3 (tn_ne (by omega)) (pm E)
  have n1 := A.nf _ u1 (Ne.symm (pm E)) (tn_ne (by omega))
  unfold cls
  by_cases hc : a (tn h 3) = tn u 1
  · rw [if_pos hc]
    exact ⟨A.hm, A.fl, A.wy, A.e0, A.e1, A.e2, A.e3, A.c, .inl ⟨hc, by rw [← hc, A.hm.inv _ h3]⟩, fun z hz z1 z2 _ _ => A.nf z hz z1 z2⟩
  · rw [if_neg hc]
    have hAB : tn h 3 ≠ tn u 1 := pm E
    obtain ⟨b1, b2, b3, b4, b5⟩ := byp_at A.hm h3 u1 hAB n3 n1 hc
    obtain ⟨c0, c1, c2, c3, c4, c5, c6, c7⟩ := cut2_hm A.hm h3 u1 hAB n3 n1 hc
    have ni : ∀ z, z < 4 * d.n → a z ≠ tn h 3 → a z ≠ tn u 1 → z ≠ a (tn h 3) ∧ z ≠ a (tn u 1) := fun z hz n1 n2 =>
      ⟨fun e => n1 (by rw [e, A.hm.inv _ h3]), fun e => n2 (by rw [e, A.hm.inv _ u1])⟩
    have k0 := ni h hh (by rw [A.e0]; exact Ne.symm (pm0 E)) (by rw [A.e0]; exact pmz (by omega))
    have k1 := ni (tn h 1) (tn_lt hh) (by rw [A.e1]; exact Ne.symm (pm E)) (by rw [A.e1]; exact tn_ne (by omega))
    have k2 := ni u hu (by rw [A.e2]; exact pmz (by omega)) (by rw [A.e2]; exact pm1 E)
    have k3 := ni (tn u 3) (tn_lt hu) (by rw [A.e3]; exact tn_ne (by omega)) (by rw [A.e3]; exact pm E)
    have k4 : tn h 2 ≠ a (tn h 3) ∧ tn h 2 ≠ a (tn u 1) := ni (tn h 2) (tn_lt hh) (by rcases A.c with ⟨e, _⟩ | ⟨e, _⟩ <;> rw [e]; exact Ne.symm (pm E); exact tn_ne (by omega)) (by rcases A.c with ⟨e, _⟩ | ⟨e, _⟩ <;> rw [e]; exact tn_ne (by omega); exact pm E)
    have k5 : tn u 2 ≠ a (tn h 3) ∧ tn u 2 ≠ a (tn u 1) := ni (tn u 2) (tn_lt hu) (by rcases A.c with ⟨_, e⟩ | ⟨_, e⟩ <;> rw [e]; exact tn_ne (by omega); exact Ne.symm (pm E)) (by rcases A.c with ⟨_, e⟩ | ⟨_, e⟩ <;> rw [e]; exact pm E; exact tn_ne (by omega))
    have r2 : cut2 a (tn h 3) (tn u 1) (tn h 2) = a (tn h 2) := cut2_at _ _ (tn_ne (by omega)) (pm E) k4.1 k4.2
    have r5 : cut2 a (tn h 3) (tn u 1) (tn u 2) = a (tn u 2) := cut2_at _ _ (Ne.symm (pm E)) (tn_ne (by omega)) k5.1 k5.2
    have r1 : cut2 a (tn h 3) (tn u 1) (tn h 1) = tn u 3 := by rw [cut2_at _ _ (tn_ne (by omega)) (pm E) k1.1 k1.2, A.e1]
    have s1 : phi rot (cut2 a (tn h 3) (tn u 1)) (tn h 3) = tn h 2 := by unfold phi; rw [c1]; unfold rot; rw [tn_tn]; unfold tn; omega
    have ho : Orb (phi rot (cut2 a (tn h 3) (tn u 1))) (tn h 3) (tn u 1) := by
      rcases A.c with ⟨e, _⟩ | ⟨e, e'⟩
      · have s2 : phi rot (cut2 a (tn h 3) (tn u 1)) (tn h 2) = tn u 1 := by unfold phi; rw [r2, e]; unfold rot; rw [tn_tn]; unfold tn; omega
        refine ⟨2, ?_⟩
        show phi rot _ (phi rot _ (tn h 3)) = tn u 1
        rw [s1, s2]
      · have s2 : phi rot (cut2 a (tn h 3) (tn u 1)) (tn h 2) = tn h 1 := by unfold phi; rw [r2, e]; unfold rot; rw [tn_tn]; unfold tn; omega
        have s3 : phi rot (cut2 a (tn h 3) (tn u 1)) (tn h 1) = tn u 2 := by unfold phi; rw [r1]; unfold rot; rw [tn_tn]; unfold tn; omega
        have s4 : phi rot (cut2 a (tn h 3) (tn u 1)) (tn u 2) = tn u 1 := by unfold phi; rw [r5, e']; unfold rot; rw [tn_tn]; unfold tn; omega
        refine ⟨4, ?_⟩
        show phi rot _ (phi rot _ (phi rot _ (phi rot _ (tn h 3)))) = tn u 1
        rw [s1, s2, s3, s4]
    obtain ⟨g1, g2⟩ := byp_flat A.hm h3 u1 hAB n3 n1 hc ho A.fl
    have w1 : out d (tn u 1) = !out d (tn h 3) := by
      have a1 : out d (tn (tn h 1) 2) = !out d (tn h 1) := out_opp hw (tn_lt hh)
      have a2 : out d (tn (tn u 3) 2) = !out d (tn u 3) := out_opp hw (tn_lt hu)
      rw [tn_tn] at a1 a2
      rw [show tn u (3 + 2) = tn u 1 by unfold tn; omega] at a2
      have a3 := out_way hw (tn_lt (k := 1) hh)
      rw [L.m1] at a3
      rw [a2, a3, ← a1]
    refine ⟨g1, g2, byp_wy A.hm A.wy h3 u1 hAB n3 n1 hc w1, ?_, ?_, ?_, ?_, ?_, .inr ⟨b1, b2⟩, ?_⟩
    · rw [b5 h (pmz (by omega)) (pm1 E) k0.1 k0.2, A.e0]
    · rw [b5 _ (tn_ne (by omega)) (pm E) k1.1 k1.2, A.e1]
    · rw [b5 u (Ne.symm (pm0 E)) (pmz (by omega)) k2.1 k2.2, A.e2]
    · rw [b5 _ (Ne.symm (pm E)) (tn_ne (by omega)) k3.1 k3.2, A.e3]
    · rw [b5 _ (tn_ne (by omega)) (pm E) k4.1 k4.2, b5 _ (Ne.symm (pm E)) (tn_ne (by omega)) k5.1 k5.2]; exact A.c
    · intro z hz z1 z2 z5 z6
      by_cases z3 : z = a (tn h 3)
      · rw [z3, b3]; exact Ne.symm c6
      · by_cases z4 : z = a (tn u 1)
        · rw [z4, b4]; exact c6
        · rw [b5 z z5 z6 z3 z4]; exact A.nf z hz z1 z2
theorem Lens.lb (hd : Valid d) (L : Lens d h u) : LB2 d h u (lB d h u) := (L.la hd).lb (Valid.iff.1 hd).1 L
theorem LB2.rs (hw : Wf d) (L : Lens d h u) {b : Nat → Nat} (B : LB2 d h u b) {x y : Nat} (hxy : x < y) (hx : (x = h / 4 ∧ y = u / 4) ∨ (x = u / 4 ∧ y = h / 4)) {mt : List Nat} {lp : Nat} (hl : lp ≤ 64)
    (hmt : ∀ z, stay d [x, y] z → mt.getD z 0 = b z) : Rs d [x, y] mt lp b := by
  have hin : ∀ z, z / 4 ∈ [x, y] ↔ z / 4 = h / 4 ∨ z / 4 = u / 4 := fun z => by
    rw [List.mem_cons, List.mem_singleton]
    rcases hx with ⟨rfl, rfl⟩ | ⟨rfl, rfl⟩
    · exact Iff.rfl
    · exact Or.comm
  have s0 : ∀ k, tn h k / 4 = h / 4 ∨ tn h k / 4 = u / 4 := fun k => .inl (tn_div h k)
  have s1 : ∀ k, tn u k / 4 = h / 4 ∨ tn u k / 4 = u / 4 := fun k => .inr (tn_div u k)
  refine ⟨by simp; omega, few_two hxy, B.hm, fun z hz => ?_, hmt, fun z hz e => ?_, hl⟩
  · rw [hin]
    rcases (hin z).1 hz.2 with hz2 | hz2
    · have : z = h ∨ z = tn h 1 ∨ z = tn h 2 ∨ z = tn h 3 := by unfold tn; omega
      rcases this with rfl | rfl | rfl | rfl
      · rw [B.e0]; exact .inr rfl
      · rw [B.e1]; exact s1 _
      · rcases B.c with ⟨e, _⟩ | ⟨e, _⟩ <;> rw [e]; exact s1 _; exact s0 _
      · rcases B.c' with ⟨e, _⟩ | ⟨e, _⟩ <;> rw [e]; exact s1 _; exact s0 _
    · have : z = u ∨ z = tn u 1 ∨ z = tn u 2 ∨ z = tn u 3 := by unfold tn; omega
      rcases this with rfl | rfl | rfl | rfl
      · rw [B.e2]; exact .inl rfl
      · rcases B.c' with ⟨_, e⟩ | ⟨_, e⟩ <;> rw [e]; exact s0 _; exact s1 _
      · rcases B.c with ⟨_, e⟩ | ⟨_, e⟩ <;> rw [e]; exact s0 _; exact s1 _
      · rw [B.e3]; exact s0 _
  · have hno : ¬ (z / 4 = h / 4 ∨ z / 4 = u / 4) := fun e => hz.2 ((hin z).2 e)
    have hq : ∀ k, z ≠ tn h k ∧ z ≠ tn u k := fun k => ⟨fun e => hno (by rw [e]; exact s0 k), fun e => hno (by rw [e]; exact s1 k)⟩
    have := B.wy z hz.1 (B.nf z hz.1 (hq 2).1 (hq 2).2 (hq 3).1 (hq 1).2)
    rw [this] at e
    cases h : out d z <;> rw [h] at e <;> exact absurd e (by decide)
theorem Lens.valid (hd : Valid d) (L : Lens d h u) {x y : Nat} (hxy : x < y) (hx : (x = h / 4 ∧ y = u / 4) ∨ (x = u / 4 ∧ y = h / 4)) {mt : List Nat} {lp : Nat} (hl : lp ≤ 64)
    (hmt : ∀ z, stay d [x, y] z → mt.getD z 0 = lB d h u z) : Valid (rsD d [x, y] mt lp) :=
  ((L.lb hd).rs (Valid.iff.1 hd).1 L hxy hx hl hmt).valid (Valid.iff.1 hd).1 (L.lb hd).fl
end
end Go.Proofs.Ytobbepmlmbbamaa.Pl
end

section
/-
  Plain Lean: a poke keeps a diagram valid. No program is named here.
-/
namespace Go.Proofs.Ytobbepmlmbbamaa.Pl

def jl (l : List Nat) (a b : Nat) : List Nat := (l.set a b).set b a
theorem jl_len (l : List Nat) (a b : Nat) : (jl l a b).length = l.length := by unfold jl; simp
theorem jset_getD (l : List Nat) (a v z : Nat) (ha : a < l.length) : (l.set a v).getD z 0 = if z = a then v else l.getD z 0 := by
  rw [List.getD_eq_getElem?_getD, List.getD_eq_getElem?_getD, List.getElem?_set]
  by_cases e : a = z
  · subst e; simp [ha]
  · rw [if_neg e, if_neg (Ne.symm e)]
theorem jl_at {l : List Nat} {a b : Nat} (ha : a < l.length) (hb : b < l.length) (z : Nat) : (jl l a b).getD z 0 = if z = b then a else if z = a then b else l.getD z 0 := by
  unfold jl
  rw [jset_getD _ _ _ _ (by simpa using hb), jset_getD _ _ _ _ ha]
theorem tr_fix {a : Nat → Nat} {x y z : Nat} (hne : x ≠ y) (fx : a x = x) (fy : a y = y) (e : tr a x y z = z) : a z = z ∧ z ≠ x ∧ z ≠ y := by
  by_cases h1 : z = x
  · subst h1; rw [tr_a, fy] at e; exact absurd e.symm hne
  · by_cases h2 : z = y
    · subst h2; rw [tr_b, fx] at e; exact absurd e hne
    · rw [tr_ne h1 h2] at e; exact ⟨e, h1, h2⟩
/-- A list of mates that grows: darts without a mate are fixed by a. -/
structure MS (M : Nat) (o : Nat → Bool) (l : List Nat) (a : Nat → Nat) : Prop where
  hm : Hm (4 * M) (fun h => h < 4 * M) rot a
  fl : Flat (fun h => h < 4 * M) rot a
  wy : ∀ z, z < 4 * M → a z ≠ z → o (a z) = !o z
  len : l.length = 4 * M
  at_ : ∀ z, z < 4 * M → a z ≠ z → l.getD z 0 = a z
section
variable {M : Nat} {o : Nat → Bool} {l : List Nat} {a : Nat → Nat}
theorem MS.join' (m : MS M o l a) {x y : Nat} (hx : x < 4 * M) (hy : y < 4 * M) (hne : x ≠ y) (fx : a x = x) (fy : a y = y) (ho : o y = !o x) (hf : Flat (fun h => h < 4 * M) rot (tr a x y)) : MS M o (jl l x y) (tr a x y) := by
  refine ⟨m.hm.tr hx hy fx fy, hf, fun z hz e => ?_, by rw [jl_len, m.len], fun z hz e => ?_⟩
  · by_cases h1 : z = x
    · subst h1; rw [tr_a, fy, ho]
    · by_cases h2 : z = y
      · subst h2; rw [tr_b, fx, ho, Bool.not_not]
      · rw [tr_ne h1 h2] at e ⊢; exact m.wy z hz e
  · rw [jl_at (by rw [m.len]; exact hx) (by rw [m.len]; exact hy)]
    by_cases h2 : z = y
    · subst h2; rw [if_pos rfl, tr_b, fx]
    · rw [if_neg h2]
      by_cases h1 : z = x
      · subst h1; rw [if_pos rfl, tr_a, fy]
      · rw [if_neg h1, tr_ne h1 h2]; rw [tr_ne h1 h2] at e; exact m.at_ z hz e
theorem MS.join (m : MS M o l a) {x y : Nat} (hx : x < 4 * M) (hy : y < 4 * M) (hne : x ≠ y) (fx : a x = x) (fy : a y = y) (ho : o y = !o x) (hc : Orb (phi rot a) x y ∨ Orb (phi rot a) y x ∨ ¬ Con rot a x y) : MS M o (jl l x y) (tr a x y) := by
  refine m.join' hx hy hne fx fy ho (Flat.add m.hm hx hy hne fx fy (fun e => ?_) m.fl)
  rcases hc with h | h | h
  · exact h
  · exact m.hm.pb.symm hy h
  · exact absurd e h
/-- Two edges in the place of one, their list as it is. -/
theorem MS.two (m : MS M o l a) {x u v : Nat} (hx : x < 4 * M) (hu : u < 4 * M) (hv : v < 4 * M) (huv : u ≠ v) (nx : a x ≠ x) (fu : a u = u) (fv : a v = v) (ou : o u = !o x) (ov : o v = o x)
    (hf : Flat (fun h => h < 4 * M) rot (tr (tr (tr a x (a x)) x u) v (a x))) : MS M o (jl (jl l x u) v (a x)) (tr (tr (tr a x (a x)) x u) v (a x)) := by
  obtain ⟨c1, c2, c3⟩ := Hm.cut m.hm hx nx
  have hy : a x < 4 * M := m.hm.ab.maps x hx
  have xu : x ≠ u := fun e => nx (by rw [e]; exact fu)
  have xv : x ≠ v := fun e => nx (by rw [e]; exact fv)
  have yu : a x ≠ u := fun e => by have := m.hm.inv x hx; rw [e, fu] at this; exact xu this.symm
  have yv : a x ≠ v := fun e => by have := m.hm.inv x hx; rw [e, fv] at this; exact xv this.symm
  have fu1 : tr a x (a x) u = u := by rw [tr_ne (Ne.symm xu) (Ne.symm yu), fu]
  have fv1 : tr a x (a x) v = v := by rw [tr_ne (Ne.symm xv) (Ne.symm yv), fv]
  have h1 := c1.tr hx hu c2 fu1
  have fv2 : tr (tr a x (a x)) x u v = v := by rw [tr_ne (Ne.symm xv) (Ne.symm huv), fv1]
  have fy2 : tr (tr a x (a x)) x u (a x) = a x := by rw [tr_ne nx yu, c3]
  have oy := m.wy x hx nx
  have e1 : tr (tr (tr a x (a x)) x u) v (a x) x = u := by rw [tr_ne xv (Ne.symm nx), tr_a, fu1]
  have e2 : tr (tr (tr a x (a x)) x u) v (a x) u = x := by rw [tr_ne huv (Ne.symm yu), tr_b, c2]
  have e3 : tr (tr (tr a x (a x)) x u) v (a x) v = a x := by rw [tr_a, fy2]
  have e4 : tr (tr (tr a x (a x)) x u) v (a x) (a x) = v := by rw [tr_b, fv2]
  have e5 : ∀ z, z ≠ x → z ≠ u → z ≠ v → z ≠ a x → tr (tr (tr a x (a x)) x u) v (a x) z = a z := fun z z1 z2 z3 z4 => by rw [tr_ne z3 z4, tr_ne z1 z2, tr_ne z1 z4]
  refine ⟨h1.tr hv hy fv2 fy2, hf, fun z hz e => ?_, by rw [jl_len, jl_len, m.len], fun z hz e => ?_⟩
  · by_cases z1 : z = x
    · rw [z1, e1, ou]
    · by_cases z2 : z = u
      · rw [z2, e2, ou, Bool.not_not]
      · by_cases z3 : z = v
        · rw [z3, e3, oy, ov]
        · by_cases z4 : z = a x
          · rw [z4, e4, oy, ov, Bool.not_not]
          · rw [e5 z z1 z2 z3 z4] at e ⊢; exact m.wy z hz e
  · rw [jl_at (by rw [jl_len, m.len]; exact hv) (by rw [jl_len, m.len]; exact hy)]
    by_cases z4 : z = a x
    · rw [if_pos z4, z4, e4]
    · rw [if_neg z4]
      by_cases z3 : z = v
      · rw [if_pos z3, z3, e3]
      · rw [if_neg z3, jl_at (by rw [m.len]; exact hx) (by rw [m.len]; exact hu)]
        by_cases z2 : z = u
        · rw [if_pos z2, z2, e2]
        · rw [if_neg z2]
          by_cases z1 : z = x
          · rw [if_pos z1, z1, e1]
          · rw [if_neg z1, e5 z z1 z2 z3 z4]; rw [e5 z z1 z2 z3 z4] at e; exact m.at_ z hz e
theorem two_fix (m : MS M o l a) {x u v z : Nat} (hx : x < 4 * M) (hu : u < 4 * M) (hv : v < 4 * M) (huv : u ≠ v) (nx : a x ≠ x) (fu : a u = u) (fv : a v = v) (e : tr (tr (tr a x (a x)) x u) v (a x) z = z) : a z = z ∧ z ≠ u ∧ z ≠ v := by
  have xu : x ≠ u := fun e => nx (by rw [e]; exact fu)
  have xv : x ≠ v := fun e => nx (by rw [e]; exact fv)
  have yu : a x ≠ u := fun e => by have := m.hm.inv x hx; rw [e, fu] at this; exact xu this.symm
  have yv : a x ≠ v := fun e => by have := m.hm.inv x hx; rw [e, fv] at this; exact xv this.symm
  obtain ⟨c1, c2, c3⟩ := Hm.cut m.hm hx nx
  have fu1 : tr a x (a x) u = u := by rw [tr_ne (Ne.symm xu) (Ne.symm yu), fu]
  have fv1 : tr a x (a x) v = v := by rw [tr_ne (Ne.symm xv) (Ne.symm yv), fv]
  have fv2 : tr (tr a x (a x)) x u v = v := by rw [tr_ne (Ne.symm xv) (Ne.symm huv), fv1]
  have fy2 : tr (tr a x (a x)) x u (a x) = a x := by rw [tr_ne nx yu, c3]
  obtain ⟨g1, g2, g3⟩ := tr_fix (Ne.symm yv) fv2 fy2 e
  obtain ⟨g4, g5, g6⟩ := tr_fix xu c2 fu1 g1
  rw [tr_ne g5 g3] at g4
  exact ⟨g4, g6, g2⟩
/-- A part that hangs together with nothing is laid into the edge of x. -/
theorem MS.detour (m : MS M o l a) {x u v : Nat} (hx : x < 4 * M) (hu : u < 4 * M) (hv : v < 4 * M) (huv : u ≠ v) (nx : a x ≠ x) (fu : a u = u) (fv : a v = v) (ou : o u = !o x) (ov : o v = o x)
    (n1 : ¬ Con rot a x u) (ho : Orb (phi rot a) v u) : MS M o (jl (jl l x u) v (a x)) (tr (tr (tr a x (a x)) x u) v (a x)) := by
  refine m.two hx hu hv huv nx fu fv ou ov ?_
  obtain ⟨c1, c2, c3⟩ := Hm.cut m.hm hx nx
  have hy : a x < 4 * M := m.hm.ab.maps x hx
  have xu : x ≠ u := fun e => nx (by rw [e]; exact fu)
  have xv : x ≠ v := fun e => nx (by rw [e]; exact fv)
  have yu : a x ≠ u := fun e => by have := m.hm.inv x hx; rw [e, fu] at this; exact xu this.symm
  have yv : a x ≠ v := fun e => by have := m.hm.inv x hx; rw [e, fv] at this; exact xv this.symm
  have fu1 : tr a x (a x) u = u := by rw [tr_ne (Ne.symm xu) (Ne.symm yu), fu]
  have fv1 : tr a x (a x) v = v := by rw [tr_ne (Ne.symm xv) (Ne.symm yv), fv]
  -- what the cut map holds together, the whole one does
  have up : ∀ {z w}, z < 4 * M → Con rot (tr a x (a x)) z w → Con rot a z w := by
    intro z w hz e
    refine con_sub c1 m.hm.ceqv (fun t _ => Con.refl.left) (fun t ht => ?_) hz e
    by_cases t1 : t = x
    · subst t1; rw [c2]; exact .refl
    · by_cases t2 : t = a x
      · subst t2; rw [c3]; exact .refl
      · rw [tr_ne t1 t2]; exact Con.refl.right
  have cxy : Con rot a x (a x) := Con.refl.right
  have k1 : ¬ Con rot (tr a x (a x)) x u := fun e => n1 (up hx e)
  have k2 : ¬ Con rot (tr a x (a x)) (a x) u := fun e => n1 (cxy.trans (up hy e))
  -- v's face does not come to x
  have ho2 : Orb (phi rot (tr a x (a x))) v u := by
    have cv : Con rot a v u := orb_phi_con ho
    obtain ⟨k, hk⟩ := ho
    have run : ∀ j, it (phi rot (tr a x (a x))) j v = it (phi rot a) j v := by
      intro j
      induction j with
      | zero => rfl
      | succ j ih =>
        show phi rot (tr a x (a x)) (it (phi rot (tr a x (a x))) j v) = phi rot a (it (phi rot a) j v)
        rw [ih]
        have hz := m.hm.pb.it j v hv
        have ov' : Con rot a v (it (phi rot a) j v) := orb_phi_con ⟨j, rfl⟩
        have z1 : it (phi rot a) j v ≠ x := fun e => n1 (by rw [e] at ov'; exact (m.hm.con_symm hv ov').trans cv)
        have z2 : it (phi rot a) j v ≠ a x := fun e => n1 (by rw [e] at ov'; exact cxy.trans ((m.hm.con_symm hv ov').trans cv))
        show rot (tr a x (a x) (it (phi rot a) j v)) = rot (a (it (phi rot a) j v))
        rw [tr_ne z1 z2]
    exact ⟨k, by rw [run]; exact hk⟩
  have hg : Gen (fun h => h < 4 * M) rot (tr (tr a x (a x)) x (a x)) 0 := by rw [tr_tr]; exact m.fl
  exact Gen.detour c1 hx hy hu hv (Ne.symm nx) huv c2 c3 fu1 fv1 k1 k2 ho2 hg
/-- The edge of y is pushed over: what lies beside c and d is laid into it. -/
theorem MS.push (m : MS M o l a) {y c e p : Nat} (hy : y < 4 * M) (hc : c < 4 * M) (he : e < 4 * M) (ce : c ≠ e) (ny : a y ≠ y) (fc : a c = c) (fe : a e = e) (oc : o c = !o y) (oe : o e = o y)
    (e1 : phi rot a e = p) (e2 : phi rot a p = c) (py : p ≠ y) (pc : p ≠ c) (pyy : p ≠ a y) (hn : Orb (phi rot a) c y ∨ ¬ Con rot a c y) : MS M o (jl (jl l y c) e (a y)) (tr (tr (tr a y (a y)) y c) e (a y)) := by
  refine m.two hy hc he ce ny fc fe oc oe ?_
  obtain ⟨c1, c2, c3⟩ := Hm.cut m.hm hy ny
  have hy' : a y < 4 * M := m.hm.ab.maps y hy
  have yc : y ≠ c := fun h => ny (by rw [h]; exact fc)
  have ye : y ≠ e := fun h => ny (by rw [h]; exact fe)
  have yyc : a y ≠ c := fun h => by have := m.hm.inv y hy; rw [h, fc] at this; exact yc this.symm
  have yye : a y ≠ e := fun h => by have := m.hm.inv y hy; rw [h, fe] at this; exact ye this.symm
  refine Flat.push c1 (p := p) hy hy' hc he (Ne.symm ny) yc ye ce yyc yye c2 c3 (by rw [tr_ne (Ne.symm yc) (Ne.symm yyc), fc]) (by rw [tr_ne (Ne.symm ye) (Ne.symm yye), fe]) ?_ ?_ py pc ?_ ?_
  · unfold phi; rw [tr_ne (Ne.symm ye) (Ne.symm yye)]; exact e1
  · unfold phi; rw [tr_ne py pyy]; exact e2
  · rw [tr_tr]; exact hn
  · rw [tr_tr]; exact m.fl
end
/-- Valid, where every half-edge has got its mate. -/
theorem MS.valid {d' : Dg} {a : Nat → Nat} (m : MS d'.n (out d') d'.mt a) (few : d'.n ≤ 64) (lp : d'.lp ≤ 64) (sign : ∀ c, c < d'.n → d'.s c = 1 ∨ d'.s c = -1) (nf : ∀ z, z < 4 * d'.n → a z ≠ z) : Valid d' := by
  have e : ∀ z, z < 4 * d'.n → d'.m z = a z := fun z hz => by
    rw [← m.at_ z hz (nf z hz)]
    unfold Dg.m
    rw [List.getD_eq_getElem?_getD, List.getD_eq_getElem?_getD, List.getElem?_eq_getElem (by rw [m.len]; exact hz)]
    rfl
  refine Valid.iff.2 ⟨wf_by few m.len lp sign fun z hz => ?_, ?_⟩
  · have h2 := m.hm.ab.maps z hz
    rw [e z hz, e _ h2]
    refine ⟨h2, m.hm.inv z hz, ?_⟩
    rw [m.wy z hz (nf z hz)]
    cases out d' z <;> decide
  · exact Gen.congr m.hm (fun _ _ => rfl) (fun z hz => (e z hz).symm) m.fl
end Go.Proofs.Ytobbepmlmbbamaa.Pl
end
