/-
  The texts Cmk, Pke in one.
-/
import Derived.Test.YtobbepmlmbbamaaBV34
set_option linter.unusedVariables false
set_option linter.unusedSimpArgs false

section
/-
  Plain Lean: no move changes the number of components: pokes; what a poke laid in, taken out again. No program is named here.
-/
namespace Go.Proofs.Ytobbepmlmbbamaa.Pl
section
variable {d : Dg} {h u : Nat}
theorem Lens.lA_c (E : d.m (tn h 2) = tn u 2) : lA d h u = d.m := by unfold lA Pl.cls; rw [if_pos E]
theorem Lens.lA_e (hw : Wf d) (L : Lens d h u) (E : d.m (tn h 2) ≠ tn u 2) : lA d h u (d.m (tn h 2)) = d.m (tn u 2) ∧ lA d h u (d.m (tn u 2)) = d.m (tn h 2) ∧ ∀ z, z ≠ tn h 2 → z ≠ tn u 2 → z ≠ d.m (tn h 2) → z ≠ d.m (tn u 2) → lA d h u z = d.m z := by
  have hh := L.hh
  have hu := L.hu hw
  obtain ⟨b1, b2, b3, b4, b5⟩ := byp_at hw.hm (tn_lt hh) (tn_lt hu) (pm L.ne) (hw.ne _ (tn_lt (k := 2) hh)) (hw.ne _ (tn_lt (k := 2) hu)) E
  unfold lA Pl.cls
  rw [if_neg E]
  exact ⟨b3, b4, b5⟩
theorem Lens.lB_c (E : lA d h u (tn h 3) = tn u 1) : lB d h u = lA d h u := by unfold lB; unfold Pl.cls; rw [if_pos E]
theorem Lens.lB_e (hd : Valid d) (L : Lens d h u) (E : lA d h u (tn h 3) ≠ tn u 1) : lB d h u (lA d h u (tn h 3)) = lA d h u (tn u 1) ∧ lB d h u (lA d h u (tn u 1)) = lA d h u (tn h 3) ∧
    ∀ z, z ≠ tn h 3 → z ≠ tn u 1 → z ≠ lA d h u (tn h 3) → z ≠ lA d h u (tn u 1) → lB d h u z = lA d h u z := by
  have hw := (Valid.iff.1 hd).1
  have hh := L.hh
  have hu := L.hu hw
  have A := L.la hd
  obtain ⟨b1, b2, b3, b4, b5⟩ := byp_at A.hm (tn_lt hh) (tn_lt hu) (pm L.ne) (A.nf _ (tn_lt (k := 3) hh) (tn_ne (by omega)) (pm L.ne)) (A.nf _ (tn_lt (k := 1) hu) (Ne.symm (pm L.ne)) (tn_ne (by omega))) E
  unfold lB
  unfold Pl.cls
  rw [if_neg E]
  exact ⟨b3, b4, b5⟩
end
theorem tn_pp (n f t k : Nat) : tn (pp n f t) k = pp n f (t + k) := by unfold tn pp; omega
/-- What a poke laid in, taken out. -/
structure Out (d d' : Dg) (f g c1 c2 : Nat) : Prop where
  n : d'.n = d.n + 2
  L : Lens d' (pp d.n f 0) (pp (d.n + 1) g 2)
  b : ∀ z, z < 4 * d.n → lB d' (pp d.n f 0) (pp (d.n + 1) g 2) z = d.m z
  e1 : c1 = if d'.m (pp d.n f 2) = pp (d.n + 1) g 0 then 1 else 0
  e2 : c2 = if lA d' (pp d.n f 0) (pp (d.n + 1) g 2) (pp d.n f 3) = pp (d.n + 1) g 3 then 1 else 0
section
variable {d d' : Dg} {f g c1 c2 : Nat}
theorem Out.stay (O : Out d d' f g c1 c2) (z : Nat) : Pl.stay d' [d.n, d.n + 1] z ↔ z < 4 * d.n := by
  unfold Pl.stay
  rw [O.n, List.mem_cons, List.mem_singleton]
  omega
theorem Out.hx (O : Out d d' f g c1 c2) : (d.n = pp d.n f 0 / 4 ∧ d.n + 1 = pp (d.n + 1) g 2 / 4) ∨ (d.n = pp (d.n + 1) g 2 / 4 ∧ d.n + 1 = pp d.n f 0 / 4) := by
  left; unfold pp; omega
theorem Out.same (hd : Valid d) (hd' : Valid d') (O : Out d d' f g c1 c2) (hlp : d.lp = d'.lp + c1 + c2) : Same d d' := by
  intro s s' h h'
  have hw := (Valid.iff.1 hd).1
  have hw' := (Valid.iff.1 hd').1
  have R := (O.L.lb hd').rs hw' O.L (x := d.n) (y := d.n + 1) (by omega) O.hx (lp := 0) (by omega) (mt := List.ofFn (n := 4 * d'.n) (fun z => lB d' (pp d.n f 0) (pp (d.n + 1) g 2) z.1)) (fun z hz => by
    rw [List.getD_eq_getElem?_getD, List.getElem?_ofFn, dif_pos hz.1]; rfl)
  have := in_same hw hw' R O.stay O.b (O.L.cls hd' (h'.all hw')) (O.L.gone hd' O.hx) h
  have q1 : tn (pp d.n f 0) 2 = pp d.n f 2 := tn_pp _ _ _ _
  have q2 : tn (pp (d.n + 1) g 2) 2 = pp (d.n + 1) g 0 := by rw [tn_pp, show 2 + 2 = 0 + 4 from rfl, pp_mod]
  have q3 : tn (pp d.n f 0) 3 = pp d.n f 3 := tn_pp _ _ _ _
  have q4 : tn (pp (d.n + 1) g 2) 1 = pp (d.n + 1) g 3 := tn_pp _ _ _ _
  rw [q1, q2, q3, q4] at this
  have e1 := O.e1
  have e2 := O.e2
  by_cases a1 : d'.m (pp d.n f 2) = pp (d.n + 1) g 0 <;> by_cases a2 : lA d' (pp d.n f 0) (pp (d.n + 1) g 2) (pp d.n f 3) = pp (d.n + 1) g 3 <;> simp only [a1, a2, if_true, if_false] at this e1 e2 <;> omega
/-- The inner mates. -/
structure In (d d' : Dg) (f g : Nat) : Prop where
  n : d'.n = d.n + 2
  v : Valid d'
  m0 : d'.m (pp d.n f 0) = pp (d.n + 1) g 2
  m1 : d'.m (pp d.n f 1) = pp (d.n + 1) g 1
theorem In.lens (I : In d d' f g) : Lens d' (pp d.n f 0) (pp (d.n + 1) g 2) :=
  ⟨by rw [I.n]; unfold pp; omega, I.m0, by rw [tn_pp, I.m1, tn_pp, show 2 + 3 = 1 + 4 from rfl, pp_mod], by unfold pp; omega⟩
section
variable (I : In d d' f g)
include I
theorem In.e1 (E : d'.m (pp d.n f 2) ≠ pp (d.n + 1) g 0) : lA d' (pp d.n f 0) (pp (d.n + 1) g 2) (d'.m (pp d.n f 2)) = d'.m (pp (d.n + 1) g 0) ∧ lA d' (pp d.n f 0) (pp (d.n + 1) g 2) (d'.m (pp (d.n + 1) g 0)) = d'.m (pp d.n f 2) ∧
    ∀ z, z ≠ pp d.n f 2 → z ≠ pp (d.n + 1) g 0 → z ≠ d'.m (pp d.n f 2) → z ≠ d'.m (pp (d.n + 1) g 0) → lA d' (pp d.n f 0) (pp (d.n + 1) g 2) z = d'.m z := by
  have q1 : tn (pp d.n f 0) 2 = pp d.n f 2 := tn_pp _ _ _ _
  have q2 : tn (pp (d.n + 1) g 2) 2 = pp (d.n + 1) g 0 := by rw [tn_pp, show 2 + 2 = 0 + 4 from rfl, pp_mod]
  have := I.lens.lA_e (Valid.iff.1 I.v).1 (by rw [q1, q2]; exact E)
  rwa [q1, q2] at this
theorem In.k1 (E : d'.m (pp d.n f 2) = pp (d.n + 1) g 0) : lA d' (pp d.n f 0) (pp (d.n + 1) g 2) = d'.m := by
  have _ := I
  have q1 : tn (pp d.n f 0) 2 = pp d.n f 2 := tn_pp _ _ _ _
  have q2 : tn (pp (d.n + 1) g 2) 2 = pp (d.n + 1) g 0 := by rw [tn_pp, show 2 + 2 = 0 + 4 from rfl, pp_mod]
  exact Lens.lA_c (by rw [q1, q2]; exact E)
theorem In.e2 (E : lA d' (pp d.n f 0) (pp (d.n + 1) g 2) (pp d.n f 3) ≠ pp (d.n + 1) g 3) : lB d' (pp d.n f 0) (pp (d.n + 1) g 2) (lA d' (pp d.n f 0) (pp (d.n + 1) g 2) (pp d.n f 3)) = lA d' (pp d.n f 0) (pp (d.n + 1) g 2) (pp (d.n + 1) g 3) ∧
    lB d' (pp d.n f 0) (pp (d.n + 1) g 2) (lA d' (pp d.n f 0) (pp (d.n + 1) g 2) (pp (d.n + 1) g 3)) = lA d' (pp d.n f 0) (pp (d.n + 1) g 2) (pp d.n f 3) ∧
    ∀ z, z ≠ pp d.n f 3 → z ≠ pp (d.n + 1) g 3 → z ≠ lA d' (pp d.n f 0) (pp (d.n + 1) g 2) (pp d.n f 3) → z ≠ lA d' (pp d.n f 0) (pp (d.n + 1) g 2) (pp (d.n + 1) g 3) → lB d' (pp d.n f 0) (pp (d.n + 1) g 2) z = lA d' (pp d.n f 0) (pp (d.n + 1) g 2) z := by
  have q3 : tn (pp d.n f 0) 3 = pp d.n f 3 := tn_pp _ _ _ _
  have q4 : tn (pp (d.n + 1) g 2) 1 = pp (d.n + 1) g 3 := tn_pp _ _ _ _
  have := I.lens.lB_e I.v (by rw [q3, q4]; exact E)
  rwa [q3, q4] at this
theorem In.k2 (E : lA d' (pp d.n f 0) (pp (d.n + 1) g 2) (pp d.n f 3) = pp (d.n + 1) g 3) : lB d' (pp d.n f 0) (pp (d.n + 1) g 2) = lA d' (pp d.n f 0) (pp (d.n + 1) g 2) := by
  have _ := I
  have q3 : tn (pp d.n f 0) 3 = pp d.n f 3 := tn_pp _ _ _ _
  have q4 : tn (pp (d.n + 1) g 2) 1 = pp (d.n + 1) g 3 := tn_pp _ _ _ _
  exact Lens.lB_c (by rw [q3, q4]; exact E)
theorem In.po (t : Nat) {z : Nat} (hz : z < 4 * d.n) : z ≠ pp d.n f t := by have _ := I; have := pp_bd d.n f t; omega
theorem In.qo (t : Nat) {z : Nat} (hz : z < 4 * d.n) : z ≠ pp (d.n + 1) g t := by have _ := I; have := pp_bd (d.n + 1) g t; omega
/-- Two edges. -/
theorem In.edges (hw : Wf d) {x y : Nat} (hx : x < 4 * d.n) (hy : y < 4 * d.n) (xy : x ≠ y) (xm : d.m x ≠ y) (v2 : d'.m (pp d.n f 2) = d.m y) (v0 : d'.m (pp (d.n + 1) g 0) = y) (v3 : d'.m (pp d.n f 3) = x) (w3 : d'.m (pp (d.n + 1) g 3) = d.m x)
    (old : ∀ z, z < 4 * d.n → z ≠ x → z ≠ d.m x → z ≠ y → z ≠ d.m y → d'.m z = d.m z) : Out d d' f g 0 0 := by
  have hmx := hw.lt x hx
  have hmy := hw.lt y hy
  have n1 : d'.m (pp d.n f 2) ≠ pp (d.n + 1) g 0 := by rw [v2]; exact I.qo 0 hmy
  obtain ⟨a1, a2, a3⟩ := I.e1 n1
  rw [v2, v0] at a1 a2 a3
  have k1 := a3 (pp d.n f 3) (pp_ne (by omega)) pp_nq (Ne.symm (I.po 3 hmy)) (Ne.symm (I.po 3 hy))
  have k2 := a3 (pp (d.n + 1) g 3) (Ne.symm pp_nq) (pp_ne (by omega)) (Ne.symm (I.qo 3 hmy)) (Ne.symm (I.qo 3 hy))
  rw [v3] at k1
  rw [w3] at k2
  have n2 : lA d' (pp d.n f 0) (pp (d.n + 1) g 2) (pp d.n f 3) ≠ pp (d.n + 1) g 3 := by rw [k1]; exact I.qo 3 hx
  obtain ⟨b1, b2, b3⟩ := I.e2 n2
  rw [k1, k2] at b1 b2 b3
  refine ⟨I.n, I.lens, fun z hz => ?_, by rw [if_neg n1], by rw [if_neg n2]⟩
  by_cases z1 : z = x
  · rw [z1, b1]
  · by_cases z2 : z = d.m x
    · rw [z2, b2, hw.inv x hx]
    · rw [b3 z (I.po 3 hz) (I.qo 3 hz) z1 z2]
      by_cases z3 : z = y
      · rw [z3, a2]
      · by_cases z4 : z = d.m y
        · rw [z4, a1, hw.inv y hy]
        · rw [a3 z (I.po 2 hz) (I.qo 0 hz) z4 z3, old z hz z1 z2 z3 z4]
/-- Two loops. -/
theorem In.loops (v2 : d'.m (pp d.n f 2) = pp (d.n + 1) g 0) (v3 : d'.m (pp d.n f 3) = pp (d.n + 1) g 3) (old : ∀ z, z < 4 * d.n → d'.m z = d.m z) : Out d d' f g 1 1 := by
  have k := I.k1 v2
  have n2 : lA d' (pp d.n f 0) (pp (d.n + 1) g 2) (pp d.n f 3) = pp (d.n + 1) g 3 := by rw [k, v3]
  exact ⟨I.n, I.lens, fun z hz => by rw [I.k2 n2, k, old z hz], by rw [if_pos v2], by rw [if_pos n2]⟩
/-- The first an edge, the second a loop. -/
theorem In.xedge (hw : Wf d) {x : Nat} (hx : x < 4 * d.n) (v2 : d'.m (pp d.n f 2) = pp (d.n + 1) g 0) (v3 : d'.m (pp d.n f 3) = x) (w3 : d'.m (pp (d.n + 1) g 3) = d.m x)
    (old : ∀ z, z < 4 * d.n → z ≠ x → z ≠ d.m x → d'.m z = d.m z) : Out d d' f g 1 0 := by
  have k := I.k1 v2
  have n2 : lA d' (pp d.n f 0) (pp (d.n + 1) g 2) (pp d.n f 3) ≠ pp (d.n + 1) g 3 := by rw [k, v3]; exact I.qo 3 hx
  obtain ⟨b1, b2, b3⟩ := I.e2 n2
  rw [k, v3, w3] at b1 b2 b3
  refine ⟨I.n, I.lens, fun z hz => ?_, by rw [if_pos v2], by rw [if_neg n2]⟩
  by_cases z1 : z = x
  · rw [z1, b1]
  · by_cases z2 : z = d.m x
    · rw [z2, b2, hw.inv x hx]
    · rw [b3 z (I.po 3 hz) (I.qo 3 hz) z1 z2, old z hz z1 z2]
/-- The first a loop, the second an edge. -/
theorem In.yedge (hw : Wf d) {y : Nat} (hy : y < 4 * d.n) (v2 : d'.m (pp d.n f 2) = d.m y) (v0 : d'.m (pp (d.n + 1) g 0) = y) (v3 : d'.m (pp d.n f 3) = pp (d.n + 1) g 3)
    (old : ∀ z, z < 4 * d.n → z ≠ y → z ≠ d.m y → d'.m z = d.m z) : Out d d' f g 0 1 := by
  have hmy := hw.lt y hy
  have n1 : d'.m (pp d.n f 2) ≠ pp (d.n + 1) g 0 := by rw [v2]; exact I.qo 0 hmy
  obtain ⟨a1, a2, a3⟩ := I.e1 n1
  rw [v2, v0] at a1 a2 a3
  have n2 : lA d' (pp d.n f 0) (pp (d.n + 1) g 2) (pp d.n f 3) = pp (d.n + 1) g 3 := by
    rw [a3 (pp d.n f 3) (pp_ne (by omega)) pp_nq (Ne.symm (I.po 3 hmy)) (Ne.symm (I.po 3 hy)), v3]
  refine ⟨I.n, I.lens, fun z hz => ?_, by rw [if_neg n1], by rw [if_pos n2]⟩
  rw [I.k2 n2]
  by_cases z3 : z = y
  · rw [z3, a2]
  · by_cases z4 : z = d.m y
    · rw [z4, a1, hw.inv y hy]
    · rw [a3 z (I.po 2 hz) (I.qo 0 hz) z4 z3, old z hz z3 z4]
/-- A loop over itself. -/
theorem In.self0 (v2 : d'.m (pp d.n f 2) = pp d.n f 3) (v0 : d'.m (pp (d.n + 1) g 0) = pp (d.n + 1) g 3) (old : ∀ z, z < 4 * d.n → d'.m z = d.m z) : Out d d' f g 0 1 := by
  have n1 : d'.m (pp d.n f 2) ≠ pp (d.n + 1) g 0 := by rw [v2]; exact pp_nq
  obtain ⟨a1, a2, a3⟩ := I.e1 n1
  rw [v2, v0] at a1 a2 a3
  refine ⟨I.n, I.lens, fun z hz => ?_, by rw [if_neg n1], by rw [if_pos a1]⟩
  rw [I.k2 a1, a3 z (I.po 2 hz) (I.qo 0 hz) (I.po 3 hz) (I.qo 3 hz), old z hz]
/-- An edge over itself. -/
theorem In.self1 (hw : Wf d) {x : Nat} (hx : x < 4 * d.n) (v2 : d'.m (pp d.n f 2) = d.m x) (v0 : d'.m (pp (d.n + 1) g 0) = pp (d.n + 1) g 3) (v3 : d'.m (pp d.n f 3) = x)
    (old : ∀ z, z < 4 * d.n → z ≠ x → z ≠ d.m x → d'.m z = d.m z) : Out d d' f g 0 0 := by
  have hmx := hw.lt x hx
  have n1 : d'.m (pp d.n f 2) ≠ pp (d.n + 1) g 0 := by rw [v2]; exact I.qo 0 hmx
  obtain ⟨a1, a2, a3⟩ := I.e1 n1
  rw [v2, v0] at a1 a2 a3
  have k1 := a3 (pp d.n f 3) (pp_ne (by omega)) pp_nq (Ne.symm (I.po 3 hmx)) pp_nq
  rw [v3] at k1
  have n2 : lA d' (pp d.n f 0) (pp (d.n + 1) g 2) (pp d.n f 3) ≠ pp (d.n + 1) g 3 := by rw [k1]; exact I.qo 3 hx
  obtain ⟨b1, b2, b3⟩ := I.e2 n2
  rw [k1, a2] at b1 b2 b3
  refine ⟨I.n, I.lens, fun z hz => ?_, by rw [if_neg n1], by rw [if_neg n2]⟩
  by_cases z1 : z = x
  · rw [z1, b1]
  · by_cases z2 : z = d.m x
    · rw [z2, b2, hw.inv x hx]
    · rw [b3 z (I.po 3 hz) (I.qo 3 hz) z1 z2, a3 z (I.po 2 hz) (I.qo 0 hz) z2 (I.qo 3 hz), old z hz z1 z2]
theorem In.self2 (hw : Wf d) {x : Nat} (hx : x < 4 * d.n) (v2 : d'.m (pp d.n f 2) = pp d.n f 3) (v0 : d'.m (pp (d.n + 1) g 0) = x) (w3 : d'.m (pp (d.n + 1) g 3) = d.m x)
    (old : ∀ z, z < 4 * d.n → z ≠ x → z ≠ d.m x → d'.m z = d.m z) : Out d d' f g 0 0 := by
  have hmx := hw.lt x hx
  have n1 : d'.m (pp d.n f 2) ≠ pp (d.n + 1) g 0 := by rw [v2]; exact pp_nq
  obtain ⟨a1, a2, a3⟩ := I.e1 n1
  rw [v2, v0] at a1 a2 a3
  have k2 := a3 (pp (d.n + 1) g 3) (Ne.symm pp_nq) (pp_ne (by omega)) (Ne.symm pp_nq) (Ne.symm (I.qo 3 hx))
  rw [w3] at k2
  have n2 : lA d' (pp d.n f 0) (pp (d.n + 1) g 2) (pp d.n f 3) ≠ pp (d.n + 1) g 3 := by rw [a1]; exact I.qo 3 hx
  obtain ⟨b1, b2, b3⟩ := I.e2 n2
  rw [a1, k2] at b1 b2 b3
  refine ⟨I.n, I.lens, fun z hz => ?_, by rw [if_neg n1], by rw [if_neg n2]⟩
  by_cases z1 : z = x
  · rw [z1, b1]
  · by_cases z2 : z = d.m x
    · rw [z2, b2, hw.inv x hx]
    · rw [b3 z (I.po 3 hz) (I.qo 3 hz) z1 z2, a3 z (I.po 2 hz) (I.qo 0 hz) (I.po 3 hz) z1, old z hz z1 z2]
end
end
end Go.Proofs.Ytobbepmlmbbamaa.Pl
end

section
/-
  Plain Lean: what a poke laid in, from the list of the mates. No program is named here.
-/
namespace Go.Proofs.Ytobbepmlmbbamaa.Pl
section
variable {d d' : Dg} {f g : Nat} {fx fy : Bool}
theorem Pd.l0 (hd : Valid d) (K : Pd d d' f g fx fy) : (pkL0 d f g).length = 4 * (d.n + 2) ∧ (pkL0 d f g).getD (pp d.n f 0) 0 = pp (d.n + 1) g 2 ∧ (pkL0 d f g).getD (pp d.n f 1) 0 = pp (d.n + 1) g 1 ∧ ∀ z, z < 4 * d.n → (pkL0 d f g).getD z 0 = d.m z := by
  have B := K.base hd
  have hw := (Valid.iff.1 hd).1
  refine ⟨B.ms.len, ?_, ?_, fun z hz => ?_⟩
  · rw [B.ms.at_ _ (by unfold pp; omega) (by rw [B.b4]; unfold pp; omega), B.b4]
  · rw [B.ms.at_ _ (by unfold pp; omega) (by rw [B.b1]; unfold pp; omega), B.b1]
  · rw [B.ms.at_ z (by omega) (by rw [B.old z hz]; exact hw.ne z hz), B.old z hz]
theorem Pd.out_loops (hd : Valid d) (K : Pd d d' f g fx fy) (hv : Valid d') (hl : d'.mt = jl (jl (pkL0 d f g) (pp (d.n + 1) g 0) (pp d.n f 2)) (pp d.n f 3) (pp (d.n + 1) g 3)) : Out d d' f g 1 1 := by
  have hw := (Valid.iff.1 hd).1
  have hw' := (Valid.iff.1 hv).1
  obtain ⟨ln, l0, l1, lo⟩ := K.l0 hd
  have e : ∀ z, z < 4 * (d.n + 2) → d'.m z = if z = (pp (d.n + 1) g 3) then (pp d.n f 3) else if z = (pp d.n f 3) then (pp (d.n + 1) g 3) else if z = (pp d.n f 2) then (pp (d.n + 1) g 0) else if z = (pp (d.n + 1) g 0) then (pp d.n f 2) else (pkL0 d f g).getD z 0 := fun z hz => by
    rw [← dg_m hw' (by rw [K.n]; exact hz), hl, jl_at (by simp only [jl_len, ln, pp]; omega) (by simp only [jl_len, ln, pp]; omega), jl_at (by simp only [jl_len, ln, pp]; omega) (by simp only [jl_len, ln, pp]; omega)]
  have m0 : d'.m (pp d.n f 0) = (pp (d.n + 1) g 2) := by rw [e _ (by unfold pp; omega), if_neg (by unfold pp; omega), if_neg (by unfold pp; omega), if_neg (by unfold pp; omega), if_neg (by unfold pp; omega), l0]
  have m1 : d'.m (pp d.n f 1) = (pp (d.n + 1) g 1) := by rw [e _ (by unfold pp; omega), if_neg (by unfold pp; omega), if_neg (by unfold pp; omega), if_neg (by unfold pp; omega), if_neg (by unfold pp; omega), l1]
  have v2 : d'.m (pp d.n f 2) = (pp (d.n + 1) g 0) := by rw [e _ (by unfold pp; omega), if_neg (by unfold pp; omega), if_neg (by unfold pp; omega), if_pos rfl]
  have v0 : d'.m (pp (d.n + 1) g 0) = (pp d.n f 2) := by rw [e _ (by unfold pp; omega), if_neg (by unfold pp; omega), if_neg (by unfold pp; omega), if_neg (by unfold pp; omega), if_pos rfl]
  have v3 : d'.m (pp d.n f 3) = (pp (d.n + 1) g 3) := by rw [e _ (by unfold pp; omega), if_neg (by unfold pp; omega), if_pos rfl]
  have w3 : d'.m (pp (d.n + 1) g 3) = (pp d.n f 3) := by rw [e _ (by unfold pp; omega), if_pos rfl]
  have old : ∀ z, z < 4 * d.n → d'.m z = d.m z := fun z hz => by rw [e z (by omega), if_neg (by unfold pp; omega), if_neg (by unfold pp; omega), if_neg (by unfold pp; omega), if_neg (by unfold pp; omega), lo z hz]
  exact (show In d d' f g from ⟨K.n, hv, m0, m1⟩).loops v2 v3 old
theorem Pd.out_xedge (hd : Valid d) (K : Pd d d' f g fx fy) (hv : Valid d') {x : Nat} (hx : x < 4 * d.n) (hl : d'.mt = jl (jl (jl (pkL0 d f g) (pp (d.n + 1) g 0) (pp d.n f 2)) x (pp d.n f 3)) (pp (d.n + 1) g 3) (d.m x)) : Out d d' f g 1 0 := by
  have hw := (Valid.iff.1 hd).1
  have hw' := (Valid.iff.1 hv).1
  obtain ⟨ln, l0, l1, lo⟩ := K.l0 hd
  have hmx := hw.lt x hx
  have hnex := hw.ne x hx
  have e : ∀ z, z < 4 * (d.n + 2) → d'.m z = if z = (d.m x) then (pp (d.n + 1) g 3) else if z = (pp (d.n + 1) g 3) then (d.m x) else if z = (pp d.n f 3) then x else if z = x then (pp d.n f 3) else if z = (pp d.n f 2) then (pp (d.n + 1) g 0) else if z = (pp (d.n + 1) g 0) then (pp d.n f 2) else (pkL0 d f g).getD z 0 := fun z hz => by
    rw [← dg_m hw' (by rw [K.n]; exact hz), hl, jl_at (by simp only [jl_len, ln, pp]; omega) (by simp only [jl_len, ln, pp]; omega), jl_at (by simp only [jl_len, ln, pp]; omega) (by simp only [jl_len, ln, pp]; omega), jl_at (by simp only [jl_len, ln, pp]; omega) (by simp only [jl_len, ln, pp]; omega)]
  have m0 : d'.m (pp d.n f 0) = (pp (d.n + 1) g 2) := by rw [e _ (by unfold pp; omega), if_neg (by unfold pp; omega), if_neg (by unfold pp; omega), if_neg (by unfold pp; omega), if_neg (by unfold pp; omega), if_neg (by unfold pp; omega), if_neg (by unfold pp; omega), l0]
  have m1 : d'.m (pp d.n f 1) = (pp (d.n + 1) g 1) := by rw [e _ (by unfold pp; omega), if_neg (by unfold pp; omega), if_neg (by unfold pp; omega), if_neg (by unfold pp; omega), if_neg (by unfold pp; omega), if_neg (by unfold pp; omega), if_neg (by unfold pp; omega), l1]
  have v2 : d'.m (pp d.n f 2) = (pp (d.n + 1) g 0) := by rw [e _ (by unfold pp; omega), if_neg (by unfold pp; omega), if_neg (by unfold pp; omega), if_neg (by unfold pp; omega), if_neg (by unfold pp; omega), if_pos rfl]
  have v0 : d'.m (pp (d.n + 1) g 0) = (pp d.n f 2) := by rw [e _ (by unfold pp; omega), if_neg (by unfold pp; omega), if_neg (by unfold pp; omega), if_neg (by unfold pp; omega), if_neg (by unfold pp; omega), if_neg (by unfold pp; omega), if_pos rfl]
  have v3 : d'.m (pp d.n f 3) = x := by rw [e _ (by unfold pp; omega), if_neg (by unfold pp; omega), if_neg (by unfold pp; omega), if_pos rfl]
  have w3 : d'.m (pp (d.n + 1) g 3) = (d.m x) := by rw [e _ (by unfold pp; omega), if_neg (by unfold pp; omega), if_pos rfl]
  have old : ∀ z, z < 4 * d.n → z ≠ x → z ≠ d.m x → d'.m z = d.m z := fun z hz z1 z2 => by rw [e z (by omega), if_neg z2, if_neg (by unfold pp; omega), if_neg (by unfold pp; omega), if_neg z1, if_neg (by unfold pp; omega), if_neg (by unfold pp; omega), lo z hz]
  exact (show In d d' f g from ⟨K.n, hv, m0, m1⟩).xedge hw hx v2 v3 w3 old
theorem Pd.out_yedge (hd : Valid d) (K : Pd d d' f g fx fy) (hv : Valid d') {y : Nat} (hy : y < 4 * d.n) (hl : d'.mt = jl (jl (jl (pkL0 d f g) y (pp (d.n + 1) g 0)) (pp d.n f 2) (d.m y)) (pp d.n f 3) (pp (d.n + 1) g 3)) : Out d d' f g 0 1 := by
  have hw := (Valid.iff.1 hd).1
  have hw' := (Valid.iff.1 hv).1
  obtain ⟨ln, l0, l1, lo⟩ := K.l0 hd
  have hmy := hw.lt y hy
  have hney := hw.ne y hy
  have e : ∀ z, z < 4 * (d.n + 2) → d'.m z = if z = (pp (d.n + 1) g 3) then (pp d.n f 3) else if z = (pp d.n f 3) then (pp (d.n + 1) g 3) else if z = (d.m y) then (pp d.n f 2) else if z = (pp d.n f 2) then (d.m y) else if z = (pp (d.n + 1) g 0) then y else if z = y then (pp (d.n + 1) g 0) else (pkL0 d f g).getD z 0 := fun z hz => by
    rw [← dg_m hw' (by rw [K.n]; exact hz), hl, jl_at (by simp only [jl_len, ln, pp]; omega) (by simp only [jl_len, ln, pp]; omega), jl_at (by simp only [jl_len, ln, pp]; omega) (by simp only [jl_len, ln, pp]; omega), jl_at (by simp only [jl_len, ln, pp]; omega) (by simp only [jl_len, ln, pp]; omega)]
  have m0 : d'.m (pp d.n f 0) = (pp (d.n + 1) g 2) := by rw [e _ (by unfold pp; omega), if_neg (by unfold pp; omega), if_neg (by unfold pp; omega), if_neg (by unfold pp; omega), if_neg (by unfold pp; omega), if_neg (by unfold pp; omega), if_neg (by unfold pp; omega), l0]
  have m1 : d'.m (pp d.n f 1) = (pp (d.n + 1) g 1) := by rw [e _ (by unfold pp; omega), if_neg (by unfold pp; omega), if_neg (by unfold pp; omega), if_neg (by unfold pp; omega), if_neg (by unfold pp; omega), if_neg (by unfold pp; omega), if_neg (by unfold pp; omega), l1]
  have v2 : d'.m (pp d.n f 2) = (d.m y) := by rw [e _ (by unfold pp; omega), if_neg (by unfold pp; omega), if_neg (by unfold pp; omega), if_neg (by unfold pp; omega), if_pos rfl]
  have v0 : d'.m (pp (d.n + 1) g 0) = y := by rw [e _ (by unfold pp; omega), if_neg (by unfold pp; omega), if_neg (by unfold pp; omega), if_neg (by unfold pp; omega), if_neg (by unfold pp; omega), if_pos rfl]
  have v3 : d'.m (pp d.n f 3) = (pp (d.n + 1) g 3) := by rw [e _ (by unfold pp; omega), if_neg (by unfold pp; omega), if_pos rfl]
  have w3 : d'.m (pp (d.n + 1) g 3) = (pp d.n f 3) := by rw [e _ (by unfold pp; omega), if_pos rfl]
  have old : ∀ z, z < 4 * d.n → z ≠ y → z ≠ d.m y → d'.m z = d.m z := fun z hz z1 z2 => by rw [e z (by omega), if_neg (by unfold pp; omega), if_neg (by unfold pp; omega), if_neg z2, if_neg (by unfold pp; omega), if_neg (by unfold pp; omega), if_neg z1, lo z hz]
  exact (show In d d' f g from ⟨K.n, hv, m0, m1⟩).yedge hw hy v2 v0 v3 old
theorem Pd.out_edges (hd : Valid d) (K : Pd d d' f g fx fy) (hv : Valid d') {x : Nat} (hx : x < 4 * d.n) {y : Nat} (hy : y < 4 * d.n) (xy : x ≠ y) (xm : d.m x ≠ y) (hl : d'.mt = jl (jl (jl (jl (pkL0 d f g) y (pp (d.n + 1) g 0)) (pp d.n f 2) (d.m y)) x (pp d.n f 3)) (pp (d.n + 1) g 3) (d.m x)) : Out d d' f g 0 0 := by
  have hw := (Valid.iff.1 hd).1
  have hw' := (Valid.iff.1 hv).1
  obtain ⟨ln, l0, l1, lo⟩ := K.l0 hd
  have hmx := hw.lt x hx
  have hnex := hw.ne x hx
  have hmy := hw.lt y hy
  have hney := hw.ne y hy
  have ym : d.m y ≠ x := fun e => xm (by rw [← e, hw.inv y hy])
  have mm : d.m x ≠ d.m y := fun e => xy (hw.bij.inj _ _ hx hy e)
  have e : ∀ z, z < 4 * (d.n + 2) → d'.m z = if z = (d.m x) then (pp (d.n + 1) g 3) else if z = (pp (d.n + 1) g 3) then (d.m x) else if z = (pp d.n f 3) then x else if z = x then (pp d.n f 3) else if z = (d.m y) then (pp d.n f 2) else if z = (pp d.n f 2) then (d.m y) else if z = (pp (d.n + 1) g 0) then y else if z = y then (pp (d.n + 1) g 0) else (pkL0 d f g).getD z 0 := fun z hz => by
    rw [← dg_m hw' (by rw [K.n]; exact hz), hl, jl_at (by simp only [jl_len, ln, pp]; omega) (by simp only [jl_len, ln, pp]; omega), jl_at (by simp only [jl_len, ln, pp]; omega) (by simp only [jl_len, ln, pp]; omega), jl_at (by simp only [jl_len, ln, pp]; omega) (by simp only [jl_len, ln, pp]; omega), jl_at (by simp only [jl_len, ln, pp]; omega) (by simp only [jl_len, ln, pp]; omega)]
  have m0 : d'.m (pp d.n f 0) = (pp (d.n + 1) g 2) := by rw [e _ (by unfold pp; omega), if_neg (by unfold pp; omega), if_neg (by unfold pp; omega), if_neg (by unfold pp; omega), if_neg (by unfold pp; omega), if_neg (by unfold pp; omega), if_neg (by unfold pp; omega), if_neg (by unfold pp; omega), if_neg (by unfold pp; omega), l0]
  have m1 : d'.m (pp d.n f 1) = (pp (d.n + 1) g 1) := by rw [e _ (by unfold pp; omega), if_neg (by unfold pp; omega), if_neg (by unfold pp; omega), if_neg (by unfold pp; omega), if_neg (by unfold pp; omega), if_neg (by unfold pp; omega), if_neg (by unfold pp; omega), if_neg (by unfold pp; omega), if_neg (by unfold pp; omega), l1]
  have v2 : d'.m (pp d.n f 2) = (d.m y) := by rw [e _ (by unfold pp; omega), if_neg (by unfold pp; omega), if_neg (by unfold pp; omega), if_neg (by unfold pp; omega), if_neg (by unfold pp; omega), if_neg (by unfold pp; omega), if_pos rfl]
  have v0 : d'.m (pp (d.n + 1) g 0) = y := by rw [e _ (by unfold pp; omega), if_neg (by unfold pp; omega), if_neg (by unfold pp; omega), if_neg (by unfold pp; omega), if_neg (by unfold pp; omega), if_neg (by unfold pp; omega), if_neg (by unfold pp; omega), if_pos rfl]
  have v3 : d'.m (pp d.n f 3) = x := by rw [e _ (by unfold pp; omega), if_neg (by unfold pp; omega), if_neg (by unfold pp; omega), if_pos rfl]
  have w3 : d'.m (pp (d.n + 1) g 3) = (d.m x) := by rw [e _ (by unfold pp; omega), if_neg (by unfold pp; omega), if_pos rfl]
  have old : ∀ z, z < 4 * d.n → z ≠ x → z ≠ d.m x → z ≠ y → z ≠ d.m y → d'.m z = d.m z := fun z hz z1 z2 z3 z4 => by rw [e z (by omega), if_neg z2, if_neg (by unfold pp; omega), if_neg (by unfold pp; omega), if_neg z1, if_neg z4, if_neg (by unfold pp; omega), if_neg (by unfold pp; omega), if_neg z3, lo z hz]
  exact (show In d d' f g from ⟨K.n, hv, m0, m1⟩).edges hw hx hy xy xm v2 v0 v3 w3 old
theorem Pd.out_self0 (hd : Valid d) (K : Pd d d' f g fx fy) (hv : Valid d') (hl : d'.mt = jl (jl (pkL0 d f g) (pp (d.n + 1) g 3) (pp (d.n + 1) g 0)) (pp d.n f 2) (pp d.n f 3)) : Out d d' f g 0 1 := by
  have hw := (Valid.iff.1 hd).1
  have hw' := (Valid.iff.1 hv).1
  obtain ⟨ln, l0, l1, lo⟩ := K.l0 hd
  have e : ∀ z, z < 4 * (d.n + 2) → d'.m z = if z = (pp d.n f 3) then (pp d.n f 2) else if z = (pp d.n f 2) then (pp d.n f 3) else if z = (pp (d.n + 1) g 0) then (pp (d.n + 1) g 3) else if z = (pp (d.n + 1) g 3) then (pp (d.n + 1) g 0) else (pkL0 d f g).getD z 0 := fun z hz => by
    rw [← dg_m hw' (by rw [K.n]; exact hz), hl, jl_at (by simp only [jl_len, ln, pp]; omega) (by simp only [jl_len, ln, pp]; omega), jl_at (by simp only [jl_len, ln, pp]; omega) (by simp only [jl_len, ln, pp]; omega)]
  have m0 : d'.m (pp d.n f 0) = (pp (d.n + 1) g 2) := by rw [e _ (by unfold pp; omega), if_neg (by unfold pp; omega), if_neg (by unfold pp; omega), if_neg (by unfold pp; omega), if_neg (by unfold pp; omega), l0]
  have m1 : d'.m (pp d.n f 1) = (pp (d.n + 1) g 1) := by rw [e _ (by unfold pp; omega), if_neg (by unfold pp; omega), if_neg (by unfold pp; omega), if_neg (by unfold pp; omega), if_neg (by unfold pp; omega), l1]
  have v2 : d'.m (pp d.n f 2) = (pp d.n f 3) := by rw [e _ (by unfold pp; omega), if_neg (by unfold pp; omega), if_pos rfl]
  have v0 : d'.m (pp (d.n + 1) g 0) = (pp (d.n + 1) g 3) := by rw [e _ (by unfold pp; omega), if_neg (by unfold pp; omega), if_neg (by unfold pp; omega), if_pos rfl]
  have v3 : d'.m (pp d.n f 3) = (pp d.n f 2) := by rw [e _ (by unfold pp; omega), if_pos rfl]
  have w3 : d'.m (pp (d.n + 1) g 3) = (pp (d.n + 1) g 0) := by rw [e _ (by unfold pp; omega), if_neg (by unfold pp; omega), if_neg (by unfold pp; omega), if_neg (by unfold pp; omega), if_pos rfl]
  have old : ∀ z, z < 4 * d.n → d'.m z = d.m z := fun z hz => by rw [e z (by omega), if_neg (by unfold pp; omega), if_neg (by unfold pp; omega), if_neg (by unfold pp; omega), if_neg (by unfold pp; omega), lo z hz]
  exact (show In d d' f g from ⟨K.n, hv, m0, m1⟩).self0 v2 v0 old
theorem Pd.out_self1 (hd : Valid d) (K : Pd d d' f g fx fy) (hv : Valid d') {x : Nat} (hx : x < 4 * d.n) (hl : d'.mt = jl (jl (jl (pkL0 d f g) x (pp d.n f 3)) (pp (d.n + 1) g 3) (pp (d.n + 1) g 0)) (pp d.n f 2) (d.m x)) : Out d d' f g 0 0 := by
  have hw := (Valid.iff.1 hd).1
  have hw' := (Valid.iff.1 hv).1
  obtain ⟨ln, l0, l1, lo⟩ := K.l0 hd
  have hmx := hw.lt x hx
  have hnex := hw.ne x hx
  have e : ∀ z, z < 4 * (d.n + 2) → d'.m z = if z = (d.m x) then (pp d.n f 2) else if z = (pp d.n f 2) then (d.m x) else if z = (pp (d.n + 1) g 0) then (pp (d.n + 1) g 3) else if z = (pp (d.n + 1) g 3) then (pp (d.n + 1) g 0) else if z = (pp d.n f 3) then x else if z = x then (pp d.n f 3) else (pkL0 d f g).getD z 0 := fun z hz => by
    rw [← dg_m hw' (by rw [K.n]; exact hz), hl, jl_at (by simp only [jl_len, ln, pp]; omega) (by simp only [jl_len, ln, pp]; omega), jl_at (by simp only [jl_len, ln, pp]; omega) (by simp only [jl_len, ln, pp]; omega), jl_at (by simp only [jl_len, ln, pp]; omega) (by simp only [jl_len, ln, pp]; omega)]
  have m0 : d'.m (pp d.n f 0) = (pp (d.n + 1) g 2) := by rw [e _ (by unfold pp; omega), if_neg (by unfold pp; omega), if_neg (by unfold pp; omega), if_neg (by unfold pp; omega), if_neg (by unfold pp; omega), if_neg (by unfold pp; omega), if_neg (by unfold pp; omega), l0]
  have m1 : d'.m (pp d.n f 1) = (pp (d.n + 1) g 1) := by rw [e _ (by unfold pp; omega), if_neg (by unfold pp; omega), if_neg (by unfold pp; omega), if_neg (by unfold pp; omega), if_neg (by unfold pp; omega), if_neg (by unfold pp; omega), if_neg (by unfold pp; omega), l1]
  have v2 : d'.m (pp d.n f 2) = (d.m x) := by rw [e _ (by unfold pp; omega), if_neg (by unfold pp; omega), if_pos rfl]
  have v0 : d'.m (pp (d.n + 1) g 0) = (pp (d.n + 1) g 3) := by rw [e _ (by unfold pp; omega), if_neg (by unfold pp; omega), if_neg (by unfold pp; omega), if_pos rfl]
  have v3 : d'.m (pp d.n f 3) = x := by rw [e _ (by unfold pp; omega), if_neg (by unfold pp; omega), if_neg (by unfold pp; omega), if_neg (by unfold pp; omega), if_neg (by unfold pp; omega), if_pos rfl]
  have w3 : d'.m (pp (d.n + 1) g 3) = (pp (d.n + 1) g 0) := by rw [e _ (by unfold pp; omega), if_neg (by unfold pp; omega), if_neg (by unfold pp; omega), if_neg (by unfold pp; omega), if_pos rfl]
  have old : ∀ z, z < 4 * d.n → z ≠ x → z ≠ d.m x → d'.m z = d.m z := fun z hz z1 z2 => by rw [e z (by omega), if_neg z2, if_neg (by unfold pp; omega), if_neg (by unfold pp; omega), if_neg (by unfold pp; omega), if_neg (by unfold pp; omega), if_neg z1, lo z hz]
  exact (show In d d' f g from ⟨K.n, hv, m0, m1⟩).self1 hw hx v2 v0 v3 old
theorem Pd.out_self2 (hd : Valid d) (K : Pd d d' f g fx fy) (hv : Valid d') {x : Nat} (hx : x < 4 * d.n) (hl : d'.mt = jl (jl (jl (pkL0 d f g) x (pp (d.n + 1) g 0)) (pp d.n f 2) (pp d.n f 3)) (pp (d.n + 1) g 3) (d.m x)) : Out d d' f g 0 0 := by
  have hw := (Valid.iff.1 hd).1
  have hw' := (Valid.iff.1 hv).1
  obtain ⟨ln, l0, l1, lo⟩ := K.l0 hd
  have hmx := hw.lt x hx
  have hnex := hw.ne x hx
  have e : ∀ z, z < 4 * (d.n + 2) → d'.m z = if z = (d.m x) then (pp (d.n + 1) g 3) else if z = (pp (d.n + 1) g 3) then (d.m x) else if z = (pp d.n f 3) then (pp d.n f 2) else if z = (pp d.n f 2) then (pp d.n f 3) else if z = (pp (d.n + 1) g 0) then x else if z = x then (pp (d.n + 1) g 0) else (pkL0 d f g).getD z 0 := fun z hz => by
    rw [← dg_m hw' (by rw [K.n]; exact hz), hl, jl_at (by simp only [jl_len, ln, pp]; omega) (by simp only [jl_len, ln, pp]; omega), jl_at (by simp only [jl_len, ln, pp]; omega) (by simp only [jl_len, ln, pp]; omega), jl_at (by simp only [jl_len, ln, pp]; omega) (by simp only [jl_len, ln, pp]; omega)]
  have m0 : d'.m (pp d.n f 0) = (pp (d.n + 1) g 2) := by rw [e _ (by unfold pp; omega), if_neg (by unfold pp; omega), if_neg (by unfold pp; omega), if_neg (by unfold pp; omega), if_neg (by unfold pp; omega), if_neg (by unfold pp; omega), if_neg (by unfold pp; omega), l0]
  have m1 : d'.m (pp d.n f 1) = (pp (d.n + 1) g 1) := by rw [e _ (by unfold pp; omega), if_neg (by unfold pp; omega), if_neg (by unfold pp; omega), if_neg (by unfold pp; omega), if_neg (by unfold pp; omega), if_neg (by unfold pp; omega), if_neg (by unfold pp; omega), l1]
  have v2 : d'.m (pp d.n f 2) = (pp d.n f 3) := by rw [e _ (by unfold pp; omega), if_neg (by unfold pp; omega), if_neg (by unfold pp; omega), if_neg (by unfold pp; omega), if_pos rfl]
  have v0 : d'.m (pp (d.n + 1) g 0) = x := by rw [e _ (by unfold pp; omega), if_neg (by unfold pp; omega), if_neg (by unfold pp; omega), if_neg (by unfold pp; omega), if_neg (by unfold pp; omega), if_pos rfl]
  have v3 : d'.m (pp d.n f 3) = (pp d.n f 2) := by rw [e _ (by unfold pp; omega), if_neg (by unfold pp; omega), if_neg (by unfold pp; omega), if_pos rfl]
  have w3 : d'.m (pp (d.n + 1) g 3) = (d.m x) := by rw [e _ (by unfold pp; omega), if_neg (by unfold pp; omega), if_pos rfl]
  have old : ∀ z, z < 4 * d.n → z ≠ x → z ≠ d.m x → d'.m z = d.m z := fun z hz z1 z2 => by rw [e z (by omega), if_neg z2, if_neg (by unfold pp; omega), if_neg (by unfold pp; omega), if_neg (by unfold pp; omega), if_neg (by unfold pp; omega), if_neg z1, lo z hz]
  exact (show In d d' f g from ⟨K.n, hv, m0, m1⟩).self2 hw hx v2 v0 w3 old
end
end Go.Proofs.Ytobbepmlmbbamaa.Pl
end
