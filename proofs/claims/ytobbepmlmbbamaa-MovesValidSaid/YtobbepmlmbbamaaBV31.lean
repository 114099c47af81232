/-
  The texts Pkv in one.
-/
import Derived.Test.YtobbepmlmbbamaaBV30
set_option linter.unusedVariables false
set_option linter.unusedSimpArgs false

section
/-
  Plain Lean: a poke keeps a diagram valid: the two crossings, and each way of laying them into the edges. No program is named here.
-/
namespace Go.Proofs.Ytobbepmlmbbamaa.Pl

theorem jl_comm {l : List Nat} {a b c e : Nat} (ac : a ≠ c) (ae : a ≠ e) (bc : b ≠ c) (be : b ≠ e) : jl (jl l a b) c e = jl (jl l c e) a b := by
  unfold jl
  rw [List.set_comm a e bc, List.set_comm b e ac, List.set_comm a c be, List.set_comm b c ae]
section
variable {M : Nat} {o : Nat → Bool} {l : List Nat} {a : Nat → Nat}
theorem two_at (m : MS M o l a) {x u v : Nat} (hx : x < 4 * M) (huv : u ≠ v) (nx : a x ≠ x) (fu : a u = u) (fv : a v = v) :
    tr (tr (tr a x (a x)) x u) v (a x) x = u ∧ tr (tr (tr a x (a x)) x u) v (a x) u = x ∧ tr (tr (tr a x (a x)) x u) v (a x) v = a x ∧ tr (tr (tr a x (a x)) x u) v (a x) (a x) = v ∧
    ∀ z, z ≠ x → z ≠ u → z ≠ v → z ≠ a x → tr (tr (tr a x (a x)) x u) v (a x) z = a z := by
  obtain ⟨c1, c2, c3⟩ := Hm.cut m.hm hx nx
  have xu : x ≠ u := fun e => nx (by rw [e]; exact fu)
  have xv : x ≠ v := fun e => nx (by rw [e]; exact fv)
  have yu : a x ≠ u := fun e => by have := m.hm.inv x hx; rw [e, fu] at this; exact xu this.symm
  have yv : a x ≠ v := fun e => by have := m.hm.inv x hx; rw [e, fv] at this; exact xv this.symm
  have fu1 : tr a x (a x) u = u := by rw [tr_ne (Ne.symm xu) (Ne.symm yu), fu]
  have fv1 : tr a x (a x) v = v := by rw [tr_ne (Ne.symm xv) (Ne.symm yv), fv]
  have fv2 : tr (tr a x (a x)) x u v = v := by rw [tr_ne (Ne.symm xv) (Ne.symm huv), fv1]
  have fy2 : tr (tr a x (a x)) x u (a x) = a x := by rw [tr_ne nx yu, c3]
  exact ⟨by rw [tr_ne xv (Ne.symm nx), tr_a, fu1], by rw [tr_ne huv (Ne.symm yu), tr_b, c2], by rw [tr_a, fy2], by rw [tr_b, fv2], fun z z1 z2 z3 z4 => by rw [tr_ne z3 z4, tr_ne z1 z2, tr_ne z1 z4]⟩
end
/-- The half-edges of a new crossing, by the sides. -/
def pp (n f t : Nat) : Nat := 4 * n + (t + f) % 4
theorem rot_pp (n f t : Nat) : rot (pp n f t) = pp n f (t + 3) := by unfold rot tn pp; omega
theorem pp_mod (n f t : Nat) : pp n f (t + 4) = pp n f t := by unfold pp; omega
theorem pp_bd (n f t : Nat) : 4 * n ≤ pp n f t ∧ pp n f t < 4 * n + 4 := by unfold pp; omega
theorem pp_ne {n f s t : Nat} (h : s % 4 ≠ t % 4) : pp n f s ≠ pp n f t := by unfold pp; omega
theorem pp_nq {n f g s t : Nat} : pp n f s ≠ pp (n + 1) g t := by unfold pp; omega
theorem pp_cover {n f z : Nat} (h : 4 * n ≤ z ∧ z < 4 * n + 4) : z = pp n f 0 ∨ z = pp n f 1 ∨ z = pp n f 2 ∨ z = pp n f 3 := by unfold pp; omega
/-- What a poke adds, but for the outer mates. -/
structure Pd (d d' : Dg) (f g : Nat) (fx fy : Bool) : Prop where
  few : d.n + 2 ≤ 64
  n : d'.n = d.n + 2
  lp : d'.lp ≤ 64
  old : ∀ c, c < d.n → d'.s c = d.s c
  s0 : d'.s d.n = 1 ∨ d'.s d.n = -1
  s1 : d'.s (d.n + 1) = 1 ∨ d'.s (d.n + 1) = -1
  p0 : out d' (pp d.n f 0) = !fy
  p1 : out d' (pp d.n f 1) = fx
  p2 : out d' (pp d.n f 2) = fy
  p3 : out d' (pp d.n f 3) = !fx
  q0 : out d' (pp (d.n + 1) g 0) = !fy
  q1 : out d' (pp (d.n + 1) g 1) = !fx
  q2 : out d' (pp (d.n + 1) g 2) = fy
  q3 : out d' (pp (d.n + 1) g 3) = fx
section
variable {d d' : Dg} {f g : Nat} {fx fy : Bool}
/-- The mates that every poke has. -/
def pkL0 (d : Dg) (f g : Nat) : List Nat := jl (jl (d.mt ++ List.replicate 8 0) (pp d.n f 1) (pp (d.n + 1) g 1)) (pp (d.n + 1) g 2) (pp d.n f 0)
def pkB (d : Dg) (f g : Nat) : Nat → Nat := tr (tr (ex d.n d.m) (pp d.n f 1) (pp (d.n + 1) g 1)) (pp (d.n + 1) g 2) (pp d.n f 0)
theorem Pd.ext (hd : Valid d) (K : Pd d d' f g fx fy) : MS (d.n + 2) (out d') (d.mt ++ List.replicate 8 0) (ex d.n d.m) := by
  have hv := Valid.iff.1 hd
  have hw := hv.1
  refine ⟨ext_hm (by omega) hw.hm, ext_gen (by omega) hw.hm hv.2, fun z hz e => ?_, by rw [List.length_append, hw.len]; simp; omega, fun z hz e => ?_⟩
  · have hz2 : z < 4 * d.n := Nat.lt_of_not_le fun h => e (ex_new h)
    have hm := hw.lt z hz2
    rw [ex_old hz2, out_old (d := d) (K.old _ (by omega)), out_old (d := d) (K.old _ (by omega)), out_way hw hz2]
  · have hz2 : z < 4 * d.n := Nat.lt_of_not_le fun h => e (ex_new h)
    rw [ex_old hz2, ← dg_m hw hz2, List.getD_eq_getElem?_getD, List.getD_eq_getElem?_getD, List.getElem?_append_left (by rw [hw.len]; exact hz2)]
/-- The base: its values. -/
structure Bs (d d' : Dg) (f g : Nat) (b : Nat → Nat) : Prop where
  ms : MS (d.n + 2) (out d') (pkL0 d f g) b
  old : ∀ z, z < 4 * d.n → b z = d.m z
  b1 : b (pp d.n f 1) = pp (d.n + 1) g 1
  b2 : b (pp (d.n + 1) g 1) = pp d.n f 1
  b3 : b (pp (d.n + 1) g 2) = pp d.n f 0
  b4 : b (pp d.n f 0) = pp (d.n + 1) g 2
  f1 : b (pp d.n f 2) = pp d.n f 2
  f2 : b (pp d.n f 3) = pp d.n f 3
  f3 : b (pp (d.n + 1) g 0) = pp (d.n + 1) g 0
  f4 : b (pp (d.n + 1) g 3) = pp (d.n + 1) g 3
theorem Pd.base (hd : Valid d) (K : Pd d d' f g fx fy) : Bs d d' f g (pkB d f g) := by
  have m0 := K.ext hd
  have P : ∀ t, 4 * d.n ≤ pp d.n f t ∧ pp d.n f t < 4 * d.n + 4 := pp_bd d.n f
  have Q : ∀ t, 4 * (d.n + 1) ≤ pp (d.n + 1) g t ∧ pp (d.n + 1) g t < 4 * (d.n + 1) + 4 := pp_bd (d.n + 1) g
  have fP : ∀ t, ex d.n d.m (pp d.n f t) = pp d.n f t := fun t => ex_new (P t).1
  have fQ : ∀ t, ex d.n d.m (pp (d.n + 1) g t) = pp (d.n + 1) g t := fun t => ex_new (by have := (Q t).1; omega)
  have pl : ∀ t, pp d.n f t < 4 * (d.n + 2) := fun t => by have := (P t).2; omega
  have ql : ∀ t, pp (d.n + 1) g t < 4 * (d.n + 2) := fun t => by have := (Q t).2; omega
  have m1 := m0.join (pl 1) (ql 1) pp_nq (fP 1) (fQ 1) (by rw [K.q1, K.p1]) (.inr (.inr fun e => by
    have : ∀ w, Con rot (ex d.n d.m) (pp d.n f 1) w → w / 4 = d.n := by
      intro w e
      induction e with
      | refl => have := P 1; omega
      | left _ ih => show tn _ 3 / 4 = d.n; rw [tn_div]; exact ih
      | right _ ih => rw [ex_new (by omega)]; exact ih
    have h1 := this _ e
    have := Q 1
    omega))
  have g1 : ∀ z, z ≠ pp d.n f 1 → z ≠ pp (d.n + 1) g 1 → tr (ex d.n d.m) (pp d.n f 1) (pp (d.n + 1) g 1) z = ex d.n d.m z := fun z z1 z2 => tr_ne z1 z2
  have m2 := m1.join (ql 2) (pl 0) (Ne.symm pp_nq) (by rw [g1 _ (Ne.symm pp_nq) (pp_ne (by omega)), fQ]) (by rw [g1 _ (pp_ne (by omega)) pp_nq, fP]) (by rw [K.q2, K.p0]) (.inl ⟨2, by
    show phi rot _ (phi rot _ (pp (d.n + 1) g 2)) = _
    have s1 : phi rot (tr (ex d.n d.m) (pp d.n f 1) (pp (d.n + 1) g 1)) (pp (d.n + 1) g 2) = pp (d.n + 1) g 1 := by
      unfold phi; rw [g1 _ (Ne.symm pp_nq) (pp_ne (by omega)), fQ, rot_pp, show 2 + 3 = 1 + 4 from rfl, pp_mod]
    have s2 : phi rot (tr (ex d.n d.m) (pp d.n f 1) (pp (d.n + 1) g 1)) (pp (d.n + 1) g 1) = pp d.n f 0 := by
      unfold phi; rw [tr_b, fP, rot_pp, show 1 + 3 = 0 + 4 from rfl, pp_mod]
    rw [s1, s2]⟩)
  have g2 : ∀ z, z ≠ pp (d.n + 1) g 2 → z ≠ pp d.n f 0 → z ≠ pp d.n f 1 → z ≠ pp (d.n + 1) g 1 → pkB d f g z = ex d.n d.m z := fun z z1 z2 z3 z4 => by unfold pkB; rw [tr_ne z1 z2, tr_ne z3 z4]
  refine ⟨m2, fun z hz => ?_, ?_, ?_, ?_, ?_, ?_, ?_, ?_, ?_⟩
  · have := P 0; have := P 1; have := Q 1; have := Q 2
    rw [g2 z (by omega) (by omega) (by omega) (by omega), ex_old hz]
  · unfold pkB; rw [tr_ne pp_nq (pp_ne (by omega)), tr_a, fQ]
  · unfold pkB; rw [tr_ne (pp_ne (by omega)) (Ne.symm pp_nq), tr_b, fP]
  · unfold pkB; rw [tr_a, tr_ne (pp_ne (by omega)) pp_nq, fP]
  · unfold pkB; rw [tr_b, tr_ne (Ne.symm pp_nq) (pp_ne (by omega)), fQ]
  · rw [g2 _ pp_nq (pp_ne (by omega)) (pp_ne (by omega)) pp_nq, fP]
  · rw [g2 _ pp_nq (pp_ne (by omega)) (pp_ne (by omega)) pp_nq, fP]
  · rw [g2 _ (pp_ne (by omega)) (Ne.symm pp_nq) (Ne.symm pp_nq) (pp_ne (by omega)), fQ]
  · rw [g2 _ (pp_ne (by omega)) (Ne.symm pp_nq) (Ne.symm pp_nq) (pp_ne (by omega)), fQ]
theorem Bs.far {b : Nat → Nat} (hd : Valid d) (B : Bs d d' f g b) {x w : Nat} (hx : x < 4 * d.n) (hw : 4 * d.n ≤ w) : ¬ Con rot b x w := fun e => by
  have := con_old (n := d.n) (b := b) (fun z hz => by rw [B.old z hz]; exact (Valid.iff.1 hd).1.lt z hz) hx e
  omega
/-- What is left without a mate is one of the eight. -/
theorem Bs.fix {b : Nat → Nat} (hd : Valid d) (B : Bs d d' f g b) {z : Nat} (hz : z < 4 * (d.n + 2)) (e : b z = z) : z = pp d.n f 2 ∨ z = pp d.n f 3 ∨ z = pp (d.n + 1) g 0 ∨ z = pp (d.n + 1) g 3 := by
  rcases Nat.lt_or_ge z (4 * d.n) with h | h
  · rw [B.old z h] at e; exact absurd e ((Valid.iff.1 hd).1.ne z h)
  · rcases Nat.lt_or_ge z (4 * d.n + 4) with h2 | h2
    · rcases pp_cover (f := f) ⟨h, h2⟩ with rfl | rfl | rfl | rfl
      · rw [B.b4] at e; exact absurd e (Ne.symm pp_nq)
      · rw [B.b1] at e; exact absurd e (Ne.symm pp_nq)
      · exact .inl rfl
      · exact .inr (.inl rfl)
    · rcases pp_cover (n := d.n + 1) (f := g) (z := z) ⟨by omega, by omega⟩ with rfl | rfl | rfl | rfl
      · exact .inr (.inr (.inl rfl))
      · rw [B.b2] at e; exact absurd e pp_nq
      · rw [B.b3] at e; exact absurd e pp_nq
      · exact .inr (.inr (.inr rfl))
/-! What lies in the faces of the base -/
variable {b : Nat → Nat}
theorem stp {r b : Nat → Nat} {x y z : Nat} (e : b x = y) (h : r y = z) : phi r b x = z := by unfold phi; rw [e, h]
theorem Bs.pq (hd : Valid d) (B : Bs d d' f g b) : (∀ t, pp d.n f t < 4 * (d.n + 2)) ∧ (∀ t, pp (d.n + 1) g t < 4 * (d.n + 2)) ∧ (∀ t z, z < 4 * d.n → pp d.n f t ≠ z) ∧ (∀ t z, z < 4 * d.n → pp (d.n + 1) g t ≠ z) :=
  ⟨fun t => by have := pp_bd d.n f t; omega, fun t => by have := pp_bd (d.n + 1) g t; omega, fun t z hz => by have := pp_bd d.n f t; omega, fun t z hz => by have := pp_bd (d.n + 1) g t; omega⟩
theorem rp (n f : Nat) : rot (pp n f 0) = pp n f 3 ∧ rot (pp n f 1) = pp n f 0 ∧ rot (pp n f 2) = pp n f 1 ∧ rot (pp n f 3) = pp n f 2 :=
  ⟨rot_pp n f 0, by rw [rot_pp, show 1 + 3 = 0 + 4 from rfl, pp_mod], by rw [rot_pp, show 2 + 3 = 1 + 4 from rfl, pp_mod], by rw [rot_pp, show 3 + 3 = 2 + 4 from rfl, pp_mod]⟩
/-- Valid, at the end. -/
theorem Pd.fin (hd : Valid d) (K : Pd d d' f g fx fy) {l : List Nat} (m : MS (d.n + 2) (out d') l b) (hl : d'.mt = l) (nf : ∀ z, z < 4 * (d.n + 2) → b z ≠ z) : Valid d' := by
  have hw := (Valid.iff.1 hd).1
  refine MS.valid (a := b) (by rw [K.n, hl]; exact m) (by rw [K.n]; exact K.few) K.lp (fun c hc => ?_) (by rw [K.n]; exact nf)
  rw [K.n] at hc
  rcases Nat.lt_or_ge c d.n with h | h
  · rw [K.old c h]; exact hw.sign c h
  · rcases Nat.lt_or_ge d.n c with h2 | h2
    · rw [show c = d.n + 1 by omega]; exact K.s1
    · rw [show c = d.n by omega]; exact K.s0
/-- A loop is poked over itself. -/
theorem Pd.self0 (hd : Valid d) (K : Pd d d' f g fx fx) (hl : d'.mt = jl (jl (pkL0 d f g) (pp (d.n + 1) g 3) (pp (d.n + 1) g 0)) (pp d.n f 2) (pp d.n f 3)) : Valid d' := by
  have B := K.base hd
  obtain ⟨pl, ql, po, qo⟩ := B.pq hd
  obtain ⟨r0, r1, r2, r3⟩ := rp d.n f
  obtain ⟨t0, t1, t2, t3⟩ := rp (d.n + 1) g
  have m1 := B.ms.join (ql 3) (ql 0) (pp_ne (by omega)) B.f4 B.f3 (by rw [K.q0, K.q3]) (.inr (.inl ⟨1, stp B.f3 t0⟩))
  have e1 : ∀ z, z ≠ pp (d.n + 1) g 3 → z ≠ pp (d.n + 1) g 0 → tr (pkB d f g) (pp (d.n + 1) g 3) (pp (d.n + 1) g 0) z = pkB d f g z := fun z z1 z2 => tr_ne z1 z2
  have f2 := (e1 _ pp_nq pp_nq).trans B.f1
  have f3 := (e1 _ pp_nq pp_nq).trans B.f2
  have m2 := m1.join (pl 2) (pl 3) (pp_ne (by omega)) f2 f3 (by rw [K.p2, K.p3]) (.inr (.inl ⟨1, stp f3 r3⟩))
  refine K.fin hd m2 hl fun z hz e => ?_
  obtain ⟨g1, g2, g3⟩ := tr_fix (pp_ne (by omega)) f2 f3 e
  obtain ⟨g4, g5, g6⟩ := tr_fix (pp_ne (by omega)) B.f4 B.f3 g1
  rcases B.fix hd hz g4 with h | h | h | h
  · exact g2 h
  · exact g3 h
  · exact g6 h
  · exact g5 h
/-- An edge is poked over itself, the first way. -/
theorem Pd.self1 (hd : Valid d) (K : Pd d d' f g fx fx) {x : Nat} (hx : x < 4 * d.n) (ho : out d x = fx) (hl : d'.mt = jl (jl (jl (pkL0 d f g) x (pp d.n f 3)) (pp (d.n + 1) g 3) (pp (d.n + 1) g 0)) (pp d.n f 2) (d.m x)) : Valid d' := by
  have hw := (Valid.iff.1 hd).1
  have B := K.base hd
  obtain ⟨pl, ql, po, qo⟩ := B.pq hd
  obtain ⟨r0, r1, r2, r3⟩ := rp d.n f
  obtain ⟨t0, t1, t2, t3⟩ := rp (d.n + 1) g
  have hmx := hw.lt x hx
  have m1 := B.ms.join (ql 3) (ql 0) (pp_ne (by omega)) B.f4 B.f3 (by rw [K.q0, K.q3]) (.inr (.inl ⟨1, stp B.f3 t0⟩))
  obtain ⟨b1, hb1⟩ : ∃ b1, b1 = tr (pkB d f g) (pp (d.n + 1) g 3) (pp (d.n + 1) g 0) := ⟨_, rfl⟩
  rw [← hb1] at m1
  have e1 : ∀ z, z ≠ pp (d.n + 1) g 3 → z ≠ pp (d.n + 1) g 0 → b1 z = pkB d f g z := fun z z1 z2 => by rw [hb1]; exact tr_ne z1 z2
  have f2 : b1 (pp d.n f 2) = pp d.n f 2 := (e1 _ pp_nq pp_nq).trans B.f1
  have f3 : b1 (pp d.n f 3) = pp d.n f 3 := (e1 _ pp_nq pp_nq).trans B.f2
  have v0 : b1 (pp (d.n + 1) g 0) = pp (d.n + 1) g 3 := by rw [hb1, tr_b, B.f4]
  have v1 : b1 (pp d.n f 1) = pp (d.n + 1) g 1 := (e1 _ pp_nq pp_nq).trans B.b1
  have v2 : b1 (pp (d.n + 1) g 2) = pp d.n f 0 := (e1 _ (pp_ne (by omega)) (pp_ne (by omega))).trans B.b3
  have old : ∀ z, z < 4 * d.n → b1 z = d.m z := fun z hz => (e1 z (Ne.symm (qo 3 z hz)) (Ne.symm (qo 0 z hz))).trans (B.old z hz)
  have hx2 : x < 4 * (d.n + 2) := by omega
  have wx : out d' x = fx := by rw [out_old (d := d) (K.old _ (by omega)), ho]
  have nx : b1 x ≠ x := by rw [old x hx]; exact hw.ne x hx
  have m2 := m1.detour hx2 (pl 3) (pl 2) (pp_ne (by omega)) nx f3 f2 (by rw [K.p3, wx]) (by rw [K.p2, wx])
    (fun e => by have := con_old (n := d.n) (b := b1) (fun z hz => by rw [old z hz]; exact hw.lt z hz) hx e; exact po 3 _ this rfl)
    ⟨4, by
      show phi rot b1 (phi rot b1 (phi rot b1 (phi rot b1 (pp d.n f 2)))) = _
      rw [stp f2 r2, stp v1 t1, stp v0 t3, stp v2 r0]⟩
  refine K.fin hd m2 ?_ fun z hz e => ?_
  · rw [hl, old x hx, jl_comm (a := x) (b := pp d.n f 3) (Ne.symm (qo 3 x hx)) (Ne.symm (qo 0 x hx)) pp_nq pp_nq]
  · obtain ⟨g1, g2, g3⟩ := two_fix m1 hx2 (pl 3) (pl 2) (pp_ne (by omega)) nx f3 f2 e
    rw [hb1] at g1
    obtain ⟨g4, g5, g6⟩ := tr_fix (pp_ne (by omega)) B.f4 B.f3 g1
    rcases B.fix hd hz g4 with h | h | h | h
    · exact g3 h
    · exact g2 h
    · exact g6 h
    · exact g5 h
/-- The second way. -/
theorem Pd.self2 (hd : Valid d) (K : Pd d d' f g fx fx) {x : Nat} (hx : x < 4 * d.n) (ho : out d x = fx) (hl : d'.mt = jl (jl (jl (pkL0 d f g) x (pp (d.n + 1) g 0)) (pp d.n f 2) (pp d.n f 3)) (pp (d.n + 1) g 3) (d.m x)) : Valid d' := by
  have hw := (Valid.iff.1 hd).1
  have B := K.base hd
  obtain ⟨pl, ql, po, qo⟩ := B.pq hd
  obtain ⟨r0, r1, r2, r3⟩ := rp d.n f
  obtain ⟨t0, t1, t2, t3⟩ := rp (d.n + 1) g
  have hmx := hw.lt x hx
  have m1 := B.ms.join (pl 2) (pl 3) (pp_ne (by omega)) B.f1 B.f2 (by rw [K.p2, K.p3]) (.inr (.inl ⟨1, stp B.f2 r3⟩))
  obtain ⟨b1, hb1⟩ : ∃ b1, b1 = tr (pkB d f g) (pp d.n f 2) (pp d.n f 3) := ⟨_, rfl⟩
  rw [← hb1] at m1
  have e1 : ∀ z, z ≠ pp d.n f 2 → z ≠ pp d.n f 3 → b1 z = pkB d f g z := fun z z1 z2 => by rw [hb1]; exact tr_ne z1 z2
  have f0 : b1 (pp (d.n + 1) g 0) = pp (d.n + 1) g 0 := (e1 _ (Ne.symm pp_nq) (Ne.symm pp_nq)).trans B.f3
  have f3 : b1 (pp (d.n + 1) g 3) = pp (d.n + 1) g 3 := (e1 _ (Ne.symm pp_nq) (Ne.symm pp_nq)).trans B.f4
  have v1 : b1 (pp d.n f 1) = pp (d.n + 1) g 1 := (e1 _ (pp_ne (by omega)) (pp_ne (by omega))).trans B.b1
  have v2 : b1 (pp (d.n + 1) g 2) = pp d.n f 0 := (e1 _ (Ne.symm pp_nq) (Ne.symm pp_nq)).trans B.b3
  have v3 : b1 (pp d.n f 3) = pp d.n f 2 := by rw [hb1, tr_b, B.f1]
  have old : ∀ z, z < 4 * d.n → b1 z = d.m z := fun z hz => (e1 z (Ne.symm (po 2 z hz)) (Ne.symm (po 3 z hz))).trans (B.old z hz)
  have hx2 : x < 4 * (d.n + 2) := by omega
  have wx : out d' x = fx := by rw [out_old (d := d) (K.old _ (by omega)), ho]
  have nx : b1 x ≠ x := by rw [old x hx]; exact hw.ne x hx
  have m2 := m1.detour hx2 (ql 0) (ql 3) (pp_ne (by omega)) nx f0 f3 (by rw [K.q0, wx]) (by rw [K.q3, wx])
    (fun e => by have := con_old (n := d.n) (b := b1) (fun z hz => by rw [old z hz]; exact hw.lt z hz) hx e; exact qo 0 _ this rfl)
    ⟨4, by
      show phi rot b1 (phi rot b1 (phi rot b1 (phi rot b1 (pp (d.n + 1) g 3)))) = _
      rw [stp f3 t3, stp v2 r0, stp v3 r2, stp v1 t1]⟩
  refine K.fin hd m2 ?_ fun z hz e => ?_
  · rw [hl, old x hx, jl_comm (a := x) (b := pp (d.n + 1) g 0) (Ne.symm (po 2 x hx)) (Ne.symm (po 3 x hx)) (Ne.symm pp_nq) (Ne.symm pp_nq)]
  · obtain ⟨g1, g2, g3⟩ := two_fix m1 hx2 (ql 0) (ql 3) (pp_ne (by omega)) nx f0 f3 e
    rw [hb1] at g1
    obtain ⟨g4, g5, g6⟩ := tr_fix (pp_ne (by omega)) B.f1 B.f2 g1
    rcases B.fix hd hz g4 with h | h | h | h
    · exact g5 h
    · exact g6 h
    · exact g2 h
    · exact g3 h
/-- What the second strand's laying in leaves. -/
structure Ys (d d' : Dg) (f g : Nat) (l : List Nat) (b : Nat → Nat) : Prop where
  ms : MS (d.n + 2) (out d') l b
  v0 : b (pp d.n f 1) = pp (d.n + 1) g 1
  v2 : b (pp (d.n + 1) g 2) = pp d.n f 0
  f3 : b (pp d.n f 3) = pp d.n f 3
  f4 : b (pp (d.n + 1) g 3) = pp (d.n + 1) g 3
  fix : ∀ z, z < 4 * (d.n + 2) → b z = z → z = pp d.n f 3 ∨ z = pp (d.n + 1) g 3
theorem Ys.orb {l : List Nat} (Y : Ys d d' f g l b) : Orb (phi rot b) (pp (d.n + 1) g 3) (pp d.n f 3) := by
  obtain ⟨r0, r1, r2, r3⟩ := rp d.n f
  obtain ⟨t0, t1, t2, t3⟩ := rp (d.n + 1) g
  refine ⟨2, ?_⟩
  show phi rot b (phi rot b (pp (d.n + 1) g 3)) = _
  rw [stp Y.f4 t3, stp Y.v2 r0]
theorem Pd.yloop (hd : Valid d) (K : Pd d d' f g fx fy) : Ys d d' f g (jl (pkL0 d f g) (pp (d.n + 1) g 0) (pp d.n f 2)) (tr (pkB d f g) (pp (d.n + 1) g 0) (pp d.n f 2)) ∧ ∀ z, z < 4 * d.n → tr (pkB d f g) (pp (d.n + 1) g 0) (pp d.n f 2) z = d.m z := by
  have B := K.base hd
  obtain ⟨pl, ql, po, qo⟩ := B.pq hd
  obtain ⟨r0, r1, r2, r3⟩ := rp d.n f
  obtain ⟨t0, t1, t2, t3⟩ := rp (d.n + 1) g
  have e1 : ∀ z, z ≠ pp (d.n + 1) g 0 → z ≠ pp d.n f 2 → tr (pkB d f g) (pp (d.n + 1) g 0) (pp d.n f 2) z = pkB d f g z := fun z z1 z2 => tr_ne z1 z2
  refine ⟨⟨B.ms.join (ql 0) (pl 2) (Ne.symm pp_nq) B.f3 B.f1 (by rw [K.p2, K.q0, Bool.not_not]) (.inr (.inl ⟨2, by
    show phi rot _ (phi rot _ (pp d.n f 2)) = _
    rw [stp B.f1 r2, stp B.b1 t1]⟩)), ?_, ?_, ?_, ?_, fun z hz e => ?_⟩, fun z hz => ?_⟩
  · rw [e1 _ pp_nq (pp_ne (by omega)), B.b1]
  · rw [e1 _ (pp_ne (by omega)) (Ne.symm pp_nq), B.b3]
  · rw [e1 _ pp_nq (pp_ne (by omega)), B.f2]
  · rw [e1 _ (pp_ne (by omega)) (Ne.symm pp_nq), B.f4]
  · obtain ⟨g1, g2, g3⟩ := tr_fix (Ne.symm pp_nq) B.f3 B.f1 e
    rcases B.fix hd hz g1 with h | h | h | h
    · exact absurd h g3
    · exact .inl h
    · exact absurd h g2
    · exact .inr h
  · rw [e1 z (Ne.symm (qo 0 z hz)) (Ne.symm (po 2 z hz)), B.old z hz]
theorem Pd.yedge (hd : Valid d) (K : Pd d d' f g fx fy) {y : Nat} (hy : y < 4 * d.n) (ho : out d y = fy) :
    ∃ b, Ys d d' f g (jl (jl (pkL0 d f g) y (pp (d.n + 1) g 0)) (pp d.n f 2) (d.m y)) b ∧ (∀ z, z < 4 * d.n → z ≠ y → z ≠ d.m y → b z = d.m z) ∧ b y = pp (d.n + 1) g 0 ∧ b (pp (d.n + 1) g 0) = y ∧ b (pp d.n f 2) = d.m y ∧ b (d.m y) = pp d.n f 2 ∧
      b (pp (d.n + 1) g 1) = pp d.n f 1 ∧ b (pp d.n f 0) = pp (d.n + 1) g 2 := by
  have hw := (Valid.iff.1 hd).1
  have B := K.base hd
  obtain ⟨pl, ql, po, qo⟩ := B.pq hd
  obtain ⟨r0, r1, r2, r3⟩ := rp d.n f
  obtain ⟨t0, t1, t2, t3⟩ := rp (d.n + 1) g
  have hmy := hw.lt y hy
  have hy2 : y < 4 * (d.n + 2) := by omega
  have wy : out d' y = fy := by rw [out_old (d := d) (K.old _ (by omega)), ho]
  have ny : pkB d f g y ≠ y := by rw [B.old y hy]; exact hw.ne y hy
  have m2 := B.ms.detour hy2 (ql 0) (pl 2) (Ne.symm pp_nq) ny B.f3 B.f1 (by rw [K.q0, wy]) (by rw [K.p2, wy]) (B.far hd hy (by have := pp_bd (d.n + 1) g 0; omega)) ⟨2, by
    show phi rot _ (phi rot _ (pp d.n f 2)) = _
    rw [stp B.f1 r2, stp B.b1 t1]⟩
  obtain ⟨a1, a2, a3, a4, a5⟩ := two_at B.ms hy2 (u := pp (d.n + 1) g 0) (v := pp d.n f 2) (Ne.symm pp_nq) ny B.f3 B.f1
  have fx := fun z => two_fix (z := z) B.ms hy2 (ql 0) (pl 2) (Ne.symm pp_nq) ny B.f3 B.f1
  rw [B.old y hy] at m2 a1 a2 a3 a4 a5 fx
  refine ⟨_, ⟨m2, ?_, ?_, ?_, ?_, fun z hz e => ?_⟩, fun z hz z1 z2 => ?_, a1, a2, a3, a4, ?_, ?_⟩
  · rw [a5 _ (po 1 y hy) pp_nq (pp_ne (by omega)) (po 1 _ hmy), B.b1]
  · rw [a5 _ (qo 2 y hy) (pp_ne (by omega)) (Ne.symm pp_nq) (qo 2 _ hmy), B.b3]
  · rw [a5 _ (po 3 y hy) pp_nq (pp_ne (by omega)) (po 3 _ hmy), B.f2]
  · rw [a5 _ (qo 3 y hy) (pp_ne (by omega)) (Ne.symm pp_nq) (qo 3 _ hmy), B.f4]
  · obtain ⟨g1, g2, g3⟩ := fx z e
    rcases B.fix hd hz g1 with h | h | h | h
    · exact absurd h g3
    · exact .inl h
    · exact absurd h g2
    · exact .inr h
  · rw [a5 z z1 (Ne.symm (qo 0 z hz)) (Ne.symm (po 2 z hz)) z2, B.old z hz]
  · rw [a5 _ (qo 1 y hy) (pp_ne (by omega)) (Ne.symm pp_nq) (qo 1 _ hmy), B.b2]
  · rw [a5 _ (po 0 y hy) pp_nq (pp_ne (by omega)) (po 0 _ hmy), B.b4]
/-- The first strand is a loop. -/
theorem Ys.xloop (hd : Valid d) (K : Pd d d' f g fx fy) {l : List Nat} (Y : Ys d d' f g l b) (hl : d'.mt = jl l (pp d.n f 3) (pp (d.n + 1) g 3)) : Valid d' := by
  have B := K.base hd
  obtain ⟨pl, ql, po, qo⟩ := B.pq hd
  have m2 := Y.ms.join (pl 3) (ql 3) pp_nq Y.f3 Y.f4 (by rw [K.q3, K.p3, Bool.not_not]) (.inr (.inl Y.orb))
  refine K.fin hd m2 hl fun z hz e => ?_
  obtain ⟨g1, g2, g3⟩ := tr_fix pp_nq Y.f3 Y.f4 e
  rcases Y.fix z hz g1 with h | h
  · exact g2 h
  · exact g3 h
theorem Ys.end_ (hd : Valid d) (K : Pd d d' f g fx fy) {l : List Nat} (Y : Ys d d' f g l b) {x : Nat} (hx : x < 4 * d.n) (hb : b x = d.m x) (m2 : MS (d.n + 2) (out d') (jl (jl l x (pp d.n f 3)) (pp (d.n + 1) g 3) (b x)) (tr (tr (tr b x (b x)) x (pp d.n f 3)) (pp (d.n + 1) g 3) (b x))) (hl : d'.mt = jl (jl l x (pp d.n f 3)) (pp (d.n + 1) g 3) (d.m x)) : Valid d' := by
  have B := K.base hd
  obtain ⟨pl, ql, po, qo⟩ := B.pq hd
  have nx : b x ≠ x := by rw [hb]; exact (Valid.iff.1 hd).1.ne x hx
  refine K.fin hd m2 (by rw [hb]; exact hl) fun z hz e => ?_
  obtain ⟨g1, g2, g3⟩ := two_fix Y.ms (by omega) (pl 3) (ql 3) pp_nq nx Y.f3 Y.f4 e
  rcases Y.fix z hz g1 with h | h
  · exact g2 h
  · exact g3 h
/-- The second strand is a loop, the first one an edge. -/
theorem Ys.xedge0 (hd : Valid d) (K : Pd d d' f g fx fy) {l : List Nat} (Y : Ys d d' f g l b) (old : ∀ z, z < 4 * d.n → b z = d.m z) {x : Nat} (hx : x < 4 * d.n) (ho : out d x = fx) (hl : d'.mt = jl (jl l x (pp d.n f 3)) (pp (d.n + 1) g 3) (d.m x)) : Valid d' := by
  have hw := (Valid.iff.1 hd).1
  have B := K.base hd
  obtain ⟨pl, ql, po, qo⟩ := B.pq hd
  have nx : b x ≠ x := by rw [old x hx]; exact hw.ne x hx
  have wx : out d' x = fx := by rw [out_old (d := d) (K.old _ (by omega)), ho]
  exact Y.end_ hd K hx (old x hx) (Y.ms.detour (by omega) (pl 3) (ql 3) pp_nq nx Y.f3 Y.f4 (by rw [K.p3, wx]) (by rw [K.q3, wx]) (fun e => by
    have := con_old (n := d.n) (b := b) (fun z hz => by rw [old z hz]; exact hw.lt z hz) hx e
    exact po 3 _ this rfl) Y.orb) hl
/-- Two edges. -/
theorem Pd.edges (hd : Valid d) (K : Pd d d' f g fx fy) {x y : Nat} (hx : x < 4 * d.n) (hy : y < 4 * d.n) (ox : out d x = fx) (oy : out d y = fy) (hxy : x ≠ y) (hm : d.m x ≠ y) (hn : Orb (nx d) x y ∨ ¬ Comp d (x / 4) (y / 4))
    (hl : d'.mt = jl (jl (jl (jl (pkL0 d f g) y (pp (d.n + 1) g 0)) (pp d.n f 2) (d.m y)) x (pp d.n f 3)) (pp (d.n + 1) g 3) (d.m x)) : Valid d' := by
  have hw := (Valid.iff.1 hd).1
  have B := K.base hd
  obtain ⟨pl, ql, po, qo⟩ := B.pq hd
  obtain ⟨r0, r1, r2, r3⟩ := rp d.n f
  obtain ⟨t0, t1, t2, t3⟩ := rp (d.n + 1) g
  obtain ⟨b, Y, old, e1, e2, e3, e4, e5, e6⟩ := K.yedge hd hy oy
  have hmy := hw.lt y hy
  have hmx := hw.lt x hx
  have xmy : x ≠ d.m y := fun e => hm (by rw [e, hw.inv y hy])
  have hb : b x = d.m x := old x hx hxy xmy
  have nx' : b x ≠ x := by rw [hb]; exact hw.ne x hx
  have wx : out d' x = fx := by rw [out_old (d := d) (K.old _ (by omega)), ox]
  refine Y.end_ hd K hx hb (Y.ms.push (y := x) (c := pp d.n f 3) (e := pp (d.n + 1) g 3) (p := pp (d.n + 1) g 2) (by omega) (pl 3) (ql 3) pp_nq nx' Y.f3 Y.f4 (by rw [K.p3, wx]) (by rw [K.q3, wx]) (stp Y.f4 t3) (stp Y.v2 r0) (qo 2 x hx) (Ne.symm pp_nq) (by rw [hb]; exact qo 2 _ hmx) ?_) hl
  -- the faces of the old diagram, in the new one
  have sim : ∀ z, z < 4 * d.n → Orb (phi rot b) z (nx d z) := fun z hz => by
    by_cases z1 : z = y
    · subst z1
      refine ⟨5, ?_⟩
      show phi rot b (phi rot b (phi rot b (phi rot b (phi rot b z)))) = _
      rw [stp e1 t0, stp Y.f4 t3, stp Y.v2 r0, stp Y.f3 r3, stp e3 rfl]
      rfl
    · by_cases z2 : z = d.m y
      · subst z2
        refine ⟨3, ?_⟩
        show phi rot b (phi rot b (phi rot b (d.m y))) = _
        rw [stp e4 r2, stp Y.v0 t1, stp e2 rfl]
        show _ = rot (d.m (d.m y))
        rw [hw.inv y hy]
      · exact ⟨1, by show rot (b z) = rot (d.m z); rw [old z hz z1 z2]⟩
  have yp : Orb (phi rot b) y (pp d.n f 3) := ⟨3, by
    show phi rot b (phi rot b (phi rot b y)) = _
    rw [stp e1 t0, stp Y.f4 t3, stp Y.v2 r0]⟩
  have hM : ∀ {z}, z < 4 * d.n → z < 4 * (d.n + 2) := fun h => by omega
  have sym : ∀ {u v}, u < 4 * (d.n + 2) → Orb (phi rot b) u v → Orb (phi rot b) v u := fun hu e => Y.ms.hm.pb.symm hu e
  rcases hn with h | h
  · left
    have hyx : Orb (nx d) y x := hw.hm.pb.symm (x := x) (y := y) hx h
    have : Orb (phi rot b) y x := by
      obtain ⟨k, hk⟩ := hyx
      have run : ∀ j, Orb (phi rot b) y (it (nx d) j y) ∧ it (nx d) j y < 4 * d.n := by
        intro j
        induction j with
        | zero => exact ⟨Orb.refl _ _, hy⟩
        | succ j ih => exact ⟨ih.1.trans (sim _ ih.2), tn_lt (hw.lt _ ih.2)⟩
      rw [← hk]
      exact (run k).1
    exact (sym (hM hy) yp).trans this
  · right
    intro e
    have : ∀ w, Con rot b (pp d.n f 3) w → w < 4 * d.n → Con rot d.m y w := by
      have key : ∀ w, Con rot b (pp d.n f 3) w → w < 4 * (d.n + 2) ∧ (4 * d.n ≤ w ∨ (w < 4 * d.n ∧ Con rot d.m y w)) := by
        intro w e
        induction e with
        | refl => exact ⟨pl 3, .inl (pp_bd _ _ _).1⟩
        | left _ ih =>
          refine ⟨rot_lt ih.1, ?_⟩
          rcases ih.2 with h | ⟨h1, h2⟩
          · exact .inl (rot_ge h)
          · exact .inr ⟨rot_lt h1, h2.left⟩
        | @right w _ ih =>
          have hbw := Y.ms.hm.ab.maps w ih.1
          refine ⟨hbw, ?_⟩
          rcases Nat.lt_or_ge (b w) (4 * d.n) with h3 | h3
          · refine .inr ⟨h3, ?_⟩
            have hinv := Y.ms.hm.inv w ih.1
            by_cases z1 : b w = y
            · rw [z1]; exact .refl
            · by_cases z2 : b w = d.m y
              · rw [z2]; exact Con.refl.right
              · rw [old _ h3 z1 z2] at hinv
                have hw2 : w < 4 * d.n := by rw [← hinv]; exact hw.lt _ h3
                rcases ih.2 with h | ⟨_, h2⟩
                · omega
                · have : b w = d.m w := by have h5 := hw.inv _ h3; rw [hinv] at h5; exact h5.symm
                  rw [this]; exact h2.right
          · exact .inl h3
      intro w e hwl
      rcases (key w e).2 with h | h
      · omega
      · exact h.2
    have := this x e hx
    exact h ((con_comp hw hx hy).1 (hw.hm.con_symm hy this))
end
end Go.Proofs.Ytobbepmlmbbamaa.Pl
end
