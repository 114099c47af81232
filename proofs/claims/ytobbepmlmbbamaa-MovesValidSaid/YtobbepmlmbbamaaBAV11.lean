/-
  The texts Knk, Kval, Ws, Wt, Wu in one.
-/
import Derived.Test.YtobbepmlmbbamaaBAV10
import Derived.Test.YtobbepmlmbbamaaBAV07
import Derived.Laws.MakeOwn
set_option linter.unusedVariables false
set_option linter.unusedSimpArgs false

section
/-
  Plain Lean: a diagram with a kink more is plane. No program is named here.
-/
namespace Go.Proofs.Ytobbepmlmbbamaa.Pl

/-- A map on the half-edges of n crossings, without edges at further ones. -/
def ex (n : Nat) (a : Nat → Nat) (x : Nat) : Nat := if x < 4 * n then a x else x
theorem ex_old {n : Nat} {a : Nat → Nat} {x : Nat} (h : x < 4 * n) : ex n a x = a x := if_pos h
theorem ex_new {n : Nat} {a : Nat → Nat} {x : Nat} (h : 4 * n ≤ x) : ex n a x = x := if_neg (by omega)
theorem rot_lt {k x : Nat} (h : x < 4 * k) : rot x < 4 * k := tn_lt h
theorem rot_ge {k x : Nat} (h : 4 * k ≤ x) : 4 * k ≤ rot x := by unfold rot tn; omega
theorem rot_at (n e : Nat) (h : e < 4) : rot (4 * n + e) = 4 * n + (e + 3) % 4 := by unfold rot tn; omega
theorem ext_hm {n M : Nat} {a : Nat → Nat} (hM : n ≤ M) (h : Hm (4 * n) (fun h => h < 4 * n) rot a) : Hm (4 * M) (fun h => h < 4 * M) rot (ex n a) := by
  refine ⟨rot_bij M, ⟨fun _ h => h, fun x hx => ?_, fun x y hx hy e => ?_⟩, fun x hx => ?_⟩
  · by_cases h1 : x < 4 * n
    · show ex n a x < 4 * M
      rw [ex_old h1]; have := h.ab.maps x h1; omega
    · show ex n a x < 4 * M
      rw [ex_new (by omega)]; exact hx
  · by_cases h1 : x < 4 * n <;> by_cases h2 : y < 4 * n
    · rw [ex_old h1, ex_old h2] at e; exact h.ab.inj x y h1 h2 e
    · rw [ex_old h1, ex_new (by omega)] at e; have := h.ab.maps x h1; omega
    · rw [ex_new (by omega), ex_old h2] at e; have := h.ab.maps y h2; omega
    · rw [ex_new (by omega), ex_new (by omega)] at e; exact e
  · by_cases h1 : x < 4 * n
    · rw [ex_old h1, ex_old (h.ab.maps x h1)]; exact h.inv x h1
    · rw [ex_new (x := x) (by omega), ex_new (by omega)]
theorem ext_gen {n M : Nat} {a : Nat → Nat} {z : Int} (hM : n ≤ M) (h : Hm (4 * n) (fun h => h < 4 * n) rot a) (hf : Gen (fun h => h < 4 * n) rot a z) : Gen (fun h => h < 4 * M) rot (ex n a) z := by
  have h' := ext_hm hM h
  have hS : Hm (4 * M) (fun h => h < 4 * n) rot (ex n a) := ⟨⟨fun x hx => by omega, fun x hx => rot_lt hx, fun x y _ _ e => tn_inj e⟩, ⟨fun x hx => by omega, fun x hx => by rw [ex_old hx]; exact h.ab.maps x hx, fun x y hx hy e => by rw [ex_old hx, ex_old hy] at e; exact h.ab.inj x y hx hy e⟩, fun x hx => by rw [ex_old hx, ex_old (h.ab.maps x hx)]; exact h.inv x hx⟩
  have hT : Hm (4 * M) (fun h => 4 * n ≤ h ∧ h < 4 * M) rot (ex n a) := ⟨⟨fun x hx => hx.2, fun x hx => ⟨rot_ge hx.1, rot_lt hx.2⟩, fun x y _ _ e => tn_inj e⟩, ⟨fun x hx => hx.2, fun x hx => by rw [ex_new hx.1]; exact hx, fun x y hx hy e => by rw [ex_new hx.1, ex_new hy.1] at e; exact e⟩, fun x hx => by rw [ex_new (x := x) hx.1, ex_new hx.1]⟩
  have g1 : Gen (fun h => h < 4 * n) rot (ex n a) z := Gen.congr h (fun _ _ => rfl) (fun x hx => (ex_old hx).symm) hf
  have g2 := gen_id hT (fun x hx => ex_new hx.1)
  have := Gen.add hS hT (fun x hx hx' => by omega) g1 g2
  rw [Int.add_zero] at this
  have e : (fun x => x < 4 * n ∨ (4 * n ≤ x ∧ x < 4 * M)) = (fun h => h < 4 * M) := by funext x; exact propext ⟨fun h => by omega, fun h => by omega⟩
  rwa [e] at this
/-- The four places of a kink: the ends in and out of its first and second passage. -/
def Kq (n i0 o0 i1 o1 : Nat) : Prop :=
  (i0 = 4 * n + 0 ∧ o0 = 4 * n + 2 ∧ i1 = 4 * n + 3 ∧ o1 = 4 * n + 1) ∨ (i0 = 4 * n + 0 ∧ o0 = 4 * n + 2 ∧ i1 = 4 * n + 1 ∧ o1 = 4 * n + 3) ∨
  (i0 = 4 * n + 3 ∧ o0 = 4 * n + 1 ∧ i1 = 4 * n + 0 ∧ o1 = 4 * n + 2) ∨ (i0 = 4 * n + 1 ∧ o0 = 4 * n + 3 ∧ i1 = 4 * n + 0 ∧ o1 = 4 * n + 2)
theorem Kq.face {n i0 o0 i1 o1 : Nat} (k : Kq n i0 o0 i1 o1) {b : Nat → Nat} (b1 : b o0 = i1) (b2 : b i1 = o0) (b3 : b o1 = o1) : Orb (phi rot b) o1 i0 := by
  rcases k with ⟨rfl, rfl, rfl, rfl⟩ | ⟨rfl, rfl, rfl, rfl⟩ | ⟨rfl, rfl, rfl, rfl⟩ | ⟨rfl, rfl, rfl, rfl⟩
  · exact ⟨1, by show rot (b (4 * n + 1)) = _; rw [b3, rot_at n 1 (by omega)]⟩
  · exact ⟨2, by show rot (b (rot (b (4 * n + 3)))) = _; rw [b3, rot_at n 3 (by omega), b1, rot_at n 1 (by omega)]⟩
  · exact ⟨2, by show rot (b (rot (b (4 * n + 2)))) = _; rw [b3, rot_at n 2 (by omega), b1, rot_at n 0 (by omega)]⟩
  · exact ⟨1, by show rot (b (4 * n + 2)) = _; rw [b3, rot_at n 2 (by omega)]⟩
theorem Kq.bd {n i0 o0 i1 o1 : Nat} (k : Kq n i0 o0 i1 o1) : (4 * n ≤ i0 ∧ i0 < 4 * (n + 1)) ∧ (4 * n ≤ o0 ∧ o0 < 4 * (n + 1)) ∧ (4 * n ≤ i1 ∧ i1 < 4 * (n + 1)) ∧ (4 * n ≤ o1 ∧ o1 < 4 * (n + 1)) ∧ i0 ≠ o0 ∧ i0 ≠ i1 ∧ i0 ≠ o1 ∧ o0 ≠ i1 ∧ o0 ≠ o1 ∧ i1 ≠ o1 := by
  unfold Kq at k; omega
theorem orb_new {n x y : Nat} {b : Nat → Nat} (hx : 4 * n ≤ x ∧ x < 4 * (n + 1)) (hy : 4 * n ≤ y ∧ y < 4 * (n + 1)) (hb : ∀ z, 4 * n ≤ z → z < 4 * (n + 1) → b z = z) : Orb (phi rot b) x y := by
  have st : ∀ z, 4 * n ≤ z → z < 4 * (n + 1) → phi rot b z = rot z := fun z h1 h2 => by unfold phi; rw [hb z h1 h2]
  have r1 : ∀ z, 4 * n ≤ z → z < 4 * (n + 1) → 4 * n ≤ rot z ∧ rot z < 4 * (n + 1) := fun z h1 h2 => ⟨rot_ge h1, rot_lt h2⟩
  have a1 := r1 x hx.1 hx.2
  have a2 := r1 _ a1.1 a1.2
  have key : y = x ∨ y = rot x ∨ y = rot (rot x) ∨ y = rot (rot (rot x)) := by unfold rot tn; omega
  rcases key with rfl | rfl | rfl | rfl
  · exact Orb.refl _ _
  · exact ⟨1, st x hx.1 hx.2⟩
  · exact ⟨2, by show phi rot b (phi rot b x) = _; rw [st x hx.1 hx.2, st _ a1.1 a1.2]⟩
  · exact ⟨3, by show phi rot b (phi rot b (phi rot b x)) = _; rw [st x hx.1 hx.2, st _ a1.1 a1.2, st _ a2.1 a2.2]⟩
/-- The first loop of a kink. -/
theorem loop_flat {n i0 o0 i1 o1 : Nat} {a : Nat → Nat} (h : Hm (4 * n) (fun h => h < 4 * n) rot a) (hf : Flat (fun h => h < 4 * n) rot a) (k : Kq n i0 o0 i1 o1) : Flat (fun h => h < 4 * (n + 1)) rot (tr (ex n a) o0 i1) := by
  obtain ⟨a1, a2, a3, a4, n1, n2, n3, n4, n5, n6⟩ := k.bd
  exact Flat.add (ext_hm (by omega) h) a2.2 a3.2 n4 (ex_new a2.1) (ex_new a3.1) (fun _ => orb_new a2 a3 (fun z h1 _ => ex_new h1)) (ext_gen (by omega) h hf)
/-- A loop with a kink, beside a plane map. -/
theorem kink_loop {n i0 o0 i1 o1 : Nat} {a : Nat → Nat} (h : Hm (4 * n) (fun h => h < 4 * n) rot a) (hf : Flat (fun h => h < 4 * n) rot a) (k : Kq n i0 o0 i1 o1) : Flat (fun h => h < 4 * (n + 1)) rot (tr (tr (ex n a) o0 i1) o1 i0) := by
  obtain ⟨a1, a2, a3, a4, n1, n2, n3, n4, n5, n6⟩ := k.bd
  have hx := ext_hm (Nat.le_succ n) h
  have h1 := hx.tr (x := o0) (y := i1) a2.2 a3.2 (ex_new a2.1) (ex_new a3.1)
  have f1 : tr (ex n a) o0 i1 o1 = o1 := by rw [tr_ne (Ne.symm n5) (Ne.symm n6), ex_new a4.1]
  have f2 : tr (ex n a) o0 i1 i0 = i0 := by rw [tr_ne n1 n2, ex_new a1.1]
  refine Flat.add h1 a4.2 a1.2 (Ne.symm n3) f1 f2 (fun _ => k.face ?_ ?_ f1) (loop_flat h hf k)
  · rw [tr_a, ex_new a3.1]
  · rw [tr_b, ex_new a2.1]
theorem con_old {n : Nat} {b : Nat → Nat} (hb : ∀ z, z < 4 * n → b z < 4 * n) {x y : Nat} (hx : x < 4 * n) (e : Con rot b x y) : y < 4 * n := by
  induction e with
  | refl => exact hx
  | left _ ih => exact rot_lt ih
  | right _ ih => exact hb _ ih
/-- An edge x y with a kink. -/
theorem kink_edge {n i0 o0 i1 o1 x y : Nat} {a : Nat → Nat} (h : Hm (4 * n) (fun h => h < 4 * n) rot a) (hf : Flat (fun h => h < 4 * n) rot a) (k : Kq n i0 o0 i1 o1) (hx : x < 4 * n) (hy : a x = y) (hne : x ≠ y) :
    Flat (fun h => h < 4 * (n + 1)) rot (tr (tr (tr (ex n (tr a x y)) o0 i1) x i0) o1 y) := by
  obtain ⟨a1, a2, a3, a4, n1, n2, n3, n4, n5, n6⟩ := k.bd
  subst hy
  have hyn : a x < 4 * n := h.ab.maps x hx
  obtain ⟨hc, c1, c2⟩ := Hm.cut h hx (Ne.symm hne)
  have hX := ext_hm (Nat.le_succ n) hc
  have h1 := hX.tr (x := o0) (y := i1) a2.2 a3.2 (ex_new a2.1) (ex_new a3.1)
  have old : ∀ z, z < 4 * n → tr (ex n (tr a x (a x))) o0 i1 z = tr a x (a x) z := fun z hz => by rw [tr_ne (by omega) (by omega), ex_old hz]
  have cl : ∀ z, z < 4 * n → tr (ex n (tr a x (a x))) o0 i1 z < 4 * n := fun z hz => by rw [old z hz]; exact hc.ab.maps z hz
  have fu : tr (ex n (tr a x (a x))) o0 i1 i0 = i0 := by rw [tr_ne n1 n2, ex_new a1.1]
  have fv : tr (ex n (tr a x (a x))) o0 i1 o1 = o1 := by rw [tr_ne (Ne.symm n5) (Ne.symm n6), ex_new a4.1]
  have hx' : x < 4 * (n + 1) := by omega
  have hy' : a x < 4 * (n + 1) := by omega
  refine Gen.detour h1 hx' hy' a1.2 a4.2 hne n3 (by rw [old x hx, c1]) (by rw [old _ hyn, c2]) fu fv (fun e => by have := con_old cl hx e; omega) (fun e => by have := con_old cl hyn e; omega) (k.face ?_ ?_ fv) ?_
  · rw [tr_a, ex_new a3.1]
  · rw [tr_b, ex_new a2.1]
  · refine Gen.congr ((ext_hm (Nat.le_succ n) h).tr (x := o0) (y := i1) a2.2 a3.2 (ex_new a2.1) (ex_new a3.1)) (fun _ _ => rfl) (fun z hz => ?_) (loop_flat h hf k)
    by_cases z1 : z = x
    · subst z1
      rw [tr_a, old _ hyn, c2, tr_ne (by omega) (by omega), ex_old hx]
    · by_cases z2 : z = a x
      · subst z2
        rw [tr_b, old _ hx, c1, tr_ne (by omega) (by omega), ex_old hyn, h.inv x hx]
      · rw [tr_ne z1 z2]
        by_cases z3 : z < 4 * n
        · rw [old z z3, tr_ne z1 z2, tr_ne (by omega) (by omega), ex_old z3]
        · by_cases z4 : z = o0
          · subst z4; rw [tr_a, tr_a, ex_new a3.1, ex_new a3.1]
          · by_cases z5 : z = i1
            · subst z5; rw [tr_b, tr_b, ex_new a2.1, ex_new a2.1]
            · rw [tr_ne z4 z5, tr_ne z4 z5, ex_new (by omega), ex_new (by omega)]
end Go.Proofs.Ytobbepmlmbbamaa.Pl
end

section
/-
  Plain Lean: a valid diagram with a kink more is valid. No program is named here.
-/
namespace Go.Proofs.Ytobbepmlmbbamaa.Pl

theorem out_old {d d' : Dg} {h : Nat} (e : d'.s (h / 4) = d.s (h / 4)) : out d' h = out d h := by unfold out; rw [e]
theorem Kq.cover {n i0 o0 i1 o1 z : Nat} (k : Kq n i0 o0 i1 o1) (h : 4 * n ≤ z ∧ z < 4 * (n + 1)) : z = i0 ∨ z = o0 ∨ z = i1 ∨ z = o1 := by unfold Kq at k; omega
/-- What a kink adds, but for the mates. -/
structure Kd (d d' : Dg) (i0 o0 i1 o1 : Nat) : Prop where
  few : d.n + 1 ≤ 64
  n : d'.n = d.n + 1
  len : d'.mt.length = 4 * (d.n + 1)
  lp : d'.lp ≤ 64
  old : ∀ c, c < d.n → d'.s c = d.s c
  new : d'.s d.n = 1 ∨ d'.s d.n = -1
  k : Kq d.n i0 o0 i1 o1
  wi0 : out d' i0 = false
  wi1 : out d' i1 = false
  wo0 : out d' o0 = true
  wo1 : out d' o1 = true
  m1 : d'.m o0 = i1
  m2 : d'.m i1 = o0
theorem Kd.out {d d' : Dg} {i0 o0 i1 o1 : Nat} (K : Kd d d' i0 o0 i1 o1) {h : Nat} (hh : h < 4 * d.n) : out d' h = out d h := out_old (K.old _ (by omega))
theorem Kd.sign {d d' : Dg} (hd : Wf d) {i0 o0 i1 o1 : Nat} (K : Kd d d' i0 o0 i1 o1) : ∀ c, c < d'.n → d'.s c = 1 ∨ d'.s c = -1 := fun c hc => by
  rw [K.n] at hc
  rcases Nat.lt_or_ge c d.n with h | h
  · rw [K.old c h]; exact hd.sign c h
  · rw [show c = d.n by omega]; exact K.new
/-- Well-formed, from what each half-edge's mate is. -/
theorem wf_by {d' : Dg} (few : d'.n ≤ 64) (len : d'.mt.length = 4 * d'.n) (lp : d'.lp ≤ 64) (sign : ∀ c, c < d'.n → d'.s c = 1 ∨ d'.s c = -1)
    (h : ∀ z, z < 4 * d'.n → d'.m z < 4 * d'.n ∧ d'.m (d'.m z) = z ∧ Pl.out d' z ≠ Pl.out d' (d'.m z)) : Wf d' :=
  ⟨few, len, lp, sign, fun z hz => (h z hz).1, fun z hz e => (h z hz).2.2 (by rw [e]), fun z hz => (h z hz).2.1, fun z hz => (h z hz).2.2⟩
/-- A loop gets a kink. -/
theorem Kd.loop {d d' : Dg} (hd : Valid d) {i0 o0 i1 o1 : Nat} (K : Kd d d' i0 o0 i1 o1) (mo : ∀ h, h < 4 * d.n → d'.m h = d.m h) (m3 : d'.m o1 = i0) (m4 : d'.m i0 = o1) : Valid d' := by
  have hv := Valid.iff.1 hd
  obtain ⟨a1, a2, a3, a4, n1, n2, n3, n4, n5, n6⟩ := K.k.bd
  refine Valid.iff.2 ⟨wf_by (by rw [K.n]; exact K.few) (by rw [K.n]; exact K.len) K.lp (K.sign hv.1) (fun z hz => ?_), ?_⟩
  · rw [K.n] at hz ⊢
    rcases Nat.lt_or_ge z (4 * d.n) with h | h
    · have := hv.1.lt z h
      rw [mo z h, mo _ this, K.out h, K.out this]
      exact ⟨by omega, hv.1.inv z h, hv.1.way z h⟩
    · rcases K.k.cover ⟨h, hz⟩ with rfl | rfl | rfl | rfl
      · rw [m4, m3, K.wi0, K.wo1]; exact ⟨a4.2, rfl, by decide⟩
      · rw [K.m1, K.m2, K.wi1, K.wo0]; exact ⟨a3.2, rfl, by decide⟩
      · rw [K.m2, K.m1, K.wi1, K.wo0]; exact ⟨a2.2, rfl, by decide⟩
      · rw [m3, m4, K.wi0, K.wo1]; exact ⟨a1.2, rfl, by decide⟩
  · have hf := kink_loop hv.1.hm hv.2 K.k
    have hx := ext_hm (Nat.le_succ d.n) hv.1.hm
    have h1 := hx.tr (x := o0) (y := i1) a2.2 a3.2 (ex_new a2.1) (ex_new a3.1)
    have f1 : tr (ex d.n d.m) o0 i1 o1 = o1 := by rw [tr_ne (Ne.symm n5) (Ne.symm n6), ex_new a4.1]
    have f2 : tr (ex d.n d.m) o0 i1 i0 = i0 := by rw [tr_ne n1 n2, ex_new a1.1]
    have h2 := h1.tr (x := o1) (y := i0) a4.2 a1.2 f1 f2
    have e : dart d' = (fun h => h < 4 * (d.n + 1)) := by funext x; unfold dart; rw [K.n]
    rw [e]
    refine Gen.congr h2 (fun _ _ => rfl) (fun z hz => ?_) hf
    rcases Nat.lt_or_ge z (4 * d.n) with h | h
    · rw [mo z h, tr_ne (by omega) (by omega), tr_ne (by omega) (by omega), ex_old h]
    · rcases K.k.cover ⟨h, hz⟩ with rfl | rfl | rfl | rfl
      · rw [m4, tr_b, f1]
      · rw [K.m1, tr_ne n5 (Ne.symm n1), tr_a, ex_new a3.1]
      · rw [K.m2, tr_ne n6 (Ne.symm n2), tr_b, ex_new a2.1]
      · rw [m3, tr_a, f2]
/-- An edge gets a kink. -/
theorem Kd.edge {d d' : Dg} (hd : Valid d) {i0 o0 i1 o1 x : Nat} (K : Kd d d' i0 o0 i1 o1) (hx : x < 4 * d.n) (ho : Pl.out d x = true) (mo : ∀ h, h < 4 * d.n → h ≠ x → h ≠ d.m x → d'.m h = d.m h)
    (m3 : d'.m o1 = d.m x) (m4 : d'.m (d.m x) = o1) (m5 : d'.m x = i0) (m6 : d'.m i0 = x) : Valid d' := by
  have hv := Valid.iff.1 hd
  have hyn := hv.1.lt x hx
  have hne := hv.1.ne x hx
  have hinv := hv.1.inv x hx
  have hoy : Pl.out d (d.m x) = false := by have := hv.1.way x hx; rw [ho] at this; cases h : Pl.out d (d.m x) with
    | true => rw [h] at this; exact absurd rfl this
    | false => rfl
  obtain ⟨a1, a2, a3, a4, n1, n2, n3, n4, n5, n6⟩ := K.k.bd
  refine Valid.iff.2 ⟨wf_by (by rw [K.n]; exact K.few) (by rw [K.n]; exact K.len) K.lp (K.sign hv.1) (fun z hz => ?_), ?_⟩
  · rw [K.n] at hz ⊢
    rcases Nat.lt_or_ge z (4 * d.n) with h | h
    · by_cases z1 : z = x
      · subst z1
        rw [m5, m6, K.out h, K.wi0, ho]
        exact ⟨a1.2, rfl, by decide⟩
      · by_cases z2 : z = d.m x
        · subst z2
          rw [m4, m3, K.out h, K.wo1, hoy]
          exact ⟨a4.2, rfl, by decide⟩
        · have hm := hv.1.lt z h
          have q1 : d.m z ≠ x := fun e => z2 (by rw [← e, hv.1.inv z h])
          have q2 : d.m z ≠ d.m x := fun e => z1 (by rw [← hv.1.inv z h, e, hinv])
          rw [mo z h z1 z2, mo _ hm q1 q2, K.out h, K.out hm]
          exact ⟨by omega, hv.1.inv z h, hv.1.way z h⟩
    · rcases K.k.cover ⟨h, hz⟩ with rfl | rfl | rfl | rfl
      · rw [m6, m5, K.wi0, K.out hx, ho]; exact ⟨by omega, rfl, by decide⟩
      · rw [K.m1, K.m2, K.wi1, K.wo0]; exact ⟨a3.2, rfl, by decide⟩
      · rw [K.m2, K.m1, K.wi1, K.wo0]; exact ⟨a2.2, rfl, by decide⟩
      · rw [m3, m4, K.wo1, K.out hyn, hoy]; exact ⟨by omega, rfl, by decide⟩
  · have hf := kink_edge hv.1.hm hv.2 K.k hx rfl (Ne.symm hne)
    obtain ⟨hc, c1, c2⟩ := Hm.cut hv.1.hm hx hne
    have hX := ext_hm (Nat.le_succ d.n) hc
    have h1 := hX.tr (x := o0) (y := i1) a2.2 a3.2 (ex_new a2.1) (ex_new a3.1)
    have old : ∀ z, z < 4 * d.n → tr (ex d.n (tr d.m x (d.m x))) o0 i1 z = tr d.m x (d.m x) z := fun z hz => by rw [tr_ne (by omega) (by omega), ex_old hz]
    have fu : tr (ex d.n (tr d.m x (d.m x))) o0 i1 i0 = i0 := by rw [tr_ne n1 n2, ex_new a1.1]
    have fv : tr (ex d.n (tr d.m x (d.m x))) o0 i1 o1 = o1 := by rw [tr_ne (Ne.symm n5) (Ne.symm n6), ex_new a4.1]
    have fx : tr (ex d.n (tr d.m x (d.m x))) o0 i1 x = x := by rw [old x hx, c1]
    have fy : tr (ex d.n (tr d.m x (d.m x))) o0 i1 (d.m x) = d.m x := by rw [old _ hyn, c2]
    have hx' : x < 4 * (d.n + 1) := by omega
    have hy' : d.m x < 4 * (d.n + 1) := by omega
    have h2 := h1.tr (x := x) (y := i0) hx' a1.2 fx fu
    have g1 : tr (tr (ex d.n (tr d.m x (d.m x))) o0 i1) x i0 o1 = o1 := by rw [tr_ne (by omega) (Ne.symm n3), fv]
    have g2 : tr (tr (ex d.n (tr d.m x (d.m x))) o0 i1) x i0 (d.m x) = d.m x := by rw [tr_ne hne (by omega), fy]
    have h3 := h2.tr (x := o1) (y := d.m x) a4.2 hy' g1 g2
    have e : dart d' = (fun h => h < 4 * (d.n + 1)) := by funext x; unfold dart; rw [K.n]
    rw [e]
    refine Gen.congr h3 (fun _ _ => rfl) (fun z hz => ?_) hf
    rcases Nat.lt_or_ge z (4 * d.n) with h | h
    · by_cases z2 : z = d.m x
      · subst z2
        rw [tr_b, g1, m4]
      · rw [tr_ne (by omega) z2]
        by_cases z1 : z = x
        · subst z1
          rw [tr_a, fu, m5]
        · rw [tr_ne z1 (by omega), old z h, tr_ne z1 z2, mo z h z1 z2]
    · rcases K.k.cover ⟨h, hz⟩ with rfl | rfl | rfl | rfl
      · rw [m6, tr_ne n3 (by omega), tr_b, fx]
      · rw [K.m1, tr_ne n5 (by omega), tr_ne (by omega) (Ne.symm n1), tr_a, ex_new a3.1]
      · rw [K.m2, tr_ne n6 (by omega), tr_ne (by omega) (Ne.symm n2), tr_b, ex_new a2.1]
      · rw [m3, tr_a, g2]
end Go.Proofs.Ytobbepmlmbbamaa.Pl
end

section
/-
  Walks: the cycles of a permutation.
-/
namespace Go.Proofs.Ytobbepmlmbbamaa
open Go Go.RowKit

theorem RowT.store {w : World} {t t' : TypeId} {A : Option Addr} {n : Nat} {xs : List Value} {g i : Nat} {vs : List Value} (h : RowT w t A n xs) (hr : Row w g t' vs) (hne : t ≠ t') (v : Value) : RowT (w.setCell ⟨g, i, none⟩ v) t A n xs :=
  ⟨h.1, fun hn => let ⟨b, o, cs, fr, e, hb, hc⟩ := h.2 hn; ⟨b, o, cs, fr, e, (Below.heap_setCell w _ v b (fun he => by
      have hr' := hr
      unfold Row at hr'
      have he' : b = g := he
      rw [he', hr'] at hb
      injection hb with hb
      injection hb with _ h4
      exact hne h4.symm)).trans hb, hc⟩⟩
theorem own_rowT {w : World} {base : Nat} {t : TypeId} {A : Option Addr} {n c : Nat} {xs : List Value} (h : w.ownsRow base t 1 (.slice A n c) n xs) : RowT w t A n xs := by
  refine ⟨by simpa using h.1, fun hn => ?_⟩
  rcases h.2 with ⟨_, h2⟩ | ⟨g, cap, cur, h1, _, h3, _, _, _, h5⟩
  · omega
  · injection h1 with h1 _ _
    refine ⟨g, 0, cur, (0, 0), h1, h3, fun j u hu => ?_⟩
    rw [Nat.zero_add]
    have hj : j < n := by
      have := (List.getElem?_eq_some_iff.1 hu).1
      have := h.1
      omega
    rw [← h5, List.getElem?_take, if_pos (by omega)] at hu
    rw [← hu]
    simp
/-- A slice of numbers, its row's type known. -/
def FaceAt (w : World) (v : Value) (l : List Nat) : Prop := ∃ A c, v = .slice A l.length c ∧ RowT w 3 A l.length (l.map (fun k : Nat => Value.int .i64 k))
def Vs (w : World) (vs : List Value) (fs : List (List Nat)) : Prop := vs.length = fs.length ∧ ∀ (i : Nat) l, fs[i]? = some l → ∃ v, vs[i]? = some v ∧ FaceAt w v l
theorem Vs.below {w w' : World} {vs : List Value} {fs : List (List Nat)} (h : Vs w vs fs) (hb : Below w.heap.size w w') : Vs w' vs fs :=
  ⟨h.1, fun i l e => let ⟨v, h1, A, c, h2, h3⟩ := h.2 i l e; ⟨v, h1, A, c, h2, h3.keep hb⟩⟩
theorem Vs.grown {w w' : World} {vs : List Value} {fs : List (List Nat)} {row : Option Nat} {t' : TypeId} (h : Vs w vs fs) (hg : w.grownBy w' row) (hr : ∀ g, row = some g → ∃ cs fr, w.heap[g]? = some (.cells cs t' fr)) (hne : 3 ≠ t') : Vs w' vs fs :=
  ⟨h.1, fun i l e => let ⟨v, h1, A, c, h2, h3⟩ := h.2 i l e; ⟨v, h1, A, c, h2, h3.grown hg hr hne⟩⟩
theorem Vs.store {w : World} {vs : List Value} {fs : List (List Nat)} {g i : Nat} {us : List Value} {t' : TypeId} (h : Vs w vs fs) (hr : Row w g t' us) (hne : 3 ≠ t') (v : Value) : Vs (w.setCell ⟨g, i, none⟩ v) vs fs :=
  ⟨h.1, fun i l e => let ⟨v, h1, A, c, h2, h3⟩ := h.2 i l e; ⟨v, h1, A, c, h2, h3.store hr hne _⟩⟩
theorem Vs.add {w : World} {vs : List Value} {fs : List (List Nat)} {v : Value} {l : List Nat} (h : Vs w vs fs) (hv : FaceAt w v l) : Vs w (vs ++ [v]) (fs ++ [l]) := by
  refine ⟨by simp [h.1], fun i m e => ?_⟩
  rw [List.getElem?_append] at e ⊢
  by_cases hi : i < fs.length
  · rw [if_pos hi] at e
    rw [if_pos (by rw [h.1]; exact hi)]
    exact h.2 i m e
  · rw [if_neg hi] at e
    rw [if_neg (by rw [h.1]; exact hi), h.1]
    have h1 := (List.getElem?_eq_some_iff.1 e).1
    simp only [List.length_singleton] at h1
    have h0 : i - fs.length = 0 := by omega
    rw [h0] at e ⊢
    simp only [List.getElem?_cons_zero, Option.some.injEq] at e
    subst e
    exact ⟨v, rfl, hv⟩
theorem Vs.nil (w : World) : Vs w [] [] := ⟨rfl, fun i l e => by simp at e⟩
theorem FaceAt.below {w w' : World} {v : Value} {l : List Nat} (h : FaceAt w v l) (hb : Below w.heap.size w w') : FaceAt w' v l := let ⟨A, c, h2, h3⟩ := h; ⟨A, c, h2, h3.keep hb⟩
theorem FaceAt.store {w : World} {v : Value} {l : List Nat} {g i : Nat} {us : List Value} {t' : TypeId} (h : FaceAt w v l) (hr : Row w g t' us) (hne : 3 ≠ t') (u : Value) : FaceAt (w.setCell ⟨g, i, none⟩ u) v l := let ⟨A, c, h2, h3⟩ := h; ⟨A, c, h2, h3.store hr hne _⟩
theorem FaceAt.grown {w w' : World} {v : Value} {l : List Nat} {row : Option Nat} {t' : TypeId} (h : FaceAt w v l) (hg : w.grownBy w' row) (hr : ∀ g, row = some g → ∃ cs fr, w.heap[g]? = some (.cells cs t' fr)) (hne : 3 ≠ t') : FaceAt w' v l := let ⟨A, c, h2, h3⟩ := h; ⟨A, c, h2, h3.grown hg hr hne⟩
theorem FaceAt.ints {w : World} {A : Option Addr} {n c : Nat} {l : List Nat} (h : FaceAt w (.slice A n c) l) : n = l.length ∧ IntsAt w A n (nats l) := by
  obtain ⟨A', c', h1, h2⟩ := h
  injection h1 with h1 h3 h4
  subst h1 h3
  refine ⟨rfl, ?_⟩
  unfold IntsAt
  rw [map_nats]
  exact h2.row
/-- Slices that lie from a block on. -/
def Far (base : Nat) (vs : List Value) : Prop := ∀ v, v ∈ vs → ∀ g, v.ownBlock = some g → base ≤ g
theorem FaceAt.far {w : World} {v : Value} {l : List Nat} {base g i : Nat} (h : FaceAt w v l) (hf : ∀ b, v.ownBlock = some b → base ≤ b) (hg : g < base) (u : Value) : FaceAt (w.setCell ⟨g, i, none⟩ u) v l := by
  obtain ⟨A, c, rfl, h1, h2⟩ := h
  refine ⟨A, c, rfl, h1, fun hn => ?_⟩
  obtain ⟨b, o, cs, fr, rfl, hb, hc⟩ := h2 hn
  have := hf b rfl
  exact ⟨b, o, cs, fr, rfl, (Below.heap_setCell w _ u b (by show b ≠ g; omega)).trans hb, hc⟩
theorem Vs.far {w : World} {vs : List Value} {fs : List (List Nat)} {base g i : Nat} (h : Vs w vs fs) (hf : Far base vs) (hg : g < base) (u : Value) : Vs (w.setCell ⟨g, i, none⟩ u) vs fs :=
  ⟨h.1, fun i l e => let ⟨v, h1, h2⟩ := h.2 i l e; ⟨v, h1, h2.far (hf v (List.mem_of_getElem? h1)) hg u⟩⟩
theorem Far.add {base : Nat} {vs : List Value} {v : Value} (h : Far base vs) (hv : ∀ g, v.ownBlock = some g → base ≤ g) : Far base (vs ++ [v]) := fun u hu => by
  rcases List.mem_append.1 hu with hu | hu
  · exact h u hu
  · rw [List.mem_singleton] at hu; subst hu; exact hv
theorem rowInfo : (Try.prog.info? 22).map (fun i => (i.zero, i.size, i.bytes)) = some (some (.slice none 0 0), 1, 24) := by kernel_rfl
theorem every_any (h : Int) (w : World) : Calls Try.prog 124 #[.int .i64 h] w fun e w' => e = .returned (.bool true) ∧ w' = w := by
  go_enter Try.func124, Try.ntmps124
  go_wp2
  go_ret
  exact ⟨rfl, rfl⟩
end Go.Proofs.Ytobbepmlmbbamaa
end

section
/-
  Walks: the cycles of a permutation, all of them.
-/
namespace Go.Proofs.Ytobbepmlmbbamaa
open Go Go.RowKit

structure Cys (w : World) (N : Nat) (f : Nat → Nat) (k : Nat) (fs : List (List Nat)) (bs : List Bool) (vs : List Value) (vA : Value) (W : World) : Prop where
  fc : Pl.Fcs f (fun _ => True) N k fs bs
  few : fs.length ≤ k
  seen : BRow W w.heap.size bs
  own : W.ownsRow (w.heap.size + 1) 22 1 vA fs.length vs
  fa : Vs W vs fs
  bel : Below w.heap.size w W
  far : Far w.heap.size vs
theorem Cys.below {w : World} {N : Nat} {f : Nat → Nat} {k : Nat} {fs : List (List Nat)} {bs : List Bool} {vs : List Value} {vA : Value} {W W' : World} (h : Cys w N f k fs bs vs vA W) (hb : Below W.heap.size W W') : Cys w N f k fs bs vs vA W' :=
  ⟨h.fc, h.few, Row.below h.seen hb, own_keep h.own hb (Nat.le_refl _), h.fa.below hb, h.bel.trans (hb.mono h.bel.size), h.far⟩
def CyclesPost (f : Nat → Nat) (N : Nat) (w : World) (e : Ending) (w' : World) : Prop :=
  ∃ (A : Option Addr) (c : Nat) (fs : List (List Nat)) (bs : List Bool) (vs : List Value), e = .returned (.slice A fs.length c) ∧ Pl.Fcs f (fun _ => True) N N fs bs ∧ fs.length ≤ N ∧ RowT w' 22 A fs.length vs ∧ Vs w' vs fs ∧ Below w.heap.size w w' ∧ Far w.heap.size vs
set_option maxRecDepth 100000 in
set_option maxHeartbeats 3000000 in
theorem cycles_any (c : Value) (N : Nat) (S : Nat → Prop) (f : Nat → Nat) (w : World) (hst : Steps 126 c N f w) (hbij : Pl.Bij N S f) (hS : ∀ x, x < N → S x) (hSN : ∀ x, S x → x < N) (hN : N ≤ 1000) :
    Calls Try.prog 125 #[.int .i64 (N : Int), .func (.func 124) #[] #[], fv1 126 c] w (CyclesPost f N w) := by
  unfold fv1
  have HST := hide hst
  have HBI := hide hbij
  have HSS := hide hS
  have HSN := hide hSN
  have hmk := fun W : World => run_bools N (by omega) W
  have HF := hide (show ∀ x, x < N → f x < N from fun x hx => hSN _ (hbij.maps x (hS x hx)))
  have H0 := hide (show Cys w N f 0 [] (List.replicate N false) [] (.slice none 0 0) (w.alloc (.cells (Array.replicate N (Value.bool false)) 4)) from
    ⟨Pl.Fcs.start f _ N, Nat.le_refl _, BRow.made w N, World.ownsRow_nil _ _ _ _, Vs.nil _, (Below.refl _ _).alloc (Nat.le_refl _) _, fun v hv => by simp at hv⟩)
  clear hst hbij hS hSN
  go_enter Try.func125, Try.ntmps125
  go_wp2
  clear hmk
  go_loopg [7, 16] N (fun g v i wx => ∃ (k : Nat) (fs : List (List Nat)) (bs : List Bool) (vs : List Value), k + g = N ∧ i = .int .i64 k ∧ Cys w N f k fs bs vs v wx)
  case atStart => exact ⟨0, _, _, _, by omega, rfl, H0.out⟩
  case round =>
    clear H0
    obtain ⟨k, fs, bs, vs, hkg, rfl, hk⟩ := hrel
    have HKG := hide hkg
    have hkN : k ≤ N := by omega
    have HK := hide hk
    clear hkg hk
    obtain ⟨go, rfl⟩ : ∃ go, go = gk := ⟨_, rfl⟩
    obtain ⟨A7, c7, rfl⟩ := owns_slice HK.out.own
    by_cases hlt : k < N
    · have hbl : k < bs.length := by rw [HK.out.fc.len]; exact hlt
      have hc := HK.out.seen.cell hbl
      have ik : (0 : Int) ≤ (k : Int) := by omega
      have jk : (k : Int) < (N : Int) := by omega
      cases hg : Pl.gb bs k with
      | true =>
        have HGB := hide hg
        have hc' : wr.cell? ⟨w.heap.size, k, none⟩ = some (.bool true) := by rw [hc]; unfold Pl.gb at hg; rw [hg]
        clear hc hg
        go_wp2
        go_roundg (go - 1)
        case measure => have := HKG.out; omega
        case rel => exact ⟨k + 1, fs, bs, vs, by have := HKG.out; omega, by go_num, HK.out.fc.skip (.inl HGB.out), by have := HK.out.few; omega, HK.out.seen, HK.out.own, HK.out.fa, HK.out.bel, HK.out.far⟩
      | false =>
        have HGB := hide hg
        have hc' : wr.cell? ⟨w.heap.size, k, none⟩ = some (.bool false) := by rw [hc]; unfold Pl.gb at hg; rw [hg]
        clear hc hg
        go_wp2_with fail
        refine (every_any _ _).mono ?_
        rintro e w1 ⟨rfl, rfl⟩
        go_wp2_with fail
        obtain ⟨p, hpN, hper⟩ := HBI.out.per (HSS.out k hlt)
        have HPER := hide hper
        clear hper
        refine (cycle_any c N f k p _ (HST.out.keep HK.out.bel) HF.out hlt HPER.out hpN hN).mono ?_
        rintro e w2 ⟨A5, c5, rfl, own5, hb5⟩
        have HK2 := hide (HK.out.below hb5)
        have FA2 := hide (show FaceAt w2 (.slice A5 p c5) (Pl.cyc f k p) from ⟨A5, c5, by rw [Pl.cyc_len], by rw [Pl.cyc_len]; exact own_rowT own5⟩)
        have HFR := hide (show ∀ g, (Value.slice A5 p c5).ownBlock = some g → w.heap.size ≤ g from fun g hg => by have := (own5.lt g hg).1; have := HK.out.bel.size; omega)
        have HFA0 := hide HK.out.far
        clear own5 hb5
        have hp0 := HPER.out.1
        obtain ⟨b5, o5, rfl, _⟩ := nats_at FA2.out.ints.2 (k := 0) hp0
        have HFC := hide HK.out.fc
        have hfew := HK.out.few
        have HM0 := hide (show BRow w2 w.heap.size (Pl.mark bs ((Pl.cyc f k p).take 0)) from HK2.out.seen)
        go_wp2_with fail
        go_loopg [34] p (fun g i wx => ∃ j : Nat, j + g = p ∧ i = .int .i64 j ∧ BRow wx w.heap.size (Pl.mark bs ((Pl.cyc f k p).take j)) ∧ wx.ownsRow (w.heap.size + 1) 22 1 (.slice A7 fs.length c7) fs.length vs ∧ Vs wx vs fs ∧ FaceAt wx (.slice (some ⟨b5, o5, none⟩) p c5) (Pl.cyc f k p) ∧ Below w.heap.size w wx)
        case atStart => exact ⟨0, by omega, rfl, HM0.out, HK2.out.own, HK2.out.fa, FA2.out, HK2.out.bel⟩
        case round =>
          clear HM0 FA2 HK2 HK
          obtain ⟨j, hjg, rfl, hbr, hown, hvs, hfa, hbel⟩ := hrel
          have HJG := hide hjg
          have hjp : j ≤ p := by omega
          have HBR := hide hbr
          have HOWN := hide hown
          have HVS := hide hvs
          have HFA := hide hfa
          have HBEL := hide hbel
          have hsz := hbr.lt
          clear hjg hbr hown hvs hfa hbel
          by_cases hlj : j < p
          · obtain ⟨b', o', e', hcj⟩ := nats_at HFA.out.ints.2 (k := j) hlj
            injection e' with e'
            injection e' with e1 e2
            subst e1
            subst e2
            rw [Pl.cyc_get hlj] at hcj
            obtain ⟨y, hy⟩ : ∃ y, y = Pl.it f j k := ⟨_, rfl⟩
            have hyN : y < N := by rw [hy]; exact it_lt HF.out hlt j
            rw [← hy] at hcj
            have HY := hide hy
            clear hy
            have hyl : y < (Pl.mark bs ((Pl.cyc f k p).take j)).length := by rw [Pl.mark_len, HFC.out.len]; exact hyN
            have cy := HBR.out.cell hyl
            have fy := Row.free HBR.out y
            have iy : (0 : Int) ≤ (y : Int) := by omega
            have jy : (y : Int) < (N : Int) := by omega
            go_wp2_with fail
            go_roundg (gk - 1)
            case measure => have := HJG.out; omega
            case rel =>
              refine ⟨j + 1, by have := HJG.out; omega, by go_num, ?_, ?_, HVS.out.store HBR.out (by decide) _, HFA.out.store HBR.out (by decide) _, HBEL.out.setCell (Nat.le_refl _) _⟩
              · have h1 := HBR.out.set y true
                have h2 : (Pl.cyc f k p).take (j + 1) = (Pl.cyc f k p).take j ++ [y] := by
                  rw [List.take_succ_eq_append_getElem (by rw [Pl.cyc_len]; exact hlj)]
                  congr 2
                  have := Pl.cyc_get (f := f) (x := k) hlj
                  rw [List.getD_eq_getElem?_getD, List.getElem?_eq_getElem (by rw [Pl.cyc_len]; exact hlj)] at this
                  rw [HY.out]
                  exact this
                rw [h2, Pl.mark_append]
                exact h1
              · exact ownsRow_setCell_below HOWN.out (by show w.heap.size < w.heap.size + 1; omega) _
          · have hjj : j = p := by omega
            subst hjj
            obtain ⟨i0, hi0, hz0, hz1, hz2⟩ := info_parts rowInfo
            have P1 : ∀ u ∈ [Value.slice (some ⟨b5, o5, none⟩) j c5], u.oneCell' = true := by simp [Value.oneCell']
            go_wp2_with (at_builtin; refine wpList_append_lies _ (by rfl) _ _ 57 (by rfl) (w.heap.size + 1) 22 i0 (.slice none 0 0) 1 24 Try.underlying57 hi0 hz0 hz1 hz2 rfl (by omega) _ fs.length vs (by rfl) (HOWN.out.alloc _) ⟨wr.heap.size, 0, none⟩ 1 1 [.slice (some ⟨b5, o5, none⟩) j c5] (by rfl) (by rfl) (World.news_of_block (cs := #[.slice (some ⟨b5, o5, none⟩) j c5]) (t := 22) (fr := (0, 0)) (heap_alloc_new wr _)) P1 (by omega) (by unfold maxLen; omega) (by omega) (by simp; omega) (wr.heap.size + 1) (by simp) ?_; intro g3 c3 w3 own3 grow3 at3 lt3)
            go_roundg (go - 1)
            case measure => have := HKG.out; omega
            case rel =>
              have hbk := fun g (hg : (Value.slice A7 fs.length c7).ownBlock = some g) => ownsRow_block (HOWN.out.alloc (.cells #[.slice (some ⟨b5, o5, none⟩) j c5] 22)) g hg
              have hba : Below wr.heap.size wr (wr.alloc (.cells #[.slice (some ⟨b5, o5, none⟩) j c5] 22)) := (Below.refl _ _).alloc (Nat.le_refl _) _
              refine ⟨k + 1, fs ++ [Pl.cyc f k j], Pl.mark bs (Pl.cyc f k j), vs ++ [.slice (some ⟨b5, o5, none⟩) j c5], by have := HKG.out; omega, by go_num, ?_⟩
              refine ⟨HFC.out.add HBI.out HSS.out HSN.out hlt trivial HGB.out HPER.out, by simp; omega, ?_, by simpa using own3, ?_, ?_, HFA0.out.add HFR.out⟩
              · have h1 := HBR.out
                rw [List.take_of_length_le (by rw [Pl.cyc_len]; omega)] at h1
                refine Row.grown (Row.alloc h1 (.cells #[.slice (some ⟨b5, o5, none⟩) j c5] 22)) grow3 ?_
                intro e
                obtain ⟨cs, fr, h3⟩ := hbk _ e.symm
                have h4 := Row.alloc h1 (.cells #[.slice (some ⟨b5, o5, none⟩) j c5] 22)
                rw [h4] at h3
                injection h3 with h3
                injection h3 with _ h5
                exact absurd h5 (by decide)
              · exact ((HVS.out.below hba).grown grow3 hbk (by decide)).add ((HFA.out.below hba).grown grow3 hbk (by decide))
              · exact (HBEL.out.alloc (by omega) _).grown grow3 (by simp; omega) (fun k hk => by have := (HOWN.out.lt k hk).1; omega)
    · go_wp2
      go_ret
      have : k = N := by omega
      subst this
      exact ⟨A7, c7, fs, bs, vs, rfl, HK.out.fc, HK.out.few, own_rowT HK.out.own, HK.out.fa, HK.out.bel, HK.out.far⟩
end Go.Proofs.Ytobbepmlmbbamaa
end

section
/-
  Walks: Faces, Graph.
-/
namespace Go.Proofs.Ytobbepmlmbbamaa
open Go Go.RowKit

theorem mk_self (d : Pl.Dg) : Pl.mk d.sg (nats d.mt) d.lp = d := by
  unfold Pl.mk nats
  rw [List.map_map]
  have : (Int.toNat ∘ fun m : Nat => (m : Int)) = id := by funext x; rfl
  rw [this, List.map_id]
  rfl
theorem vl_of {d : Pl.Dg} : Pl.VL d.sg (nats d.mt) d.lp ↔ Pl.Valid d := by
  constructor
  · intro h; have := h.1; rwa [mk_self] at this
  · intro h; exact ⟨by rw [mk_self]; exact h, fun z hz => by unfold nats at hz; obtain ⟨m, _, rfl⟩ := List.mem_map.1 hz; omega, by omega⟩
theorem valid_yes (d : Pl.Dg) (hd : Pl.Valid d) (A B : Option Addr) (cp cq m : Nat) (w : World) (hm : m = 4 * d.n) (hg : DgAt w A B d) :
    Calls Try.prog 26 #[.agg #[.slice A d.n cp, .slice B m cq, .int .i64 d.lp]] w fun e w' => e = .returned (.bool true) ∧ Below w.heap.size w w' := by
  have hn := hd.wf.few
  have hl := hd.wf.lp
  refine (valid_any d.sg (nats d.mt) d.lp A B d.n m cp cq w hg.s (by rw [hm]; exact hg.m) (by unfold maxLen; omega) (by unfold maxLen; omega) (by omega)).mono ?_
  rintro e w' ⟨h1, h2⟩
  rw [Pl.vb_true (vl_of.2 hd)] at h1
  exact ⟨h1, h2⟩
def FacesPost (d : Pl.Dg) (w : World) (e : Ending) (w' : World) : Prop := CyclesPost (Pl.nx d) (4 * d.n) w e w'
set_option maxRecDepth 100000 in
set_option maxHeartbeats 1000000 in
theorem faces_any (d : Pl.Dg) (hd : Pl.Valid d) (A B : Option Addr) (cp cq m : Nat) (w : World) (hm : m = 4 * d.n) (hg : DgAt w A B d) :
    Calls Try.prog 90 #[.agg #[.slice A d.n cp, .slice B m cq, .int .i64 d.lp]] w (FacesPost d w) := by
  have hn := hd.wf.few
  have HM := hide hm
  have HG := hide hg
  have B0 := hide (show Below w.heap.size w (w.alloc (.cells #[.slice A d.n cp, .slice B m cq, .int .i64 d.lp] 24)) from (Below.refl _ _).alloc (Nat.le_refl _) _)
  have X0 := hide (show Row (w.alloc (.cells #[.slice A d.n cp, .slice B m cq, .int .i64 d.lp] 24)) w.heap.size 24 [.slice A d.n cp, .slice B m cq, .int .i64 d.lp] from Row.new w _ [_, _, _])
  clear hm hg
  have hmf : ∀ (fn : Fn) (first cap : Array Value) (w : World), (Instr.makeFunc fn first cap).run Try.prog w = .ok (.func fn first cap) w := fun _ _ _ _ => rfl
  go_enter Try.func90, Try.ntmps90
  go_wp2_with fail
  refine (valid_yes d hd A B cp cq m _ HM.out (HG.out.keep B0.out)).mono ?_
  rintro e w1 ⟨rfl, hb1⟩
  have B1 := hide (B0.out.trans (hb1.mono B0.out.size))
  have X1 := hide (X0.out.below hb1)
  have ST := hide (nextF_steps d B cq m w.heap.size _ _ w1 HM.out hd.wf X1.out (by rw [HM.out]; exact (HG.out.keep B1.out).m))
  obtain ⟨f0, f1, f2, f3⟩ := box3 X1.out
  clear hb1
  go_wp2_with fail
  have hcc : (m : Int) = ((4 * d.n : Nat) : Int) := by rw [HM.out]
  refine (Calls.mono (P := Try.prog) (by rw [hcc]; exact cycles_any (.pointer (some ⟨w.heap.size, 0, none⟩)) (4 * d.n) (Pl.dart d) (Pl.nx d) w1 ST.out hd.wf.nxb (fun _ h => h) (fun _ h => h) (by omega)) ?_)
  rintro e w2 ⟨A7, c7, fs, bs, vs, rfl, h1, h2, h3, h4, h5, h6⟩
  clear hcc
  have H1 := hide h1
  have H2 := hide h2
  have H3 := hide h3
  have H4 := hide h4
  have B2 := hide (B1.out.trans (h5.mono B1.out.size))
  have H6 := hide (show Far w.heap.size vs from fun v hv g hg => Nat.le_trans B1.out.size (h6 v hv g hg))
  clear h1 h2 h3 h4 h5 h6
  go_wp2
  go_ret
  exact ⟨A7, c7, fs, bs, vs, rfl, H1.out, H2.out, H3.out, H4.out, B2.out, H6.out⟩
end Go.Proofs.Ytobbepmlmbbamaa
end
