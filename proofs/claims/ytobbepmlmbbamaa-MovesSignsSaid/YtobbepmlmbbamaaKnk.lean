/-
  Plain Lean: a diagram with a kink more is plane. No program is named here.
-/
import Derived.Test.YtobbepmlmbbamaaPush
namespace Go.Proofs.Ytobbepmlmbbamaa.Pl

/-- A map on the half-edges of n crossings, without edges at further ones. -/
def ex (n : Nat) (a : Nat → Nat) (x : Nat) : Nat := if x < 4 * n then a x else x
theorem ex_old {n : Nat} {a : Nat → Nat} {x : Nat} (h : x < 4 * n) : ex n a x = a x := if_pos h
theorem ex_new {n : Nat} {a : Nat → Nat} {x : Nat} (h : 4 * n ≤ x) : ex n a x = x := if_neg (by omega)
theorem rot_lt {k x : Nat} (h : x < 4 * k) : rot x < 4 * k := tn_lt h
theorem rot_ge {k x : Nat} (h : 4 * k ≤ x) : 4 * k ≤ rot x := by unfold rot tn; omega
theorem rot_at (n e : Nat) (h : e < 4) : rot (4 * n + e) = 4 * n + (e + 3) % 4 := by unfold rot tn; omega
theorem ext_hm {n M : Nat} {a : Nat → Nat} (hM : n ≤ M) (h : Hm (4 * n) (fun h => h < 4 * n) rot a) : Hm (4 * M) (fun h => h < 4 * M) rot (ex n a) := by
  refine ⟨rot_bij M, ⟨fun _ h => h, fun x hx => ?_, fun x y hx hy e => ?_⟩, fun x hx => ?_⟩
  · by_cases h1 : x < 4 * n
    · show ex n a x < 4 * M
      rw [ex_old h1]; have := h.ab.maps x h1; omega
    · show ex n a x < 4 * M
      rw [ex_new (by omega)]; exact hx
  · by_cases h1 : x < 4 * n <;> by_cases h2 : y < 4 * n
    · rw [ex_old h1, ex_old h2] at e; exact h.ab.inj x y h1 h2 e
    · rw [ex_old h1, ex_new (by omega)] at e; have := h.ab.maps x h1; omega
    · rw [ex_new (by omega), ex_old h2] at e; have := h.ab.maps y h2; omega
    · rw [ex_new (by omega), ex_new (by omega)] at e; exact e
  · by_cases h1 : x < 4 * n
    · rw [ex_old h1, ex_old (h.ab.maps x h1)]; exact h.inv x h1
    · rw [ex_new (x := x) (by omega), ex_new (by omega)]
theorem ext_gen {n M : Nat} {a : Nat → Nat} {z : Int} (hM : n ≤ M) (h : Hm (4 * n) (fun h => h < 4 * n) rot a) (hf : Gen (fun h => h < 4 * n) rot a z) : Gen (fun h => h < 4 * M) rot (ex n a) z := by
  have h' := ext_hm hM h
  have hS : Hm (4 * M) (fun h => h < 4 * n) rot (ex n a) := ⟨⟨fun x hx => by omega, fun x hx => rot_lt hx, fun x y _ _ e => tn_inj e⟩, ⟨fun x hx => by omega, fun x hx => by rw [ex_old hx]; exact h.ab.maps x hx, fun x y hx hy e => by rw [ex_old hx, ex_old hy] at e; exact h.ab.inj x y hx hy e⟩, fun x hx => by rw [ex_old hx, ex_old (h.ab.maps x hx)]; exact h.inv x hx⟩
  have hT : Hm (4 * M) (fun h => 4 * n ≤ h ∧ h < 4 * M) rot (ex n a) := ⟨⟨fun x hx => hx.2, fun x hx => ⟨rot_ge hx.1, rot_lt hx.2⟩, fun x y _ _ e => tn_inj e⟩, ⟨fun x hx => hx.2, fun x hx => by rw [ex_new hx.1]; exact hx, fun x y hx hy e => by rw [ex_new hx.1, ex_new hy.1] at e; exact e⟩, fun x hx => by rw [ex_new (x := x) hx.1, ex_new hx.1]⟩
  have g1 : Gen (fun h => h < 4 * n) rot (ex n a) z := Gen.congr h (fun _ _ => rfl) (fun x hx => (ex_old hx).symm) hf
  have g2 := gen_id hT (fun x hx => ex_new hx.1)
  have := Gen.add hS hT (fun x hx hx' => by omega) g1 g2
  rw [Int.add_zero] at this
  have e : (fun x => x < 4 * n ∨ (4 * n ≤ x ∧ x < 4 * M)) = (fun h => h < 4 * M) := by funext x; exact propext ⟨fun h => by omega, fun h => by omega⟩
  rwa [e] at this
/-- The four places of a kink: the ends in and out of its first and second passage. -/
def Kq (n i0 o0 i1 o1 : Nat) : Prop :=
  (i0 = 4 * n + 0 ∧ o0 = 4 * n + 2 ∧ i1 = 4 * n + 3 ∧ o1 = 4 * n + 1) ∨ (i0 = 4 * n + 0 ∧ o0 = 4 * n + 2 ∧ i1 = 4 * n + 1 ∧ o1 = 4 * n + 3) ∨
  (i0 = 4 * n + 3 ∧ o0 = 4 * n + 1 ∧ i1 = 4 * n + 0 ∧ o1 = 4 * n + 2) ∨ (i0 = 4 * n + 1 ∧ o0 = 4 * n + 3 ∧ i1 = 4 * n + 0 ∧ o1 = 4 * n + 2)
theorem Kq.face {n i0 o0 i1 o1 : Nat} (k : Kq n i0 o0 i1 o1) {b : Nat → Nat} (b1 : b o0 = i1) (b2 : b i1 = o0) (b3 : b o1 = o1) : Orb (phi rot b) o1 i0 := by
  rcases k with ⟨rfl, rfl, rfl, rfl⟩ | ⟨rfl, rfl, rfl, rfl⟩ | ⟨rfl, rfl, rfl, rfl⟩ | ⟨rfl, rfl, rfl, rfl⟩
  · exact ⟨1, by show rot (b (4 * n + 1)) = _; rw [b3, rot_at n 1 (by omega)]⟩
  · exact ⟨2, by show rot (b (rot (b (4 * n + 3)))) = _; rw [b3, rot_at n 3 (by omega), b1, rot_at n 1 (by omega)]⟩
  · exact ⟨2, by show rot (b (rot (b (4 * n + 2)))) = _; rw [b3, rot_at n 2 (by omega), b1, rot_at n 0 (by omega)]⟩
  · exact ⟨1, by show rot (b (4 * n + 2)) = _; rw [b3, rot_at n 2 (by omega)]⟩
theorem Kq.bd {n i0 o0 i1 o1 : Nat} (k : Kq n i0 o0 i1 o1) : (4 * n ≤ i0 ∧ i0 < 4 * (n + 1)) ∧ (4 * n ≤ o0 ∧ o0 < 4 * (n + 1)) ∧ (4 * n ≤ i1 ∧ i1 < 4 * (n + 1)) ∧ (4 * n ≤ o1 ∧ o1 < 4 * (n + 1)) ∧ i0 ≠ o0 ∧ i0 ≠ i1 ∧ i0 ≠ o1 ∧ o0 ≠ i1 ∧ o0 ≠ o1 ∧ i1 ≠ o1 := by
  unfold Kq at k; omega
theorem orb_new {n x y : Nat} {b : Nat → Nat} (hx : 4 * n ≤ x ∧ x < 4 * (n + 1)) (hy : 4 * n ≤ y ∧ y < 4 * (n + 1)) (hb : ∀ z, 4 * n ≤ z → z < 4 * (n + 1) → b z = z) : Orb (phi rot b) x y := by
  have st : ∀ z, 4 * n ≤ z → z < 4 * (n + 1) → phi rot b z = rot z := fun z h1 h2 => by unfold phi; rw [hb z h1 h2]
  have r1 : ∀ z, 4 * n ≤ z → z < 4 * (n + 1) → 4 * n ≤ rot z ∧ rot z < 4 * (n + 1) := fun z h1 h2 => ⟨rot_ge h1, rot_lt h2⟩
  have a1 := r1 x hx.1 hx.2
  have a2 := r1 _ a1.1 a1.2
  have key : y = x ∨ y = rot x ∨ y = rot (rot x) ∨ y = rot (rot (rot x)) := by unfold rot tn; omega
  rcases key with rfl | rfl | rfl | rfl
  · exact Orb.refl _ _
  · exact ⟨1, st x hx.1 hx.2⟩
  · exact ⟨2, by show phi rot b (phi rot b x) = _; rw [st x hx.1 hx.2, st _ a1.1 a1.2]⟩
  · exact ⟨3, by show phi rot b (phi rot b (phi rot b x)) = _; rw [st x hx.1 hx.2, st _ a1.1 a1.2, st _ a2.1 a2.2]⟩
/-- The first loop of a kink. -/
theorem loop_flat {n i0 o0 i1 o1 : Nat} {a : Nat → Nat} (h : Hm (4 * n) (fun h => h < 4 * n) rot a) (hf : Flat (fun h => h < 4 * n) rot a) (k : Kq n i0 o0 i1 o1) : Flat (fun h => h < 4 * (n + 1)) rot (tr (ex n a) o0 i1) := by
  obtain ⟨a1, a2, a3, a4, n1, n2, n3, n4, n5, n6⟩ := k.bd
  exact Flat.add (ext_hm (by omega) h) a2.2 a3.2 n4 (ex_new a2.1) (ex_new a3.1) (fun _ => orb_new a2 a3 (fun z h1 _ => ex_new h1)) (ext_gen (by omega) h hf)
/-- A loop with a kink, beside a plane map. -/
theorem kink_loop {n i0 o0 i1 o1 : Nat} {a : Nat → Nat} (h : Hm (4 * n) (fun h => h < 4 * n) rot a) (hf : Flat (fun h => h < 4 * n) rot a) (k : Kq n i0 o0 i1 o1) : Flat (fun h => h < 4 * (n + 1)) rot (tr (tr (ex n a) o0 i1) o1 i0) := by
  obtain ⟨a1, a2, a3, a4, n1, n2, n3, n4, n5, n6⟩ := k.bd
  have hx := ext_hm (Nat.le_succ n) h
  have h1 := hx.tr (x := o0) (y := i1) a2.2 a3.2 (ex_new a2.1) (ex_new a3.1)
  have f1 : tr (ex n a) o0 i1 o1 = o1 := by rw [tr_ne (Ne.symm n5) (Ne.symm n6), ex_new a4.1]
  have f2 : tr (ex n a) o0 i1 i0 = i0 := by rw [tr_ne n1 n2, ex_new a1.1]
  refine Flat.add h1 a4.2 a1.2 (Ne.symm n3) f1 f2 (fun _ => k.face ?_ ?_ f1) (loop_flat h hf k)
  · rw [tr_a, ex_new a3.1]
  · rw [tr_b, ex_new a2.1]
theorem con_old {n : Nat} {b : Nat → Nat} (hb : ∀ z, z < 4 * n → b z < 4 * n) {x y : Nat} (hx : x < 4 * n) (e : Con rot b x y) : y < 4 * n := by
  induction e with
  | refl => exact hx
  | left _ ih => exact rot_lt ih
  | right _ ih => exact hb _ ih
/-- An edge x y with a kink. -/
theorem kink_edge {n i0 o0 i1 o1 x y : Nat} {a : Nat → Nat} (h : Hm (4 * n) (fun h => h < 4 * n) rot a) (hf : Flat (fun h => h < 4 * n) rot a) (k : Kq n i0 o0 i1 o1) (hx : x < 4 * n) (hy : a x = y) (hne : x ≠ y) :
    Flat (fun h => h < 4 * (n + 1)) rot (tr (tr (tr (ex n (tr a x y)) o0 i1) x i0) o1 y) := by
  obtain ⟨a1, a2, a3, a4, n1, n2, n3, n4, n5, n6⟩ := k.bd
  subst hy
  have hyn : a x < 4 * n := h.ab.maps x hx
  obtain ⟨hc, c1, c2⟩ := Hm.cut h hx (Ne.symm hne)
  have hX := ext_hm (Nat.le_succ n) hc
  have h1 := hX.tr (x := o0) (y := i1) a2.2 a3.2 (ex_new a2.1) (ex_new a3.1)
  have old : ∀ z, z < 4 * n → tr (ex n (tr a x (a x))) o0 i1 z = tr a x (a x) z := fun z hz => by rw [tr_ne (by omega) (by omega), ex_old hz]
  have cl : ∀ z, z < 4 * n → tr (ex n (tr a x (a x))) o0 i1 z < 4 * n := fun z hz => by rw [old z hz]; exact hc.ab.maps z hz
  have fu : tr (ex n (tr a x (a x))) o0 i1 i0 = i0 := by rw [tr_ne n1 n2, ex_new a1.1]
  have fv : tr (ex n (tr a x (a x))) o0 i1 o1 = o1 := by rw [tr_ne (Ne.symm n5) (Ne.symm n6), ex_new a4.1]
  have hx' : x < 4 * (n + 1) := by omega
  have hy' : a x < 4 * (n + 1) := by omega
  refine Gen.detour h1 hx' hy' a1.2 a4.2 hne n3 (by rw [old x hx, c1]) (by rw [old _ hyn, c2]) fu fv (fun e => by have := con_old cl hx e; omega) (fun e => by have := con_old cl hyn e; omega) (k.face ?_ ?_ fv) ?_
  · rw [tr_a, ex_new a3.1]
  · rw [tr_b, ex_new a2.1]
  · refine Gen.congr ((ext_hm (Nat.le_succ n) h).tr (x := o0) (y := i1) a2.2 a3.2 (ex_new a2.1) (ex_new a3.1)) (fun _ _ => rfl) (fun z hz => ?_) (loop_flat h hf k)
    by_cases z1 : z = x
    · subst z1
      rw [tr_a, old _ hyn, c2, tr_ne (by omega) (by omega), ex_old hx]
    · by_cases z2 : z = a x
      · subst z2
        rw [tr_b, old _ hx, c1, tr_ne (by omega) (by omega), ex_old hyn, h.inv x hx]
      · rw [tr_ne z1 z2]
        by_cases z3 : z < 4 * n
        · rw [old z z3, tr_ne z1 z2, tr_ne (by omega) (by omega), ex_old z3]
        · by_cases z4 : z = o0
          · subst z4; rw [tr_a, tr_a, ex_new a3.1, ex_new a3.1]
          · by_cases z5 : z = i1
            · subst z5; rw [tr_b, tr_b, ex_new a2.1, ex_new a2.1]
            · rw [tr_ne z4 z5, tr_ne z4 z5, ex_new (by omega), ex_new (by omega)]
end Go.Proofs.Ytobbepmlmbbamaa.Pl
