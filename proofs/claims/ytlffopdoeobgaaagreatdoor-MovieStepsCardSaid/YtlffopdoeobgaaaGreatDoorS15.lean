/-
 The texts Knk, Kval, Slv, Slt, Xo, Xp, Xr in one.
-/
import Derived.Test.YtlffopdoeobgaaaGreatDoorS14
import Derived.Test.YtlffopdoeobgaaaGreatDoorS13
import Derived.Test.YtlffopdoeobgaaaGreatDoorS07
import Derived.Deep.AppendLies
import Derived.Test.YtlffopdoeobgaaaGreatDoorS12
set_option linter.unusedVariables false
set_option linter.unusedSimpArgs false
section
namespace Go.Proofs.YtlffopdoeobgaaaGreatDoor.Pl
def ex (n : Nat) (a : Nat → Nat) (x : Nat) : Nat := if x < 4 * n then a x else x
theorem ex_old {n : Nat} {a : Nat → Nat} {x : Nat} (h : x < 4 * n) : ex n a x = a x := if_pos h
theorem ex_new {n : Nat} {a : Nat → Nat} {x : Nat} (h : 4 * n ≤ x) : ex n a x = x := if_neg (by omega)
theorem rot_lt {k x : Nat} (h : x < 4 * k) : rot x < 4 * k := tn_lt h
theorem rot_ge {k x : Nat} (h : 4 * k ≤ x) : 4 * k ≤ rot x := by unfold rot tn; omega
theorem rot_at (n e : Nat) (h : e < 4) : rot (4 * n + e) = 4 * n + (e + 3) % 4 := by unfold rot tn; omega
theorem ext_hm {n M : Nat} {a : Nat → Nat} (hM : n ≤ M) (h : Hm (4 * n) (fun h => h < 4 * n) rot a) : Hm (4 * M) (fun h => h < 4 * M) rot (ex n a) := by
 refine ⟨rot_bij M, ⟨fun _ h => h, fun x hx => ?_, fun x y hx hy e => ?_⟩, fun x hx => ?_⟩
 ·by_cases h1 : x < 4 * n
  ·show ex n a x < 4 * M
   rw [ex_old h1]; have := h.ab.maps x h1; omega
  ·show ex n a x < 4 * M
   rw [ex_new (by omega)]; exact hx
 ·by_cases h1 : x < 4 * n <;> by_cases h2 : y < 4 * n
  ·rw [ex_old h1, ex_old h2] at e; exact h.ab.inj x y h1 h2 e
  ·rw [ex_old h1, ex_new (by omega)] at e; have := h.ab.maps x h1; omega
  ·rw [ex_new (by omega), ex_old h2] at e; have := h.ab.maps y h2; omega
  ·rw [ex_new (by omega), ex_new (by omega)] at e; exact e
 ·by_cases h1 : x < 4 * n
  ·rw [ex_old h1, ex_old (h.ab.maps x h1)]; exact h.inv x h1
  ·rw [ex_new (x := x) (by omega), ex_new (by omega)]
theorem ext_gen {n M : Nat} {a : Nat → Nat} {z : Int} (hM : n ≤ M) (h : Hm (4 * n) (fun h => h < 4 * n) rot a) (hf : Gen (fun h => h < 4 * n) rot a z) : Gen (fun h => h < 4 * M) rot (ex n a) z := by
 have h' := ext_hm hM h
 have hS : Hm (4 * M) (fun h => h < 4 * n) rot (ex n a) := ⟨⟨fun x hx => by omega, fun x hx => rot_lt hx, fun x y _ _ e => tn_inj e⟩, ⟨fun x hx => by omega, fun x hx => by rw [ex_old hx]; exact h.ab.maps x hx, fun x y hx hy e => by rw [ex_old hx, ex_old hy] at e; exact h.ab.inj x y hx hy e⟩, fun x hx => by rw [ex_old hx, ex_old (h.ab.maps x hx)]; exact h.inv x hx⟩
 have hT : Hm (4 * M) (fun h => 4 * n ≤ h ∧ h < 4 * M) rot (ex n a) := ⟨⟨fun x hx => hx.2, fun x hx => ⟨rot_ge hx.1, rot_lt hx.2⟩, fun x y _ _ e => tn_inj e⟩, ⟨fun x hx => hx.2, fun x hx => by rw [ex_new hx.1]; exact hx, fun x y hx hy e => by rw [ex_new hx.1, ex_new hy.1] at e; exact e⟩, fun x hx => by rw [ex_new (x := x) hx.1, ex_new hx.1]⟩
 have g1 : Gen (fun h => h < 4 * n) rot (ex n a) z := Gen.congr h (fun _ _ => rfl) (fun x hx => (ex_old hx).symm) hf
 have g2 := gen_id hT (fun x hx => ex_new hx.1)
 have := Gen.add hS hT (fun x hx hx' => by omega) g1 g2
 rw [Int.add_zero] at this
 have e : (fun x => x < 4 * n ∨ (4 * n ≤ x ∧ x < 4 * M)) = (fun h => h < 4 * M) := by funext x; exact propext ⟨fun h => by omega, fun h => by omega⟩
 rwa [e] at this
def Kq (n i0 o0 i1 o1 : Nat) : Prop :=
 (i0 = 4 * n + 0 ∧ o0 = 4 * n + 2 ∧ i1 = 4 * n + 3 ∧ o1 = 4 * n + 1) ∨ (i0 = 4 * n + 0 ∧ o0 = 4 * n + 2 ∧ i1 = 4 * n + 1 ∧ o1 = 4 * n + 3) ∨
 (i0 = 4 * n + 3 ∧ o0 = 4 * n + 1 ∧ i1 = 4 * n + 0 ∧ o1 = 4 * n + 2) ∨ (i0 = 4 * n + 1 ∧ o0 = 4 * n + 3 ∧ i1 = 4 * n + 0 ∧ o1 = 4 * n + 2)
theorem Kq.face {n i0 o0 i1 o1 : Nat} (k : Kq n i0 o0 i1 o1) {b : Nat → Nat} (b1 : b o0 = i1) (b2 : b i1 = o0) (b3 : b o1 = o1) : Orb (phi rot b) o1 i0 := by
 rcases k with ⟨rfl, rfl, rfl, rfl⟩ | ⟨rfl, rfl, rfl, rfl⟩ | ⟨rfl, rfl, rfl, rfl⟩ | ⟨rfl, rfl, rfl, rfl⟩
 ·exact ⟨1, by show rot (b (4 * n + 1)) = _; rw [b3, rot_at n 1 (by omega)]⟩
 ·exact ⟨2, by show rot (b (rot (b (4 * n + 3)))) = _; rw [b3, rot_at n 3 (by omega), b1, rot_at n 1 (by omega)]⟩
 ·exact ⟨2, by show rot (b (rot (b (4 * n + 2)))) = _; rw [b3, rot_at n 2 (by omega), b1, rot_at n 0 (by omega)]⟩
 ·exact ⟨1, by show rot (b (4 * n + 2)) = _; rw [b3, rot_at n 2 (by omega)]⟩
theorem Kq.bd {n i0 o0 i1 o1 : Nat} (k : Kq n i0 o0 i1 o1) : (4 * n ≤ i0 ∧ i0 < 4 * (n + 1)) ∧ (4 * n ≤ o0 ∧ o0 < 4 * (n + 1)) ∧ (4 * n ≤ i1 ∧ i1 < 4 * (n + 1)) ∧ (4 * n ≤ o1 ∧ o1 < 4 * (n + 1)) ∧ i0 ≠ o0 ∧ i0 ≠ i1 ∧ i0 ≠ o1 ∧ o0 ≠ i1 ∧ o0 ≠ o1 ∧ i1 ≠ o1 := by
 unfold Kq at k; omega
theorem orb_new {n x y : Nat} {b : Nat → Nat} (hx : 4 * n ≤ x ∧ x < 4 * (n + 1)) (hy : 4 * n ≤ y ∧ y < 4 * (n + 1)) (hb : ∀ z, 4 * n ≤ z → z < 4 * (n + 1) → b z = z) : Orb (phi rot b) x y := by
 have st : ∀ z, 4 * n ≤ z → z < 4 * (n + 1) → phi rot b z = rot z := fun z h1 h2 => by unfold phi; rw [hb z h1 h2]
 have r1 : ∀ z, 4 * n ≤ z → z < 4 * (n + 1) → 4 * n ≤ rot z ∧ rot z < 4 * (n + 1) := fun z h1 h2 => ⟨rot_ge h1, rot_lt h2⟩
 have a1 := r1 x hx.1 hx.2
 have a2 := r1 _ a1.1 a1.2
 have key : y = x ∨ y = rot x ∨ y = rot (rot x) ∨ y = rot (rot (rot x)) := by unfold rot tn; omega
 rcases key with rfl | rfl | rfl | rfl
 ·exact Orb.refl _ _
 ·exact ⟨1, st x hx.1 hx.2⟩
 ·exact ⟨2, by show phi rot b (phi rot b x) = _; rw [st x hx.1 hx.2, st _ a1.1 a1.2]⟩
 ·exact ⟨3, by show phi rot b (phi rot b (phi rot b x)) = _; rw [st x hx.1 hx.2, st _ a1.1 a1.2, st _ a2.1 a2.2]⟩
theorem loop_flat {n i0 o0 i1 o1 : Nat} {a : Nat → Nat} (h : Hm (4 * n) (fun h => h < 4 * n) rot a) (hf : Flat (fun h => h < 4 * n) rot a) (k : Kq n i0 o0 i1 o1) : Flat (fun h => h < 4 * (n + 1)) rot (tr (ex n a) o0 i1) := by
 obtain ⟨a1, a2, a3, a4, n1, n2, n3, n4, n5, n6⟩ := k.bd
 exact Flat.add (ext_hm (by omega) h) a2.2 a3.2 n4 (ex_new a2.1) (ex_new a3.1) (fun _ => orb_new a2 a3 (fun z h1 _ => ex_new h1)) (ext_gen (by omega) h hf)
theorem kink_loop {n i0 o0 i1 o1 : Nat} {a : Nat → Nat} (h : Hm (4 * n) (fun h => h < 4 * n) rot a) (hf : Flat (fun h => h < 4 * n) rot a) (k : Kq n i0 o0 i1 o1) : Flat (fun h => h < 4 * (n + 1)) rot (tr (tr (ex n a) o0 i1) o1 i0) := by
 obtain ⟨a1, a2, a3, a4, n1, n2, n3, n4, n5, n6⟩ := k.bd
 have hx := ext_hm (Nat.le_succ n) h
 have h1 := hx.tr (x := o0) (y := i1) a2.2 a3.2 (ex_new a2.1) (ex_new a3.1)
 have f1 : tr (ex n a) o0 i1 o1 = o1 := by rw [tr_ne (Ne.symm n5) (Ne.symm n6), ex_new a4.1]
 have f2 : tr (ex n a) o0 i1 i0 = i0 := by rw [tr_ne n1 n2, ex_new a1.1]
 refine Flat.add h1 a4.2 a1.2 (Ne.symm n3) f1 f2 (fun _ => k.face ?_ ?_ f1) (loop_flat h hf k)
 ·rw [tr_a, ex_new a3.1]
 ·rw [tr_b, ex_new a2.1]
theorem con_old {n : Nat} {b : Nat → Nat} (hb : ∀ z, z < 4 * n → b z < 4 * n) {x y : Nat} (hx : x < 4 * n) (e : Con rot b x y) : y < 4 * n := by
 induction e with
 | refl => exact hx
 | left _ ih => exact rot_lt ih
 | right _ ih => exact hb _ ih
theorem kink_edge {n i0 o0 i1 o1 x y : Nat} {a : Nat → Nat} (h : Hm (4 * n) (fun h => h < 4 * n) rot a) (hf : Flat (fun h => h < 4 * n) rot a) (k : Kq n i0 o0 i1 o1) (hx : x < 4 * n) (hy : a x = y) (hne : x ≠ y) :
 Flat (fun h => h < 4 * (n + 1)) rot (tr (tr (tr (ex n (tr a x y)) o0 i1) x i0) o1 y) := by
 obtain ⟨a1, a2, a3, a4, n1, n2, n3, n4, n5, n6⟩ := k.bd
 subst hy
 have hyn : a x < 4 * n := h.ab.maps x hx
 obtain ⟨hc, c1, c2⟩ := Hm.cut h hx (Ne.symm hne)
 have hX := ext_hm (Nat.le_succ n) hc
 have h1 := hX.tr (x := o0) (y := i1) a2.2 a3.2 (ex_new a2.1) (ex_new a3.1)
 have old : ∀ z, z < 4 * n → tr (ex n (tr a x (a x))) o0 i1 z = tr a x (a x) z := fun z hz => by rw [tr_ne (by omega) (by omega), ex_old hz]
 have cl : ∀ z, z < 4 * n → tr (ex n (tr a x (a x))) o0 i1 z < 4 * n := fun z hz => by rw [old z hz]; exact hc.ab.maps z hz
 have fu : tr (ex n (tr a x (a x))) o0 i1 i0 = i0 := by rw [tr_ne n1 n2, ex_new a1.1]
 have fv : tr (ex n (tr a x (a x))) o0 i1 o1 = o1 := by rw [tr_ne (Ne.symm n5) (Ne.symm n6), ex_new a4.1]
 have hx' : x < 4 * (n + 1) := by omega
 have hy' : a x < 4 * (n + 1) := by omega
 refine Gen.detour h1 hx' hy' a1.2 a4.2 hne n3 (by rw [old x hx, c1]) (by rw [old _ hyn, c2]) fu fv (fun e => by have := con_old cl hx e; omega) (fun e => by have := con_old cl hyn e; omega) (k.face ?_ ?_ fv) ?_
 ·rw [tr_a, ex_new a3.1]
 ·rw [tr_b, ex_new a2.1]
 ·refine Gen.congr ((ext_hm (Nat.le_succ n) h).tr (x := o0) (y := i1) a2.2 a3.2 (ex_new a2.1) (ex_new a3.1)) (fun _ _ => rfl) (fun z hz => ?_) (loop_flat h hf k)
  by_cases z1 : z = x
  ·subst z1
   rw [tr_a, old _ hyn, c2, tr_ne (by omega) (by omega), ex_old hx]
  ·by_cases z2 : z = a x
   ·subst z2
    rw [tr_b, old _ hx, c1, tr_ne (by omega) (by omega), ex_old hyn, h.inv x hx]
   ·rw [tr_ne z1 z2]
    by_cases z3 : z < 4 * n
    ·rw [old z z3, tr_ne z1 z2, tr_ne (by omega) (by omega), ex_old z3]
    ·by_cases z4 : z = o0
     ·subst z4; rw [tr_a, tr_a, ex_new a3.1, ex_new a3.1]
     ·by_cases z5 : z = i1
      ·subst z5; rw [tr_b, tr_b, ex_new a2.1, ex_new a2.1]
      ·rw [tr_ne z4 z5, tr_ne z4 z5, ex_new (by omega), ex_new (by omega)]
end Go.Proofs.YtlffopdoeobgaaaGreatDoor.Pl
end
section
namespace Go.Proofs.YtlffopdoeobgaaaGreatDoor.Pl
theorem out_old {d d' : Dg} {h : Nat} (e : d'.s (h / 4) = d.s (h / 4)) : out d' h = out d h := by unfold out; rw [e]
theorem Kq.cover {n i0 o0 i1 o1 z : Nat} (k : Kq n i0 o0 i1 o1) (h : 4 * n ≤ z ∧ z < 4 * (n + 1)) : z = i0 ∨ z = o0 ∨ z = i1 ∨ z = o1 := by unfold Kq at k; omega
structure Kd (d d' : Dg) (i0 o0 i1 o1 : Nat) : Prop where
 few : d.n + 1 ≤ 64
 n : d'.n = d.n + 1
 len : d'.mt.length = 4 * (d.n + 1)
 lp : d'.lp ≤ 64
 old : ∀ c, c < d.n → d'.s c = d.s c
 new : d'.s d.n = 1 ∨ d'.s d.n = -1
 k : Kq d.n i0 o0 i1 o1
 wi0 : out d' i0 = false
 wi1 : out d' i1 = false
 wo0 : out d' o0 = true
 wo1 : out d' o1 = true
 m1 : d'.m o0 = i1
 m2 : d'.m i1 = o0
theorem Kd.out {d d' : Dg} {i0 o0 i1 o1 : Nat} (K : Kd d d' i0 o0 i1 o1) {h : Nat} (hh : h < 4 * d.n) : out d' h = out d h := out_old (K.old _ (by omega))
theorem Kd.sign {d d' : Dg} (hd : Wf d) {i0 o0 i1 o1 : Nat} (K : Kd d d' i0 o0 i1 o1) : ∀ c, c < d'.n → d'.s c = 1 ∨ d'.s c = -1 := fun c hc => by
 rw [K.n] at hc
 rcases Nat.lt_or_ge c d.n with h | h
 ·rw [K.old c h]; exact hd.sign c h
 ·rw [show c = d.n by omega]; exact K.new
theorem wf_by {d' : Dg} (few : d'.n ≤ 64) (len : d'.mt.length = 4 * d'.n) (lp : d'.lp ≤ 64) (sign : ∀ c, c < d'.n → d'.s c = 1 ∨ d'.s c = -1)
 (h : ∀ z, z < 4 * d'.n → d'.m z < 4 * d'.n ∧ d'.m (d'.m z) = z ∧ Pl.out d' z ≠ Pl.out d' (d'.m z)) : Wf d' :=
 ⟨few, len, lp, sign, fun z hz => (h z hz).1, fun z hz e => (h z hz).2.2 (by rw [e]), fun z hz => (h z hz).2.1, fun z hz => (h z hz).2.2⟩
theorem Kd.loop {d d' : Dg} (hd : Valid d) {i0 o0 i1 o1 : Nat} (K : Kd d d' i0 o0 i1 o1) (mo : ∀ h, h < 4 * d.n → d'.m h = d.m h) (m3 : d'.m o1 = i0) (m4 : d'.m i0 = o1) : Valid d' := by
 have hv := Valid.iff.1 hd
 obtain ⟨a1, a2, a3, a4, n1, n2, n3, n4, n5, n6⟩ := K.k.bd
 refine Valid.iff.2 ⟨wf_by (by rw [K.n]; exact K.few) (by rw [K.n]; exact K.len) K.lp (K.sign hv.1) (fun z hz => ?_), ?_⟩
 ·rw [K.n] at hz ⊢
  rcases Nat.lt_or_ge z (4 * d.n) with h | h
  ·have := hv.1.lt z h
   rw [mo z h, mo _ this, K.out h, K.out this]
   exact ⟨by omega, hv.1.inv z h, hv.1.way z h⟩
  ·rcases K.k.cover ⟨h, hz⟩ with rfl | rfl | rfl | rfl
   ·rw [m4, m3, K.wi0, K.wo1]; exact ⟨a4.2, rfl, by decide⟩
   ·rw [K.m1, K.m2, K.wi1, K.wo0]; exact ⟨a3.2, rfl, by decide⟩
   ·rw [K.m2, K.m1, K.wi1, K.wo0]; exact ⟨a2.2, rfl, by decide⟩
   ·rw [m3, m4, K.wi0, K.wo1]; exact ⟨a1.2, rfl, by decide⟩
 ·have hf := kink_loop hv.1.hm hv.2 K.k
  have hx := ext_hm (Nat.le_succ d.n) hv.1.hm
  have h1 := hx.tr (x := o0) (y := i1) a2.2 a3.2 (ex_new a2.1) (ex_new a3.1)
  have f1 : tr (ex d.n d.m) o0 i1 o1 = o1 := by rw [tr_ne (Ne.symm n5) (Ne.symm n6), ex_new a4.1]
  have f2 : tr (ex d.n d.m) o0 i1 i0 = i0 := by rw [tr_ne n1 n2, ex_new a1.1]
  have h2 := h1.tr (x := o1) (y := i0) a4.2 a1.2 f1 f2
  have e : dart d' = (fun h => h < 4 * (d.n + 1)) := by funext x; unfold dart; rw [K.n]
  rw [e]
  refine Gen.congr h2 (fun _ _ => rfl) (fun z hz => ?_) hf
  rcases Nat.lt_or_ge z (4 * d.n) with h | h
  ·rw [mo z h, tr_ne (by omega) (by omega), tr_ne (by omega) (by omega), ex_old h]
  ·rcases K.k.cover ⟨h, hz⟩ with rfl | rfl | rfl | rfl
   ·rw [m4, tr_b, f1]
   ·rw [K.m1, tr_ne n5 (Ne.symm n1), tr_a, ex_new a3.1]
   ·rw [K.m2, tr_ne n6 (Ne.symm n2), tr_b, ex_new a2.1]
   ·rw [m3, tr_a, f2]
theorem Kd.edge {d d' : Dg} (hd : Valid d) {i0 o0 i1 o1 x : Nat} (K : Kd d d' i0 o0 i1 o1) (hx : x < 4 * d.n) (ho : Pl.out d x = true) (mo : ∀ h, h < 4 * d.n → h ≠ x → h ≠ d.m x → d'.m h = d.m h)
 (m3 : d'.m o1 = d.m x) (m4 : d'.m (d.m x) = o1) (m5 : d'.m x = i0) (m6 : d'.m i0 = x) : Valid d' := by
 have hv := Valid.iff.1 hd
 have hyn := hv.1.lt x hx
 have hne := hv.1.ne x hx
 have hinv := hv.1.inv x hx
 have hoy : Pl.out d (d.m x) = false := by have := hv.1.way x hx; rw [ho] at this; cases h : Pl.out d (d.m x) with
  | true => rw [h] at this; exact absurd rfl this
  | false => rfl
 obtain ⟨a1, a2, a3, a4, n1, n2, n3, n4, n5, n6⟩ := K.k.bd
 refine Valid.iff.2 ⟨wf_by (by rw [K.n]; exact K.few) (by rw [K.n]; exact K.len) K.lp (K.sign hv.1) (fun z hz => ?_), ?_⟩
 ·rw [K.n] at hz ⊢
  rcases Nat.lt_or_ge z (4 * d.n) with h | h
  ·by_cases z1 : z = x
   ·subst z1
    rw [m5, m6, K.out h, K.wi0, ho]
    exact ⟨a1.2, rfl, by decide⟩
   ·by_cases z2 : z = d.m x
    ·subst z2
     rw [m4, m3, K.out h, K.wo1, hoy]
     exact ⟨a4.2, rfl, by decide⟩
    ·have hm := hv.1.lt z h
     have q1 : d.m z ≠ x := fun e => z2 (by rw [← e, hv.1.inv z h])
     have q2 : d.m z ≠ d.m x := fun e => z1 (by rw [← hv.1.inv z h, e, hinv])
     rw [mo z h z1 z2, mo _ hm q1 q2, K.out h, K.out hm]
     exact ⟨by omega, hv.1.inv z h, hv.1.way z h⟩
  ·rcases K.k.cover ⟨h, hz⟩ with rfl | rfl | rfl | rfl
   ·rw [m6, m5, K.wi0, K.out hx, ho]; exact ⟨by omega, rfl, by decide⟩
   ·rw [K.m1, K.m2, K.wi1, K.wo0]; exact ⟨a3.2, rfl, by decide⟩
   ·rw [K.m2, K.m1, K.wi1, K.wo0]; exact ⟨a2.2, rfl, by decide⟩
   ·rw [m3, m4, K.wo1, K.out hyn, hoy]; exact ⟨by omega, rfl, by decide⟩
 ·have hf := kink_edge hv.1.hm hv.2 K.k hx rfl (Ne.symm hne)
  obtain ⟨hc, c1, c2⟩ := Hm.cut hv.1.hm hx hne
  have hX := ext_hm (Nat.le_succ d.n) hc
  have h1 := hX.tr (x := o0) (y := i1) a2.2 a3.2 (ex_new a2.1) (ex_new a3.1)
  have old : ∀ z, z < 4 * d.n → tr (ex d.n (tr d.m x (d.m x))) o0 i1 z = tr d.m x (d.m x) z := fun z hz => by rw [tr_ne (by omega) (by omega), ex_old hz]
  have fu : tr (ex d.n (tr d.m x (d.m x))) o0 i1 i0 = i0 := by rw [tr_ne n1 n2, ex_new a1.1]
  have fv : tr (ex d.n (tr d.m x (d.m x))) o0 i1 o1 = o1 := by rw [tr_ne (Ne.symm n5) (Ne.symm n6), ex_new a4.1]
  have fx : tr (ex d.n (tr d.m x (d.m x))) o0 i1 x = x := by rw [old x hx, c1]
  have fy : tr (ex d.n (tr d.m x (d.m x))) o0 i1 (d.m x) = d.m x := by rw [old _ hyn, c2]
  have hx' : x < 4 * (d.n + 1) := by omega
  have hy' : d.m x < 4 * (d.n + 1) := by omega
  have h2 := h1.tr (x := x) (y := i0) hx' a1.2 fx fu
  have g1 : tr (tr (ex d.n (tr d.m x (d.m x))) o0 i1) x i0 o1 = o1 := by rw [tr_ne (by omega) (Ne.symm n3), fv]
  have g2 : tr (tr (ex d.n (tr d.m x (d.m x))) o0 i1) x i0 (d.m x) = d.m x := by rw [tr_ne hne (by omega), fy]
  have h3 := h2.tr (x := o1) (y := d.m x) a4.2 hy' g1 g2
  have e : dart d' = (fun h => h < 4 * (d.n + 1)) := by funext x; unfold dart; rw [K.n]
  rw [e]
  refine Gen.congr h3 (fun _ _ => rfl) (fun z hz => ?_) hf
  rcases Nat.lt_or_ge z (4 * d.n) with h | h
  ·by_cases z2 : z = d.m x
   ·subst z2
    rw [tr_b, g1, m4]
   ·rw [tr_ne (by omega) z2]
    by_cases z1 : z = x
    ·subst z1
     rw [tr_a, fu, m5]
    ·rw [tr_ne z1 (by omega), old z h, tr_ne z1 z2, mo z h z1 z2]
  ·rcases K.k.cover ⟨h, hz⟩ with rfl | rfl | rfl | rfl
   ·rw [m6, tr_ne n3 (by omega), tr_b, fx]
   ·rw [K.m1, tr_ne n5 (by omega), tr_ne (by omega) (Ne.symm n1), tr_a, ex_new a3.1]
   ·rw [K.m2, tr_ne n6 (by omega), tr_ne (by omega) (Ne.symm n2), tr_b, ex_new a2.1]
   ·rw [m3, tr_a, g2]
end Go.Proofs.YtlffopdoeobgaaaGreatDoor.Pl
end
section
namespace Go.Proofs.YtlffopdoeobgaaaGreatDoor.Pl
theorem out_opp {d : Dg} (hd : Wf d) {h : Nat} (hh : h < 4 * d.n) : out d (tn h 2) = !out d h := by
 have s := hd.sign (h / 4) (by omega)
 unfold out
 rw [tn_div, tn_mod]
 generalize d.s (h / 4) = s at *
 have ha : h % 4 = 0 ∨ h % 4 = 1 ∨ h % 4 = 2 ∨ h % 4 = 3 := by omega
 rcases ha with a | a | a | a <;> rw [a] <;> rcases s with rfl | rfl <;> rfl
structure Tr (d : Dg) (h0 h1 h2 : Nat) : Prop where
 l0 : h0 < 4 * d.n
 e0 : nx d h0 = h1
 e1 : nx d h1 = h2
 e2 : nx d h2 = h0
 c01 : h0 / 4 ≠ h1 / 4
 c12 : h1 / 4 ≠ h2 / 4
 c02 : h0 / 4 ≠ h2 / 4
def tu (h0 h1 h2 x : Nat) : Nat := tau h0 h1 h2 (tn h0 1) (tn h1 1) (tn h2 1) (tn h0 2) (tn h1 2) (tn h2 2) (tn h0 3) (tn h1 3) (tn h2 3) x
theorem Tr.tri {d : Dg} (hd : Wf d) {h0 h1 h2 : Nat} (t : Tr d h0 h1 h2) : Tri (dart d) rot d.m (tu h0 h1 h2) h0 h1 h2 (tn h0 1) (tn h1 1) (tn h2 1) (tn h0 2) (tn h1 2) (tn h2 2) (tn h0 3) (tn h1 3) (tn h2 3) := tri_of hd t.l0 t.e0 t.e1 t.e2 t.c01 t.c12 t.c02
theorem Tr.out {d : Dg} (hd : Wf d) {h0 h1 h2 : Nat} (t : Tr d h0 h1 h2) {x : Nat} (hx : x < 4 * d.n) : Pl.out d (tu h0 h1 h2 x) = Pl.out d x := by
 have T := t.tri hd
 have l1 : h1 < 4 * d.n := T.mem h1 (by simp)
 have l2 : h2 < 4 * d.n := T.mem h2 (by simp)
 -- a half-edge and the one across the crossing of its mate
 have key : ∀ {h h' : Nat}, h < 4 * d.n → d.m h = tn h' 1 → h' < 4 * d.n → Pl.out d (tn h 2) = Pl.out d (tn h' 1) ∧ Pl.out d (tn h' 3) = Pl.out d h := by
  intro h h' hh e hh'
  have w := hd.way h hh
  rw [e] at w
  have o1 := out_opp hd hh
  have o2 := out_opp hd (show tn h' 1 < 4 * d.n from tn_lt hh')
  rw [tn_tn] at o2
  constructor
  ·rw [o1]; cases q : Pl.out d h <;> cases q' : Pl.out d (tn h' 1) <;> rw [q, q'] at w <;> first | rfl | exact absurd rfl w
  ·rw [o2]; cases q : Pl.out d h <;> cases q' : Pl.out d (tn h' 1) <;> rw [q, q'] at w <;> first | rfl | exact absurd rfl w
 obtain ⟨a0, b0⟩ := key t.l0 T.ah0 l1
 obtain ⟨a1, b1⟩ := key l1 T.ah1 l2
 obtain ⟨a2, b2⟩ := key l2 T.ah2 t.l0
 by_cases hm : x ∈ [h0, h1, h2, tn h0 1, tn h1 1, tn h2 1, tn h0 2, tn h1 2, tn h2 2, tn h0 3, tn h1 3, tn h2 3]
 ·simp only [List.mem_cons, List.not_mem_nil, or_false] at hm
  rcases hm with e | e | e | e | e | e | e | e | e | e | e | e <;> rw [e]
  ·rw [T.th0, b0]
  ·rw [T.th1, b1]
  ·rw [T.th2, b2]
  ·rw [T.tp0, a2]
  ·rw [T.tp1, a0]
  ·rw [T.tp2, a1]
  ·rw [T.tu0, a0]
  ·rw [T.tu1, a1]
  ·rw [T.tu2, a2]
  ·rw [T.tv0, b2]
  ·rw [T.tv1, b0]
  ·rw [T.tv2, b1]
 ·rw [T.tx x hm]
theorem Tr.valid {d d' : Dg} (hd : Valid d) {h0 h1 h2 : Nat} (t : Tr d h0 h1 h2) (sg : d'.sg = d.sg) (lp : d'.lp = d.lp) (len : d'.mt.length = 4 * d.n) (hm : ∀ x, x < 4 * d.n → d'.m x = cj (tu h0 h1 h2) d.m x) : Valid d' := by
 have hv := Valid.iff.1 hd
 have T := t.tri hv.1
 have hn : d'.n = d.n := by unfold Dg.n; rw [sg]
 have hs : ∀ c, d'.s c = d.s c := fun c => by unfold Dg.s; rw [sg]
 have ho : ∀ x, Pl.out d' x = Pl.out d x := fun x => out_old (hs _)
 have hj := hv.1.hm.cj (t := tu h0 h1 h2) T.tS (fun x _ => T.tt x)
 have tl : ∀ x, x < 4 * d.n → tu h0 h1 h2 x < 4 * d.n := fun x hx => T.tS x hx
 refine Valid.iff.2 ⟨wf_by (by rw [hn]; exact hv.1.few) (by rw [hn]; exact len) (by rw [lp]; exact hv.1.lp) (fun c hc => by rw [hs]; exact hv.1.sign c (by rw [← hn]; exact hc)) (fun z hz => ?_), ?_⟩
 ·rw [hn] at hz ⊢
  have hz2 : cj (tu h0 h1 h2) d.m z < 4 * d.n := hj.ab.maps z hz
  rw [hm z hz, hm _ hz2, ho, ho]
  refine ⟨hz2, hj.inv z hz, ?_⟩
  unfold cj
  have h1 := tl z hz
  rw [t.out hv.1 (hv.1.lt _ h1), ← t.out hv.1 hz]
  exact hv.1.way _ h1
 ·have hg := T.gen hv.1.hm hv.2
  have e : dart d' = dart d := by funext x; unfold dart; rw [hn]
  rw [e]
  exact Gen.congr (hj.congr (fun _ _ => rfl) (fun _ _ => rfl) |> fun _ => (⟨hv.1.hm.rb, hj.ab, hj.inv⟩ : Hm (4 * d.n) (dart d) rot (cj (tu h0 h1 h2) d.m))) (fun _ _ => rfl) (fun x hx => (hm x hx).symm) hg
end Go.Proofs.YtlffopdoeobgaaaGreatDoor.Pl
end
section
namespace Go.Proofs.YtlffopdoeobgaaaGreatDoor.Pl
section
variable {S : Nat → Prop} {r a t : Nat → Nat} {h0 h1 h2 p0 p1 p2 u0 u1 u2 v0 v1 v2 : Nat}
theorem perm_flip : [u0, u1, u2, v0, v1, v2, h0, h1, h2, p0, p1, p2].Perm [h0, h1, h2, p0, p1, p2, u0, u1, u2, v0, v1, v2] :=
 List.perm_append_comm (l₁ := [u0, u1, u2, v0, v1, v2]) (l₂ := [h0, h1, h2, p0, p1, p2])
theorem Tri.flip (T : Tri S r a t h0 h1 h2 p0 p1 p2 u0 u1 u2 v0 v1 v2) : Tri S r (cj t a) t u0 u1 u2 v0 v1 v2 h0 h1 h2 p0 p1 p2 := by
 refine ⟨fun x hx => T.mem x (perm_flip.mem_iff.1 hx), T.rp0, T.rp1, T.rp2, T.rh0, T.rh1, T.rh2, T.rv0, T.rv1, T.rv2, T.ru0, T.ru1, T.ru2, ?_, ?_, ?_, ?_, ?_, ?_, ?_, T.th0, T.th1, T.th2, T.tv1, T.tv2, T.tv0, T.tp0, T.tp1, T.tp2, T.tu2, T.tu0, T.tu1, fun x hx => T.tx x (fun h => hx (perm_flip.mem_iff.2 h))⟩
 ·unfold cj; rw [T.tu0, T.ap1, T.th0]
 ·unfold cj; rw [T.tu1, T.ap2, T.th1]
 ·unfold cj; rw [T.tu2, T.ap0, T.th2]
 ·unfold cj; rw [T.tv1, T.ah0, T.tp1]
 ·unfold cj; rw [T.tv2, T.ah1, T.tp2]
 ·unfold cj; rw [T.tv0, T.ah2, T.tp0]
 ·exact perm_flip.nodup_iff.2 T.nd
end
structure Sj (N : Nat) (m f : Nat → Nat) (Ou In : Nat → Prop) : Prop where
 lt : ∀ x, x < N → m x < N
 inv : ∀ x, x < N → m (m x) = x
 fl : ∀ x, x < N → f x < N
 ff : ∀ x, f (f x) = x
 fO : ∀ x, Ou x → In (f x)
 fx : ∀ x, ¬ Ou x → ¬ In x → f x = x
 fI : ∀ x, In x → Ou (f x)
 mI : ∀ x, In x → In (m x)
 no : ∀ x, Ou x → ¬ In x
variable {N : Nat} {m f : Nat → Nat} {Ou In : Nat → Prop}
theorem Sj.far (h : Sj N m f Ou In) {u : Nat} (hu : u < N) (ho : Ou u) (hm : ¬ Ou (m u)) : f (m u) = m u :=
 h.fx _ hm (fun hi => h.no u ho (by have := h.mI _ hi; rwa [h.inv u hu] at this))
theorem Sj.step (h : Sj N m f Ou In) {l : List Nat} {k : Nat} (hl : Half N m (cj f m) (fun x => ∃ u, u < k ∧ Ou u ∧ (x = f u ∨ x = f (m u))) l) (hk : k < N) (ho : Ou k) :
 Half N m (cj f m) (fun x => ∃ u, u < k + 1 ∧ Ou u ∧ (x = f u ∨ x = f (m u))) ((l.set (f k) (f (m k))).set (f (m k)) (f k)) := by
 refine (hl.join (h.fl _ hk) (h.fl _ (h.lt _ hk)) (by unfold cj; rw [h.ff]) (by unfold cj; rw [h.ff, h.inv k hk])).mono ?_
 rintro x ⟨u, hu, hou, hx⟩
 by_cases e : u = k
 ·subst e
  exact hx.elim (fun h => .inr (.inl h)) (fun h => .inr (.inr h))
 ·exact .inl ⟨u, by omega, hou, hx⟩
theorem Sj.skip {l : List Nat} {k : Nat} (hl : Half N m (cj f m) (fun x => ∃ u, u < k ∧ Ou u ∧ (x = f u ∨ x = f (m u))) l) (ho : ¬ Ou k) :
 Half N m (cj f m) (fun x => ∃ u, u < k + 1 ∧ Ou u ∧ (x = f u ∨ x = f (m u))) l := by
 refine hl.mono ?_
 rintro x ⟨u, hu, hou, hx⟩
 by_cases e : u = k
 ·subst e; exact absurd hou ho
 ·exact ⟨u, by omega, hou, hx⟩
theorem Sj.all (h : Sj N m f Ou In) {l : List Nat} {W : Nat → Prop} (hl : Half N m (cj f m) W l) (hw : ∀ u, u < N → Ou u → W (f u) ∧ W (f (m u)) ∧ W u) : ∀ x, x < N → l.getD x 0 = cj f m x := by
 refine hl.all (fun x hx => ?_)
 by_cases h1 : Ou x
 ·exact .inl (hw x hx h1).2.2
 ·by_cases h2 : In x
  ·have := (hw (f x) (h.fl x hx) (h.fI x h2)).1
   rw [h.ff] at this
   exact .inl this
  ·have e := h.fx x h1 h2
   by_cases h3 : Ou (m x)
   ·have := (hw (m x) (h.lt x hx) h3).2.1
    rw [h.inv x hx, e] at this
    exact .inl this
   ·have h4 : ¬ In (m x) := fun hi => h2 (by have := h.mI _ hi; rwa [h.inv x hx] at this)
    refine .inr ?_
    unfold cj
    rw [e, h.fx _ h3 h4]
end Go.Proofs.YtlffopdoeobgaaaGreatDoor.Pl
end
section
namespace Go.Proofs.YtlffopdoeobgaaaGreatDoor
open Go Go.RowKit
theorem tr_of {d : Pl.Dg} {h : Nat} (hh : h < 4 * d.n) (hi : is3 d h) : Pl.Tr d (th d h 0) (th d h 1) (th d h 2) :=
 ⟨hh, rfl, rfl, hi.1, hi.2.1, hi.2.2.1, hi.2.2.2⟩
def sT (d : Pl.Dg) (h x : Nat) : Nat := Pl.tu (th d h 0) (th d h 1) (th d h 2) x
def sO (d : Pl.Dg) (h x : Nat) : Prop := x = Pl.tn (th d h 0) 2 ∨ x = Pl.tn (th d h 1) 2 ∨ x = Pl.tn (th d h 2) 2 ∨ x = Pl.tn (th d h 0) 3 ∨ x = Pl.tn (th d h 1) 3 ∨ x = Pl.tn (th d h 2) 3
def sI (d : Pl.Dg) (h x : Nat) : Prop := x = th d h 0 ∨ x = th d h 1 ∨ x = th d h 2 ∨ x = Pl.tn (th d h 0) 1 ∨ x = Pl.tn (th d h 1) 1 ∨ x = Pl.tn (th d h 2) 1
abbrev TriAt (d : Pl.Dg) (h0 h1 h2 : Nat) (m t : Nat → Nat) : Prop :=
 Pl.Tri (Pl.dart d) Pl.rot m t h0 h1 h2 (Pl.tn h0 1) (Pl.tn h1 1) (Pl.tn h2 1) (Pl.tn h0 2) (Pl.tn h1 2) (Pl.tn h2 2) (Pl.tn h0 3) (Pl.tn h1 3) (Pl.tn h2 3)
theorem tri_at {d : Pl.Dg} (hd : Pl.Wf d) {h : Nat} (hh : h < 4 * d.n) (hi : is3 d h) : TriAt d (th d h 0) (th d h 1) (th d h 2) d.m (sT d h) := (tr_of hh hi).tri hd
theorem sj_at {d : Pl.Dg} (hd : Pl.Wf d) {h : Nat} (hh : h < 4 * d.n) (hi : is3 d h) : Pl.Sj (4 * d.n) d.m (sT d h) (sO d h) (sI d h) := by
 have T := tri_at hd hh hi
 refine ⟨hd.lt, hd.inv, fun x hx => ?_, T.tt, ?_, ?_, ?_, ?_, ?_⟩
 ·exact T.tS x hx
 ·rintro x (e | e | e | e | e | e) <;> rw [e]
  ·rw [T.tu0]; simp [sI]
  ·rw [T.tu1]; simp [sI]
  ·rw [T.tu2]; simp [sI]
  ·rw [T.tv0]; simp [sI]
  ·rw [T.tv1]; simp [sI]
  ·rw [T.tv2]; simp [sI]
 ·intro x h1 h2
  unfold sO at h1
  unfold sI at h2
  refine T.tx x ?_
  simp only [List.mem_cons, List.not_mem_nil, or_false]
  intro h3
  rcases h3 with e | e | e | e | e | e | e | e | e | e | e | e <;> first | (apply h1; simp [e]; done) | (apply h2; simp [e]; done)
 ·rintro x (e | e | e | e | e | e) <;> rw [e]
  ·rw [T.th0]; simp [sO]
  ·rw [T.th1]; simp [sO]
  ·rw [T.th2]; simp [sO]
  ·rw [T.tp0]; simp [sO]
  ·rw [T.tp1]; simp [sO]
  ·rw [T.tp2]; simp [sO]
 ·rintro x (e | e | e | e | e | e) <;> rw [e]
  ·rw [T.ah0]; simp [sI]
  ·rw [T.ah1]; simp [sI]
  ·rw [T.ah2]; simp [sI]
  ·rw [T.ap0]; simp [sI]
  ·rw [T.ap1]; simp [sI]
  ·rw [T.ap2]; simp [sI]
 ·obtain ⟨_, c1, c2, c3⟩ := hi
  intro x h1 h2
  unfold sO at h1
  unfold sI at h2
  have e0 : th d h 0 = h := rfl
  rw [e0] at h1 h2
  unfold Pl.tn at h1 h2
  rcases h1 with e | e | e | e | e | e <;> rcases h2 with e' | e' | e' | e' | e' | e' <;> omega
theorem ends {d : Pl.Dg} (hd : Pl.Wf d) {h k q : Nat} (hl : th d h k < 4 * d.n) (hq : d.m (th d h k) = Pl.tn q 1) :
 (sb d h k = Pl.tn (th d h k) 2 ∧ so d h k = th d h k ∧ si d h k = Pl.tn q 1 ∧ sf d h k = Pl.tn q 3) ∨ (sb d h k = Pl.tn q 3 ∧ so d h k = Pl.tn q 1 ∧ si d h k = th d h k ∧ sf d h k = Pl.tn (th d h k) 2) := by
 have e3 : Pl.tn (Pl.tn q 1) 2 = Pl.tn q 3 := Pl.tn_tn _ _ _
 by_cases ho : Pl.out d (th d h k) = true
 ·left
  have e1 : eo d (th d h k) = th d h k := by unfold eo; rw [if_pos ho]
  have e2 : ei d (th d h k) = Pl.tn q 1 := by unfold ei; rw [e1, hq]
  exact ⟨by unfold sb; rw [e1], e1, e2, by unfold sf; rw [e2, e3]⟩
 ·right
  have e1 : eo d (th d h k) = Pl.tn q 1 := by unfold eo; rw [if_neg ho, hq]
  have e2 : ei d (th d h k) = th d h k := by unfold ei; rw [e1, ← hq, hd.inv _ hl]
  exact ⟨by unfold sb; rw [e1, e3], e1, e2, by unfold sf; rw [e2]⟩
theorem sTo_s {d : Pl.Dg} (hd : Pl.Wf d) {h k q : Nat} (hl : th d h k < 4 * d.n) (hq : d.m (th d h k) = Pl.tn q 1) (hql : q < 4 * d.n) (hne : Pl.tn (th d h k) 2 ≠ Pl.tn q 3) (x : Nat) :
 (sTo d h (k + 1)).getD x 0 = if x = Pl.tn (th d h k) 2 then Pl.tn q 1 else if x = Pl.tn q 3 then th d h k else (sTo d h k).getD x 0 := by
 have l1 : Pl.tn (th d h k) 2 < (sTo d h k).length := by rw [sTo_len]; exact Pl.tn_lt hl
 have l2 : Pl.tn q 3 < (sTo d h k).length := by rw [sTo_len]; exact Pl.tn_lt hql
 show (((sTo d h k).set (sb d h k) (si d h k)).set (sf d h k) (so d h k)).getD x 0 = _
 rcases ends hd hl hq with ⟨e1, e2, e3, e4⟩ | ⟨e1, e2, e3, e4⟩ <;> rw [e1, e2, e3, e4]
 ·rw [Pl.set_getD _ _ _ _ (by simpa using l2), Pl.set_getD _ _ _ _ l1]
  by_cases h1 : x = Pl.tn q 3
  ·rw [if_pos h1, if_neg (fun h2 => hne (h2.symm.trans h1)), if_pos h1]
  ·rw [if_neg h1, if_neg h1]
 ·rw [Pl.set_getD _ _ _ _ (by simpa using l1), Pl.set_getD _ _ _ _ l2]
theorem setB (l : List Bool) (a x : Nat) (ha : a < l.length) : (l.set a true).getD x false = if x = a then true else l.getD x false := by
 rw [List.getD_eq_getElem?_getD, List.getElem?_set, List.getD_eq_getElem?_getD]
 by_cases h : a = x
 ·subst h; simp [ha]
 ·rw [if_neg h, if_neg (Ne.symm h)]
theorem sOu_s {d : Pl.Dg} (hd : Pl.Wf d) {h k q : Nat} (hl : th d h k < 4 * d.n) (hq : d.m (th d h k) = Pl.tn q 1) (hql : q < 4 * d.n) (x : Nat) :
 (sOu d h (k + 1)).getD x false = true ↔ x = Pl.tn (th d h k) 2 ∨ x = Pl.tn q 3 ∨ (sOu d h k).getD x false = true := by
 have l1 : Pl.tn (th d h k) 2 < (sOu d h k).length := by rw [sOu_len]; exact Pl.tn_lt hl
 have l2 : Pl.tn q 3 < (sOu d h k).length := by rw [sOu_len]; exact Pl.tn_lt hql
 show (((sOu d h k).set (sb d h k) true).set (sf d h k) true).getD x false = true ↔ _
 rcases ends hd hl hq with ⟨e1, e2, e3, e4⟩ | ⟨e1, e2, e3, e4⟩ <;> rw [e1, e4]
 ·rw [setB _ _ _ (by simpa using l2), setB _ _ _ l1]
  by_cases h1 : x = Pl.tn q 3
  ·simp [h1]
  ·by_cases h2 : x = Pl.tn (th d h k) 2 <;> simp [h1, h2]
 ·rw [setB _ _ _ (by simpa using l1), setB _ _ _ l2]
  by_cases h1 : x = Pl.tn q 3
  ·simp [h1]
  ·by_cases h2 : x = Pl.tn (th d h k) 2 <;> simp [h1, h2]
section
variable {d : Pl.Dg} {h : Nat}
theorem sTo_v (hd : Pl.Wf d) (hh : h < 4 * d.n) (hi : is3 d h) {x : Nat} (hx : x < 4 * d.n) : (sO d h x → (sTo d h 3).getD x 0 = sT d h x) ∧ (¬ sO d h x → (sTo d h 3).getD x 0 = x) := by
 have T := tri_at hd hh hi
 have t0 := th_lt hd hh 0
 have t1 := th_lt hd hh 1
 have t2 := th_lt hd hh 2
 obtain ⟨_, c1, c2, c3⟩ := hi
 have c0 : th d h 0 = h := rfl
 have s2 := sTo_s hd (h := h) (k := 2) (q := th d h 0) t2 T.ah2 t0 (by unfold Pl.tn; omega) x
 have s1 := sTo_s hd (h := h) (k := 1) (q := th d h 2) t1 T.ah1 t2 (by unfold Pl.tn; omega) x
 have s0 := sTo_s hd (h := h) (k := 0) (q := th d h 1) t0 T.ah0 t1 (by unfold Pl.tn; omega) x
 have sz : (sTo d h 0).getD x 0 = x := by simp [sTo, List.getD_eq_getElem?_getD, hx]
 rw [s2, s1, s0, sz]
 have n := T.nd
 constructor
 ·rintro (e | e | e | e | e | e) <;> rw [e]
  ·rw [T.tu0, if_neg (by unfold Pl.tn; omega), if_neg (by unfold Pl.tn; omega), if_neg (by unfold Pl.tn; omega), if_neg (by unfold Pl.tn; omega), if_pos rfl]
  ·rw [T.tu1, if_neg (by unfold Pl.tn; omega), if_neg (by unfold Pl.tn; omega), if_pos rfl]
  ·rw [T.tu2, if_pos rfl]
  ·rw [T.tv0, if_neg (by unfold Pl.tn; omega), if_pos rfl]
  ·rw [T.tv1, if_neg (by unfold Pl.tn; omega), if_neg (by unfold Pl.tn; omega), if_neg (by unfold Pl.tn; omega), if_neg (by unfold Pl.tn; omega), if_neg (by unfold Pl.tn; omega), if_pos rfl]
  ·rw [T.tv2, if_neg (by unfold Pl.tn; omega), if_neg (by unfold Pl.tn; omega), if_neg (by unfold Pl.tn; omega), if_pos rfl]
 ·intro hn
  unfold sO at hn
  rw [if_neg (fun e => hn (by simp [e])), if_neg (fun e => hn (by simp [e])), if_neg (fun e => hn (by simp [e])), if_neg (fun e => hn (by simp [e])), if_neg (fun e => hn (by simp [e])), if_neg (fun e => hn (by simp [e]))]
theorem sOu_v (hd : Pl.Wf d) (hh : h < 4 * d.n) (hi : is3 d h) (x : Nat) : (sOu d h 3).getD x false = true ↔ sO d h x := by
 have T := tri_at hd hh hi
 have t0 := th_lt hd hh 0
 have t1 := th_lt hd hh 1
 have t2 := th_lt hd hh 2
 have s2 := sOu_s hd (h := h) (k := 2) (q := th d h 0) t2 T.ah2 t0 x
 have s1 := sOu_s hd (h := h) (k := 1) (q := th d h 2) t1 T.ah1 t2 x
 have s0 := sOu_s hd (h := h) (k := 0) (q := th d h 1) t0 T.ah0 t1 x
 have sz : (sOu d h 0).getD x false = false := by
  unfold sOu
  rw [List.getD_eq_getElem?_getD, List.getElem?_replicate]
  split <;> rfl
 rw [s2, s1, s0, sz]
 unfold sO
 constructor
 ·rintro (h | h | h | h | h | h | h)
  ·exact .inr (.inr (.inl h))
  ·exact .inr (.inr (.inr (.inl h)))
  ·exact .inr (.inl h)
  ·exact .inr (.inr (.inr (.inr (.inr h))))
  ·exact .inl h
  ·exact .inr (.inr (.inr (.inr (.inl h))))
  ·cases h
 ·rintro (h | h | h | h | h | h) <;> simp [h]
theorem jn_eq (l : List Nat) (a b : Nat) : jn l a b = (l.set a b).set b a := rfl
theorem sM_half (hd : Pl.Wf d) (hh : h < 4 * d.n) (hi : is3 d h) : ∀ k, k ≤ 4 * d.n → Pl.Half (4 * d.n) d.m (Pl.cj (sT d h) d.m) (fun x => ∃ u, u < k ∧ sO d h u ∧ (x = sT d h u ∨ x = sT d h (d.m u))) (sM d h k)
 | 0, _ => ⟨hd.len, fun x hx => .inr ⟨getD_m (by rw [hd.len]; exact hx), fun ⟨u, h, _⟩ => absurd h (by omega)⟩⟩
 | k + 1, hk => by
   have ih := sM_half hd hh hi k (by omega)
   have J := sj_at hd hh hi
   have hk2 : k < 4 * d.n := by omega
   show Pl.Half _ _ _ _ (if (sOu d h 3).getD k false = true then jn (sM d h k) ((sTo d h 3).getD k 0) ((sTo d h 3).getD (d.m k) 0) else sM d h k)
   by_cases ho : sO d h k
   ·rw [if_pos ((sOu_v hd hh hi k).2 ho), (sTo_v hd hh hi hk2).1 ho, jn_eq]
    have e : (sTo d h 3).getD (d.m k) 0 = sT d h (d.m k) := by
     by_cases h2 : sO d h (d.m k)
     ·exact (sTo_v hd hh hi (hd.lt k hk2)).1 h2
     ·rw [(sTo_v hd hh hi (hd.lt k hk2)).2 h2, J.far hk2 ho h2]
    rw [e]
    exact J.step ih hk2 ho
   ·rw [if_neg (fun h2 => ho ((sOu_v hd hh hi k).1 h2))]
    exact Pl.Sj.skip ih ho
theorem sF_half (hd : Pl.Wf d) (hh : h < 4 * d.n) (hi : is3 d h) {k q : Nat} {W : Nat → Prop} (hl : Pl.Half (4 * d.n) d.m (Pl.cj (sT d h) d.m) W (sF d h k)) (hq : d.m (th d h k) = Pl.tn q 1) (hql : q < 4 * d.n) (e : Pl.cj (sT d h) d.m (Pl.tn (th d h k) 2) = Pl.tn q 3) :
 Pl.Half (4 * d.n) d.m (Pl.cj (sT d h) d.m) (fun x => W x ∨ x = Pl.tn (th d h k) 2 ∨ x = Pl.tn q 3) (sF d h (k + 1)) := by
 have J := sj_at hd hh hi
 have lh := th_lt hd hh k
 have l1 : Pl.tn (th d h k) 2 < 4 * d.n := Pl.tn_lt lh
 have l2 : Pl.tn q 3 < 4 * d.n := Pl.tn_lt hql
 have e' : Pl.cj (sT d h) d.m (Pl.tn q 3) = Pl.tn (th d h k) 2 := by
  rw [← e]
  unfold Pl.cj
  rw [J.ff, J.inv _ (J.fl _ l1), J.ff]
 show Pl.Half _ _ _ _ (jn (sF d h k) (sb d h k) (sf d h k))
 rw [jn_eq]
 rcases ends hd lh hq with ⟨e1, _, _, e4⟩ | ⟨e1, _, _, e4⟩ <;> rw [e1, e4]
 ·exact hl.join l1 l2 e e'
 ·refine (hl.join l2 l1 e' e).mono ?_
  rintro x (h | h | h)
  ·exact .inl h
  ·exact .inr (.inr h)
  ·exact .inr (.inl h)
theorem sF_v (hd : Pl.Wf d) (hh : h < 4 * d.n) (hi : is3 d h) : ∀ x, x < 4 * d.n → (sF d h 3).getD x 0 = Pl.cj (sT d h) d.m x := by
 have T := tri_at hd hh hi
 have T' := T.flip
 have J := sj_at hd hh hi
 have t0 := th_lt hd hh 0
 have t1 := th_lt hd hh 1
 have t2 := th_lt hd hh 2
 have a0 : Pl.Half (4 * d.n) d.m (Pl.cj (sT d h) d.m) _ (sF d h 0) := sM_half hd hh hi (4 * d.n) (Nat.le_refl _)
 have a1 := sF_half hd hh hi (k := 0) (q := th d h 1) a0 T.ah0 t1 T'.ah0
 have a2 := sF_half hd hh hi (k := 1) (q := th d h 2) a1 T.ah1 t2 T'.ah1
 have a3 := sF_half hd hh hi (k := 2) (q := th d h 0) a2 T.ah2 t0 T'.ah2
 refine J.all a3 (fun u hu ho => ⟨?_, ?_, ?_⟩)
 ·exact .inl (.inl (.inl ⟨u, hu, ho, .inl rfl⟩))
 ·exact .inl (.inl (.inl ⟨u, hu, ho, .inr rfl⟩))
 ·rcases ho with h | h | h | h | h | h <;> simp [h]
theorem sld_m (hd : Pl.Wf d) (hh : h < 4 * d.n) (hi : is3 d h) : ∀ x, x < 4 * d.n → (sldD d h).m x = Pl.cj (sT d h) d.m x := fun x hx => by
 rw [← sF_v hd hh hi x hx, ← getD_m (by show x < (sF d h 3).length; rw [sF_len hd]; exact hx)]
 rfl
theorem sld_valid (hd : Pl.Valid d) (hh : h < 4 * d.n) (hi : is3 d h) : Pl.Valid (sldD d h) :=
 have hw := (Pl.Valid.iff.1 hd).1
 (tr_of hh hi).valid hd rfl rfl (sF_len hw h 3) (sld_m hw hh hi)
theorem tri_new (hd : Pl.Wf d) (hh : h < 4 * d.n) (hi : is3 d h) : TriAt d (Pl.tn (th d h 0) 2) (Pl.tn (th d h 1) 2) (Pl.tn (th d h 2) 2) (Pl.cj (sT d h) d.m) (sT d h) := by
 have T := (tri_at hd hh hi).flip
 have a1 : ∀ z, Pl.tn (Pl.tn z 2) 1 = Pl.tn z 3 := fun z => Pl.tn_tn _ _ _
 have a2 : ∀ z, Pl.tn (Pl.tn z 2) 2 = z := fun z => by rw [Pl.tn_tn, Pl.tn_four]
 have a3 : ∀ z, Pl.tn (Pl.tn z 2) 3 = Pl.tn z 1 := fun z => by rw [Pl.tn_tn]; exact (Pl.tn_mod4 z 5).symm
 unfold TriAt
 rw [a1, a1, a1, a2, a2, a2, a3, a3, a3]
 exact T
theorem nx_of {f : Nat → Nat} {x y : Nat} (h : f x = Pl.tn y 1) : Pl.tn (f x) 3 = y := by rw [h, Pl.tn_tn, Pl.tn_four]
theorem nx_new (hd : Pl.Wf d) (hh : h < 4 * d.n) (hi : is3 d h) : Pl.nx (sldD d h) (Pl.tn (th d h 0) 2) = Pl.tn (th d h 1) 2 ∧ Pl.nx (sldD d h) (Pl.tn (th d h 1) 2) = Pl.tn (th d h 2) 2 ∧ Pl.nx (sldD d h) (Pl.tn (th d h 2) 2) = Pl.tn (th d h 0) 2 := by
 have T := tri_new hd hh hi
 have e : ∀ k, Pl.nx (sldD d h) (Pl.tn (th d h k) 2) = Pl.tn (Pl.cj (sT d h) d.m (Pl.tn (th d h k) 2)) 3 := fun k => by
  unfold Pl.nx
  rw [sld_m hd hh hi _ (Pl.tn_lt (th_lt hd hh k))]
 rw [e, e, e]
 exact ⟨nx_of T.ah0, nx_of T.ah1, nx_of T.ah2⟩
theorem lnx_nx (hd : Pl.Wf d) {u : Nat} (hu : u < 4 * d.n) : lnx (sF d h 3) u = Pl.nx (sldD d h) u := by
 unfold lnx Pl.nx
 rw [← getD_m (by show u < (sF d h 3).length; rw [sF_len hd]; exact hu)]
 rfl
theorem sC_iff (hd : Pl.Wf d) (hh : h < 4 * d.n) (hi : is3 d h) {u : Nat} (hu : u < 4 * d.n) : sC d h u = true ↔ u = Pl.tn (th d h 0) 2 ∨ u = Pl.tn (th d h 1) 2 ∨ u = Pl.tn (th d h 2) 2 := by
 have J := sj_at hd hh hi
 obtain ⟨n0, n1, n2⟩ := nx_new hd hh hi
 have T := tri_new hd hh hi
 have l : ∀ k, Pl.tn (th d h k) 2 < 4 * d.n := fun k => Pl.tn_lt (th_lt hd hh k)
 unfold sC
 simp only [Bool.and_eq_true, beq_iff_eq]
 rw [sOu_v hd hh hi, sOu_v hd hh hi, sOu_v hd hh hi]
 constructor
 ·rintro ⟨⟨⟨h1, h2⟩, _⟩, _⟩
  rcases h1 with e | e | e | e | e | e
  ·exact .inl e
  ·exact .inr (.inl e)
  ·exact .inr (.inr e)
  all_goals
   exfalso
   refine J.no _ h2 ?_
   rw [lnx_nx hd hu]
   unfold Pl.nx
   rw [sld_m hd hh hi _ hu, e]
  ·have := T.ap0
   rw [Pl.tn_tn] at this
   rw [show Pl.tn (th d h 0) 3 = Pl.tn (th d h 0) (2 + 1) from rfl, this, Pl.tn_tn, ← Pl.tn_mod4]
   simp [sI]
  ·have := T.ap1
   rw [Pl.tn_tn] at this
   rw [show Pl.tn (th d h 1) 3 = Pl.tn (th d h 1) (2 + 1) from rfl, this, Pl.tn_tn, ← Pl.tn_mod4]
   simp [sI]
  ·have := T.ap2
   rw [Pl.tn_tn] at this
   rw [show Pl.tn (th d h 2) 3 = Pl.tn (th d h 2) (2 + 1) from rfl, this, Pl.tn_tn, ← Pl.tn_mod4]
   simp [sI]
 ·rintro (e | e | e) <;> rw [e]
  ·rw [lnx_nx hd (l 0), n0, lnx_nx hd (l 1), n1, lnx_nx hd (l 2), n2]; simp [sO]
  ·rw [lnx_nx hd (l 1), n1, lnx_nx hd (l 2), n2, lnx_nx hd (l 0), n0]; simp [sO]
  ·rw [lnx_nx hd (l 2), n2, lnx_nx hd (l 0), n0, lnx_nx hd (l 1), n1]; simp [sO]
theorem sX_least (d : Pl.Dg) (h : Nat) : ∀ g, g ≤ 4 * d.n → (∃ u, 4 * d.n - g ≤ u ∧ u < 4 * d.n ∧ sC d h u = true) → sC d h (sX d h g) = true ∧ sX d h g < 4 * d.n ∧ ∀ u, 4 * d.n - g ≤ u → u < 4 * d.n → sC d h u = true → sX d h g ≤ u
 | 0, _, ⟨u, h1, h2, _⟩ => absurd h1 (by omega)
 | g + 1, hg, ⟨u, h1, h2, h3⟩ => by
   unfold sX
   by_cases hc : sC d h (4 * d.n - (g + 1)) = true
   ·rw [if_pos hc]
    exact ⟨hc, by omega, fun u hu _ _ => hu⟩
   ·rw [if_neg hc]
    have key : ∀ u, 4 * d.n - (g + 1) ≤ u → sC d h u = true → 4 * d.n - g ≤ u := fun u hu hs => by
     rcases Nat.lt_or_ge u (4 * d.n - g) with h4 | h4
     ·have : u = 4 * d.n - (g + 1) := by omega
      rw [this] at hs
      exact absurd hs hc
     ·exact h4
    obtain ⟨i1, i2, i3⟩ := sX_least d h g (by omega) ⟨u, key u h1 h3, h2, h3⟩
    exact ⟨i1, i2, fun u hu hl hs => i3 u (key u hu hs) hl hs⟩
theorem sX_v (hd : Pl.Wf d) (hh : h < 4 * d.n) (hi : is3 d h) : sX d h (4 * d.n) < 4 * d.n ∧ (sX d h (4 * d.n) = Pl.tn (th d h 0) 2 ∨ sX d h (4 * d.n) = Pl.tn (th d h 1) 2 ∨ sX d h (4 * d.n) = Pl.tn (th d h 2) 2) ∧
 sX d h (4 * d.n) ≤ Pl.tn (th d h 0) 2 ∧ sX d h (4 * d.n) ≤ Pl.tn (th d h 1) 2 ∧ sX d h (4 * d.n) ≤ Pl.tn (th d h 2) 2 := by
 have l : ∀ k, Pl.tn (th d h k) 2 < 4 * d.n := fun k => Pl.tn_lt (th_lt hd hh k)
 obtain ⟨i1, i2, i3⟩ := sX_least d h (4 * d.n) (Nat.le_refl _) ⟨_, by omega, l 0, (sC_iff hd hh hi (l 0)).2 (.inl rfl)⟩
 exact ⟨i2, (sC_iff hd hh hi i2).1 i1, i3 _ (by omega) (l 0) ((sC_iff hd hh hi (l 0)).2 (.inl rfl)), i3 _ (by omega) (l 1) ((sC_iff hd hh hi (l 1)).2 (.inr (.inl rfl))), i3 _ (by omega) (l 2) ((sC_iff hd hh hi (l 2)).2 (.inr (.inr rfl)))⟩
end
end Go.Proofs.YtlffopdoeobgaaaGreatDoor
end
section
namespace Go.Proofs.YtlffopdoeobgaaaGreatDoor
open Go Go.RowKit
attribute [local go_sem ↓] Go.wp_at_zero Go.wp_at_succ
theorem moveInfo : (Tryz.prog.info? 36).map (fun i => (i.zero, i.size, i.bytes)) = some (some (.agg #[.int .i64 0, .int .i64 0, .int .i64 0, .int .i64 0, .bool false]), 5, 40) := by kernel_rfl
def Mv.cells (m : Mv) : List Value := [.int .i64 m.kind, .int .i64 m.x, .int .i64 m.y, .int .i64 m.sign, .bool m.over]
def mvs (ms : List Mv) : List Value := ms.flatMap Mv.cells
theorem mvs_app (ms : List Mv) (m : Mv) : mvs (ms ++ [m]) = mvs ms ++ m.cells := by unfold mvs; simp
section
variable {w W W' W2 : World} {gd gl : Nat} {dv : List Value} {v v' : Value} {ms : List Mv} {m : Mv}
theorem own_below {base : Nat} {e : TypeId} {size n : Nat} {xs : List Value} (h : W.ownsRow base e size v n xs) (hb : Below W.heap.size W W') : W'.ownsRow base e size v n xs := by
 refine ⟨h.1, ?_⟩
 rcases h.2 with hz | ⟨g, cap, cur, r1, r2, r3, r4⟩
 ·exact .inl hz
 ·exact .inr ⟨g, cap, cur, r1, r2, (hb.block g (lt_of_heap r3)).trans r3, r4⟩
end
theorem five_news (W : World) (g : Nat) (hg : W.heap.size = g) (m : Mv) : ∀ j u, m.cells[j]? = some u → (W.alloc (.cells m.cells.toArray 36)).cell? ((⟨g, 0, none⟩ : Addr).add j) = some u := by
 subst hg
 intro j u hu
 rw [Addr.add_lit, Nat.zero_add]
 have hj : j < m.cells.length := by
  rcases Nat.lt_or_ge j m.cells.length with h | h
  ·exact h
  ·rw [List.getElem?_eq_none h] at hu; cases hu
 have := (Row.new W 36 m.cells).cell hj
 rw [this, ← hu, List.getElem?_eq_getElem hj]
def MovesAt (w : World) (v : Value) (ms : List Mv) : Prop := ∃ base, w.ownsRow base 36 5 v ms.length (mvs ms)
end Go.Proofs.YtlffopdoeobgaaaGreatDoor
end
section
namespace Go.Proofs.YtlffopdoeobgaaaGreatDoor
open Go Go.RowKit
attribute [local go_sem ↓] Go.wp_at_zero Go.wp_at_succ
section
variable {w W W' W2 : World} {T : TypeId} {gd gl : Nat} {dv : List Value} {v v' : Value} {ms : List Mv} {m : Mv}
end
def one (c : Int) (m : Mv) : List Mv := if c = 0 then [m] else []
end Go.Proofs.YtlffopdoeobgaaaGreatDoor
end
