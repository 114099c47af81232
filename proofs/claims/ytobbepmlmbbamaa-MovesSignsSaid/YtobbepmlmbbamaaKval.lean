/-
  Plain Lean: a valid diagram with a kink more is valid. No program is named here.
-/
import Derived.Test.YtobbepmlmbbamaaKnk
namespace Go.Proofs.Ytobbepmlmbbamaa.Pl

theorem out_old {d d' : Dg} {h : Nat} (e : d'.s (h / 4) = d.s (h / 4)) : out d' h = out d h := by unfold out; rw [e]
theorem Kq.cover {n i0 o0 i1 o1 z : Nat} (k : Kq n i0 o0 i1 o1) (h : 4 * n ≤ z ∧ z < 4 * (n + 1)) : z = i0 ∨ z = o0 ∨ z = i1 ∨ z = o1 := by unfold Kq at k; omega
/-- What a kink adds, but for the mates. -/
structure Kd (d d' : Dg) (i0 o0 i1 o1 : Nat) : Prop where
  few : d.n + 1 ≤ 64
  n : d'.n = d.n + 1
  len : d'.mt.length = 4 * (d.n + 1)
  lp : d'.lp ≤ 64
  old : ∀ c, c < d.n → d'.s c = d.s c
  new : d'.s d.n = 1 ∨ d'.s d.n = -1
  k : Kq d.n i0 o0 i1 o1
  wi0 : out d' i0 = false
  wi1 : out d' i1 = false
  wo0 : out d' o0 = true
  wo1 : out d' o1 = true
  m1 : d'.m o0 = i1
  m2 : d'.m i1 = o0
theorem Kd.out {d d' : Dg} {i0 o0 i1 o1 : Nat} (K : Kd d d' i0 o0 i1 o1) {h : Nat} (hh : h < 4 * d.n) : out d' h = out d h := out_old (K.old _ (by omega))
theorem Kd.sign {d d' : Dg} (hd : Wf d) {i0 o0 i1 o1 : Nat} (K : Kd d d' i0 o0 i1 o1) : ∀ c, c < d'.n → d'.s c = 1 ∨ d'.s c = -1 := fun c hc => by
  rw [K.n] at hc
  rcases Nat.lt_or_ge c d.n with h | h
  · rw [K.old c h]; exact hd.sign c h
  · rw [show c = d.n by omega]; exact K.new
/-- Well-formed, from what each half-edge's mate is. -/
theorem wf_by {d' : Dg} (few : d'.n ≤ 64) (len : d'.mt.length = 4 * d'.n) (lp : d'.lp ≤ 64) (sign : ∀ c, c < d'.n → d'.s c = 1 ∨ d'.s c = -1)
    (h : ∀ z, z < 4 * d'.n → d'.m z < 4 * d'.n ∧ d'.m (d'.m z) = z ∧ Pl.out d' z ≠ Pl.out d' (d'.m z)) : Wf d' :=
  ⟨few, len, lp, sign, fun z hz => (h z hz).1, fun z hz e => (h z hz).2.2 (by rw [e]), fun z hz => (h z hz).2.1, fun z hz => (h z hz).2.2⟩
/-- A loop gets a kink. -/
theorem Kd.loop {d d' : Dg} (hd : Valid d) {i0 o0 i1 o1 : Nat} (K : Kd d d' i0 o0 i1 o1) (mo : ∀ h, h < 4 * d.n → d'.m h = d.m h) (m3 : d'.m o1 = i0) (m4 : d'.m i0 = o1) : Valid d' := by
  have hv := Valid.iff.1 hd
  obtain ⟨a1, a2, a3, a4, n1, n2, n3, n4, n5, n6⟩ := K.k.bd
  refine Valid.iff.2 ⟨wf_by (by rw [K.n]; exact K.few) (by rw [K.n]; exact K.len) K.lp (K.sign hv.1) (fun z hz => ?_), ?_⟩
  · rw [K.n] at hz ⊢
    rcases Nat.lt_or_ge z (4 * d.n) with h | h
    · have := hv.1.lt z h
      rw [mo z h, mo _ this, K.out h, K.out this]
      exact ⟨by omega, hv.1.inv z h, hv.1.way z h⟩
    · rcases K.k.cover ⟨h, hz⟩ with rfl | rfl | rfl | rfl
      · rw [m4, m3, K.wi0, K.wo1]; exact ⟨a4.2, rfl, by decide⟩
      · rw [K.m1, K.m2, K.wi1, K.wo0]; exact ⟨a3.2, rfl, by decide⟩
      · rw [K.m2, K.m1, K.wi1, K.wo0]; exact ⟨a2.2, rfl, by decide⟩
      · rw [m3, m4, K.wi0, K.wo1]; exact ⟨a1.2, rfl, by decide⟩
  · have hf := kink_loop hv.1.hm hv.2 K.k
    have hx := ext_hm (Nat.le_succ d.n) hv.1.hm
    have h1 := hx.tr (x := o0) (y := i1) a2.2 a3.2 (ex_new a2.1) (ex_new a3.1)
    have f1 : tr (ex d.n d.m) o0 i1 o1 = o1 := by rw [tr_ne (Ne.symm n5) (Ne.symm n6), ex_new a4.1]
    have f2 : tr (ex d.n d.m) o0 i1 i0 = i0 := by rw [tr_ne n1 n2, ex_new a1.1]
    have h2 := h1.tr (x := o1) (y := i0) a4.2 a1.2 f1 f2
    have e : dart d' = (fun h => h < 4 * (d.n + 1)) := by funext x; unfold dart; rw [K.n]
    rw [e]
    refine Gen.congr h2 (fun _ _ => rfl) (fun z hz => ?_) hf
    rcases Nat.lt_or_ge z (4 * d.n) with h | h
    · rw [mo z h, tr_ne (by omega) (by omega), tr_ne (by omega) (by omega), ex_old h]
    · rcases K.k.cover ⟨h, hz⟩ with rfl | rfl | rfl | rfl
      · rw [m4, tr_b, f1]
      · rw [K.m1, tr_ne n5 (Ne.symm n1), tr_a, ex_new a3.1]
      · rw [K.m2, tr_ne n6 (Ne.symm n2), tr_b, ex_new a2.1]
      · rw [m3, tr_a, f2]
/-- An edge gets a kink. -/
theorem Kd.edge {d d' : Dg} (hd : Valid d) {i0 o0 i1 o1 x : Nat} (K : Kd d d' i0 o0 i1 o1) (hx : x < 4 * d.n) (ho : Pl.out d x = true) (mo : ∀ h, h < 4 * d.n → h ≠ x → h ≠ d.m x → d'.m h = d.m h)
    (m3 : d'.m o1 = d.m x) (m4 : d'.m (d.m x) = o1) (m5 : d'.m x = i0) (m6 : d'.m i0 = x) : Valid d' := by
  have hv := Valid.iff.1 hd
  have hyn := hv.1.lt x hx
  have hne := hv.1.ne x hx
  have hinv := hv.1.inv x hx
  have hoy : Pl.out d (d.m x) = false := by have := hv.1.way x hx; rw [ho] at this; cases h : Pl.out d (d.m x) with
    | true => rw [h] at this; exact absurd rfl this
    | false => rfl
  obtain ⟨a1, a2, a3, a4, n1, n2, n3, n4, n5, n6⟩ := K.k.bd
  refine Valid.iff.2 ⟨wf_by (by rw [K.n]; exact K.few) (by rw [K.n]; exact K.len) K.lp (K.sign hv.1) (fun z hz => ?_), ?_⟩
  · rw [K.n] at hz ⊢
    rcases Nat.lt_or_ge z (4 * d.n) with h | h
    · by_cases z1 : z = x
      · subst z1
        rw [m5, m6, K.out h, K.wi0, ho]
        exact ⟨a1.2, rfl, by decide⟩
      · by_cases z2 : z = d.m x
        · subst z2
          rw [m4, m3, K.out h, K.wo1, hoy]
          exact ⟨a4.2, rfl, by decide⟩
        · have hm := hv.1.lt z h
          have q1 : d.m z ≠ x := fun e => z2 (by rw [← e, hv.1.inv z h])
          have q2 : d.m z ≠ d.m x := fun e => z1 (by rw [← hv.1.inv z h, e, hinv])
          rw [mo z h z1 z2, mo _ hm q1 q2, K.out h, K.out hm]
          exact ⟨by omega, hv.1.inv z h, hv.1.way z h⟩
    · rcases K.k.cover ⟨h, hz⟩ with rfl | rfl | rfl | rfl
      · rw [m6, m5, K.wi0, K.out hx, ho]; exact ⟨by omega, rfl, by decide⟩
      · rw [K.m1, K.m2, K.wi1, K.wo0]; exact ⟨a3.2, rfl, by decide⟩
      · rw [K.m2, K.m1, K.wi1, K.wo0]; exact ⟨a2.2, rfl, by decide⟩
      · rw [m3, m4, K.wo1, K.out hyn, hoy]; exact ⟨by omega, rfl, by decide⟩
  · have hf := kink_edge hv.1.hm hv.2 K.k hx rfl (Ne.symm hne)
    obtain ⟨hc, c1, c2⟩ := Hm.cut hv.1.hm hx hne
    have hX := ext_hm (Nat.le_succ d.n) hc
    have h1 := hX.tr (x := o0) (y := i1) a2.2 a3.2 (ex_new a2.1) (ex_new a3.1)
    have old : ∀ z, z < 4 * d.n → tr (ex d.n (tr d.m x (d.m x))) o0 i1 z = tr d.m x (d.m x) z := fun z hz => by rw [tr_ne (by omega) (by omega), ex_old hz]
    have fu : tr (ex d.n (tr d.m x (d.m x))) o0 i1 i0 = i0 := by rw [tr_ne n1 n2, ex_new a1.1]
    have fv : tr (ex d.n (tr d.m x (d.m x))) o0 i1 o1 = o1 := by rw [tr_ne (Ne.symm n5) (Ne.symm n6), ex_new a4.1]
    have fx : tr (ex d.n (tr d.m x (d.m x))) o0 i1 x = x := by rw [old x hx, c1]
    have fy : tr (ex d.n (tr d.m x (d.m x))) o0 i1 (d.m x) = d.m x := by rw [old _ hyn, c2]
    have hx' : x < 4 * (d.n + 1) := by omega
    have hy' : d.m x < 4 * (d.n + 1) := by omega
    have h2 := h1.tr (x := x) (y := i0) hx' a1.2 fx fu
    have g1 : tr (tr (ex d.n (tr d.m x (d.m x))) o0 i1) x i0 o1 = o1 := by rw [tr_ne (by omega) (Ne.symm n3), fv]
    have g2 : tr (tr (ex d.n (tr d.m x (d.m x))) o0 i1) x i0 (d.m x) = d.m x := by rw [tr_ne hne (by omega), fy]
    have h3 := h2.tr (x := o1) (y := d.m x) a4.2 hy' g1 g2
    have e : dart d' = (fun h => h < 4 * (d.n + 1)) := by funext x; unfold dart; rw [K.n]
    rw [e]
    refine Gen.congr h3 (fun _ _ => rfl) (fun z hz => ?_) hf
    rcases Nat.lt_or_ge z (4 * d.n) with h | h
    · by_cases z2 : z = d.m x
      · subst z2
        rw [tr_b, g1, m4]
      · rw [tr_ne (by omega) z2]
        by_cases z1 : z = x
        · subst z1
          rw [tr_a, fu, m5]
        · rw [tr_ne z1 (by omega), old z h, tr_ne z1 z2, mo z h z1 z2]
    · rcases K.k.cover ⟨h, hz⟩ with rfl | rfl | rfl | rfl
      · rw [m6, tr_ne n3 (by omega), tr_b, fx]
      · rw [K.m1, tr_ne n5 (by omega), tr_ne (by omega) (Ne.symm n1), tr_a, ex_new a3.1]
      · rw [K.m2, tr_ne n6 (by omega), tr_ne (by omega) (Ne.symm n2), tr_b, ex_new a2.1]
      · rw [m3, tr_a, g2]
end Go.Proofs.Ytobbepmlmbbamaa.Pl
