/-
  The texts Sld in one.
-/
import Derived.Test.YtobbepmlmbbamaaBAV10
set_option linter.unusedVariables false
set_option linter.unusedSimpArgs false

section
/-
  Plain Lean: a plane map stays plane when a strand slides over a crossing. No program is named here.
-/
namespace Go.Proofs.Ytobbepmlmbbamaa.Pl
variable {N : Nat} {S : Nat → Prop} {r a : Nat → Nat}

/-- A map, renamed by an involution. -/
def cj (t f : Nat → Nat) (x : Nat) : Nat := t (f (t x))
theorem it_cj {t f : Nat → Nat} (hS : ∀ x, S x → S (f x)) (ht : ∀ x, S x → t (t x) = x) {x : Nat} (hx : S x) : ∀ k, it (cj t f) k (t x) = t (it f k x) ∧ S (it f k x)
  | 0 => ⟨rfl, hx⟩
  | k + 1 => by
    obtain ⟨h1, h2⟩ := it_cj hS ht hx k
    refine ⟨?_, hS _ h2⟩
    show cj t f (it (cj t f) k (t x)) = t (f (it f k x))
    rw [h1]
    unfold cj
    rw [ht _ h2]
theorem orb_cj {t f : Nat → Nat} (hS : ∀ x, S x → S (f x)) (ht : ∀ x, S x → t (t x) = x) {x y : Nat} (hx : S x) (hy : S y) : Orb f x y ↔ Orb (cj t f) (t x) (t y) := by
  constructor
  · rintro ⟨k, rfl⟩
    exact ⟨k, (it_cj hS ht hx k).1⟩
  · rintro ⟨k, hk⟩
    refine ⟨k, ?_⟩
    obtain ⟨h1, h2⟩ := it_cj hS ht hx k
    rw [h1] at hk
    have := congrArg t hk
    rwa [ht _ h2, ht _ hy] at this
theorem con_cj {t : Nat → Nat} (hr : ∀ x, S x → S (r x)) (ha : ∀ x, S x → S (a x)) (ht : ∀ x, S x → t (t x) = x) {x y : Nat} (hx : S x) (e : Con r a x y) : Con (cj t r) (cj t a) (t x) (t y) ∧ S y := by
  induction e with
  | refl => exact ⟨.refl, hx⟩
  | @left y e' ih =>
    refine ⟨?_, hr _ ih.2⟩
    have := ih.1.left
    rwa [show cj t r (t y) = t (r y) from by unfold cj; rw [ht _ ih.2]] at this
  | @right y e' ih =>
    refine ⟨?_, ha _ ih.2⟩
    have := ih.1.right
    rwa [show cj t a (t y) = t (a y) from by unfold cj; rw [ht _ ih.2]] at this
theorem cj_cj {t f : Nat → Nat} (hS : ∀ x, S x → S (f x)) (ht : ∀ x, S x → t (t x) = x) {x : Nat} (hx : S x) : cj t (cj t f) x = f x := by
  unfold cj
  rw [ht x hx, ht _ (hS x hx)]
theorem Bij.cj {t f : Nat → Nat} (h : Bij N S f) (hm : ∀ x, S x → S (t x)) (ht : ∀ x, S x → t (t x) = x) : Bij N S (Pl.cj t f) :=
  ⟨h.lt, fun x hx => hm _ (h.maps _ (hm x hx)), fun x y hx hy e => by
    have e1 := congrArg t e
    unfold Pl.cj at e1
    rw [ht _ (h.maps _ (hm x hx)), ht _ (h.maps _ (hm y hy))] at e1
    have e2 := h.inj _ _ (hm x hx) (hm y hy) e1
    have e3 := congrArg t e2
    rwa [ht x hx, ht y hy] at e3⟩
theorem Hm.cj {t : Nat → Nat} (h : Hm N S r a) (hm : ∀ x, S x → S (t x)) (ht : ∀ x, S x → t (t x) = x) : Hm N S (Pl.cj t r) (Pl.cj t a) :=
  ⟨h.rb.cj hm ht, h.ab.cj hm ht, fun x hx => by
    unfold Pl.cj
    rw [ht _ (h.ab.maps _ (hm x hx)), h.inv _ (hm x hx), ht x hx]⟩
/-- The genus does not depend on the names. -/
theorem Gen.cj {t : Nat → Nat} {z : Int} (h : Hm N S r a) (hm : ∀ x, S x → S (t x)) (ht : ∀ x, S x → t (t x) = x) (hz : Gen S r a z) : Gen S (Pl.cj t r) (Pl.cj t a) z := by
  obtain ⟨v, d, k, f, c, h1, h2, h3, h4, h5, rfl⟩ := hz
  have hs : ∀ y, S y → ∃ x, S x ∧ t x = y := fun y hy => ⟨t y, hm y hy, ht y hy⟩
  refine ⟨v, d, k, f, c, h1.map t hm hs (fun x y hx hy => orb_cj h.rb.maps ht hx hy), h2, h3.map t hm hs (fun x y hx hy => orb_cj h.ab.maps ht hx hy), ?_, ?_, rfl⟩
  · refine (h4.map t hm hs (fun x y hx hy => orb_cj (t := t) h.pb.maps ht hx hy)).congr (fun _ => Iff.rfl) (fun x y hx _ => ?_)
    refine Orb.congr (h.pb.cj hm ht).maps (fun z hz => ?_) hx
    show t (r (a (t z))) = t (r (t (t (a (t z)))))
    rw [ht _ (h.ab.maps _ (hm z hz))]
  · refine h5.map t hm hs (fun x y hx hy => ⟨fun e => (con_cj h.rb.maps h.ab.maps ht hx e).1, fun e => ?_⟩)
    have e1 := (con_cj (S := S) (h.rb.cj hm ht).maps (h.ab.cj hm ht).maps ht (hm x hx) e).1
    rw [ht x hx, ht y hy] at e1
    exact (Con.congr (h.rb.cj hm ht |>.cj hm ht).maps (h.ab.cj hm ht |>.cj hm ht).maps (fun x hx => cj_cj h.rb.maps ht hx) (fun x hx => cj_cj h.ab.maps ht hx) hx).1 e1

/-- First returns: where two maps lead from each place of D to the next one of D alike. -/
theorem orb_ret {f g : Nat → Nat} {D : Nat → Prop} (hf : ∀ x, D x → D (f x) ∧ Orb g x (f x) ∨ D (f (f x)) ∧ ¬ D (f x) ∧ Orb g x (f (f x))) {x y : Nat} (hx : D x) (hy : D y) : Orb f x y → Orb g x y := by
  rintro ⟨k, hk⟩
  induction k using Nat.strongRecOn generalizing x with
  | ind k ih =>
    match k, hk with
    | 0, hk => exact hk ▸ Orb.refl g x
    | k + 1, hk =>
      rw [it_succ'] at hk
      rcases hf x hx with ⟨h1, h2⟩ | ⟨h1, h2, h3⟩
      · exact h2.trans (ih k (by omega) h1 hk)
      · match k, hk with
        | 0, hk => exact absurd (show D (f x) from (show f x = y from hk).symm ▸ hy) h2
        | k + 1, hk =>
          rw [it_succ'] at hk
          exact h3.trans (ih k (by omega) h1 hk)

/-- A triangle: h k, its mates p (k + 1), and the outer ends u k, v k, at three places in turn; t changes the names: u k and p (k + 1), v k and h (k - 1). -/
structure Tri (S : Nat → Prop) (r a t : Nat → Nat) (h0 h1 h2 p0 p1 p2 u0 u1 u2 v0 v1 v2 : Nat) : Prop where
  mem : ∀ x, x ∈ [h0, h1, h2, p0, p1, p2, u0, u1, u2, v0, v1, v2] → S x
  rv0 : r v0 = u0
  rv1 : r v1 = u1
  rv2 : r v2 = u2
  ru0 : r u0 = p0
  ru1 : r u1 = p1
  ru2 : r u2 = p2
  rp0 : r p0 = h0
  rp1 : r p1 = h1
  rp2 : r p2 = h2
  rh0 : r h0 = v0
  rh1 : r h1 = v1
  rh2 : r h2 = v2
  ah0 : a h0 = p1
  ah1 : a h1 = p2
  ah2 : a h2 = p0
  ap1 : a p1 = h0
  ap2 : a p2 = h1
  ap0 : a p0 = h2
  nd : [h0, h1, h2, p0, p1, p2, u0, u1, u2, v0, v1, v2].Nodup
  tu0 : t u0 = p1
  tu1 : t u1 = p2
  tu2 : t u2 = p0
  tp1 : t p1 = u0
  tp2 : t p2 = u1
  tp0 : t p0 = u2
  tv0 : t v0 = h2
  tv1 : t v1 = h0
  tv2 : t v2 = h1
  th2 : t h2 = v0
  th0 : t h0 = v1
  th1 : t h1 = v2
  tx : ∀ x, x ∉ [h0, h1, h2, p0, p1, p2, u0, u1, u2, v0, v1, v2] → t x = x
section
variable {t : Nat → Nat} {h0 h1 h2 p0 p1 p2 u0 u1 u2 v0 v1 v2 : Nat}
/-- The outer places. -/
def Dout (S : Nat → Prop) (h0 h1 h2 p0 p1 p2 x : Nat) : Prop := S x ∧ x ≠ h0 ∧ x ≠ h1 ∧ x ≠ h2 ∧ x ≠ p0 ∧ x ≠ p1 ∧ x ≠ p2
theorem Tri.tt (T : Tri S r a t h0 h1 h2 p0 p1 p2 u0 u1 u2 v0 v1 v2) (x : Nat) : t (t x) = x := by
  by_cases hx : x ∈ [h0, h1, h2, p0, p1, p2, u0, u1, u2, v0, v1, v2]
  · simp only [List.mem_cons, List.not_mem_nil, or_false] at hx
    rcases hx with rfl | rfl | rfl | rfl | rfl | rfl | rfl | rfl | rfl | rfl | rfl | rfl
    · rw [T.th0, T.tv1]
    · rw [T.th1, T.tv2]
    · rw [T.th2, T.tv0]
    · rw [T.tp0, T.tu2]
    · rw [T.tp1, T.tu0]
    · rw [T.tp2, T.tu1]
    · rw [T.tu0, T.tp1]
    · rw [T.tu1, T.tp2]
    · rw [T.tu2, T.tp0]
    · rw [T.tv0, T.th2]
    · rw [T.tv1, T.th0]
    · rw [T.tv2, T.th1]
  · rw [T.tx x hx, T.tx x hx]
theorem Tri.tS (T : Tri S r a t h0 h1 h2 p0 p1 p2 u0 u1 u2 v0 v1 v2) (x : Nat) (hx : S x) : S (t x) := by
  by_cases hm : x ∈ [h0, h1, h2, p0, p1, p2, u0, u1, u2, v0, v1, v2]
  · refine T.mem _ ?_
    simp only [List.mem_cons, List.not_mem_nil, or_false] at hm
    rcases hm with rfl | rfl | rfl | rfl | rfl | rfl | rfl | rfl | rfl | rfl | rfl | rfl <;>
      simp [T.tu0, T.tu1, T.tu2, T.tp0, T.tp1, T.tp2, T.tv0, T.tv1, T.tv2, T.th0, T.th1, T.th2]
  · rw [T.tx x hm]; exact hx
theorem Tri.ch0 (T : Tri S r a t h0 h1 h2 p0 p1 p2 u0 u1 u2 v0 v1 v2) : cj t r h0 = p2 := by unfold cj; rw [T.th0, T.rv1, T.tu1]
theorem Tri.ch1 (T : Tri S r a t h0 h1 h2 p0 p1 p2 u0 u1 u2 v0 v1 v2) : cj t r h1 = p0 := by unfold cj; rw [T.th1, T.rv2, T.tu2]
theorem Tri.ch2 (T : Tri S r a t h0 h1 h2 p0 p1 p2 u0 u1 u2 v0 v1 v2) : cj t r h2 = p1 := by unfold cj; rw [T.th2, T.rv0, T.tu0]
theorem Tri.cp0 (T : Tri S r a t h0 h1 h2 p0 p1 p2 u0 u1 u2 v0 v1 v2) : cj t r p0 = u1 := by unfold cj; rw [T.tp0, T.ru2, T.tp2]
theorem Tri.cp1 (T : Tri S r a t h0 h1 h2 p0 p1 p2 u0 u1 u2 v0 v1 v2) : cj t r p1 = u2 := by unfold cj; rw [T.tp1, T.ru0, T.tp0]
theorem Tri.cp2 (T : Tri S r a t h0 h1 h2 p0 p1 p2 u0 u1 u2 v0 v1 v2) : cj t r p2 = u0 := by unfold cj; rw [T.tp2, T.ru1, T.tp1]
theorem Tri.cu0 (T : Tri S r a t h0 h1 h2 p0 p1 p2 u0 u1 u2 v0 v1 v2) : cj t r u0 = v2 := by unfold cj; rw [T.tu0, T.rp1, T.th1]
theorem Tri.cu1 (T : Tri S r a t h0 h1 h2 p0 p1 p2 u0 u1 u2 v0 v1 v2) : cj t r u1 = v0 := by unfold cj; rw [T.tu1, T.rp2, T.th2]
theorem Tri.cu2 (T : Tri S r a t h0 h1 h2 p0 p1 p2 u0 u1 u2 v0 v1 v2) : cj t r u2 = v1 := by unfold cj; rw [T.tu2, T.rp0, T.th0]
theorem Tri.cv0 (T : Tri S r a t h0 h1 h2 p0 p1 p2 u0 u1 u2 v0 v1 v2) : cj t r v0 = h1 := by unfold cj; rw [T.tv0, T.rh2, T.tv2]
theorem Tri.cv1 (T : Tri S r a t h0 h1 h2 p0 p1 p2 u0 u1 u2 v0 v1 v2) : cj t r v1 = h2 := by unfold cj; rw [T.tv1, T.rh0, T.tv0]
theorem Tri.cv2 (T : Tri S r a t h0 h1 h2 p0 p1 p2 u0 u1 u2 v0 v1 v2) : cj t r v2 = h0 := by unfold cj; rw [T.tv2, T.rh1, T.tv1]
theorem Tri.cx (h : Hm N S r a) (T : Tri S r a t h0 h1 h2 p0 p1 p2 u0 u1 u2 v0 v1 v2) {x : Nat} (hS : S x) (hx : x ∉ [h0, h1, h2, p0, p1, p2, u0, u1, u2, v0, v1, v2]) : r x ∉ [h0, h1, h2, p0, p1, p2, u0, u1, u2, v0, v1, v2] ∧ cj t r x = r x := by
  have key : r x ∉ [h0, h1, h2, p0, p1, p2, u0, u1, u2, v0, v1, v2] := by
    intro hm
    apply hx
    simp only [List.mem_cons, List.not_mem_nil, or_false] at hm
    rcases hm with e | e | e | e | e | e | e | e | e | e | e | e
    · rw [h.rb.inj x p0 hS (T.mem _ (by simp)) (e.trans T.rp0.symm)]; simp
    · rw [h.rb.inj x p1 hS (T.mem _ (by simp)) (e.trans T.rp1.symm)]; simp
    · rw [h.rb.inj x p2 hS (T.mem _ (by simp)) (e.trans T.rp2.symm)]; simp
    · rw [h.rb.inj x u0 hS (T.mem _ (by simp)) (e.trans T.ru0.symm)]; simp
    · rw [h.rb.inj x u1 hS (T.mem _ (by simp)) (e.trans T.ru1.symm)]; simp
    · rw [h.rb.inj x u2 hS (T.mem _ (by simp)) (e.trans T.ru2.symm)]; simp
    · rw [h.rb.inj x v0 hS (T.mem _ (by simp)) (e.trans T.rv0.symm)]; simp
    · rw [h.rb.inj x v1 hS (T.mem _ (by simp)) (e.trans T.rv1.symm)]; simp
    · rw [h.rb.inj x v2 hS (T.mem _ (by simp)) (e.trans T.rv2.symm)]; simp
    · rw [h.rb.inj x h0 hS (T.mem _ (by simp)) (e.trans T.rh0.symm)]; simp
    · rw [h.rb.inj x h1 hS (T.mem _ (by simp)) (e.trans T.rh1.symm)]; simp
    · rw [h.rb.inj x h2 hS (T.mem _ (by simp)) (e.trans T.rh2.symm)]; simp
  refine ⟨key, ?_⟩
  unfold cj
  rw [T.tx x hx, T.tx _ key]
theorem Tri.out (T : Tri S r a t h0 h1 h2 p0 p1 p2 u0 u1 u2 v0 v1 v2) {x : Nat} (hS : S x) : Dout S h0 h1 h2 p0 p1 p2 x ↔ ¬ (x = h0 ∨ x = h1 ∨ x = h2 ∨ x = p0 ∨ x = p1 ∨ x = p2) := by
  unfold Dout
  simp only [not_or]
  exact ⟨fun h => h.2, fun h => ⟨hS, h⟩⟩
theorem Tri.du0 (T : Tri S r a t h0 h1 h2 p0 p1 p2 u0 u1 u2 v0 v1 v2) : Dout S h0 h1 h2 p0 p1 p2 u0 := by
  have hn := T.nd
  simp only [List.nodup_cons, List.mem_cons, List.not_mem_nil, or_false, not_or] at hn
  refine ⟨T.mem _ (by simp), ?_, ?_, ?_, ?_, ?_, ?_⟩ <;> (intro e; rw [e] at hn; simp at hn)
theorem Tri.du1 (T : Tri S r a t h0 h1 h2 p0 p1 p2 u0 u1 u2 v0 v1 v2) : Dout S h0 h1 h2 p0 p1 p2 u1 := by
  have hn := T.nd
  simp only [List.nodup_cons, List.mem_cons, List.not_mem_nil, or_false, not_or] at hn
  refine ⟨T.mem _ (by simp), ?_, ?_, ?_, ?_, ?_, ?_⟩ <;> (intro e; rw [e] at hn; simp at hn)
theorem Tri.du2 (T : Tri S r a t h0 h1 h2 p0 p1 p2 u0 u1 u2 v0 v1 v2) : Dout S h0 h1 h2 p0 p1 p2 u2 := by
  have hn := T.nd
  simp only [List.nodup_cons, List.mem_cons, List.not_mem_nil, or_false, not_or] at hn
  refine ⟨T.mem _ (by simp), ?_, ?_, ?_, ?_, ?_, ?_⟩ <;> (intro e; rw [e] at hn; simp at hn)
theorem Tri.dv0 (T : Tri S r a t h0 h1 h2 p0 p1 p2 u0 u1 u2 v0 v1 v2) : Dout S h0 h1 h2 p0 p1 p2 v0 := by
  have hn := T.nd
  simp only [List.nodup_cons, List.mem_cons, List.not_mem_nil, or_false, not_or] at hn
  refine ⟨T.mem _ (by simp), ?_, ?_, ?_, ?_, ?_, ?_⟩ <;> (intro e; rw [e] at hn; simp at hn)
theorem Tri.dv1 (T : Tri S r a t h0 h1 h2 p0 p1 p2 u0 u1 u2 v0 v1 v2) : Dout S h0 h1 h2 p0 p1 p2 v1 := by
  have hn := T.nd
  simp only [List.nodup_cons, List.mem_cons, List.not_mem_nil, or_false, not_or] at hn
  refine ⟨T.mem _ (by simp), ?_, ?_, ?_, ?_, ?_, ?_⟩ <;> (intro e; rw [e] at hn; simp at hn)
theorem Tri.dv2 (T : Tri S r a t h0 h1 h2 p0 p1 p2 u0 u1 u2 v0 v1 v2) : Dout S h0 h1 h2 p0 p1 p2 v2 := by
  have hn := T.nd
  simp only [List.nodup_cons, List.mem_cons, List.not_mem_nil, or_false, not_or] at hn
  refine ⟨T.mem _ (by simp), ?_, ?_, ?_, ?_, ?_, ?_⟩ <;> (intro e; rw [e] at hn; simp at hn)
theorem Tri.nh0 (T : Tri S r a t h0 h1 h2 p0 p1 p2 u0 u1 u2 v0 v1 v2) : ¬ Dout S h0 h1 h2 p0 p1 p2 h0 := fun h => by unfold Dout at h; simp at h
theorem Tri.nh1 (T : Tri S r a t h0 h1 h2 p0 p1 p2 u0 u1 u2 v0 v1 v2) : ¬ Dout S h0 h1 h2 p0 p1 p2 h1 := fun h => by unfold Dout at h; simp at h
theorem Tri.nh2 (T : Tri S r a t h0 h1 h2 p0 p1 p2 u0 u1 u2 v0 v1 v2) : ¬ Dout S h0 h1 h2 p0 p1 p2 h2 := fun h => by unfold Dout at h; simp at h
theorem Tri.np0 (T : Tri S r a t h0 h1 h2 p0 p1 p2 u0 u1 u2 v0 v1 v2) : ¬ Dout S h0 h1 h2 p0 p1 p2 p0 := fun h => by unfold Dout at h; simp at h
theorem Tri.np1 (T : Tri S r a t h0 h1 h2 p0 p1 p2 u0 u1 u2 v0 v1 v2) : ¬ Dout S h0 h1 h2 p0 p1 p2 p1 := fun h => by unfold Dout at h; simp at h
theorem Tri.np2 (T : Tri S r a t h0 h1 h2 p0 p1 p2 u0 u1 u2 v0 v1 v2) : ¬ Dout S h0 h1 h2 p0 p1 p2 p2 := fun h => by unfold Dout at h; simp at h
theorem Tri.da (h : Hm N S r a) (T : Tri S r a t h0 h1 h2 p0 p1 p2 u0 u1 u2 v0 v1 v2) {x : Nat} (hx : Dout S h0 h1 h2 p0 p1 p2 x) : Dout S h0 h1 h2 p0 p1 p2 (a x) := by
  obtain ⟨hS, n0, n1, n2, m0, m1, m2⟩ := hx
  have hi := h.inv x hS
  refine ⟨h.ab.maps x hS, ?_, ?_, ?_, ?_, ?_, ?_⟩ <;> intro e <;> rw [e] at hi
  · rw [T.ah0] at hi; exact m1 hi.symm
  · rw [T.ah1] at hi; exact m2 hi.symm
  · rw [T.ah2] at hi; exact m0 hi.symm
  · rw [T.ap0] at hi; exact n2 hi.symm
  · rw [T.ap1] at hi; exact n0 hi.symm
  · rw [T.ap2] at hi; exact n1 hi.symm
/-- The next outer place: old and new. -/
theorem Tri.next (h : Hm N S r a) (T : Tri S r a t h0 h1 h2 p0 p1 p2 u0 u1 u2 v0 v1 v2) {x : Nat} (hx : Dout S h0 h1 h2 p0 p1 p2 x) :
    (Dout S h0 h1 h2 p0 p1 p2 (phi r a x) ∧ ¬ Dout S h0 h1 h2 p0 p1 p2 (phi (cj t r) a x) ∧ phi (cj t r) a (phi (cj t r) a x) = phi r a x) ∨
    (¬ Dout S h0 h1 h2 p0 p1 p2 (phi r a x) ∧ Dout S h0 h1 h2 p0 p1 p2 (phi (cj t r) a x) ∧ phi r a (phi r a x) = phi (cj t r) a x) ∨
    (Dout S h0 h1 h2 p0 p1 p2 (phi r a x) ∧ phi (cj t r) a x = phi r a x) := by
  have hd := T.da h hx
  obtain ⟨y, hy⟩ : ∃ y, y = a x := ⟨_, rfl⟩
  have e1 : phi r a x = r y := by rw [hy]; rfl
  have e2 : phi (cj t r) a x = cj t r y := by rw [hy]; rfl
  rw [← hy] at hd
  rw [e1, e2]
  have f1 : ∀ z, phi r a z = r (a z) := fun z => rfl
  have f2 : ∀ z, phi (cj t r) a z = cj t r (a z) := fun z => rfl
  simp only [f1, f2]
  by_cases hm : y ∈ [h0, h1, h2, p0, p1, p2, u0, u1, u2, v0, v1, v2]
  · obtain ⟨_, n0, n1, n2, m0, m1, m2⟩ := hd
    simp only [List.mem_cons, List.not_mem_nil, or_false] at hm
    rcases hm with e | e | e | e | e | e | e | e | e | e | e | e
    · exact absurd e n0
    · exact absurd e n1
    · exact absurd e n2
    · exact absurd e m0
    · exact absurd e m1
    · exact absurd e m2
    · rw [e, T.ru0, T.cu0, T.ap0, T.rh2]; exact .inr (.inl ⟨T.np0, T.dv2, rfl⟩)
    · rw [e, T.ru1, T.cu1, T.ap1, T.rh0]; exact .inr (.inl ⟨T.np1, T.dv0, rfl⟩)
    · rw [e, T.ru2, T.cu2, T.ap2, T.rh1]; exact .inr (.inl ⟨T.np2, T.dv1, rfl⟩)
    · rw [e, T.rv0, T.cv0, T.ah1, T.cp2]; exact .inl ⟨T.du0, T.nh1, rfl⟩
    · rw [e, T.rv1, T.cv1, T.ah2, T.cp0]; exact .inl ⟨T.du1, T.nh2, rfl⟩
    · rw [e, T.rv2, T.cv2, T.ah0, T.cp1]; exact .inl ⟨T.du2, T.nh0, rfl⟩
  · obtain ⟨k1, k2⟩ := T.cx h hd.1 hm
    rw [k2]
    refine .inr (.inr ⟨⟨h.rb.maps _ hd.1, ?_⟩, rfl⟩)
    simp only [List.mem_cons, List.not_mem_nil, or_false, not_or] at k1
    exact ⟨k1.1, k1.2.1, k1.2.2.1, k1.2.2.2.1, k1.2.2.2.2.1, k1.2.2.2.2.2.1⟩
theorem Tri.orb (h : Hm N S r a) (T : Tri S r a t h0 h1 h2 p0 p1 p2 u0 u1 u2 v0 v1 v2) {x y : Nat} (hx : Dout S h0 h1 h2 p0 p1 p2 x) (hy : Dout S h0 h1 h2 p0 p1 p2 y) : Orb (phi r a) x y ↔ Orb (phi (cj t r) a) x y := by
  constructor
  · refine orb_ret (fun z hz => ?_) hx hy
    rcases T.next h hz with ⟨k1, k2, k3⟩ | ⟨k1, k2, k3⟩ | ⟨k1, k2⟩
    · exact .inl ⟨k1, 2, k3⟩
    · exact .inr ⟨by rw [k3]; exact k2, k1, 1, k3.symm⟩
    · exact .inl ⟨k1, 1, k2⟩
  · refine orb_ret (fun z hz => ?_) hx hy
    rcases T.next h hz with ⟨k1, k2, k3⟩ | ⟨k1, k2, k3⟩ | ⟨k1, k2⟩
    · exact .inr ⟨by rw [k3]; exact k1, k2, 1, k3.symm⟩
    · exact .inl ⟨k2, 2, k3⟩
    · exact .inl ⟨by rw [k2]; exact k1, 1, k2.symm⟩
theorem con_r {r a : Nat → Nat} {x y z : Nat} (e : r x = y) (h : Con r a y z) : Con r a x z := (Con.left (.refl (f := r) (g := a) (x := x))).trans (e.symm ▸ h)
theorem con_a {r a : Nat → Nat} {x y z : Nat} (e : a x = y) (h : Con r a y z) : Con r a x z := (Con.right (.refl (f := r) (g := a) (x := x))).trans (e.symm ▸ h)
theorem Tri.con_o (T : Tri S r a t h0 h1 h2 p0 p1 p2 u0 u1 u2 v0 v1 v2) {x : Nat} (hx : x ∈ [h0, h1, h2, p0, p1, p2, u0, u1, u2, v0, v1, v2]) : Con (r) a x h0 := by
  simp only [List.mem_cons, List.not_mem_nil, or_false] at hx
  rcases hx with rfl | rfl | rfl | rfl | rfl | rfl | rfl | rfl | rfl | rfl | rfl | rfl
  · exact .refl
  · exact con_r T.rh1 (con_r T.rv1 (con_r T.ru1 (con_a T.ap1 (.refl))))
  · exact con_a T.ah2 (con_r T.rp0 (.refl))
  · exact con_r T.rp0 (.refl)
  · exact con_a T.ap1 (.refl)
  · exact con_r T.rp2 (con_a T.ah2 (con_r T.rp0 (.refl)))
  · exact con_r T.ru0 (con_r T.rp0 (.refl))
  · exact con_r T.ru1 (con_a T.ap1 (.refl))
  · exact con_r T.ru2 (con_r T.rp2 (con_a T.ah2 (con_r T.rp0 (.refl))))
  · exact con_r T.rv0 (con_r T.ru0 (con_r T.rp0 (.refl)))
  · exact con_r T.rv1 (con_r T.ru1 (con_a T.ap1 (.refl)))
  · exact con_r T.rv2 (con_r T.ru2 (con_r T.rp2 (con_a T.ah2 (con_r T.rp0 (.refl)))))
theorem Tri.con_n (T : Tri S r a t h0 h1 h2 p0 p1 p2 u0 u1 u2 v0 v1 v2) {x : Nat} (hx : x ∈ [h0, h1, h2, p0, p1, p2, u0, u1, u2, v0, v1, v2]) : Con (cj t r) a x h0 := by
  simp only [List.mem_cons, List.not_mem_nil, or_false] at hx
  rcases hx with rfl | rfl | rfl | rfl | rfl | rfl | rfl | rfl | rfl | rfl | rfl | rfl
  · exact .refl
  · exact con_r T.ch1 (con_a T.ap0 (con_r T.ch2 (con_a T.ap1 (.refl))))
  · exact con_r T.ch2 (con_a T.ap1 (.refl))
  · exact con_a T.ap0 (con_r T.ch2 (con_a T.ap1 (.refl)))
  · exact con_a T.ap1 (.refl)
  · exact con_r T.cp2 (con_r T.cu0 (con_r T.cv2 (.refl)))
  · exact con_r T.cu0 (con_r T.cv2 (.refl))
  · exact con_r T.cu1 (con_r T.cv0 (con_r T.ch1 (con_a T.ap0 (con_r T.ch2 (con_a T.ap1 (.refl))))))
  · exact con_r T.cu2 (con_r T.cv1 (con_r T.ch2 (con_a T.ap1 (.refl))))
  · exact con_r T.cv0 (con_r T.ch1 (con_a T.ap0 (con_r T.ch2 (con_a T.ap1 (.refl)))))
  · exact con_r T.cv1 (con_r T.ch2 (con_a T.ap1 (.refl)))
  · exact con_r T.cv2 (.refl)
theorem Tri.con (h : Hm N S r a) (T : Tri S r a t h0 h1 h2 p0 p1 p2 u0 u1 u2 v0 v1 v2) {x y : Nat} (hx : S x) : Con r a x y ↔ Con (cj t r) a x y := by
  have h' : Hm N S (cj t r) a := ⟨h.rb.cj (T.tS) (fun x _ => T.tt x), h.ab, h.inv⟩
  have s0 : S h0 := T.mem _ (by simp)
  constructor
  · refine con_sub h h'.ceqv (fun z hz => ?_) (fun z hz => .right .refl) hx
    by_cases hm : z ∈ [h0, h1, h2, p0, p1, p2, u0, u1, u2, v0, v1, v2]
    · refine (T.con_n hm).trans (h'.con_symm (h.rb.maps _ hz) (T.con_n ?_))
      simp only [List.mem_cons, List.not_mem_nil, or_false] at hm
      rcases hm with rfl | rfl | rfl | rfl | rfl | rfl | rfl | rfl | rfl | rfl | rfl | rfl <;> simp [T.ru0, T.ru1, T.ru2, T.rv0, T.rv1, T.rv2, T.rp0, T.rp1, T.rp2, T.rh0, T.rh1, T.rh2]
    · exact con_r (T.cx h hz hm).2 .refl
  · refine con_sub h' h.ceqv (fun z hz => ?_) (fun z hz => .right .refl) hx
    by_cases hm : z ∈ [h0, h1, h2, p0, p1, p2, u0, u1, u2, v0, v1, v2]
    · refine (T.con_o hm).trans (h.con_symm (h'.rb.maps _ hz) (T.con_o ?_))
      simp only [List.mem_cons, List.not_mem_nil, or_false] at hm
      rcases hm with rfl | rfl | rfl | rfl | rfl | rfl | rfl | rfl | rfl | rfl | rfl | rfl <;> simp [T.cu0, T.cu1, T.cu2, T.cv0, T.cv1, T.cv2, T.cp0, T.cp1, T.cp2, T.ch0, T.ch1, T.ch2]
    · exact con_r (T.cx h hz hm).2.symm .refl
/-- As many faces. -/
theorem Tri.faces (h : Hm N S r a) (T : Tri S r a t h0 h1 h2 p0 p1 p2 u0 u1 u2 v0 v1 v2) {f : Nat} (hf : Cls S (Orb (phi r a)) f) : Cls S (Orb (phi (cj t r) a)) f := by
  have h' : Hm N S (cj t r) a := ⟨h.rb.cj (T.tS) (fun x _ => T.tt x), h.ab, h.inv⟩
  have f1 : ∀ z, phi r a z = r (a z) := fun z => rfl
  have f2 : ∀ z, phi (cj t r) a z = cj t r (a z) := fun z => rfl
  have s0 : S h0 := T.mem _ (by simp)
  have q0 : S p0 := T.mem _ (by simp)
  -- the triangle's own face, old
  have o1 : ∀ x, (x = h0 ∨ x = h1 ∨ x = h2) → (phi r a x = h0 ∨ phi r a x = h1 ∨ phi r a x = h2) := by
    rintro x (rfl | rfl | rfl)
    · rw [f1, T.ah0, T.rp1]; exact .inr (.inl rfl)
    · rw [f1, T.ah1, T.rp2]; exact .inr (.inr rfl)
    · rw [f1, T.ah2, T.rp0]; exact .inl rfl
  have o2 : ∀ x, (x = p0 ∨ x = p1 ∨ x = p2) → (phi (cj t r) a x = p0 ∨ phi (cj t r) a x = p1 ∨ phi (cj t r) a x = p2) := by
    rintro x (rfl | rfl | rfl)
    · rw [f2, T.ap0, T.ch2]; exact .inr (.inl rfl)
    · rw [f2, T.ap1, T.ch0]; exact .inr (.inr rfl)
    · rw [f2, T.ap2, T.ch1]; exact .inl rfl
  have no1 : ∀ x, Dout S h0 h1 h2 p0 p1 p2 x → ¬ Orb (phi r a) h0 x := fun x hx e => by
    have := orb_closed o1 (.inl rfl) e
    rcases this with rfl | rfl | rfl
    · exact T.nh0 hx
    · exact T.nh1 hx
    · exact T.nh2 hx
  have no2 : ∀ x, Dout S h0 h1 h2 p0 p1 p2 x → ¬ Orb (phi (cj t r) a) p0 x := fun x hx e => by
    have := orb_closed o2 (.inl rfl) e
    rcases this with rfl | rfl | rfl
    · exact T.np0 hx
    · exact T.np1 hx
    · exact T.np2 hx
  have hs : ∀ x, S x → (∃ y, (Dout S h0 h1 h2 p0 p1 p2 y ∨ y = h0) ∧ Orb (phi r a) x y) := by
    intro x hx
    by_cases hD : Dout S h0 h1 h2 p0 p1 p2 x
    · exact ⟨x, .inl hD, Orb.refl _ _⟩
    · rw [T.out hx, Classical.not_not] at hD
      rcases hD with rfl | rfl | rfl | rfl | rfl | rfl
      · exact ⟨x, .inr rfl, Orb.refl _ _⟩
      · exact ⟨h0, .inr rfl, 2, by show phi r a (phi r a x) = h0; rw [f1, f1, T.ah1, T.rp2, T.ah2, T.rp0]⟩
      · exact ⟨h0, .inr rfl, 1, by show phi r a x = h0; rw [f1, T.ah2, T.rp0]⟩
      · exact ⟨v2, .inl T.dv2, 1, by show phi r a x = v2; rw [f1, T.ap0, T.rh2]⟩
      · exact ⟨v0, .inl T.dv0, 1, by show phi r a x = v0; rw [f1, T.ap1, T.rh0]⟩
      · exact ⟨v1, .inl T.dv1, 1, by show phi r a x = v1; rw [f1, T.ap2, T.rh1]⟩
  have hs2 : ∀ x, S x → (∃ y, (Dout S h0 h1 h2 p0 p1 p2 y ∨ y = p0) ∧ Orb (phi (cj t r) a) x y) := by
    intro x hx
    by_cases hD : Dout S h0 h1 h2 p0 p1 p2 x
    · exact ⟨x, .inl hD, Orb.refl _ _⟩
    · rw [T.out hx, Classical.not_not] at hD
      rcases hD with rfl | rfl | rfl | rfl | rfl | rfl
      · exact ⟨u2, .inl T.du2, 1, by show phi (cj t r) a x = u2; rw [f2, T.ah0, T.cp1]⟩
      · exact ⟨u0, .inl T.du0, 1, by show phi (cj t r) a x = u0; rw [f2, T.ah1, T.cp2]⟩
      · exact ⟨u1, .inl T.du1, 1, by show phi (cj t r) a x = u1; rw [f2, T.ah2, T.cp0]⟩
      · exact ⟨x, .inr rfl, Orb.refl _ _⟩
      · exact ⟨p0, .inr rfl, 2, by show phi (cj t r) a (phi (cj t r) a x) = p0; rw [f2, f2, T.ap1, T.ch0, T.ap2, T.ch1]⟩
      · exact ⟨p0, .inr rfl, 1, by show phi (cj t r) a x = p0; rw [f2, T.ap2, T.ch1]⟩
  have c1 : Cls (fun x => Dout S h0 h1 h2 p0 p1 p2 x ∨ x = h0) (Orb (phi r a)) f := hf.sub (fun x hx => hx.elim (fun h => h.1) (fun e => e ▸ s0)) hs
  have c2 : Cls (fun x => Dout S h0 h1 h2 p0 p1 p2 x ∨ x = p0) (Orb (phi (cj t r) a)) f := by
    refine c1.map (fun x => if x = h0 then p0 else x) ?_ ?_ ?_
    · rintro x (hx | rfl)
      · show Dout _ _ _ _ _ _ _ (if x = h0 then p0 else x) ∨ (if x = h0 then p0 else x) = p0
        rw [if_neg hx.2.1]; exact .inl hx
      · show Dout _ _ _ _ _ _ _ (if x = x then p0 else x) ∨ (if x = x then p0 else x) = p0
        rw [if_pos rfl]; exact .inr rfl
    · rintro y (hy | rfl)
      · exact ⟨y, .inl hy, if_neg hy.2.1⟩
      · exact ⟨h0, .inr rfl, if_pos rfl⟩
    · rintro x y (hx | rfl) (hy | rfl)
      · show _ ↔ Orb _ (if x = h0 then p0 else x) (if y = h0 then p0 else y)
        rw [if_neg hx.2.1, if_neg hy.2.1]
        exact T.orb h hx hy
      · show _ ↔ Orb _ (if x = y then p0 else x) (if y = y then p0 else y)
        rw [if_neg hx.2.1, if_pos rfl]
        exact ⟨fun e => absurd (h.pb.symm hx.1 e) (no1 x hx), fun e => absurd (h'.pb.symm hx.1 e) (no2 x hx)⟩
      · show _ ↔ Orb _ (if x = x then p0 else x) (if y = x then p0 else y)
        rw [if_neg hy.2.1, if_pos rfl]
        exact ⟨fun e => absurd e (no1 y hy), fun e => absurd e (no2 y hy)⟩
      · show Orb _ y y ↔ Orb _ (if y = y then p0 else y) (if y = y then p0 else y)
        rw [if_pos rfl]
        exact ⟨fun _ => Orb.refl _ _, fun _ => Orb.refl _ _⟩
  exact c2.sup h'.pb.eqv (fun x hx => hx.elim (fun h => h.1) (fun e => e ▸ q0)) hs2
/-- THE SLIDE: a plane map stays plane. -/
theorem Tri.gen (h : Hm N S r a) (T : Tri S r a t h0 h1 h2 p0 p1 p2 u0 u1 u2 v0 v1 v2) {z : Int} (hz : Gen S r a z) : Gen S r (cj t a) z := by
  have h' : Hm N S (cj t r) a := ⟨h.rb.cj (T.tS) (fun x _ => T.tt x), h.ab, h.inv⟩
  obtain ⟨v, d, k, f, c, k1, k2, k3, k4, k5, rfl⟩ := hz
  have hs : ∀ y, S y → ∃ x, S x ∧ t x = y := fun y hy => ⟨t y, T.tS y hy, T.tt y⟩
  have g : Gen S (cj t r) a (2 * (c : Int) - v + d - k - f) := ⟨v, d, k, f, c, k1.map t T.tS hs (fun x y hx hy => orb_cj h.rb.maps (fun x _ => T.tt x) hx hy), k2, k3, T.faces h k4, k5.congr (fun _ => Iff.rfl) (fun x y hx _ => T.con h hx), rfl⟩
  exact Gen.congr (h'.cj T.tS (fun x _ => T.tt x)) (fun x hx => cj_cj h.rb.maps (fun x _ => T.tt x) hx) (fun _ _ => rfl) (g.cj h' T.tS (fun x _ => T.tt x))
end
end Go.Proofs.Ytobbepmlmbbamaa.Pl
end
