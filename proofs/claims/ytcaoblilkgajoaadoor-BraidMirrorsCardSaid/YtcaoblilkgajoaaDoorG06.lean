/-
 The texts Sld, Slr, Knk, Kval in one.
-/
import Derived.Test.YtcaoblilkgajoaaDoorG05
import Derived.Test.YtcaoblilkgajoaaDoorG00
set_option linter.unusedVariables false
set_option linter.unusedSimpArgs false
section
namespace Go.Proofs.YtcaoblilkgajoaaDoor.Pl
variable {N : Nat} {S : Nat → Prop} {r a : Nat → Nat}
/-- A map, renamed by an involution. -/
def cj (t f : Nat → Nat) (x : Nat) : Nat := t (f (t x))
theorem it_cj {t f : Nat → Nat} (hS : ∀ x, S x → S (f x)) (ht : ∀ x, S x → t (t x) = x) {x : Nat} (hx : S x) : ∀ k, it (cj t f) k (t x) = t (it f k x) ∧ S (it f k x)
 | 0 => ⟨rfl, hx⟩
 | k + 1 => by
   obtain ⟨h1, h2⟩ := it_cj hS ht hx k
   refine ⟨?_, hS _ h2⟩
   show cj t f (it (cj t f) k (t x)) = t (f (it f k x))
   rw [h1]
   unfold cj
   rw [ht _ h2]
theorem orb_cj {t f : Nat → Nat} (hS : ∀ x, S x → S (f x)) (ht : ∀ x, S x → t (t x) = x) {x y : Nat} (hx : S x) (hy : S y) : Orb f x y ↔ Orb (cj t f) (t x) (t y) := by
 constructor
 ·rintro ⟨k, rfl⟩
  exact ⟨k, (it_cj hS ht hx k).1⟩
 ·rintro ⟨k, hk⟩
  refine ⟨k, ?_⟩
  obtain ⟨h1, h2⟩ := it_cj hS ht hx k
  rw [h1] at hk
  have := congrArg t hk
  rwa [ht _ h2, ht _ hy] at this
theorem con_cj {t : Nat → Nat} (hr : ∀ x, S x → S (r x)) (ha : ∀ x, S x → S (a x)) (ht : ∀ x, S x → t (t x) = x) {x y : Nat} (hx : S x) (e : Con r a x y) : Con (cj t r) (cj t a) (t x) (t y) ∧ S y := by
 induction e with
 | refl => exact ⟨.refl, hx⟩
 | @left y e' ih =>
   refine ⟨?_, hr _ ih.2⟩
   have := ih.1.left
   rwa [show cj t r (t y) = t (r y) from by unfold cj; rw [ht _ ih.2]] at this
 | @right y e' ih =>
   refine ⟨?_, ha _ ih.2⟩
   have := ih.1.right
   rwa [show cj t a (t y) = t (a y) from by unfold cj; rw [ht _ ih.2]] at this
theorem cj_cj {t f : Nat → Nat} (hS : ∀ x, S x → S (f x)) (ht : ∀ x, S x → t (t x) = x) {x : Nat} (hx : S x) : cj t (cj t f) x = f x := by
 unfold cj
 rw [ht x hx, ht _ (hS x hx)]
theorem Bij.cj {t f : Nat → Nat} (h : Bij N S f) (hm : ∀ x, S x → S (t x)) (ht : ∀ x, S x → t (t x) = x) : Bij N S (Pl.cj t f) :=
 ⟨h.lt, fun x hx => hm _ (h.maps _ (hm x hx)), fun x y hx hy e => by
   have e1 := congrArg t e
   unfold Pl.cj at e1
   rw [ht _ (h.maps _ (hm x hx)), ht _ (h.maps _ (hm y hy))] at e1
   have e2 := h.inj _ _ (hm x hx) (hm y hy) e1
   have e3 := congrArg t e2
   rwa [ht x hx, ht y hy] at e3⟩
theorem Hm.cj {t : Nat → Nat} (h : Hm N S r a) (hm : ∀ x, S x → S (t x)) (ht : ∀ x, S x → t (t x) = x) : Hm N S (Pl.cj t r) (Pl.cj t a) :=
 ⟨h.rb.cj hm ht, h.ab.cj hm ht, fun x hx => by
   unfold Pl.cj
   rw [ht _ (h.ab.maps _ (hm x hx)), h.inv _ (hm x hx), ht x hx]⟩
/-- The genus does not depend on the names. -/
theorem Gen.cj {t : Nat → Nat} {z : Int} (h : Hm N S r a) (hm : ∀ x, S x → S (t x)) (ht : ∀ x, S x → t (t x) = x) (hz : Gen S r a z) : Gen S (Pl.cj t r) (Pl.cj t a) z := by
 obtain ⟨v, d, k, f, c, h1, h2, h3, h4, h5, rfl⟩ := hz
 have hs : ∀ y, S y → ∃ x, S x ∧ t x = y := fun y hy => ⟨t y, hm y hy, ht y hy⟩
 refine ⟨v, d, k, f, c, h1.map t hm hs (fun x y hx hy => orb_cj h.rb.maps ht hx hy), h2, h3.map t hm hs (fun x y hx hy => orb_cj h.ab.maps ht hx hy), ?_, ?_, rfl⟩
 ·refine (h4.map t hm hs (fun x y hx hy => orb_cj (t := t) h.pb.maps ht hx hy)).congr (fun _ => Iff.rfl) (fun x y hx _ => ?_)
  refine Orb.congr (h.pb.cj hm ht).maps (fun z hz => ?_) hx
  show t (r (a (t z))) = t (r (t (t (a (t z)))))
  rw [ht _ (h.ab.maps _ (hm z hz))]
 ·refine h5.map t hm hs (fun x y hx hy => ⟨fun e => (con_cj h.rb.maps h.ab.maps ht hx e).1, fun e => ?_⟩)
  have e1 := (con_cj (S := S) (h.rb.cj hm ht).maps (h.ab.cj hm ht).maps ht (hm x hx) e).1
  rw [ht x hx, ht y hy] at e1
  exact (Con.congr (h.rb.cj hm ht |>.cj hm ht).maps (h.ab.cj hm ht |>.cj hm ht).maps (fun x hx => cj_cj h.rb.maps ht hx) (fun x hx => cj_cj h.ab.maps ht hx) hx).1 e1
/-- First returns: where two maps lead from each place of D to the next one of D alike. -/
theorem orb_ret {f g : Nat → Nat} {D : Nat → Prop} (hf : ∀ x, D x → D (f x) ∧ Orb g x (f x) ∨ D (f (f x)) ∧ ¬ D (f x) ∧ Orb g x (f (f x))) {x y : Nat} (hx : D x) (hy : D y) : Orb f x y → Orb g x y := by
 rintro ⟨k, hk⟩
 induction k using Nat.strongRecOn generalizing x with
 | ind k ih =>
   match k, hk with
   | 0, hk => exact hk ▸ Orb.refl g x
   | k + 1, hk =>
     rw [it_succ'] at hk
     rcases hf x hx with ⟨h1, h2⟩ | ⟨h1, h2, h3⟩
     ·exact h2.trans (ih k (by omega) h1 hk)
     ·match k, hk with
      | 0, hk => exact absurd (show D (f x) from (show f x = y from hk).symm ▸ hy) h2
      | k + 1, hk =>
        rw [it_succ'] at hk
        exact h3.trans (ih k (by omega) h1 hk)
/-- A triangle: h k, its mates p (k + 1), and the outer ends u k, v k, at three places in turn; t changes the names: u k and p (k + 1), v k and h (k - 1). -/
structure Tri (S : Nat → Prop) (r a t : Nat → Nat) (h0 h1 h2 p0 p1 p2 u0 u1 u2 v0 v1 v2 : Nat) : Prop where
 mem : ∀ x, x ∈ [h0, h1, h2, p0, p1, p2, u0, u1, u2, v0, v1, v2] → S x
 rv0 : r v0 = u0
 rv1 : r v1 = u1
 rv2 : r v2 = u2
 ru0 : r u0 = p0
 ru1 : r u1 = p1
 ru2 : r u2 = p2
 rp0 : r p0 = h0
 rp1 : r p1 = h1
 rp2 : r p2 = h2
 rh0 : r h0 = v0
 rh1 : r h1 = v1
 rh2 : r h2 = v2
 ah0 : a h0 = p1
 ah1 : a h1 = p2
 ah2 : a h2 = p0
 ap1 : a p1 = h0
 ap2 : a p2 = h1
 ap0 : a p0 = h2
 nd : [h0, h1, h2, p0, p1, p2, u0, u1, u2, v0, v1, v2].Nodup
 tu0 : t u0 = p1
 tu1 : t u1 = p2
 tu2 : t u2 = p0
 tp1 : t p1 = u0
 tp2 : t p2 = u1
 tp0 : t p0 = u2
 tv0 : t v0 = h2
 tv1 : t v1 = h0
 tv2 : t v2 = h1
 th2 : t h2 = v0
 th0 : t h0 = v1
 th1 : t h1 = v2
 tx : ∀ x, x ∉ [h0, h1, h2, p0, p1, p2, u0, u1, u2, v0, v1, v2] → t x = x
section
variable {t : Nat → Nat} {h0 h1 h2 p0 p1 p2 u0 u1 u2 v0 v1 v2 : Nat}
/-- The outer places. -/
def Dout (S : Nat → Prop) (h0 h1 h2 p0 p1 p2 x : Nat) : Prop := S x ∧ x ≠ h0 ∧ x ≠ h1 ∧ x ≠ h2 ∧ x ≠ p0 ∧ x ≠ p1 ∧ x ≠ p2
theorem Tri.tt (T : Tri S r a t h0 h1 h2 p0 p1 p2 u0 u1 u2 v0 v1 v2) (x : Nat) : t (t x) = x := by
 by_cases hx : x ∈ [h0, h1, h2, p0, p1, p2, u0, u1, u2, v0, v1, v2]
 ·simp only [List.mem_cons, List.not_mem_nil, or_false] at hx
  rcases hx with rfl | rfl | rfl | rfl | rfl | rfl | rfl | rfl | rfl | rfl | rfl | rfl
  ·rw [T.th0, T.tv1]
  ·rw [T.th1, T.tv2]
  ·rw [T.th2, T.tv0]
  ·rw [T.tp0, T.tu2]
  ·rw [T.tp1, T.tu0]
  ·rw [T.tp2, T.tu1]
  ·rw [T.tu0, T.tp1]
  ·rw [T.tu1, T.tp2]
  ·rw [T.tu2, T.tp0]
  ·rw [T.tv0, T.th2]
  ·rw [T.tv1, T.th0]
  ·rw [T.tv2, T.th1]
 ·rw [T.tx x hx, T.tx x hx]
theorem Tri.tS (T : Tri S r a t h0 h1 h2 p0 p1 p2 u0 u1 u2 v0 v1 v2) (x : Nat) (hx : S x) : S (t x) := by
 by_cases hm : x ∈ [h0, h1, h2, p0, p1, p2, u0, u1, u2, v0, v1, v2]
 ·refine T.mem _ ?_
  simp only [List.mem_cons, List.not_mem_nil, or_false] at hm
  rcases hm with rfl | rfl | rfl | rfl | rfl | rfl | rfl | rfl | rfl | rfl | rfl | rfl <;>
   simp [T.tu0, T.tu1, T.tu2, T.tp0, T.tp1, T.tp2, T.tv0, T.tv1, T.tv2, T.th0, T.th1, T.th2]
 ·rw [T.tx x hm]; exact hx
theorem Tri.ch0 (T : Tri S r a t h0 h1 h2 p0 p1 p2 u0 u1 u2 v0 v1 v2) : cj t r h0 = p2 := by unfold cj; rw [T.th0, T.rv1, T.tu1]
theorem Tri.ch1 (T : Tri S r a t h0 h1 h2 p0 p1 p2 u0 u1 u2 v0 v1 v2) : cj t r h1 = p0 := by unfold cj; rw [T.th1, T.rv2, T.tu2]
theorem Tri.ch2 (T : Tri S r a t h0 h1 h2 p0 p1 p2 u0 u1 u2 v0 v1 v2) : cj t r h2 = p1 := by unfold cj; rw [T.th2, T.rv0, T.tu0]
theorem Tri.cp0 (T : Tri S r a t h0 h1 h2 p0 p1 p2 u0 u1 u2 v0 v1 v2) : cj t r p0 = u1 := by unfold cj; rw [T.tp0, T.ru2, T.tp2]
theorem Tri.cp1 (T : Tri S r a t h0 h1 h2 p0 p1 p2 u0 u1 u2 v0 v1 v2) : cj t r p1 = u2 := by unfold cj; rw [T.tp1, T.ru0, T.tp0]
theorem Tri.cp2 (T : Tri S r a t h0 h1 h2 p0 p1 p2 u0 u1 u2 v0 v1 v2) : cj t r p2 = u0 := by unfold cj; rw [T.tp2, T.ru1, T.tp1]
theorem Tri.cu0 (T : Tri S r a t h0 h1 h2 p0 p1 p2 u0 u1 u2 v0 v1 v2) : cj t r u0 = v2 := by unfold cj; rw [T.tu0, T.rp1, T.th1]
theorem Tri.cu1 (T : Tri S r a t h0 h1 h2 p0 p1 p2 u0 u1 u2 v0 v1 v2) : cj t r u1 = v0 := by unfold cj; rw [T.tu1, T.rp2, T.th2]
theorem Tri.cu2 (T : Tri S r a t h0 h1 h2 p0 p1 p2 u0 u1 u2 v0 v1 v2) : cj t r u2 = v1 := by unfold cj; rw [T.tu2, T.rp0, T.th0]
theorem Tri.cv0 (T : Tri S r a t h0 h1 h2 p0 p1 p2 u0 u1 u2 v0 v1 v2) : cj t r v0 = h1 := by unfold cj; rw [T.tv0, T.rh2, T.tv2]
theorem Tri.cv1 (T : Tri S r a t h0 h1 h2 p0 p1 p2 u0 u1 u2 v0 v1 v2) : cj t r v1 = h2 := by unfold cj; rw [T.tv1, T.rh0, T.tv0]
theorem Tri.cv2 (T : Tri S r a t h0 h1 h2 p0 p1 p2 u0 u1 u2 v0 v1 v2) : cj t r v2 = h0 := by unfold cj; rw [T.tv2, T.rh1, T.tv1]
theorem Tri.cx (h : Hm N S r a) (T : Tri S r a t h0 h1 h2 p0 p1 p2 u0 u1 u2 v0 v1 v2) {x : Nat} (hS : S x) (hx : x ∉ [h0, h1, h2, p0, p1, p2, u0, u1, u2, v0, v1, v2]) : r x ∉ [h0, h1, h2, p0, p1, p2, u0, u1, u2, v0, v1, v2] ∧ cj t r x = r x := by
 have key : r x ∉ [h0, h1, h2, p0, p1, p2, u0, u1, u2, v0, v1, v2] := by
  intro hm
  apply hx
  simp only [List.mem_cons, List.not_mem_nil, or_false] at hm
  rcases hm with e | e | e | e | e | e | e | e | e | e | e | e
  ·rw [h.rb.inj x p0 hS (T.mem _ (by simp)) (e.trans T.rp0.symm)]; simp
  ·rw [h.rb.inj x p1 hS (T.mem _ (by simp)) (e.trans T.rp1.symm)]; simp
  ·rw [h.rb.inj x p2 hS (T.mem _ (by simp)) (e.trans T.rp2.symm)]; simp
  ·rw [h.rb.inj x u0 hS (T.mem _ (by simp)) (e.trans T.ru0.symm)]; simp
  ·rw [h.rb.inj x u1 hS (T.mem _ (by simp)) (e.trans T.ru1.symm)]; simp
  ·rw [h.rb.inj x u2 hS (T.mem _ (by simp)) (e.trans T.ru2.symm)]; simp
  ·rw [h.rb.inj x v0 hS (T.mem _ (by simp)) (e.trans T.rv0.symm)]; simp
  ·rw [h.rb.inj x v1 hS (T.mem _ (by simp)) (e.trans T.rv1.symm)]; simp
  ·rw [h.rb.inj x v2 hS (T.mem _ (by simp)) (e.trans T.rv2.symm)]; simp
  ·rw [h.rb.inj x h0 hS (T.mem _ (by simp)) (e.trans T.rh0.symm)]; simp
  ·rw [h.rb.inj x h1 hS (T.mem _ (by simp)) (e.trans T.rh1.symm)]; simp
  ·rw [h.rb.inj x h2 hS (T.mem _ (by simp)) (e.trans T.rh2.symm)]; simp
 refine ⟨key, ?_⟩
 unfold cj
 rw [T.tx x hx, T.tx _ key]
theorem Tri.out (T : Tri S r a t h0 h1 h2 p0 p1 p2 u0 u1 u2 v0 v1 v2) {x : Nat} (hS : S x) : Dout S h0 h1 h2 p0 p1 p2 x ↔ ¬ (x = h0 ∨ x = h1 ∨ x = h2 ∨ x = p0 ∨ x = p1 ∨ x = p2) := by
 unfold Dout
 simp only [not_or]
 exact ⟨fun h => h.2, fun h => ⟨hS, h⟩⟩
theorem Tri.du0 (T : Tri S r a t h0 h1 h2 p0 p1 p2 u0 u1 u2 v0 v1 v2) : Dout S h0 h1 h2 p0 p1 p2 u0 := by
 have hn := T.nd
 simp only [List.nodup_cons, List.mem_cons, List.not_mem_nil, or_false, not_or] at hn
 refine ⟨T.mem _ (by simp), ?_, ?_, ?_, ?_, ?_, ?_⟩ <;> (intro e; rw [e] at hn; simp at hn)
theorem Tri.du1 (T : Tri S r a t h0 h1 h2 p0 p1 p2 u0 u1 u2 v0 v1 v2) : Dout S h0 h1 h2 p0 p1 p2 u1 := by
 have hn := T.nd
 simp only [List.nodup_cons, List.mem_cons, List.not_mem_nil, or_false, not_or] at hn
 refine ⟨T.mem _ (by simp), ?_, ?_, ?_, ?_, ?_, ?_⟩ <;> (intro e; rw [e] at hn; simp at hn)
theorem Tri.du2 (T : Tri S r a t h0 h1 h2 p0 p1 p2 u0 u1 u2 v0 v1 v2) : Dout S h0 h1 h2 p0 p1 p2 u2 := by
 have hn := T.nd
 simp only [List.nodup_cons, List.mem_cons, List.not_mem_nil, or_false, not_or] at hn
 refine ⟨T.mem _ (by simp), ?_, ?_, ?_, ?_, ?_, ?_⟩ <;> (intro e; rw [e] at hn; simp at hn)
theorem Tri.dv0 (T : Tri S r a t h0 h1 h2 p0 p1 p2 u0 u1 u2 v0 v1 v2) : Dout S h0 h1 h2 p0 p1 p2 v0 := by
 have hn := T.nd
 simp only [List.nodup_cons, List.mem_cons, List.not_mem_nil, or_false, not_or] at hn
 refine ⟨T.mem _ (by simp), ?_, ?_, ?_, ?_, ?_, ?_⟩ <;> (intro e; rw [e] at hn; simp at hn)
theorem Tri.dv1 (T : Tri S r a t h0 h1 h2 p0 p1 p2 u0 u1 u2 v0 v1 v2) : Dout S h0 h1 h2 p0 p1 p2 v1 := by
 have hn := T.nd
 simp only [List.nodup_cons, List.mem_cons, List.not_mem_nil, or_false, not_or] at hn
 refine ⟨T.mem _ (by simp), ?_, ?_, ?_, ?_, ?_, ?_⟩ <;> (intro e; rw [e] at hn; simp at hn)
theorem Tri.dv2 (T : Tri S r a t h0 h1 h2 p0 p1 p2 u0 u1 u2 v0 v1 v2) : Dout S h0 h1 h2 p0 p1 p2 v2 := by
 have hn := T.nd
 simp only [List.nodup_cons, List.mem_cons, List.not_mem_nil, or_false, not_or] at hn
 refine ⟨T.mem _ (by simp), ?_, ?_, ?_, ?_, ?_, ?_⟩ <;> (intro e; rw [e] at hn; simp at hn)
theorem Tri.nh0 (T : Tri S r a t h0 h1 h2 p0 p1 p2 u0 u1 u2 v0 v1 v2) : ¬ Dout S h0 h1 h2 p0 p1 p2 h0 := fun h => by unfold Dout at h; simp at h
theorem Tri.nh1 (T : Tri S r a t h0 h1 h2 p0 p1 p2 u0 u1 u2 v0 v1 v2) : ¬ Dout S h0 h1 h2 p0 p1 p2 h1 := fun h => by unfold Dout at h; simp at h
theorem Tri.nh2 (T : Tri S r a t h0 h1 h2 p0 p1 p2 u0 u1 u2 v0 v1 v2) : ¬ Dout S h0 h1 h2 p0 p1 p2 h2 := fun h => by unfold Dout at h; simp at h
theorem Tri.np0 (T : Tri S r a t h0 h1 h2 p0 p1 p2 u0 u1 u2 v0 v1 v2) : ¬ Dout S h0 h1 h2 p0 p1 p2 p0 := fun h => by unfold Dout at h; simp at h
theorem Tri.np1 (T : Tri S r a t h0 h1 h2 p0 p1 p2 u0 u1 u2 v0 v1 v2) : ¬ Dout S h0 h1 h2 p0 p1 p2 p1 := fun h => by unfold Dout at h; simp at h
theorem Tri.np2 (T : Tri S r a t h0 h1 h2 p0 p1 p2 u0 u1 u2 v0 v1 v2) : ¬ Dout S h0 h1 h2 p0 p1 p2 p2 := fun h => by unfold Dout at h; simp at h
theorem Tri.da (h : Hm N S r a) (T : Tri S r a t h0 h1 h2 p0 p1 p2 u0 u1 u2 v0 v1 v2) {x : Nat} (hx : Dout S h0 h1 h2 p0 p1 p2 x) : Dout S h0 h1 h2 p0 p1 p2 (a x) := by
 obtain ⟨hS, n0, n1, n2, m0, m1, m2⟩ := hx
 have hi := h.inv x hS
 refine ⟨h.ab.maps x hS, ?_, ?_, ?_, ?_, ?_, ?_⟩ <;> intro e <;> rw [e] at hi
 ·rw [T.ah0] at hi; exact m1 hi.symm
 ·rw [T.ah1] at hi; exact m2 hi.symm
 ·rw [T.ah2] at hi; exact m0 hi.symm
 ·rw [T.ap0] at hi; exact n2 hi.symm
 ·rw [T.ap1] at hi; exact n0 hi.symm
 ·rw [T.ap2] at hi; exact n1 hi.symm
/-- The next outer place: old and new. -/
theorem Tri.next (h : Hm N S r a) (T : Tri S r a t h0 h1 h2 p0 p1 p2 u0 u1 u2 v0 v1 v2) {x : Nat} (hx : Dout S h0 h1 h2 p0 p1 p2 x) :
 (Dout S h0 h1 h2 p0 p1 p2 (phi r a x) ∧ ¬ Dout S h0 h1 h2 p0 p1 p2 (phi (cj t r) a x) ∧ phi (cj t r) a (phi (cj t r) a x) = phi r a x) ∨
 (¬ Dout S h0 h1 h2 p0 p1 p2 (phi r a x) ∧ Dout S h0 h1 h2 p0 p1 p2 (phi (cj t r) a x) ∧ phi r a (phi r a x) = phi (cj t r) a x) ∨
 (Dout S h0 h1 h2 p0 p1 p2 (phi r a x) ∧ phi (cj t r) a x = phi r a x) := by
 have hd := T.da h hx
 obtain ⟨y, hy⟩ : ∃ y, y = a x := ⟨_, rfl⟩
 have e1 : phi r a x = r y := by rw [hy]; rfl
 have e2 : phi (cj t r) a x = cj t r y := by rw [hy]; rfl
 rw [← hy] at hd
 rw [e1, e2]
 have f1 : ∀ z, phi r a z = r (a z) := fun z => rfl
 have f2 : ∀ z, phi (cj t r) a z = cj t r (a z) := fun z => rfl
 simp only [f1, f2]
 by_cases hm : y ∈ [h0, h1, h2, p0, p1, p2, u0, u1, u2, v0, v1, v2]
 ·obtain ⟨_, n0, n1, n2, m0, m1, m2⟩ := hd
  simp only [List.mem_cons, List.not_mem_nil, or_false] at hm
  rcases hm with e | e | e | e | e | e | e | e | e | e | e | e
  ·exact absurd e n0
  ·exact absurd e n1
  ·exact absurd e n2
  ·exact absurd e m0
  ·exact absurd e m1
  ·exact absurd e m2
  ·rw [e, T.ru0, T.cu0, T.ap0, T.rh2]; exact .inr (.inl ⟨T.np0, T.dv2, rfl⟩)
  ·rw [e, T.ru1, T.cu1, T.ap1, T.rh0]; exact .inr (.inl ⟨T.np1, T.dv0, rfl⟩)
  ·rw [e, T.ru2, T.cu2, T.ap2, T.rh1]; exact .inr (.inl ⟨T.np2, T.dv1, rfl⟩)
  ·rw [e, T.rv0, T.cv0, T.ah1, T.cp2]; exact .inl ⟨T.du0, T.nh1, rfl⟩
  ·rw [e, T.rv1, T.cv1, T.ah2, T.cp0]; exact .inl ⟨T.du1, T.nh2, rfl⟩
  ·rw [e, T.rv2, T.cv2, T.ah0, T.cp1]; exact .inl ⟨T.du2, T.nh0, rfl⟩
 ·obtain ⟨k1, k2⟩ := T.cx h hd.1 hm
  rw [k2]
  refine .inr (.inr ⟨⟨h.rb.maps _ hd.1, ?_⟩, rfl⟩)
  simp only [List.mem_cons, List.not_mem_nil, or_false, not_or] at k1
  exact ⟨k1.1, k1.2.1, k1.2.2.1, k1.2.2.2.1, k1.2.2.2.2.1, k1.2.2.2.2.2.1⟩
theorem Tri.orb (h : Hm N S r a) (T : Tri S r a t h0 h1 h2 p0 p1 p2 u0 u1 u2 v0 v1 v2) {x y : Nat} (hx : Dout S h0 h1 h2 p0 p1 p2 x) (hy : Dout S h0 h1 h2 p0 p1 p2 y) : Orb (phi r a) x y ↔ Orb (phi (cj t r) a) x y := by
 constructor
 ·refine orb_ret (fun z hz => ?_) hx hy
  rcases T.next h hz with ⟨k1, k2, k3⟩ | ⟨k1, k2, k3⟩ | ⟨k1, k2⟩
  ·exact .inl ⟨k1, 2, k3⟩
  ·exact .inr ⟨by rw [k3]; exact k2, k1, 1, k3.symm⟩
  ·exact .inl ⟨k1, 1, k2⟩
 ·refine orb_ret (fun z hz => ?_) hx hy
  rcases T.next h hz with ⟨k1, k2, k3⟩ | ⟨k1, k2, k3⟩ | ⟨k1, k2⟩
  ·exact .inr ⟨by rw [k3]; exact k1, k2, 1, k3.symm⟩
  ·exact .inl ⟨k2, 2, k3⟩
  ·exact .inl ⟨by rw [k2]; exact k1, 1, k2.symm⟩
theorem con_r {r a : Nat → Nat} {x y z : Nat} (e : r x = y) (h : Con r a y z) : Con r a x z := (Con.left (.refl (f := r) (g := a) (x := x))).trans (e.symm ▸ h)
theorem con_a {r a : Nat → Nat} {x y z : Nat} (e : a x = y) (h : Con r a y z) : Con r a x z := (Con.right (.refl (f := r) (g := a) (x := x))).trans (e.symm ▸ h)
theorem Tri.con_o (T : Tri S r a t h0 h1 h2 p0 p1 p2 u0 u1 u2 v0 v1 v2) {x : Nat} (hx : x ∈ [h0, h1, h2, p0, p1, p2, u0, u1, u2, v0, v1, v2]) : Con (r) a x h0 := by
 simp only [List.mem_cons, List.not_mem_nil, or_false] at hx
 rcases hx with rfl | rfl | rfl | rfl | rfl | rfl | rfl | rfl | rfl | rfl | rfl | rfl
 ·exact .refl
 ·exact con_r T.rh1 (con_r T.rv1 (con_r T.ru1 (con_a T.ap1 (.refl))))
 ·exact con_a T.ah2 (con_r T.rp0 (.refl))
 ·exact con_r T.rp0 (.refl)
 ·exact con_a T.ap1 (.refl)
 ·exact con_r T.rp2 (con_a T.ah2 (con_r T.rp0 (.refl)))
 ·exact con_r T.ru0 (con_r T.rp0 (.refl))
 ·exact con_r T.ru1 (con_a T.ap1 (.refl))
 ·exact con_r T.ru2 (con_r T.rp2 (con_a T.ah2 (con_r T.rp0 (.refl))))
 ·exact con_r T.rv0 (con_r T.ru0 (con_r T.rp0 (.refl)))
 ·exact con_r T.rv1 (con_r T.ru1 (con_a T.ap1 (.refl)))
 ·exact con_r T.rv2 (con_r T.ru2 (con_r T.rp2 (con_a T.ah2 (con_r T.rp0 (.refl)))))
theorem Tri.con_n (T : Tri S r a t h0 h1 h2 p0 p1 p2 u0 u1 u2 v0 v1 v2) {x : Nat} (hx : x ∈ [h0, h1, h2, p0, p1, p2, u0, u1, u2, v0, v1, v2]) : Con (cj t r) a x h0 := by
 simp only [List.mem_cons, List.not_mem_nil, or_false] at hx
 rcases hx with rfl | rfl | rfl | rfl | rfl | rfl | rfl | rfl | rfl | rfl | rfl | rfl
 ·exact .refl
 ·exact con_r T.ch1 (con_a T.ap0 (con_r T.ch2 (con_a T.ap1 (.refl))))
 ·exact con_r T.ch2 (con_a T.ap1 (.refl))
 ·exact con_a T.ap0 (con_r T.ch2 (con_a T.ap1 (.refl)))
 ·exact con_a T.ap1 (.refl)
 ·exact con_r T.cp2 (con_r T.cu0 (con_r T.cv2 (.refl)))
 ·exact con_r T.cu0 (con_r T.cv2 (.refl))
 ·exact con_r T.cu1 (con_r T.cv0 (con_r T.ch1 (con_a T.ap0 (con_r T.ch2 (con_a T.ap1 (.refl))))))
 ·exact con_r T.cu2 (con_r T.cv1 (con_r T.ch2 (con_a T.ap1 (.refl))))
 ·exact con_r T.cv0 (con_r T.ch1 (con_a T.ap0 (con_r T.ch2 (con_a T.ap1 (.refl)))))
 ·exact con_r T.cv1 (con_r T.ch2 (con_a T.ap1 (.refl)))
 ·exact con_r T.cv2 (.refl)
theorem Tri.con (h : Hm N S r a) (T : Tri S r a t h0 h1 h2 p0 p1 p2 u0 u1 u2 v0 v1 v2) {x y : Nat} (hx : S x) : Con r a x y ↔ Con (cj t r) a x y := by
 have h' : Hm N S (cj t r) a := ⟨h.rb.cj (T.tS) (fun x _ => T.tt x), h.ab, h.inv⟩
 have s0 : S h0 := T.mem _ (by simp)
 constructor
 ·refine con_sub h h'.ceqv (fun z hz => ?_) (fun z hz => .right .refl) hx
  by_cases hm : z ∈ [h0, h1, h2, p0, p1, p2, u0, u1, u2, v0, v1, v2]
  ·refine (T.con_n hm).trans (h'.con_symm (h.rb.maps _ hz) (T.con_n ?_))
   simp only [List.mem_cons, List.not_mem_nil, or_false] at hm
   rcases hm with rfl | rfl | rfl | rfl | rfl | rfl | rfl | rfl | rfl | rfl | rfl | rfl <;> simp [T.ru0, T.ru1, T.ru2, T.rv0, T.rv1, T.rv2, T.rp0, T.rp1, T.rp2, T.rh0, T.rh1, T.rh2]
  ·exact con_r (T.cx h hz hm).2 .refl
 ·refine con_sub h' h.ceqv (fun z hz => ?_) (fun z hz => .right .refl) hx
  by_cases hm : z ∈ [h0, h1, h2, p0, p1, p2, u0, u1, u2, v0, v1, v2]
  ·refine (T.con_o hm).trans (h.con_symm (h'.rb.maps _ hz) (T.con_o ?_))
   simp only [List.mem_cons, List.not_mem_nil, or_false] at hm
   rcases hm with rfl | rfl | rfl | rfl | rfl | rfl | rfl | rfl | rfl | rfl | rfl | rfl <;> simp [T.cu0, T.cu1, T.cu2, T.cv0, T.cv1, T.cv2, T.cp0, T.cp1, T.cp2, T.ch0, T.ch1, T.ch2]
  ·exact con_r (T.cx h hz hm).2.symm .refl
/-- As many faces. -/
theorem Tri.faces (h : Hm N S r a) (T : Tri S r a t h0 h1 h2 p0 p1 p2 u0 u1 u2 v0 v1 v2) {f : Nat} (hf : Cls S (Orb (phi r a)) f) : Cls S (Orb (phi (cj t r) a)) f := by
 have h' : Hm N S (cj t r) a := ⟨h.rb.cj (T.tS) (fun x _ => T.tt x), h.ab, h.inv⟩
 have f1 : ∀ z, phi r a z = r (a z) := fun z => rfl
 have f2 : ∀ z, phi (cj t r) a z = cj t r (a z) := fun z => rfl
 have s0 : S h0 := T.mem _ (by simp)
 have q0 : S p0 := T.mem _ (by simp)
 -- the triangle's own face, old
 have o1 : ∀ x, (x = h0 ∨ x = h1 ∨ x = h2) → (phi r a x = h0 ∨ phi r a x = h1 ∨ phi r a x = h2) := by
  rintro x (rfl | rfl | rfl)
  ·rw [f1, T.ah0, T.rp1]; exact .inr (.inl rfl)
  ·rw [f1, T.ah1, T.rp2]; exact .inr (.inr rfl)
  ·rw [f1, T.ah2, T.rp0]; exact .inl rfl
 have o2 : ∀ x, (x = p0 ∨ x = p1 ∨ x = p2) → (phi (cj t r) a x = p0 ∨ phi (cj t r) a x = p1 ∨ phi (cj t r) a x = p2) := by
  rintro x (rfl | rfl | rfl)
  ·rw [f2, T.ap0, T.ch2]; exact .inr (.inl rfl)
  ·rw [f2, T.ap1, T.ch0]; exact .inr (.inr rfl)
  ·rw [f2, T.ap2, T.ch1]; exact .inl rfl
 have no1 : ∀ x, Dout S h0 h1 h2 p0 p1 p2 x → ¬ Orb (phi r a) h0 x := fun x hx e => by
  have := orb_closed o1 (.inl rfl) e
  rcases this with rfl | rfl | rfl
  ·exact T.nh0 hx
  ·exact T.nh1 hx
  ·exact T.nh2 hx
 have no2 : ∀ x, Dout S h0 h1 h2 p0 p1 p2 x → ¬ Orb (phi (cj t r) a) p0 x := fun x hx e => by
  have := orb_closed o2 (.inl rfl) e
  rcases this with rfl | rfl | rfl
  ·exact T.np0 hx
  ·exact T.np1 hx
  ·exact T.np2 hx
 have hs : ∀ x, S x → (∃ y, (Dout S h0 h1 h2 p0 p1 p2 y ∨ y = h0) ∧ Orb (phi r a) x y) := by
  intro x hx
  by_cases hD : Dout S h0 h1 h2 p0 p1 p2 x
  ·exact ⟨x, .inl hD, Orb.refl _ _⟩
  ·rw [T.out hx, Classical.not_not] at hD
   rcases hD with rfl | rfl | rfl | rfl | rfl | rfl
   ·exact ⟨x, .inr rfl, Orb.refl _ _⟩
   ·exact ⟨h0, .inr rfl, 2, by show phi r a (phi r a x) = h0; rw [f1, f1, T.ah1, T.rp2, T.ah2, T.rp0]⟩
   ·exact ⟨h0, .inr rfl, 1, by show phi r a x = h0; rw [f1, T.ah2, T.rp0]⟩
   ·exact ⟨v2, .inl T.dv2, 1, by show phi r a x = v2; rw [f1, T.ap0, T.rh2]⟩
   ·exact ⟨v0, .inl T.dv0, 1, by show phi r a x = v0; rw [f1, T.ap1, T.rh0]⟩
   ·exact ⟨v1, .inl T.dv1, 1, by show phi r a x = v1; rw [f1, T.ap2, T.rh1]⟩
 have hs2 : ∀ x, S x → (∃ y, (Dout S h0 h1 h2 p0 p1 p2 y ∨ y = p0) ∧ Orb (phi (cj t r) a) x y) := by
  intro x hx
  by_cases hD : Dout S h0 h1 h2 p0 p1 p2 x
  ·exact ⟨x, .inl hD, Orb.refl _ _⟩
  ·rw [T.out hx, Classical.not_not] at hD
   rcases hD with rfl | rfl | rfl | rfl | rfl | rfl
   ·exact ⟨u2, .inl T.du2, 1, by show phi (cj t r) a x = u2; rw [f2, T.ah0, T.cp1]⟩
   ·exact ⟨u0, .inl T.du0, 1, by show phi (cj t r) a x = u0; rw [f2, T.ah1, T.cp2]⟩
   ·exact ⟨u1, .inl T.du1, 1, by show phi (cj t r) a x = u1; rw [f2, T.ah2, T.cp0]⟩
   ·exact ⟨x, .inr rfl, Orb.refl _ _⟩
   ·exact ⟨p0, .inr rfl, 2, by show phi (cj t r) a (phi (cj t r) a x) = p0; rw [f2, f2, T.ap1, T.ch0, T.ap2, T.ch1]⟩
   ·exact ⟨p0, .inr rfl, 1, by show phi (cj t r) a x = p0; rw [f2, T.ap2, T.ch1]⟩
 have c1 : Cls (fun x => Dout S h0 h1 h2 p0 p1 p2 x ∨ x = h0) (Orb (phi r a)) f := hf.sub (fun x hx => hx.elim (fun h => h.1) (fun e => e ▸ s0)) hs
 have c2 : Cls (fun x => Dout S h0 h1 h2 p0 p1 p2 x ∨ x = p0) (Orb (phi (cj t r) a)) f := by
  refine c1.map (fun x => if x = h0 then p0 else x) ?_ ?_ ?_
  ·rintro x (hx | rfl)
   ·show Dout _ _ _ _ _ _ _ (if x = h0 then p0 else x) ∨ (if x = h0 then p0 else x) = p0
    rw [if_neg hx.2.1]; exact .inl hx
   ·show Dout _ _ _ _ _ _ _ (if x = x then p0 else x) ∨ (if x = x then p0 else x) = p0
    rw [if_pos rfl]; exact .inr rfl
  ·rintro y (hy | rfl)
   ·exact ⟨y, .inl hy, if_neg hy.2.1⟩
   ·exact ⟨h0, .inr rfl, if_pos rfl⟩
  ·rintro x y (hx | rfl) (hy | rfl)
   ·show _ ↔ Orb _ (if x = h0 then p0 else x) (if y = h0 then p0 else y)
    rw [if_neg hx.2.1, if_neg hy.2.1]
    exact T.orb h hx hy
   ·show _ ↔ Orb _ (if x = y then p0 else x) (if y = y then p0 else y)
    rw [if_neg hx.2.1, if_pos rfl]
    exact ⟨fun e => absurd (h.pb.symm hx.1 e) (no1 x hx), fun e => absurd (h'.pb.symm hx.1 e) (no2 x hx)⟩
   ·show _ ↔ Orb _ (if x = x then p0 else x) (if y = x then p0 else y)
    rw [if_neg hy.2.1, if_pos rfl]
    exact ⟨fun e => absurd e (no1 y hy), fun e => absurd e (no2 y hy)⟩
   ·show Orb _ y y ↔ Orb _ (if y = y then p0 else y) (if y = y then p0 else y)
    rw [if_pos rfl]
    exact ⟨fun _ => Orb.refl _ _, fun _ => Orb.refl _ _⟩
 exact c2.sup h'.pb.eqv (fun x hx => hx.elim (fun h => h.1) (fun e => e ▸ q0)) hs2
/-- THE SLIDE: a plane map stays plane. -/
theorem Tri.gen (h : Hm N S r a) (T : Tri S r a t h0 h1 h2 p0 p1 p2 u0 u1 u2 v0 v1 v2) {z : Int} (hz : Gen S r a z) : Gen S r (cj t a) z := by
 have h' : Hm N S (cj t r) a := ⟨h.rb.cj (T.tS) (fun x _ => T.tt x), h.ab, h.inv⟩
 obtain ⟨v, d, k, f, c, k1, k2, k3, k4, k5, rfl⟩ := hz
 have hs : ∀ y, S y → ∃ x, S x ∧ t x = y := fun y hy => ⟨t y, T.tS y hy, T.tt y⟩
 have g : Gen S (cj t r) a (2 * (c : Int) - v + d - k - f) := ⟨v, d, k, f, c, k1.map t T.tS hs (fun x y hx hy => orb_cj h.rb.maps (fun x _ => T.tt x) hx hy), k2, k3, T.faces h k4, k5.congr (fun _ => Iff.rfl) (fun x y hx _ => T.con h hx), rfl⟩
 exact Gen.congr (h'.cj T.tS (fun x _ => T.tt x)) (fun x hx => cj_cj h.rb.maps (fun x _ => T.tt x) hx) (fun _ _ => rfl) (g.cj h' T.tS (fun x _ => T.tt x))
end
end Go.Proofs.YtcaoblilkgajoaaDoor.Pl
end
section
namespace Go.Proofs.YtcaoblilkgajoaaDoor.Pl
/-- The exchange of places at a triangle. -/
def tau (h0 h1 h2 p0 p1 p2 u0 u1 u2 v0 v1 v2 x : Nat) : Nat :=
 if x = h0 then v1 else if x = h1 then v2 else if x = h2 then v0 else if x = p0 then u2 else if x = p1 then u0 else if x = p2 then u1 else if x = u0 then p1 else if x = u1 then p2 else if x = u2 then p0 else if x = v0 then h2 else if x = v1 then h0 else if x = v2 then h1 else x
theorem nd12 {h0 h1 h2 p0 p1 p2 u0 u1 u2 v0 v1 v2 : Nat} (h : [h0, h1, h2, p0, p1, p2, u0, u1, u2, v0, v1, v2].Nodup) : h0 ≠ h1 ∧ h0 ≠ h2 ∧ h0 ≠ p0 ∧ h0 ≠ p1 ∧ h0 ≠ p2 ∧ h0 ≠ u0 ∧ h0 ≠ u1 ∧ h0 ≠ u2 ∧ h0 ≠ v0 ∧ h0 ≠ v1 ∧ h0 ≠ v2 ∧ h1 ≠ h2 ∧ h1 ≠ p0 ∧ h1 ≠ p1 ∧ h1 ≠ p2 ∧ h1 ≠ u0 ∧ h1 ≠ u1 ∧ h1 ≠ u2 ∧ h1 ≠ v0 ∧ h1 ≠ v1 ∧ h1 ≠ v2 ∧ h2 ≠ p0 ∧ h2 ≠ p1 ∧ h2 ≠ p2 ∧ h2 ≠ u0 ∧ h2 ≠ u1 ∧ h2 ≠ u2 ∧ h2 ≠ v0 ∧ h2 ≠ v1 ∧ h2 ≠ v2 ∧ p0 ≠ p1 ∧ p0 ≠ p2 ∧ p0 ≠ u0 ∧ p0 ≠ u1 ∧ p0 ≠ u2 ∧ p0 ≠ v0 ∧ p0 ≠ v1 ∧ p0 ≠ v2 ∧ p1 ≠ p2 ∧ p1 ≠ u0 ∧ p1 ≠ u1 ∧ p1 ≠ u2 ∧ p1 ≠ v0 ∧ p1 ≠ v1 ∧ p1 ≠ v2 ∧ p2 ≠ u0 ∧ p2 ≠ u1 ∧ p2 ≠ u2 ∧ p2 ≠ v0 ∧ p2 ≠ v1 ∧ p2 ≠ v2 ∧ u0 ≠ u1 ∧ u0 ≠ u2 ∧ u0 ≠ v0 ∧ u0 ≠ v1 ∧ u0 ≠ v2 ∧ u1 ≠ u2 ∧ u1 ≠ v0 ∧ u1 ≠ v1 ∧ u1 ≠ v2 ∧ u2 ≠ v0 ∧ u2 ≠ v1 ∧ u2 ≠ v2 ∧ v0 ≠ v1 ∧ v0 ≠ v2 ∧ v1 ≠ v2 := by
 simp only [List.nodup_cons, List.mem_cons, List.not_mem_nil, or_false, not_or, not_false_eq_true, List.nodup_nil, and_true] at h
 obtain ⟨⟨a0_1, a0_2, a0_3, a0_4, a0_5, a0_6, a0_7, a0_8, a0_9, a0_10, a0_11⟩, ⟨a1_2, a1_3, a1_4, a1_5, a1_6, a1_7, a1_8, a1_9, a1_10, a1_11⟩, ⟨a2_3, a2_4, a2_5, a2_6, a2_7, a2_8, a2_9, a2_10, a2_11⟩, ⟨a3_4, a3_5, a3_6, a3_7, a3_8, a3_9, a3_10, a3_11⟩, ⟨a4_5, a4_6, a4_7, a4_8, a4_9, a4_10, a4_11⟩, ⟨a5_6, a5_7, a5_8, a5_9, a5_10, a5_11⟩, ⟨a6_7, a6_8, a6_9, a6_10, a6_11⟩, ⟨a7_8, a7_9, a7_10, a7_11⟩, ⟨a8_9, a8_10, a8_11⟩, ⟨a9_10, a9_11⟩, a10_11⟩ := h
 refine ⟨?_, ?_, ?_, ?_, ?_, ?_, ?_, ?_, ?_, ?_, ?_, ?_, ?_, ?_, ?_, ?_, ?_, ?_, ?_, ?_, ?_, ?_, ?_, ?_, ?_, ?_, ?_, ?_, ?_, ?_, ?_, ?_, ?_, ?_, ?_, ?_, ?_, ?_, ?_, ?_, ?_, ?_, ?_, ?_, ?_, ?_, ?_, ?_, ?_, ?_, ?_, ?_, ?_, ?_, ?_, ?_, ?_, ?_, ?_, ?_, ?_, ?_, ?_, ?_, ?_, ?_⟩ <;> assumption
theorem tau_h0 {h0 h1 h2 p0 p1 p2 u0 u1 u2 v0 v1 v2 : Nat} (h : [h0, h1, h2, p0, p1, p2, u0, u1, u2, v0, v1, v2].Nodup) : tau h0 h1 h2 p0 p1 p2 u0 u1 u2 v0 v1 v2 h0 = v1 := by
 obtain ⟨a0_1, a0_2, a0_3, a0_4, a0_5, a0_6, a0_7, a0_8, a0_9, a0_10, a0_11, a1_2, a1_3, a1_4, a1_5, a1_6, a1_7, a1_8, a1_9, a1_10, a1_11, a2_3, a2_4, a2_5, a2_6, a2_7, a2_8, a2_9, a2_10, a2_11, a3_4, a3_5, a3_6, a3_7, a3_8, a3_9, a3_10, a3_11, a4_5, a4_6, a4_7, a4_8, a4_9, a4_10, a4_11, a5_6, a5_7, a5_8, a5_9, a5_10, a5_11, a6_7, a6_8, a6_9, a6_10, a6_11, a7_8, a7_9, a7_10, a7_11, a8_9, a8_10, a8_11, a9_10, a9_11, a10_11⟩ := nd12 h
 unfold tau
 rw [if_pos rfl]
theorem tau_h1 {h0 h1 h2 p0 p1 p2 u0 u1 u2 v0 v1 v2 : Nat} (h : [h0, h1, h2, p0, p1, p2, u0, u1, u2, v0, v1, v2].Nodup) : tau h0 h1 h2 p0 p1 p2 u0 u1 u2 v0 v1 v2 h1 = v2 := by
 obtain ⟨a0_1, a0_2, a0_3, a0_4, a0_5, a0_6, a0_7, a0_8, a0_9, a0_10, a0_11, a1_2, a1_3, a1_4, a1_5, a1_6, a1_7, a1_8, a1_9, a1_10, a1_11, a2_3, a2_4, a2_5, a2_6, a2_7, a2_8, a2_9, a2_10, a2_11, a3_4, a3_5, a3_6, a3_7, a3_8, a3_9, a3_10, a3_11, a4_5, a4_6, a4_7, a4_8, a4_9, a4_10, a4_11, a5_6, a5_7, a5_8, a5_9, a5_10, a5_11, a6_7, a6_8, a6_9, a6_10, a6_11, a7_8, a7_9, a7_10, a7_11, a8_9, a8_10, a8_11, a9_10, a9_11, a10_11⟩ := nd12 h
 unfold tau
 rw [if_neg (Ne.symm a0_1), if_pos rfl]
theorem tau_h2 {h0 h1 h2 p0 p1 p2 u0 u1 u2 v0 v1 v2 : Nat} (h : [h0, h1, h2, p0, p1, p2, u0, u1, u2, v0, v1, v2].Nodup) : tau h0 h1 h2 p0 p1 p2 u0 u1 u2 v0 v1 v2 h2 = v0 := by
 obtain ⟨a0_1, a0_2, a0_3, a0_4, a0_5, a0_6, a0_7, a0_8, a0_9, a0_10, a0_11, a1_2, a1_3, a1_4, a1_5, a1_6, a1_7, a1_8, a1_9, a1_10, a1_11, a2_3, a2_4, a2_5, a2_6, a2_7, a2_8, a2_9, a2_10, a2_11, a3_4, a3_5, a3_6, a3_7, a3_8, a3_9, a3_10, a3_11, a4_5, a4_6, a4_7, a4_8, a4_9, a4_10, a4_11, a5_6, a5_7, a5_8, a5_9, a5_10, a5_11, a6_7, a6_8, a6_9, a6_10, a6_11, a7_8, a7_9, a7_10, a7_11, a8_9, a8_10, a8_11, a9_10, a9_11, a10_11⟩ := nd12 h
 unfold tau
 rw [if_neg (Ne.symm a0_2), if_neg (Ne.symm a1_2), if_pos rfl]
theorem tau_p0 {h0 h1 h2 p0 p1 p2 u0 u1 u2 v0 v1 v2 : Nat} (h : [h0, h1, h2, p0, p1, p2, u0, u1, u2, v0, v1, v2].Nodup) : tau h0 h1 h2 p0 p1 p2 u0 u1 u2 v0 v1 v2 p0 = u2 := by
 obtain ⟨a0_1, a0_2, a0_3, a0_4, a0_5, a0_6, a0_7, a0_8, a0_9, a0_10, a0_11, a1_2, a1_3, a1_4, a1_5, a1_6, a1_7, a1_8, a1_9, a1_10, a1_11, a2_3, a2_4, a2_5, a2_6, a2_7, a2_8, a2_9, a2_10, a2_11, a3_4, a3_5, a3_6, a3_7, a3_8, a3_9, a3_10, a3_11, a4_5, a4_6, a4_7, a4_8, a4_9, a4_10, a4_11, a5_6, a5_7, a5_8, a5_9, a5_10, a5_11, a6_7, a6_8, a6_9, a6_10, a6_11, a7_8, a7_9, a7_10, a7_11, a8_9, a8_10, a8_11, a9_10, a9_11, a10_11⟩ := nd12 h
 unfold tau
 rw [if_neg (Ne.symm a0_3), if_neg (Ne.symm a1_3), if_neg (Ne.symm a2_3), if_pos rfl]
theorem tau_p1 {h0 h1 h2 p0 p1 p2 u0 u1 u2 v0 v1 v2 : Nat} (h : [h0, h1, h2, p0, p1, p2, u0, u1, u2, v0, v1, v2].Nodup) : tau h0 h1 h2 p0 p1 p2 u0 u1 u2 v0 v1 v2 p1 = u0 := by
 obtain ⟨a0_1, a0_2, a0_3, a0_4, a0_5, a0_6, a0_7, a0_8, a0_9, a0_10, a0_11, a1_2, a1_3, a1_4, a1_5, a1_6, a1_7, a1_8, a1_9, a1_10, a1_11, a2_3, a2_4, a2_5, a2_6, a2_7, a2_8, a2_9, a2_10, a2_11, a3_4, a3_5, a3_6, a3_7, a3_8, a3_9, a3_10, a3_11, a4_5, a4_6, a4_7, a4_8, a4_9, a4_10, a4_11, a5_6, a5_7, a5_8, a5_9, a5_10, a5_11, a6_7, a6_8, a6_9, a6_10, a6_11, a7_8, a7_9, a7_10, a7_11, a8_9, a8_10, a8_11, a9_10, a9_11, a10_11⟩ := nd12 h
 unfold tau
 rw [if_neg (Ne.symm a0_4), if_neg (Ne.symm a1_4), if_neg (Ne.symm a2_4), if_neg (Ne.symm a3_4), if_pos rfl]
theorem tau_p2 {h0 h1 h2 p0 p1 p2 u0 u1 u2 v0 v1 v2 : Nat} (h : [h0, h1, h2, p0, p1, p2, u0, u1, u2, v0, v1, v2].Nodup) : tau h0 h1 h2 p0 p1 p2 u0 u1 u2 v0 v1 v2 p2 = u1 := by
 obtain ⟨a0_1, a0_2, a0_3, a0_4, a0_5, a0_6, a0_7, a0_8, a0_9, a0_10, a0_11, a1_2, a1_3, a1_4, a1_5, a1_6, a1_7, a1_8, a1_9, a1_10, a1_11, a2_3, a2_4, a2_5, a2_6, a2_7, a2_8, a2_9, a2_10, a2_11, a3_4, a3_5, a3_6, a3_7, a3_8, a3_9, a3_10, a3_11, a4_5, a4_6, a4_7, a4_8, a4_9, a4_10, a4_11, a5_6, a5_7, a5_8, a5_9, a5_10, a5_11, a6_7, a6_8, a6_9, a6_10, a6_11, a7_8, a7_9, a7_10, a7_11, a8_9, a8_10, a8_11, a9_10, a9_11, a10_11⟩ := nd12 h
 unfold tau
 rw [if_neg (Ne.symm a0_5), if_neg (Ne.symm a1_5), if_neg (Ne.symm a2_5), if_neg (Ne.symm a3_5), if_neg (Ne.symm a4_5), if_pos rfl]
theorem tau_u0 {h0 h1 h2 p0 p1 p2 u0 u1 u2 v0 v1 v2 : Nat} (h : [h0, h1, h2, p0, p1, p2, u0, u1, u2, v0, v1, v2].Nodup) : tau h0 h1 h2 p0 p1 p2 u0 u1 u2 v0 v1 v2 u0 = p1 := by
 obtain ⟨a0_1, a0_2, a0_3, a0_4, a0_5, a0_6, a0_7, a0_8, a0_9, a0_10, a0_11, a1_2, a1_3, a1_4, a1_5, a1_6, a1_7, a1_8, a1_9, a1_10, a1_11, a2_3, a2_4, a2_5, a2_6, a2_7, a2_8, a2_9, a2_10, a2_11, a3_4, a3_5, a3_6, a3_7, a3_8, a3_9, a3_10, a3_11, a4_5, a4_6, a4_7, a4_8, a4_9, a4_10, a4_11, a5_6, a5_7, a5_8, a5_9, a5_10, a5_11, a6_7, a6_8, a6_9, a6_10, a6_11, a7_8, a7_9, a7_10, a7_11, a8_9, a8_10, a8_11, a9_10, a9_11, a10_11⟩ := nd12 h
 unfold tau
 rw [if_neg (Ne.symm a0_6), if_neg (Ne.symm a1_6), if_neg (Ne.symm a2_6), if_neg (Ne.symm a3_6), if_neg (Ne.symm a4_6), if_neg (Ne.symm a5_6), if_pos rfl]
theorem tau_u1 {h0 h1 h2 p0 p1 p2 u0 u1 u2 v0 v1 v2 : Nat} (h : [h0, h1, h2, p0, p1, p2, u0, u1, u2, v0, v1, v2].Nodup) : tau h0 h1 h2 p0 p1 p2 u0 u1 u2 v0 v1 v2 u1 = p2 := by
 obtain ⟨a0_1, a0_2, a0_3, a0_4, a0_5, a0_6, a0_7, a0_8, a0_9, a0_10, a0_11, a1_2, a1_3, a1_4, a1_5, a1_6, a1_7, a1_8, a1_9, a1_10, a1_11, a2_3, a2_4, a2_5, a2_6, a2_7, a2_8, a2_9, a2_10, a2_11, a3_4, a3_5, a3_6, a3_7, a3_8, a3_9, a3_10, a3_11, a4_5, a4_6, a4_7, a4_8, a4_9, a4_10, a4_11, a5_6, a5_7, a5_8, a5_9, a5_10, a5_11, a6_7, a6_8, a6_9, a6_10, a6_11, a7_8, a7_9, a7_10, a7_11, a8_9, a8_10, a8_11, a9_10, a9_11, a10_11⟩ := nd12 h
 unfold tau
 rw [if_neg (Ne.symm a0_7), if_neg (Ne.symm a1_7), if_neg (Ne.symm a2_7), if_neg (Ne.symm a3_7), if_neg (Ne.symm a4_7), if_neg (Ne.symm a5_7), if_neg (Ne.symm a6_7), if_pos rfl]
theorem tau_u2 {h0 h1 h2 p0 p1 p2 u0 u1 u2 v0 v1 v2 : Nat} (h : [h0, h1, h2, p0, p1, p2, u0, u1, u2, v0, v1, v2].Nodup) : tau h0 h1 h2 p0 p1 p2 u0 u1 u2 v0 v1 v2 u2 = p0 := by
 obtain ⟨a0_1, a0_2, a0_3, a0_4, a0_5, a0_6, a0_7, a0_8, a0_9, a0_10, a0_11, a1_2, a1_3, a1_4, a1_5, a1_6, a1_7, a1_8, a1_9, a1_10, a1_11, a2_3, a2_4, a2_5, a2_6, a2_7, a2_8, a2_9, a2_10, a2_11, a3_4, a3_5, a3_6, a3_7, a3_8, a3_9, a3_10, a3_11, a4_5, a4_6, a4_7, a4_8, a4_9, a4_10, a4_11, a5_6, a5_7, a5_8, a5_9, a5_10, a5_11, a6_7, a6_8, a6_9, a6_10, a6_11, a7_8, a7_9, a7_10, a7_11, a8_9, a8_10, a8_11, a9_10, a9_11, a10_11⟩ := nd12 h
 unfold tau
 rw [if_neg (Ne.symm a0_8), if_neg (Ne.symm a1_8), if_neg (Ne.symm a2_8), if_neg (Ne.symm a3_8), if_neg (Ne.symm a4_8), if_neg (Ne.symm a5_8), if_neg (Ne.symm a6_8), if_neg (Ne.symm a7_8), if_pos rfl]
theorem tau_v0 {h0 h1 h2 p0 p1 p2 u0 u1 u2 v0 v1 v2 : Nat} (h : [h0, h1, h2, p0, p1, p2, u0, u1, u2, v0, v1, v2].Nodup) : tau h0 h1 h2 p0 p1 p2 u0 u1 u2 v0 v1 v2 v0 = h2 := by
 obtain ⟨a0_1, a0_2, a0_3, a0_4, a0_5, a0_6, a0_7, a0_8, a0_9, a0_10, a0_11, a1_2, a1_3, a1_4, a1_5, a1_6, a1_7, a1_8, a1_9, a1_10, a1_11, a2_3, a2_4, a2_5, a2_6, a2_7, a2_8, a2_9, a2_10, a2_11, a3_4, a3_5, a3_6, a3_7, a3_8, a3_9, a3_10, a3_11, a4_5, a4_6, a4_7, a4_8, a4_9, a4_10, a4_11, a5_6, a5_7, a5_8, a5_9, a5_10, a5_11, a6_7, a6_8, a6_9, a6_10, a6_11, a7_8, a7_9, a7_10, a7_11, a8_9, a8_10, a8_11, a9_10, a9_11, a10_11⟩ := nd12 h
 unfold tau
 rw [if_neg (Ne.symm a0_9), if_neg (Ne.symm a1_9), if_neg (Ne.symm a2_9), if_neg (Ne.symm a3_9), if_neg (Ne.symm a4_9), if_neg (Ne.symm a5_9), if_neg (Ne.symm a6_9), if_neg (Ne.symm a7_9), if_neg (Ne.symm a8_9), if_pos rfl]
theorem tau_v1 {h0 h1 h2 p0 p1 p2 u0 u1 u2 v0 v1 v2 : Nat} (h : [h0, h1, h2, p0, p1, p2, u0, u1, u2, v0, v1, v2].Nodup) : tau h0 h1 h2 p0 p1 p2 u0 u1 u2 v0 v1 v2 v1 = h0 := by
 obtain ⟨a0_1, a0_2, a0_3, a0_4, a0_5, a0_6, a0_7, a0_8, a0_9, a0_10, a0_11, a1_2, a1_3, a1_4, a1_5, a1_6, a1_7, a1_8, a1_9, a1_10, a1_11, a2_3, a2_4, a2_5, a2_6, a2_7, a2_8, a2_9, a2_10, a2_11, a3_4, a3_5, a3_6, a3_7, a3_8, a3_9, a3_10, a3_11, a4_5, a4_6, a4_7, a4_8, a4_9, a4_10, a4_11, a5_6, a5_7, a5_8, a5_9, a5_10, a5_11, a6_7, a6_8, a6_9, a6_10, a6_11, a7_8, a7_9, a7_10, a7_11, a8_9, a8_10, a8_11, a9_10, a9_11, a10_11⟩ := nd12 h
 unfold tau
 rw [if_neg (Ne.symm a0_10), if_neg (Ne.symm a1_10), if_neg (Ne.symm a2_10), if_neg (Ne.symm a3_10), if_neg (Ne.symm a4_10), if_neg (Ne.symm a5_10), if_neg (Ne.symm a6_10), if_neg (Ne.symm a7_10), if_neg (Ne.symm a8_10), if_neg (Ne.symm a9_10), if_pos rfl]
theorem tau_v2 {h0 h1 h2 p0 p1 p2 u0 u1 u2 v0 v1 v2 : Nat} (h : [h0, h1, h2, p0, p1, p2, u0, u1, u2, v0, v1, v2].Nodup) : tau h0 h1 h2 p0 p1 p2 u0 u1 u2 v0 v1 v2 v2 = h1 := by
 obtain ⟨a0_1, a0_2, a0_3, a0_4, a0_5, a0_6, a0_7, a0_8, a0_9, a0_10, a0_11, a1_2, a1_3, a1_4, a1_5, a1_6, a1_7, a1_8, a1_9, a1_10, a1_11, a2_3, a2_4, a2_5, a2_6, a2_7, a2_8, a2_9, a2_10, a2_11, a3_4, a3_5, a3_6, a3_7, a3_8, a3_9, a3_10, a3_11, a4_5, a4_6, a4_7, a4_8, a4_9, a4_10, a4_11, a5_6, a5_7, a5_8, a5_9, a5_10, a5_11, a6_7, a6_8, a6_9, a6_10, a6_11, a7_8, a7_9, a7_10, a7_11, a8_9, a8_10, a8_11, a9_10, a9_11, a10_11⟩ := nd12 h
 unfold tau
 rw [if_neg (Ne.symm a0_11), if_neg (Ne.symm a1_11), if_neg (Ne.symm a2_11), if_neg (Ne.symm a3_11), if_neg (Ne.symm a4_11), if_neg (Ne.symm a5_11), if_neg (Ne.symm a6_11), if_neg (Ne.symm a7_11), if_neg (Ne.symm a8_11), if_neg (Ne.symm a9_11), if_neg (Ne.symm a10_11), if_pos rfl]
theorem tau_x {h0 h1 h2 p0 p1 p2 u0 u1 u2 v0 v1 v2 x : Nat} (h : x ∉ [h0, h1, h2, p0, p1, p2, u0, u1, u2, v0, v1, v2]) : tau h0 h1 h2 p0 p1 p2 u0 u1 u2 v0 v1 v2 x = x := by
 simp only [List.mem_cons, List.not_mem_nil, or_false, not_or] at h
 obtain ⟨a0, a1, a2, a3, a4, a5, a6, a7, a8, a9, a10, a11⟩ := h
 unfold tau
 rw [if_neg a0, if_neg a1, if_neg a2, if_neg a3, if_neg a4, if_neg a5, if_neg a6, if_neg a7, if_neg a8, if_neg a9, if_neg a10, if_neg a11]
/-- Three corners of a face, at three crossings: a triangle. -/
theorem tri_of {d : Dg} (hd : Wf d) {h0 h1 h2 : Nat} (l0 : h0 < 4 * d.n) (e0 : nx d h0 = h1) (e1 : nx d h1 = h2) (e2 : nx d h2 = h0) (c01 : h0 / 4 ≠ h1 / 4) (c12 : h1 / 4 ≠ h2 / 4) (c02 : h0 / 4 ≠ h2 / 4) :
 Tri (dart d) rot d.m (tau h0 h1 h2 (tn h0 1) (tn h1 1) (tn h2 1) (tn h0 2) (tn h1 2) (tn h2 2) (tn h0 3) (tn h1 3) (tn h2 3)) h0 h1 h2 (tn h0 1) (tn h1 1) (tn h2 1) (tn h0 2) (tn h1 2) (tn h2 2) (tn h0 3) (tn h1 3) (tn h2 3) := by
 have l1 : h1 < 4 * d.n := by rw [← e0]; exact tn_lt (hd.lt _ l0)
 have l2 : h2 < 4 * d.n := by rw [← e1]; exact tn_lt (hd.lt _ l1)
 have nd : [h0, h1, h2, tn h0 1, tn h1 1, tn h2 1, tn h0 2, tn h1 2, tn h2 2, tn h0 3, tn h1 3, tn h2 3].Nodup := by
  simp only [List.nodup_cons, List.mem_cons, List.not_mem_nil, or_false, not_or, not_false_eq_true, List.nodup_nil, and_true]
  unfold tn
  omega
 have am : ∀ {x y}, nx d x = y → d.m x = tn y 1 := fun {x y} e => by rw [← e]; unfold nx; rw [tn_tn, tn_four]
 have r1 : ∀ x j, j < 4 → rot (tn x (j + 1)) = tn x j := fun x j hj => by unfold rot; rw [tn_tn]; unfold tn; omega
 have back : ∀ {x y}, x < 4 * d.n → nx d x = y → d.m (tn y 1) = x := fun {x y} hx e => by rw [← am e, hd.inv x hx]
 refine ⟨fun x hx => ?_, r1 h0 2 (by omega), r1 h1 2 (by omega), r1 h2 2 (by omega), r1 h0 1 (by omega), r1 h1 1 (by omega), r1 h2 1 (by omega), ?_, ?_, ?_, rfl, rfl, rfl, am e0, am e1, am e2, back l0 e0, back l1 e1, back l2 e2, nd,
  tau_u0 nd, tau_u1 nd, tau_u2 nd, tau_p1 nd, tau_p2 nd, tau_p0 nd, tau_v0 nd, tau_v1 nd, tau_v2 nd, tau_h2 nd, tau_h0 nd, tau_h1 nd, fun x hx => tau_x hx⟩
 ·unfold dart
  simp only [List.mem_cons, List.not_mem_nil, or_false] at hx
  rcases hx with rfl | rfl | rfl | rfl | rfl | rfl | rfl | rfl | rfl | rfl | rfl | rfl <;> first | assumption | (exact tn_lt l0) | (exact tn_lt l1) | (exact tn_lt l2)
 ·have := r1 h0 0 (by omega); rwa [tn_zero] at this
 ·have := r1 h1 0 (by omega); rwa [tn_zero] at this
 ·have := r1 h2 0 (by omega); rwa [tn_zero] at this
theorem set_getD (l : List Nat) (a b x : Nat) (ha : a < l.length) : (l.set a b).getD x 0 = if x = a then b else l.getD x 0 := by
 rw [List.getD_eq_getElem?_getD, List.getElem?_set, List.getD_eq_getElem?_getD]
 by_cases h : a = x
 ·subst h; simp [ha]
 ·rw [if_neg h, if_neg (Ne.symm h)]
theorem jn_getD (l : List Nat) (a b x : Nat) (ha : a < l.length) (hb : b < l.length) : ((l.set a b).set b a).getD x 0 = if x = b then a else if x = a then b else l.getD x 0 := by
 rw [set_getD _ _ _ _ (by simpa using hb), set_getD _ _ _ _ ha]
/-- Mates joined one after the other, all by one rule g: each place has the old mate or the new. -/
def Half (N : Nat) (m g : Nat → Nat) (W : Nat → Prop) (l : List Nat) : Prop := l.length = N ∧ ∀ x, x < N → l.getD x 0 = g x ∨ (l.getD x 0 = m x ∧ ¬ W x)
theorem Half.join {N : Nat} {m g : Nat → Nat} {W : Nat → Prop} {l : List Nat} (h : Half N m g W l) {a b : Nat} (ha : a < N) (hb : b < N) (e1 : g a = b) (e2 : g b = a) : Half N m g (fun x => W x ∨ x = a ∨ x = b) ((l.set a b).set b a) := by
 refine ⟨by simp [h.1], fun x hx => ?_⟩
 rw [jn_getD l a b x (by rw [h.1]; exact ha) (by rw [h.1]; exact hb)]
 by_cases h1 : x = b
 ·rw [if_pos h1]; exact .inl (by rw [h1, e2])
 ·rw [if_neg h1]
  by_cases h2 : x = a
  ·rw [if_pos h2]; exact .inl (by rw [h2, e1])
  ·rw [if_neg h2]
   rcases h.2 x hx with h3 | ⟨h3, h4⟩
   ·exact .inl h3
   ·exact .inr ⟨h3, fun h => h.elim h4 (fun h => h.elim h2 h1)⟩
theorem Half.mono {N : Nat} {m g : Nat → Nat} {W W' : Nat → Prop} {l : List Nat} (h : Half N m g W l) (hw : ∀ x, W' x → W x) : Half N m g W' l :=
 ⟨h.1, fun x hx => (h.2 x hx).imp id (fun h => ⟨h.1, fun hh => h.2 (hw x hh)⟩)⟩
theorem Half.all {N : Nat} {m g : Nat → Nat} {W : Nat → Prop} {l : List Nat} (h : Half N m g W l) (ha : ∀ x, x < N → W x ∨ m x = g x) : ∀ x, x < N → l.getD x 0 = g x := fun x hx => by
 rcases h.2 x hx with h1 | ⟨h1, h2⟩
 ·exact h1
 ·rcases ha x hx with h3 | h3
  ·exact absurd h3 h2
  ·rw [h1, h3]
end Go.Proofs.YtcaoblilkgajoaaDoor.Pl
end
section
namespace Go.Proofs.YtcaoblilkgajoaaDoor.Pl
/-- A map on the half-edges of n crossings, without edges at further ones. -/
def ex (n : Nat) (a : Nat → Nat) (x : Nat) : Nat := if x < 4 * n then a x else x
theorem ex_old {n : Nat} {a : Nat → Nat} {x : Nat} (h : x < 4 * n) : ex n a x = a x := if_pos h
theorem ex_new {n : Nat} {a : Nat → Nat} {x : Nat} (h : 4 * n ≤ x) : ex n a x = x := if_neg (by omega)
theorem rot_lt {k x : Nat} (h : x < 4 * k) : rot x < 4 * k := tn_lt h
theorem rot_ge {k x : Nat} (h : 4 * k ≤ x) : 4 * k ≤ rot x := by unfold rot tn; omega
theorem rot_at (n e : Nat) (h : e < 4) : rot (4 * n + e) = 4 * n + (e + 3) % 4 := by unfold rot tn; omega
theorem ext_hm {n M : Nat} {a : Nat → Nat} (hM : n ≤ M) (h : Hm (4 * n) (fun h => h < 4 * n) rot a) : Hm (4 * M) (fun h => h < 4 * M) rot (ex n a) := by
 refine ⟨rot_bij M, ⟨fun _ h => h, fun x hx => ?_, fun x y hx hy e => ?_⟩, fun x hx => ?_⟩
 ·by_cases h1 : x < 4 * n
  ·show ex n a x < 4 * M
   rw [ex_old h1]; have := h.ab.maps x h1; omega
  ·show ex n a x < 4 * M
   rw [ex_new (by omega)]; exact hx
 ·by_cases h1 : x < 4 * n <;> by_cases h2 : y < 4 * n
  ·rw [ex_old h1, ex_old h2] at e; exact h.ab.inj x y h1 h2 e
  ·rw [ex_old h1, ex_new (by omega)] at e; have := h.ab.maps x h1; omega
  ·rw [ex_new (by omega), ex_old h2] at e; have := h.ab.maps y h2; omega
  ·rw [ex_new (by omega), ex_new (by omega)] at e; exact e
 ·by_cases h1 : x < 4 * n
  ·rw [ex_old h1, ex_old (h.ab.maps x h1)]; exact h.inv x h1
  ·rw [ex_new (x := x) (by omega), ex_new (by omega)]
theorem ext_gen {n M : Nat} {a : Nat → Nat} {z : Int} (hM : n ≤ M) (h : Hm (4 * n) (fun h => h < 4 * n) rot a) (hf : Gen (fun h => h < 4 * n) rot a z) : Gen (fun h => h < 4 * M) rot (ex n a) z := by
 have h' := ext_hm hM h
 have hS : Hm (4 * M) (fun h => h < 4 * n) rot (ex n a) := ⟨⟨fun x hx => by omega, fun x hx => rot_lt hx, fun x y _ _ e => tn_inj e⟩, ⟨fun x hx => by omega, fun x hx => by rw [ex_old hx]; exact h.ab.maps x hx, fun x y hx hy e => by rw [ex_old hx, ex_old hy] at e; exact h.ab.inj x y hx hy e⟩, fun x hx => by rw [ex_old hx, ex_old (h.ab.maps x hx)]; exact h.inv x hx⟩
 have hT : Hm (4 * M) (fun h => 4 * n ≤ h ∧ h < 4 * M) rot (ex n a) := ⟨⟨fun x hx => hx.2, fun x hx => ⟨rot_ge hx.1, rot_lt hx.2⟩, fun x y _ _ e => tn_inj e⟩, ⟨fun x hx => hx.2, fun x hx => by rw [ex_new hx.1]; exact hx, fun x y hx hy e => by rw [ex_new hx.1, ex_new hy.1] at e; exact e⟩, fun x hx => by rw [ex_new (x := x) hx.1, ex_new hx.1]⟩
 have g1 : Gen (fun h => h < 4 * n) rot (ex n a) z := Gen.congr h (fun _ _ => rfl) (fun x hx => (ex_old hx).symm) hf
 have g2 := gen_id hT (fun x hx => ex_new hx.1)
 have := Gen.add hS hT (fun x hx hx' => by omega) g1 g2
 rw [Int.add_zero] at this
 have e : (fun x => x < 4 * n ∨ (4 * n ≤ x ∧ x < 4 * M)) = (fun h => h < 4 * M) := by funext x; exact propext ⟨fun h => by omega, fun h => by omega⟩
 rwa [e] at this
/-- The four places of a kink: the ends in and out of its first and second passage. -/
def Kq (n i0 o0 i1 o1 : Nat) : Prop :=
 (i0 = 4 * n + 0 ∧ o0 = 4 * n + 2 ∧ i1 = 4 * n + 3 ∧ o1 = 4 * n + 1) ∨ (i0 = 4 * n + 0 ∧ o0 = 4 * n + 2 ∧ i1 = 4 * n + 1 ∧ o1 = 4 * n + 3) ∨
 (i0 = 4 * n + 3 ∧ o0 = 4 * n + 1 ∧ i1 = 4 * n + 0 ∧ o1 = 4 * n + 2) ∨ (i0 = 4 * n + 1 ∧ o0 = 4 * n + 3 ∧ i1 = 4 * n + 0 ∧ o1 = 4 * n + 2)
theorem Kq.face {n i0 o0 i1 o1 : Nat} (k : Kq n i0 o0 i1 o1) {b : Nat → Nat} (b1 : b o0 = i1) (b2 : b i1 = o0) (b3 : b o1 = o1) : Orb (phi rot b) o1 i0 := by
 rcases k with ⟨rfl, rfl, rfl, rfl⟩ | ⟨rfl, rfl, rfl, rfl⟩ | ⟨rfl, rfl, rfl, rfl⟩ | ⟨rfl, rfl, rfl, rfl⟩
 ·exact ⟨1, by show rot (b (4 * n + 1)) = _; rw [b3, rot_at n 1 (by omega)]⟩
 ·exact ⟨2, by show rot (b (rot (b (4 * n + 3)))) = _; rw [b3, rot_at n 3 (by omega), b1, rot_at n 1 (by omega)]⟩
 ·exact ⟨2, by show rot (b (rot (b (4 * n + 2)))) = _; rw [b3, rot_at n 2 (by omega), b1, rot_at n 0 (by omega)]⟩
 ·exact ⟨1, by show rot (b (4 * n + 2)) = _; rw [b3, rot_at n 2 (by omega)]⟩
theorem Kq.bd {n i0 o0 i1 o1 : Nat} (k : Kq n i0 o0 i1 o1) : (4 * n ≤ i0 ∧ i0 < 4 * (n + 1)) ∧ (4 * n ≤ o0 ∧ o0 < 4 * (n + 1)) ∧ (4 * n ≤ i1 ∧ i1 < 4 * (n + 1)) ∧ (4 * n ≤ o1 ∧ o1 < 4 * (n + 1)) ∧ i0 ≠ o0 ∧ i0 ≠ i1 ∧ i0 ≠ o1 ∧ o0 ≠ i1 ∧ o0 ≠ o1 ∧ i1 ≠ o1 := by
 unfold Kq at k; omega
theorem orb_new {n x y : Nat} {b : Nat → Nat} (hx : 4 * n ≤ x ∧ x < 4 * (n + 1)) (hy : 4 * n ≤ y ∧ y < 4 * (n + 1)) (hb : ∀ z, 4 * n ≤ z → z < 4 * (n + 1) → b z = z) : Orb (phi rot b) x y := by
 have st : ∀ z, 4 * n ≤ z → z < 4 * (n + 1) → phi rot b z = rot z := fun z h1 h2 => by unfold phi; rw [hb z h1 h2]
 have r1 : ∀ z, 4 * n ≤ z → z < 4 * (n + 1) → 4 * n ≤ rot z ∧ rot z < 4 * (n + 1) := fun z h1 h2 => ⟨rot_ge h1, rot_lt h2⟩
 have a1 := r1 x hx.1 hx.2
 have a2 := r1 _ a1.1 a1.2
 have key : y = x ∨ y = rot x ∨ y = rot (rot x) ∨ y = rot (rot (rot x)) := by unfold rot tn; omega
 rcases key with rfl | rfl | rfl | rfl
 ·exact Orb.refl _ _
 ·exact ⟨1, st x hx.1 hx.2⟩
 ·exact ⟨2, by show phi rot b (phi rot b x) = _; rw [st x hx.1 hx.2, st _ a1.1 a1.2]⟩
 ·exact ⟨3, by show phi rot b (phi rot b (phi rot b x)) = _; rw [st x hx.1 hx.2, st _ a1.1 a1.2, st _ a2.1 a2.2]⟩
/-- The first loop of a kink. -/
theorem loop_flat {n i0 o0 i1 o1 : Nat} {a : Nat → Nat} (h : Hm (4 * n) (fun h => h < 4 * n) rot a) (hf : Flat (fun h => h < 4 * n) rot a) (k : Kq n i0 o0 i1 o1) : Flat (fun h => h < 4 * (n + 1)) rot (tr (ex n a) o0 i1) := by
 obtain ⟨a1, a2, a3, a4, n1, n2, n3, n4, n5, n6⟩ := k.bd
 exact Flat.add (ext_hm (by omega) h) a2.2 a3.2 n4 (ex_new a2.1) (ex_new a3.1) (fun _ => orb_new a2 a3 (fun z h1 _ => ex_new h1)) (ext_gen (by omega) h hf)
theorem con_old {n : Nat} {b : Nat → Nat} (hb : ∀ z, z < 4 * n → b z < 4 * n) {x y : Nat} (hx : x < 4 * n) (e : Con rot b x y) : y < 4 * n := by
 induction e with
 | refl => exact hx
 | left _ ih => exact rot_lt ih
 | right _ ih => exact hb _ ih
/-- An edge x y with a kink. -/
theorem kink_edge {n i0 o0 i1 o1 x y : Nat} {a : Nat → Nat} (h : Hm (4 * n) (fun h => h < 4 * n) rot a) (hf : Flat (fun h => h < 4 * n) rot a) (k : Kq n i0 o0 i1 o1) (hx : x < 4 * n) (hy : a x = y) (hne : x ≠ y) :
 Flat (fun h => h < 4 * (n + 1)) rot (tr (tr (tr (ex n (tr a x y)) o0 i1) x i0) o1 y) := by
 obtain ⟨a1, a2, a3, a4, n1, n2, n3, n4, n5, n6⟩ := k.bd
 subst hy
 have hyn : a x < 4 * n := h.ab.maps x hx
 obtain ⟨hc, c1, c2⟩ := Hm.cut h hx (Ne.symm hne)
 have hX := ext_hm (Nat.le_succ n) hc
 have h1 := hX.tr (x := o0) (y := i1) a2.2 a3.2 (ex_new a2.1) (ex_new a3.1)
 have old : ∀ z, z < 4 * n → tr (ex n (tr a x (a x))) o0 i1 z = tr a x (a x) z := fun z hz => by rw [tr_ne (by omega) (by omega), ex_old hz]
 have cl : ∀ z, z < 4 * n → tr (ex n (tr a x (a x))) o0 i1 z < 4 * n := fun z hz => by rw [old z hz]; exact hc.ab.maps z hz
 have fu : tr (ex n (tr a x (a x))) o0 i1 i0 = i0 := by rw [tr_ne n1 n2, ex_new a1.1]
 have fv : tr (ex n (tr a x (a x))) o0 i1 o1 = o1 := by rw [tr_ne (Ne.symm n5) (Ne.symm n6), ex_new a4.1]
 have hx' : x < 4 * (n + 1) := by omega
 have hy' : a x < 4 * (n + 1) := by omega
 refine Gen.detour h1 hx' hy' a1.2 a4.2 hne n3 (by rw [old x hx, c1]) (by rw [old _ hyn, c2]) fu fv (fun e => by have := con_old cl hx e; omega) (fun e => by have := con_old cl hyn e; omega) (k.face ?_ ?_ fv) ?_
 ·rw [tr_a, ex_new a3.1]
 ·rw [tr_b, ex_new a2.1]
 ·refine Gen.congr ((ext_hm (Nat.le_succ n) h).tr (x := o0) (y := i1) a2.2 a3.2 (ex_new a2.1) (ex_new a3.1)) (fun _ _ => rfl) (fun z hz => ?_) (loop_flat h hf k)
  by_cases z1 : z = x
  ·subst z1
   rw [tr_a, old _ hyn, c2, tr_ne (by omega) (by omega), ex_old hx]
  ·by_cases z2 : z = a x
   ·subst z2
    rw [tr_b, old _ hx, c1, tr_ne (by omega) (by omega), ex_old hyn, h.inv x hx]
   ·rw [tr_ne z1 z2]
    by_cases z3 : z < 4 * n
    ·rw [old z z3, tr_ne z1 z2, tr_ne (by omega) (by omega), ex_old z3]
    ·by_cases z4 : z = o0
     ·subst z4; rw [tr_a, tr_a, ex_new a3.1, ex_new a3.1]
     ·by_cases z5 : z = i1
      ·subst z5; rw [tr_b, tr_b, ex_new a2.1, ex_new a2.1]
      ·rw [tr_ne z4 z5, tr_ne z4 z5, ex_new (by omega), ex_new (by omega)]
end Go.Proofs.YtcaoblilkgajoaaDoor.Pl
end
section
namespace Go.Proofs.YtcaoblilkgajoaaDoor.Pl
theorem out_old {d d' : Dg} {h : Nat} (e : d'.s (h / 4) = d.s (h / 4)) : out d' h = out d h := by unfold out; rw [e]
theorem Kq.cover {n i0 o0 i1 o1 z : Nat} (k : Kq n i0 o0 i1 o1) (h : 4 * n ≤ z ∧ z < 4 * (n + 1)) : z = i0 ∨ z = o0 ∨ z = i1 ∨ z = o1 := by unfold Kq at k; omega
/-- What a kink adds, but for the mates. -/
structure Kd (d d' : Dg) (i0 o0 i1 o1 : Nat) : Prop where
 few : d.n + 1 ≤ 64
 n : d'.n = d.n + 1
 len : d'.mt.length = 4 * (d.n + 1)
 lp : d'.lp ≤ 64
 old : ∀ c, c < d.n → d'.s c = d.s c
 new : d'.s d.n = 1 ∨ d'.s d.n = -1
 k : Kq d.n i0 o0 i1 o1
 wi0 : out d' i0 = false
 wi1 : out d' i1 = false
 wo0 : out d' o0 = true
 wo1 : out d' o1 = true
 m1 : d'.m o0 = i1
 m2 : d'.m i1 = o0
theorem Kd.out {d d' : Dg} {i0 o0 i1 o1 : Nat} (K : Kd d d' i0 o0 i1 o1) {h : Nat} (hh : h < 4 * d.n) : out d' h = out d h := out_old (K.old _ (by omega))
theorem Kd.sign {d d' : Dg} (hd : Wf d) {i0 o0 i1 o1 : Nat} (K : Kd d d' i0 o0 i1 o1) : ∀ c, c < d'.n → d'.s c = 1 ∨ d'.s c = -1 := fun c hc => by
 rw [K.n] at hc
 rcases Nat.lt_or_ge c d.n with h | h
 ·rw [K.old c h]; exact hd.sign c h
 ·rw [show c = d.n by omega]; exact K.new
/-- Well-formed, from what each half-edge's mate is. -/
theorem wf_by {d' : Dg} (few : d'.n ≤ 64) (len : d'.mt.length = 4 * d'.n) (lp : d'.lp ≤ 64) (sign : ∀ c, c < d'.n → d'.s c = 1 ∨ d'.s c = -1)
 (h : ∀ z, z < 4 * d'.n → d'.m z < 4 * d'.n ∧ d'.m (d'.m z) = z ∧ Pl.out d' z ≠ Pl.out d' (d'.m z)) : Wf d' :=
 ⟨few, len, lp, sign, fun z hz => (h z hz).1, fun z hz e => (h z hz).2.2 (by rw [e]), fun z hz => (h z hz).2.1, fun z hz => (h z hz).2.2⟩
/-- An edge gets a kink. -/
theorem Kd.edge {d d' : Dg} (hd : Valid d) {i0 o0 i1 o1 x : Nat} (K : Kd d d' i0 o0 i1 o1) (hx : x < 4 * d.n) (ho : Pl.out d x = true) (mo : ∀ h, h < 4 * d.n → h ≠ x → h ≠ d.m x → d'.m h = d.m h)
 (m3 : d'.m o1 = d.m x) (m4 : d'.m (d.m x) = o1) (m5 : d'.m x = i0) (m6 : d'.m i0 = x) : Valid d' := by
 have hv := Valid.iff.1 hd
 have hyn := hv.1.lt x hx
 have hne := hv.1.ne x hx
 have hinv := hv.1.inv x hx
 have hoy : Pl.out d (d.m x) = false := by have := hv.1.way x hx; rw [ho] at this; cases h : Pl.out d (d.m x) with
  | true => rw [h] at this; exact absurd rfl this
  | false => rfl
 obtain ⟨a1, a2, a3, a4, n1, n2, n3, n4, n5, n6⟩ := K.k.bd
 refine Valid.iff.2 ⟨wf_by (by rw [K.n]; exact K.few) (by rw [K.n]; exact K.len) K.lp (K.sign hv.1) (fun z hz => ?_), ?_⟩
 ·rw [K.n] at hz ⊢
  rcases Nat.lt_or_ge z (4 * d.n) with h | h
  ·by_cases z1 : z = x
   ·subst z1
    rw [m5, m6, K.out h, K.wi0, ho]
    exact ⟨a1.2, rfl, by decide⟩
   ·by_cases z2 : z = d.m x
    ·subst z2
     rw [m4, m3, K.out h, K.wo1, hoy]
     exact ⟨a4.2, rfl, by decide⟩
    ·have hm := hv.1.lt z h
     have q1 : d.m z ≠ x := fun e => z2 (by rw [← e, hv.1.inv z h])
     have q2 : d.m z ≠ d.m x := fun e => z1 (by rw [← hv.1.inv z h, e, hinv])
     rw [mo z h z1 z2, mo _ hm q1 q2, K.out h, K.out hm]
     exact ⟨by omega, hv.1.inv z h, hv.1.way z h⟩
  ·rcases K.k.cover ⟨h, hz⟩ with rfl | rfl | rfl | rfl
   ·rw [m6, m5, K.wi0, K.out hx, ho]; exact ⟨by omega, rfl, by decide⟩
   ·rw [K.m1, K.m2, K.wi1, K.wo0]; exact ⟨a3.2, rfl, by decide⟩
   ·rw [K.m2, K.m1, K.wi1, K.wo0]; exact ⟨a2.2, rfl, by decide⟩
   ·rw [m3, m4, K.wo1, K.out hyn, hoy]; exact ⟨by omega, rfl, by decide⟩
 ·have hf := kink_edge hv.1.hm hv.2 K.k hx rfl (Ne.symm hne)
  obtain ⟨hc, c1, c2⟩ := Hm.cut hv.1.hm hx hne
  have hX := ext_hm (Nat.le_succ d.n) hc
  have h1 := hX.tr (x := o0) (y := i1) a2.2 a3.2 (ex_new a2.1) (ex_new a3.1)
  have old : ∀ z, z < 4 * d.n → tr (ex d.n (tr d.m x (d.m x))) o0 i1 z = tr d.m x (d.m x) z := fun z hz => by rw [tr_ne (by omega) (by omega), ex_old hz]
  have fu : tr (ex d.n (tr d.m x (d.m x))) o0 i1 i0 = i0 := by rw [tr_ne n1 n2, ex_new a1.1]
  have fv : tr (ex d.n (tr d.m x (d.m x))) o0 i1 o1 = o1 := by rw [tr_ne (Ne.symm n5) (Ne.symm n6), ex_new a4.1]
  have fx : tr (ex d.n (tr d.m x (d.m x))) o0 i1 x = x := by rw [old x hx, c1]
  have fy : tr (ex d.n (tr d.m x (d.m x))) o0 i1 (d.m x) = d.m x := by rw [old _ hyn, c2]
  have hx' : x < 4 * (d.n + 1) := by omega
  have hy' : d.m x < 4 * (d.n + 1) := by omega
  have h2 := h1.tr (x := x) (y := i0) hx' a1.2 fx fu
  have g1 : tr (tr (ex d.n (tr d.m x (d.m x))) o0 i1) x i0 o1 = o1 := by rw [tr_ne (by omega) (Ne.symm n3), fv]
  have g2 : tr (tr (ex d.n (tr d.m x (d.m x))) o0 i1) x i0 (d.m x) = d.m x := by rw [tr_ne hne (by omega), fy]
  have h3 := h2.tr (x := o1) (y := d.m x) a4.2 hy' g1 g2
  have e : dart d' = (fun h => h < 4 * (d.n + 1)) := by funext x; unfold dart; rw [K.n]
  rw [e]
  refine Gen.congr h3 (fun _ _ => rfl) (fun z hz => ?_) hf
  rcases Nat.lt_or_ge z (4 * d.n) with h | h
  ·by_cases z2 : z = d.m x
   ·subst z2
    rw [tr_b, g1, m4]
   ·rw [tr_ne (by omega) z2]
    by_cases z1 : z = x
    ·subst z1
     rw [tr_a, fu, m5]
    ·rw [tr_ne z1 (by omega), old z h, tr_ne z1 z2, mo z h z1 z2]
  ·rcases K.k.cover ⟨h, hz⟩ with rfl | rfl | rfl | rfl
   ·rw [m6, tr_ne n3 (by omega), tr_b, fx]
   ·rw [K.m1, tr_ne n5 (by omega), tr_ne (by omega) (Ne.symm n1), tr_a, ex_new a3.1]
   ·rw [K.m2, tr_ne n6 (by omega), tr_ne (by omega) (Ne.symm n2), tr_b, ex_new a2.1]
   ·rw [m3, tr_a, g2]
end Go.Proofs.YtcaoblilkgajoaaDoor.Pl
end
