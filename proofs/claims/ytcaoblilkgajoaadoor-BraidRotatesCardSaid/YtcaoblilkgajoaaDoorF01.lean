/-
 The texts Vf, Lab, Row, Grow, Wd, Can, Iso in one.
-/
import Derived.Test.YtcaoblilkgajoaaDoorF00
import Derived.Test.YtcaoblilkgajoaaDoorRows
import Derived.Laws.MakeOwn
import Derived.Laws.Rows
import Derived.Laws.OwnMore
import Derived.Shelf.Spec.SlicesGrow
import Derived.Deep.LoopGhost
set_option linter.unusedVariables false
set_option linter.unusedSimpArgs false
section
namespace Go.Proofs.YtcaoblilkgajoaaDoor.Pl
def Lst (S : Nat → Prop) (R : Nat → Nat → Prop) (h : Nat) : Prop := S h ∧ ∀ g, S g → R h g → h ≤ g
theorem cnt_step_pos {p : Nat → Prop} {k : Nat} (h : p k) : cnt p (k + 1) = cnt p k + 1 := by rw [cnt, if_pos h]
theorem cnt_step_neg {p : Nat → Prop} {k : Nat} (h : ¬ p k) : cnt p (k + 1) = cnt p k := by rw [cnt, if_neg h]; omega
theorem cnt_le (p : Nat → Prop) (j : Nat) : ∀ k, cnt p j ≤ cnt p (j + k)
 | 0 => Nat.le_refl _
 | k + 1 => by
   have := cnt_le p j k
   by_cases h : p (j + k)
   ·rw [← Nat.add_assoc, cnt_step_pos h]; omega
   ·rw [← Nat.add_assoc, cnt_step_neg h]; omega
theorem cnt_mono (p : Nat → Prop) {j k : Nat} (h : j ≤ k) : cnt p j ≤ cnt p k := by
 have := cnt_le p j (k - j)
 rwa [Nat.add_sub_cancel' h] at this
theorem cnt_lt {p : Nat → Prop} {j k : Nat} (hj : p j) (h : j < k) : cnt p j < cnt p k := by
 have h1 := cnt_mono p (show j + 1 ≤ k by omega)
 rw [cnt_step_pos hj] at h1
 omega
theorem cnt_surj (p : Nat → Prop) : ∀ (N i : Nat), i < cnt p N → ∃ x, x < N ∧ p x ∧ cnt p x = i
 | 0, i, h => by simp [cnt] at h
 | N + 1, i, h => by
   by_cases hp : p N
   ·rw [cnt_step_pos hp] at h
    by_cases e : i = cnt p N
    ·exact ⟨N, by omega, hp, e.symm⟩
    ·obtain ⟨x, h1, h2, h3⟩ := cnt_surj p N i (by omega)
     exact ⟨x, by omega, h2, h3⟩
   ·rw [cnt_step_neg hp] at h
    obtain ⟨x, h1, h2, h3⟩ := cnt_surj p N i h
    exact ⟨x, by omega, h2, h3⟩
theorem cnt_congr {p q : Nat → Prop} : ∀ (N : Nat), (∀ x, x < N → (p x ↔ q x)) → cnt p N = cnt q N
 | 0, _ => rfl
 | N + 1, h => by
   have ih := cnt_congr N (fun x hx => h x (by omega))
   by_cases hp : p N
   ·rw [cnt_step_pos hp, cnt_step_pos ((h N (by omega)).1 hp), ih]
   ·rw [cnt_step_neg hp, cnt_step_neg (fun hq => hp ((h N (by omega)).2 hq)), ih]
theorem cnt_top (p : Nat → Prop) : ∀ N, cnt p N ≤ N
 | 0 => Nat.le_refl _
 | N + 1 => by
   have := cnt_top p N
   by_cases h : p N
   ·rw [cnt_step_pos h]; omega
   ·rw [cnt_step_neg h]; omega
theorem least_of {p : Nat → Prop} (x : Nat) (hx : p x) : ∃ y, p y ∧ ∀ z, p z → y ≤ z := by
 induction x using Nat.strongRecOn with
 | _ x ih =>
   by_cases h : ∃ z, p z ∧ z < x
   ·obtain ⟨z, h1, h2⟩ := h; exact ih z h2 h1
   ·exact ⟨x, hx, fun z hz => Nat.le_of_not_lt fun h1 => h ⟨z, hz, h1⟩⟩
theorem Cls.count {S : Nat → Prop} {R : Nat → Nat → Prop} (N : Nat) (hN : ∀ x, S x → x < N) (hE : Eqv S R) : Cls S R (cnt (Lst S R) N) := by
 have hw : ∀ x : Nat, ∃ y : Nat, S x → Lst S R y ∧ R x y := fun x => by
  by_cases hx : S x
  ·obtain ⟨y, hy, hm⟩ := least_of (p := fun y => S y ∧ R x y) x ⟨hx, hE.refl x hx⟩
   exact ⟨y, fun _ => ⟨⟨hy.1, fun g hg e => hm g ⟨hg, hE.trans _ _ _ hx hy.1 hg hy.2 e⟩⟩, hy.2⟩⟩
  ·exact ⟨0, fun h => absurd h hx⟩
 have un : ∀ y z, Lst S R y → Lst S R z → R y z → y = z := fun y z hy hz e => Nat.le_antisymm (hy.2 z hz.1 e) (hz.2 y hy.1 (hE.symm _ _ hy.1 hz.1 e))
 refine ⟨fun x => cnt (Lst S R) (Classical.choose (hw x)), fun x hx => ?_, fun x y hx hy => ?_, fun i hi => ?_⟩
 ·have c := Classical.choose_spec (hw x) hx
  exact cnt_lt c.1 (hN _ c.1.1)
 ·have c := Classical.choose_spec (hw x) hx
  have c' := Classical.choose_spec (hw y) hy
  constructor
  ·intro e
   have e2 : Classical.choose (hw x) = Classical.choose (hw y) := by
    rcases Nat.lt_trichotomy (Classical.choose (hw x)) (Classical.choose (hw y)) with h | h | h
    ·have := cnt_lt c.1 h; exact absurd (show cnt (Lst S R) (Classical.choose (hw x)) = cnt (Lst S R) (Classical.choose (hw y)) from e) (by omega)
    ·exact h
    ·have := cnt_lt c'.1 h; exact absurd (show cnt (Lst S R) (Classical.choose (hw x)) = cnt (Lst S R) (Classical.choose (hw y)) from e) (by omega)
   exact hE.trans _ _ _ hx c.1.1 hy c.2 (e2 ▸ hE.symm _ _ hy c'.1.1 c'.2)
  ·intro e
   have e2 := un _ _ c.1 c'.1 (hE.trans _ _ _ c.1.1 hx c'.1.1 (hE.symm _ _ hx c.1.1 c.2) (hE.trans _ _ _ hx hy c'.1.1 e c'.2))
   show cnt (Lst S R) (Classical.choose (hw x)) = cnt (Lst S R) (Classical.choose (hw y))
   rw [e2]
 ·obtain ⟨x, h1, h2, h3⟩ := cnt_surj _ N i hi
  have c := Classical.choose_spec (hw x) h2.1
  have e2 := un _ _ h2 c.1 c.2
  refine ⟨x, h2.1, ?_⟩
  show cnt (Lst S R) (Classical.choose (hw x)) = i
  rw [← e2]; exact h3
theorem eq_eqv (S : Nat → Prop) : Eqv S Eq := ⟨fun _ _ => rfl, fun _ _ _ _ e => e.symm, fun _ _ _ _ _ _ e e' => e.trans e'⟩
theorem Cls.card {S : Nat → Prop} (N : Nat) (hN : ∀ x, S x → x < N) : Cls S Eq (cnt S N) := by
 have := Cls.count (R := Eq) N hN (eq_eqv S)
 rwa [cnt_congr N (fun x _ => ⟨fun h => h.1, fun h => ⟨h, fun g _ e => Nat.le_of_eq e⟩⟩)] at this
def part (d : Dg) (c h : Nat) : Prop := h < 4 * d.n ∧ Comp d c (h / 4)
variable {d : Dg}
theorem comp_mem (hd : Wf d) {a b : Nat} (ha : a < d.n) (e : Comp d a b) : b < d.n := by
 have := hd.hm.con_mem (x := 4 * a) (by unfold dart; omega) e
 unfold dart at this; omega
theorem comp_symm (hd : Wf d) {a b : Nat} (ha : a < d.n) (e : Comp d a b) : Comp d b a := hd.hm.con_symm (by unfold dart; omega) e
theorem part_con (hd : Wf d) {c g h : Nat} (_ : c < d.n) (hg : part d c g) (e : Con rot d.m g h) : part d c h := by
 have hh := hd.hm.con_mem (x := g) hg.1 e
 exact ⟨hh, hg.2.trans ((con_comp hd hg.1 hh).1 e)⟩
theorem part_hm (hd : Wf d) {c : Nat} (hc : c < d.n) : Hm (4 * d.n) (part d c) rot d.m :=
 ⟨⟨fun _ h => h.1, fun x hx => part_con hd hc hx (Con.refl.left), fun _ _ _ _ e => tn_inj e⟩,
  ⟨fun _ h => h.1, fun x hx => part_con hd hc hx (Con.refl.right), fun x y hx hy e => hd.bij.inj x y hx.1 hy.1 e⟩, fun x hx => hd.inv x hx.1⟩
theorem part_one (hd : Wf d) {c g h : Nat} (hc : c < d.n) (hg : part d c g) (hh : part d c h) : Con rot d.m g h :=
 (con_comp hd hg.1 hh.1).2 ((comp_symm hd hc hg.2).trans hh.2)
theorem out_way (hd : Wf d) {h : Nat} (hh : h < 4 * d.n) : out d (d.m h) = !out d h := by
 have := hd.way h hh
 cases h1 : out d h <;> cases h2 : out d (d.m h) <;> simp_all
theorem orb_div {x y : Nat} (e : Orb rot x y) : y / 4 = x / 4 := orb_closed (P := fun z => z / 4 = x / 4) (fun z hz => by show rot z / 4 = _; unfold rot; rw [tn_div, hz]) rfl e
theorem part_gen (hd : Wf d) {c : Nat} (hc : c < d.n) :
 Gen (part d c) rot d.m (2 + (cnt (fun b => Comp d c b) d.n : Int) - (cnt (fun h => Least (nx d) h ∧ Comp d c (h / 4)) (4 * d.n) : Int)) := by
 have H := part_hm hd hc
 -- crossings
 have cb : Cls (fun b => b < d.n ∧ Comp d c b) Eq (cnt (fun b => Comp d c b) d.n) := by
  have := Cls.card (S := fun b => b < d.n ∧ Comp d c b) d.n (fun _ h => h.1)
  rwa [cnt_congr (q := fun b => Comp d c b) d.n (fun x hx => ⟨fun h => h.2, fun h => ⟨hx, h⟩⟩)] at this
 have slot : ∀ k, k < 4 → Cls (fun h => part d c h ∧ h % 4 = k) Eq (cnt (fun b => Comp d c b) d.n) := fun k hk =>
  cb.map (fun b => 4 * b + k) (fun x hx => by
   refine ⟨⟨by have := hx.1; omega, ?_⟩, by omega⟩
   rw [show (4 * x + k) / 4 = x by omega]; exact hx.2) (fun y hy => ⟨y / 4, ⟨by have := hy.1.1; omega, hy.1.2⟩, by have := hy.2; omega⟩) (fun x y _ _ => by omega)
 have hv : Cls (part d c) (Orb rot) (cnt (fun b => Comp d c b) d.n) := by
  refine Cls.sup (D := fun h => part d c h ∧ h % 4 = 0) ((slot 0 (by omega)).congr (fun _ => Iff.rfl) (fun x y hx hy => ⟨fun e => e ▸ Orb.refl _ _, fun e => ?_⟩)) H.rb.eqv (fun _ h => h.1) (fun x hx => ?_)
  ·have h1 := orb_div e
   have h2 := hx.2
   have h3 := hy.2
   omega
  ·have h1 := H.rb.lt x hx
   refine ⟨4 * (x / 4), ⟨⟨by omega, ?_⟩, by omega⟩, (rot_bij d.n).symm (show 4 * (x / 4) < 4 * d.n by omega) (orb_rot0 x)⟩
   rw [show 4 * (x / 4) / 4 = x / 4 by omega]; exact hx.2
 have hdn : Cls (part d c) Eq (cnt (fun b => Comp d c b) d.n * 4) := by
  have e0 := slot 0 (by omega)
  have e1 := e0.add (slot 1 (by omega)) (fun x y hx hy e => by have h1 := hx.2; have h2 := hy.2; omega) (fun x y hx hy e => by have h1 := hx.2; have h2 := hy.2; omega) (fun x hx hy => by have h1 := hx.2; have h2 := hy.2; omega)
  have e2 := e1.add (slot 2 (by omega)) (fun x y hx hy e => by have h2 := hy.2; rcases hx with hx | hx <;> have h1 := hx.2 <;> omega) (fun x y hx hy e => by have h2 := hy.2; rcases hx with hx | hx <;> have h1 := hx.2 <;> omega) (fun x hx hy => by have h2 := hy.2; rcases hx with hx | hx <;> have h1 := hx.2 <;> omega)
  have e3 := e2.add (slot 3 (by omega)) (fun x y hx hy e => by have h2 := hy.2; rcases hx with (hx | hx) | hx <;> have h1 := hx.2 <;> omega) (fun x y hx hy e => by have h2 := hy.2; rcases hx with (hx | hx) | hx <;> have h1 := hx.2 <;> omega) (fun x hx hy => by have h2 := hy.2; rcases hx with (hx | hx) | hx <;> have h1 := hx.2 <;> omega)
  have := e3.congr (S' := part d c) (R' := Eq) (fun x => ⟨fun h => by rcases h with ((h | h) | h) | h <;> exact h.1, fun h => by
   have : x % 4 = 0 ∨ x % 4 = 1 ∨ x % 4 = 2 ∨ x % 4 = 3 := by omega
   rcases this with e | e | e | e
   ·exact .inl (.inl (.inl ⟨h, e⟩))
   ·exact .inl (.inl (.inr ⟨h, e⟩))
   ·exact .inl (.inr ⟨h, e⟩)
   ·exact .inr ⟨h, e⟩⟩) (fun _ _ _ _ => Iff.rfl)
  rwa [show cnt (fun b => Comp d c b) d.n + cnt (fun b => Comp d c b) d.n + cnt (fun b => Comp d c b) d.n + cnt (fun b => Comp d c b) d.n = cnt (fun b => Comp d c b) d.n * 4 by omega] at this
 -- edges
 have ho : Cls (fun h => part d c h ∧ out d h = true) Eq (cnt (fun h => part d c h ∧ out d h = true) (4 * d.n)) := Cls.card _ (fun _ h => h.1.1)
 have hi : Cls (fun h => part d c h ∧ out d h = false) Eq (cnt (fun h => part d c h ∧ out d h = true) (4 * d.n)) :=
  ho.map d.m (fun x hx => ⟨H.ab.maps x hx.1, by rw [out_way hd hx.1.1, hx.2]; rfl⟩)
   (fun y hy => ⟨d.m y, ⟨H.ab.maps y hy.1, by rw [out_way hd hy.1.1, hy.2]; rfl⟩, hd.inv y hy.1.1⟩) (fun x y hx hy => ⟨fun e => by rw [e], fun e => hd.bij.inj x y hx.1.1 hy.1.1 e⟩)
 have hboth := ho.add hi (fun x y hx hy e => by have h1 := hx.2; have h2 := hy.2; rw [e, h2] at h1; cases h1) (fun x y hx hy e => by have h1 := hx.2; have h2 := hy.2; rw [e, h1] at h2; cases h2) (fun x hx hy => by have h1 := hx.2; rw [hy.2] at h1; cases h1)
 have hda := hdn.unique (hboth.congr (S' := part d c) (fun x => ⟨fun h => by rcases h with h | h <;> exact h.1, fun h => by
  rcases Bool.eq_false_or_eq_true (out d x) with e | e
  ·exact .inl ⟨h, e⟩
  ·exact .inr ⟨h, e⟩⟩) (fun _ _ _ _ => Iff.rfl))
 have hk : Cls (part d c) (Orb d.m) (cnt (fun h => part d c h ∧ out d h = true) (4 * d.n)) := by
  refine Cls.sup (D := fun h => part d c h ∧ out d h = true) (ho.congr (fun _ => Iff.rfl) (fun x y hx hy => ⟨fun e => e ▸ Orb.refl _ _, fun e => ?_⟩)) H.ab.eqv (fun _ h => h.1) (fun x hx => ?_)
  ·have : y = x ∨ y = d.m x := orb_closed (P := fun z => z = x ∨ z = d.m x) (fun z hz => by
    rcases hz with rfl | rfl
    ·exact .inr rfl
    ·exact .inl (hd.inv x hx.1.1)) (.inl rfl) e
   rcases this with h | h
   ·exact h.symm
   ·have h2 := hy.2; rw [h, out_way hd hx.1.1, hx.2] at h2; cases h2
  ·rcases Bool.eq_false_or_eq_true (out d x) with e | e
   ·exact ⟨x, ⟨hx, e⟩, Orb.refl _ _⟩
   ·exact ⟨d.m x, ⟨H.ab.maps x hx, by rw [out_way hd hx.1, e]; rfl⟩, Orb.step _ _⟩
 -- faces
 have hf : Cls (part d c) (Orb (phi rot d.m)) (cnt (fun h => Least (nx d) h ∧ Comp d c (h / 4)) (4 * d.n)) := by
  have := Cls.count (4 * d.n) H.pb.lt H.pb.eqv
  rwa [cnt_congr (q := fun h => Least (nx d) h ∧ Comp d c (h / 4)) (4 * d.n) (fun x hx => ⟨fun h => ⟨fun k => h.2 _ (H.pb.it k x h.1) ⟨k, rfl⟩, h.1.2⟩, fun h => ⟨⟨hx, h.2⟩, fun g _ e => by
   obtain ⟨k, rfl⟩ := e
   exact h.1 k⟩⟩)] at this
 -- one component
 have hc1 : Cls (part d c) (Con rot d.m) 1 :=
  ⟨fun _ => 0, fun _ _ => Nat.zero_lt_one, fun x y hx hy => ⟨fun _ => part_one hd hc hx hy, fun _ => rfl⟩, fun i hi => ⟨4 * c, ⟨by omega, by rw [show 4 * c / 4 = c by omega]; exact .refl⟩, show 0 = i by omega⟩⟩
 exact ⟨_, _, _, _, _, hv, hdn, hk, hf, hc1, by omega⟩
end Go.Proofs.YtcaoblilkgajoaaDoor.Pl
end
section
namespace Go.Proofs.YtcaoblilkgajoaaDoor.Pl
def pv (ps : List Int) (a : Nat) : Int := ps.getD a 0
theorem pv_set {ps : List Int} {i : Nat} (hi : i < ps.length) (v : Int) (a : Nat) : pv (ps.set i v) a = if a = i then v else pv ps a := by
 unfold pv
 rw [List.getD_eq_getElem?_getD, List.getD_eq_getElem?_getD, List.getElem?_set]
 by_cases h : i = a
 ·subst h; simp [hi]
 ·rw [if_neg h, if_neg (fun e => h e.symm)]
def unl (ps : List Int) : Nat := ps.countP (fun z => decide (z < 0))
theorem unl_set {ps : List Int} {i : Nat} (hi : i < ps.length) (hn : pv ps i < 0) {v : Int} (hv : 0 ≤ v) : unl (ps.set i v) + 1 = unl ps := by
 have e : pv ps i = ps[i] := by unfold pv; rw [List.getD_eq_getElem?_getD, List.getElem?_eq_getElem hi]; rfl
 have hp : 0 < unl ps := by
  unfold unl
  rw [List.countP_pos_iff]
  exact ⟨ps[i], List.getElem_mem hi, by rw [← e]; simpa using hn⟩
 unfold unl at hp ⊢
 rw [List.countP_set hi]
 have h1 : decide (ps[i] < 0) = true := by rw [← e]; simpa using hn
 have h2 : decide (v < 0) = false := by simpa using hv
 rw [h1, h2]
 simp only [if_true, Bool.false_eq_true, if_false]
 omega
theorem fill_set {k n : Nat} (h : k < n) : (List.replicate k (-1 : Int) ++ List.replicate (n - k) 0).set k (-1) = List.replicate (k + 1) (-1) ++ List.replicate (n - (k + 1)) 0 := by
 refine List.ext_getElem (by simp; omega) (fun i h1 h2 => ?_)
 simp only [List.getElem_set, List.getElem_append, List.getElem_replicate, List.length_replicate]
 split <;> split <;> (try split) <;> omega
variable {d : Dg}
def nb (d : Dg) (a t : Nat) : Nat := d.m (4 * a + t) / 4
theorem nb_lt (hd : Wf d) {a t : Nat} (ha : a < d.n) (ht : t < 4) : nb d a t < d.n := by
 have := hd.lt (4 * a + t) (by omega)
 unfold nb; omega
theorem nb_comp (hd : Wf d) {a t : Nat} (ha : a < d.n) (ht : t < 4) : Comp d a (nb d a t) := by
 have h1 := (con_comp hd (g := 4 * a + t) (h := d.m (4 * a + t)) (by omega) (hd.lt _ (by omega))).1 (Con.refl.right)
 rwa [show (4 * a + t) / 4 = a by omega] at h1
theorem comp_closed (hd : Wf d) {P : Nat → Prop} (hP : ∀ a, a < d.n → P a → ∀ t, t < 4 → P (nb d a t)) {a b : Nat} (ha : a < d.n) (h : P a) (e : Comp d a b) : P b := by
 have : ∀ y, Con rot d.m (4 * a) y → y < 4 * d.n ∧ P (y / 4) := by
  intro y e
  induction e with
  | refl => exact ⟨by omega, by rw [show 4 * a / 4 = a by omega]; exact h⟩
  | left _ ih => exact ⟨tn_lt ih.1, by unfold rot; rw [tn_div]; exact ih.2⟩
  | right _ ih =>
    rename_i y _
    refine ⟨hd.lt y ih.1, ?_⟩
    have := hP (y / 4) (by omega) ih.2 (y % 4) (by omega)
    unfold nb at this
    rwa [show 4 * (y / 4) + y % 4 = y by omega] at this
 have := (this _ e).2
 rwa [show 4 * b / 4 = b by omega] at this
structure LB (d : Dg) (ps : List Int) (P : Nat) : Prop where
 len : ps.length = d.n
 lo : ∀ a, a < d.n → -1 ≤ pv ps a ∧ pv ps a < P
 same : ∀ a b, a < d.n → Comp d a b → 0 ≤ pv ps a → pv ps b = pv ps a
 conn : ∀ a b, a < d.n → b < d.n → 0 ≤ pv ps a → pv ps a = pv ps b → Comp d a b
 all : ∀ p : Nat, p < P → ∃ a, a < d.n ∧ pv ps a = p
theorem LB.le {ps : List Int} {P : Nat} (h : LB d ps P) : P ≤ d.n := by
 have hw : ∀ p : Nat, ∃ a : Nat, p < P → a < d.n ∧ pv ps a = p := fun p => by
  by_cases hp : p < P
  ·obtain ⟨a, ha⟩ := h.all p hp; exact ⟨a, fun _ => ha⟩
  ·exact ⟨0, fun e => absurd e hp⟩
 refine pigeon P d.n (fun p => Classical.choose (hw p)) (fun p hp => (Classical.choose_spec (hw p) hp).1) (fun p q hp hq e => ?_)
 have e1 := (Classical.choose_spec (hw p) hp).2
 have e2 := (Classical.choose_spec (hw q) hq).2
 have e' : Classical.choose (hw p) = Classical.choose (hw q) := e
 rw [e', e2] at e1
 omega
theorem LB.start (d : Dg) : LB d (List.replicate d.n (-1)) 0 := by
 have e : ∀ a, a < d.n → pv (List.replicate d.n (-1)) a = -1 := fun a ha => by
  unfold pv; rw [List.getD_eq_getElem?_getD, List.getElem?_replicate, if_pos ha]; rfl
 exact ⟨by simp, fun a ha => by rw [e a ha]; omega, fun a b ha _ h => by rw [e a ha] at h; omega, fun a b ha _ h => by rw [e a ha] at h; omega, fun p hp => by omega⟩
theorem LB.none (hd : Wf d) {ps : List Int} {P : Nat} (h : LB d ps P) {c b : Nat} (hc : c < d.n) (hn : pv ps c < 0) (e : Comp d c b) : pv ps b < 0 := by
 have hb := comp_mem hd hc e
 by_cases h0 : 0 ≤ pv ps b
 ·have := h.same b c hb (comp_symm hd hc e) h0
  omega
 ·omega
structure LQ (d : Dg) (c : Nat) (p0 : List Int) (P : Nat) (ps : List Int) (qs : List Nat) (u s : Nat) : Prop where
 base : LB d p0 P
 hc : c < d.n
 new : pv p0 c < 0
 len : ps.length = d.n
 me : pv ps c = P
 mine : ∀ a, a < d.n → pv ps a = P → Comp d c a
 old : ∀ a, a < d.n → pv ps a ≠ P → pv ps a = pv p0 a
 wait : ∀ q, q ∈ qs → q < d.n ∧ pv ps q = P
 brd : ∀ a, a < d.n → pv ps a = P → a ∈ qs ∨ ∀ t, t < 4 → (a = u → t < s) → 0 ≤ pv ps (nb d a t)
theorem LQ.start {c : Nat} {p0 : List Int} {P : Nat} (h : LB d p0 P) (hc : c < d.n) (hn : pv p0 c < 0) : LQ d c p0 P (p0.set c P) [c] d.n 0 := by
 have hl : c < p0.length := by rw [h.len]; exact hc
 refine ⟨h, hc, hn, by rw [List.length_set, h.len], by rw [pv_set hl, if_pos rfl], fun a ha e => ?_, fun a ha e => ?_, fun q hq => ?_, fun a ha e => ?_⟩
 ·rw [pv_set hl] at e
  by_cases h1 : a = c
  ·subst h1; exact .refl
  ·rw [if_neg h1] at e; have := (h.lo a ha).2; omega
 ·rw [pv_set hl] at e ⊢
  by_cases h1 : a = c
  ·rw [if_pos h1] at e; exact absurd rfl e
  ·rw [if_neg h1]
 ·rw [List.mem_singleton] at hq; subst hq; exact ⟨hc, by rw [pv_set hl, if_pos rfl]⟩
 ·rw [pv_set hl] at e
  by_cases h1 : a = c
  ·exact .inl (by rw [h1]; simp)
  ·rw [if_neg h1] at e; have := (h.lo a ha).2; omega
theorem LQ.pop {c : Nat} {p0 ps : List Int} {P q s u : Nat} {qs : List Nat} (h : LQ d c p0 P ps (q :: qs) u s) (hu : u = d.n) : LQ d c p0 P ps qs q 0 := by
 refine ⟨h.base, h.hc, h.new, h.len, h.me, h.mine, h.old, fun x hx => h.wait x (by simp [hx]), fun a ha e => ?_⟩
 rcases h.brd a ha e with h1 | h1
 ·by_cases h2 : a = q
  ·exact .inr fun t _ h3 => absurd (h3 h2) (by omega)
  ·exact .inl (by simpa [h2] using h1)
 ·exact .inr fun t ht _ => h1 t ht (fun e => absurd e (by omega))
theorem LQ.ge {c : Nat} {p0 ps : List Int} {P s u : Nat} {qs : List Nat} (h : LQ d c p0 P ps qs u s) {a : Nat} (ha : a < d.n) : -1 ≤ pv ps a ∧ pv ps a < (P + 1 : Nat) := by
 by_cases e : pv ps a = P
 ·omega
 ·rw [h.old a ha e]; have := h.base.lo a ha; omega
theorem LQ.skip {c : Nat} {p0 ps : List Int} {P s u : Nat} {qs : List Nat} (h : LQ d c p0 P ps qs u s) (hn : 0 ≤ pv ps (nb d u s)) : LQ d c p0 P ps qs u (s + 1) := by
 refine ⟨h.base, h.hc, h.new, h.len, h.me, h.mine, h.old, h.wait, fun a ha e => ?_⟩
 rcases h.brd a ha e with h1 | h1
 ·exact .inl h1
 ·refine .inr fun t ht h2 => ?_
  by_cases h3 : a = u ∧ t = s
  ·obtain ⟨rfl, rfl⟩ := h3; exact hn
  ·exact h1 t ht (fun e => by
    have := h2 e
    have : t ≠ s := fun e2 => h3 ⟨e, e2⟩
    omega)
theorem LQ.push (hd : Wf d) {c : Nat} {p0 ps : List Int} {P s u : Nat} {qs : List Nat} (h : LQ d c p0 P ps qs u s) (hu : u < d.n) (hup : pv ps u = P) (hs : s < 4) (_ : pv ps (nb d u s) < 0) :
 LQ d c p0 P (ps.set (nb d u s) P) (qs ++ [nb d u s]) u (s + 1) := by
 have hb := nb_lt hd hu hs
 have hl : nb d u s < ps.length := by rw [h.len]; exact hb
 have hcb : Comp d c (nb d u s) := (h.mine u hu hup).trans (nb_comp hd hu hs)
 refine ⟨h.base, h.hc, h.new, by rw [List.length_set, h.len], ?_, fun a ha e => ?_, fun a ha e => ?_, fun q hq => ?_, fun a ha e => ?_⟩
 ·rw [pv_set hl]; split
  ·rfl
  ·exact h.me
 ·rw [pv_set hl] at e
  by_cases h1 : a = nb d u s
  ·rw [h1]; exact hcb
  ·rw [if_neg h1] at e; exact h.mine a ha e
 ·rw [pv_set hl] at e ⊢
  by_cases h1 : a = nb d u s
  ·rw [if_pos h1] at e; exact absurd rfl e
  ·rw [if_neg h1] at e ⊢; exact h.old a ha e
 ·rw [List.mem_append, List.mem_singleton] at hq
  rw [pv_set hl]
  rcases hq with hq | hq
  ·exact ⟨(h.wait q hq).1, by split; rfl; exact (h.wait q hq).2⟩
  ·subst hq; exact ⟨hb, by rw [if_pos rfl]⟩
 ·by_cases h1 : a = nb d u s
  ·exact .inl (by rw [h1]; simp)
  ·rw [pv_set hl, if_neg h1] at e
   rcases h.brd a ha e with h2 | h2
   ·exact .inl (by simp [h2])
   ·refine .inr fun t ht h3 => ?_
    rw [pv_set hl]
    split
    ·omega
    ·rename_i h4
     refine h2 t ht (fun e => ?_)
     have := h3 e
     have : t ≠ s := fun e2 => h4 (by rw [e, e2])
     omega
theorem LQ.rest {c : Nat} {p0 ps : List Int} {P u : Nat} {qs : List Nat} (h : LQ d c p0 P ps qs u 4) : LQ d c p0 P ps qs d.n 0 :=
 ⟨h.base, h.hc, h.new, h.len, h.me, h.mine, h.old, h.wait, fun a ha e => (h.brd a ha e).imp id fun h1 t ht _ => h1 t ht (fun _ => ht)⟩
theorem LQ.done (hd : Wf d) {c : Nat} {p0 ps : List Int} {P s : Nat} (h : LQ d c p0 P ps [] d.n s) : LB d ps (P + 1) ∧ (∀ a, a < d.n → 0 ≤ pv p0 a → 0 ≤ pv ps a) ∧ 0 ≤ pv ps c := by
 have full : ∀ b, Comp d c b → pv ps b = P := by
  intro b e
  have : b < d.n ∧ pv ps b = P := by
   refine comp_closed hd (P := fun a => a < d.n ∧ pv ps a = P) (fun a ha ⟨_, h2⟩ t ht => ?_) h.hc ⟨h.hc, h.me⟩ e
   refine ⟨nb_lt hd ha ht, ?_⟩
   rcases h.brd a ha h2 with h3 | h3
   ·cases h3
   ·have h4 := h3 t ht (fun e => absurd e (by omega))
    by_cases h5 : pv ps (nb d a t) = P
    ·exact h5
    ·have h6 := h.old _ (nb_lt hd ha ht) h5
     have := h.base.none hd h.hc h.new ((h.mine a ha h2).trans (nb_comp hd ha ht))
     omega
  exact this.2
 have cls : ∀ a, a < d.n → (pv ps a = P ↔ Comp d c a) := fun a ha => ⟨h.mine a ha, full a⟩
 refine ⟨⟨h.len, fun a ha => h.ge ha, fun a b ha e h0 => ?_, fun a b ha hb h0 e => ?_, fun p hp => ?_⟩, fun a ha h0 => ?_, by rw [h.me]; omega⟩
 ·have hb := comp_mem hd ha e
  by_cases h1 : pv ps a = P
  ·rw [h1]; exact full b ((h.mine a ha h1).trans e)
  ·have h2 : pv ps b ≠ P := fun h3 => h1 ((cls a ha).2 ((h.mine b hb h3).trans (comp_symm hd ha e)))
   rw [h.old a ha h1, h.old b hb h2]
   rw [h.old a ha h1] at h0
   exact h.base.same a b ha e h0
 ·by_cases h1 : pv ps a = P
  ·rw [h1] at e
   exact (comp_symm hd h.hc (h.mine a ha h1)).trans (h.mine b hb e.symm)
  ·have h2 : pv ps b ≠ P := fun h3 => h1 (by rw [e, h3])
   rw [h.old a ha h1, h.old b hb h2] at e
   rw [h.old a ha h1] at h0
   exact h.base.conn a b ha hb h0 e
 ·by_cases h1 : p = P
  ·exact ⟨c, h.hc, by rw [h.me, h1]⟩
  ·obtain ⟨a, ha, e⟩ := h.base.all p (by omega)
   refine ⟨a, ha, ?_⟩
   by_cases h2 : pv ps a = P
   ·have := h.base.none hd h.hc h.new (h.mine a ha h2)
    omega
   ·rw [h.old a ha h2, e]
 ·by_cases h1 : pv ps a = P
  ·rw [h1]; omega
  ·rw [h.old a ha h1]; exact h0
end Go.Proofs.YtcaoblilkgajoaaDoor.Pl
end
section
namespace Go.Proofs.YtcaoblilkgajoaaDoor
open Go Go.RowKit
def Row (w : World) (g : Nat) (t : TypeId) (vs : List Value) : Prop := w.heap[g]? = some (.cells vs.toArray t (0, 0))
theorem Row.lt {w : World} {g : Nat} {t : TypeId} {vs : List Value} (h : Row w g t vs) : g < w.heap.size := lt_of_heap h
theorem Row.cell {w : World} {g : Nat} {t : TypeId} {vs : List Value} (h : Row w g t vs) {i : Nat} (hi : i < vs.length) : w.cell? ⟨g, i, none⟩ = some (vs[i]'hi) := by
 rw [cell_of_row w g i _ t (0, 0) h]; simp [hi]
theorem Row.free {w : World} {g : Nat} {t : TypeId} {vs : List Value} (h : Row w g t vs) (i : Nat) : w.frozen? ⟨g, i, none⟩ = false := frozen_of_row w g i _ t h
theorem Row.set {w : World} {g : Nat} {t : TypeId} {vs : List Value} (h : Row w g t vs) (i : Nat) (v : Value) : Row (w.setCell ⟨g, i, none⟩ v) g t (vs.set i v) := by
 unfold Row
 rw [Go.heap_setCell_same w g i _ t v h]
 simp
theorem Row.other {w : World} {g : Nat} {t : TypeId} {vs : List Value} (h : Row w g t vs) {a : Addr} (ha : g ≠ a.block) (v : Value) : Row (w.setCell a v) g t vs := (Below.heap_setCell w a v g ha).trans h
theorem Row.alloc {w : World} {g : Nat} {t : TypeId} {vs : List Value} (h : Row w g t vs) (o : Obj) : Row (w.alloc o) g t vs := (Below.heap_alloc w o g h.lt).trans h
theorem Row.drew {w : World} {g : Nat} {t : TypeId} {vs : List Value} (h : Row w g t vs) : Row w.drew g t vs := h
theorem Row.below {w w' : World} {g : Nat} {t : TypeId} {vs : List Value} (h : Row w g t vs) (hb : Below w.heap.size w w') : Row w' g t vs := (hb.block g h.lt).trans h
theorem Row.grown {w w' : World} {g : Nat} {t : TypeId} {vs : List Value} {r : Option Nat} (h : Row w g t vs) (hg : w.grownBy w' r) (hr : some g ≠ r) : Row w' g t vs := (hg.block g h.lt hr).trans h
theorem Row.new (w : World) (t : TypeId) (vs : List Value) : Row (w.alloc (.cells vs.toArray t)) w.heap.size t vs := heap_alloc_new w _
def IRow (w : World) (g : Nat) (zs : List Int) : Prop := Row w g 3 (zs.map (.int .i64))
theorem IRow.cell {w : World} {g : Nat} {zs : List Int} (h : IRow w g zs) {i : Nat} (hi : i < zs.length) : w.cell? ⟨g, i, none⟩ = some (.int .i64 (Pl.pv zs i)) := by
 refine (Row.cell h (i := i) (by simpa using hi)).trans ?_
 unfold Pl.pv
 rw [List.getElem_map, List.getD_eq_getElem?_getD, List.getElem?_eq_getElem hi]; rfl
theorem IRow.set {w : World} {g : Nat} {zs : List Int} (h : IRow w g zs) (i : Nat) (v : Int) : IRow (w.setCell ⟨g, i, none⟩ (.int .i64 v)) g (zs.set i v) := by
 unfold IRow
 rw [List.map_set]
 exact Row.set h i _
theorem IRow.ints {w : World} {g : Nat} {zs : List Int} (h : IRow w g zs) : IntsAt w (some ⟨g, 0, none⟩) zs.length zs := by
 refine ⟨by simp, fun _ => ⟨g, 0, rfl, fun j u hu => ?_⟩⟩
 rw [Nat.zero_add]
 refine (cell_of_row w g j _ _ (0, 0) h).trans ?_
 simpa using hu
def BRow (w : World) (g : Nat) (bs : List Bool) : Prop := Row w g 4 (bs.map .bool)
theorem BRow.cell {w : World} {g : Nat} {bs : List Bool} (h : BRow w g bs) {i : Nat} (hi : i < bs.length) : w.cell? ⟨g, i, none⟩ = some (.bool (bs.getD i false)) := by
 refine (Row.cell h (i := i) (by simpa using hi)).trans ?_
 rw [List.getElem_map, List.getD_eq_getElem?_getD, List.getElem?_eq_getElem hi]; rfl
theorem BRow.set {w : World} {g : Nat} {bs : List Bool} (h : BRow w g bs) (i : Nat) (v : Bool) : BRow (w.setCell ⟨g, i, none⟩ (.bool v)) g (bs.set i v) := by
 unfold BRow
 rw [List.map_set]
 exact Row.set h i _
theorem made_rep (v : Value) (n : Nat) : madeCells #[v] n = (List.replicate n v).toArray := by
 apply Array.ext'
 simp only [madeCells, Array.toList_map, Array.toList_range]
 refine List.ext_getElem (by simp) (fun i h1 h2 => ?_)
 have : i % 1 = 0 := Nat.mod_one i
 simp [this]
theorem IRow.made (w : World) (n : Nat) : IRow (w.alloc (.cells (Array.replicate n (Value.int .i64 0)) 3)) w.heap.size (List.replicate n 0) := by
 unfold IRow Row
 rw [List.map_replicate]
 exact heap_alloc_new w _
theorem BRow.made (w : World) (n : Nat) : BRow (w.alloc (.cells (Array.replicate n (Value.bool false)) 4)) w.heap.size (List.replicate n false) := by
 unfold BRow Row
 rw [List.map_replicate]
 exact heap_alloc_new w _
theorem intInfo : (Tryd.prog.info? 3).map (fun i => (i.zero, i.size, i.bytes)) = some (some (.int .i64 0), 1, 8) := by kernel_rfl
theorem boolInfo : (Tryd.prog.info? 4).map (fun i => (i.zero, i.size, i.bytes)) = some (some (.bool false), 1, 1) := by kernel_rfl
theorem run_ints (n : Nat) (hn : n ≤ 100000) (w : World) : (Instr.makeSlice 22 (.int .i64 (n : Int)) (.int .i64 (n : Int))).run Tryd.prog w = .ok (.slice (some ⟨w.heap.size, 0, none⟩) n n) (w.alloc (.cells (Array.replicate n (Value.int .i64 0)) 3)) := by
 obtain ⟨i0, hi, hz0, hz1, hz2⟩ := info_parts intInfo
 have := run_make (P := Tryd.prog) w 22 3 i0 (.int .i64 0) Tryd.underlying22 hi hz0 .i64 .i64 n n (by omega) (Int.le_refl _) (by rw [hz2]; omega) (by omega)
 rw [hz1, Nat.mul_one, Int.toNat_natCast, show madeCells (Value.cells (.int .i64 0)) n = (List.replicate n (.int .i64 0)).toArray from made_rep _ _] at this
 exact this
theorem run_bools (n : Nat) (hn : n ≤ 100000) (w : World) : (Instr.makeSlice 85 (.int .i64 (n : Int)) (.int .i64 (n : Int))).run Tryd.prog w = .ok (.slice (some ⟨w.heap.size, 0, none⟩) n n) (w.alloc (.cells (Array.replicate n (Value.bool false)) 4)) := by
 obtain ⟨i0, hi, hz0, hz1, hz2⟩ := info_parts boolInfo
 have := run_make (P := Tryd.prog) w 85 4 i0 (.bool false) Tryd.underlying85 hi hz0 .i64 .i64 n n (by omega) (Int.le_refl _) (by rw [hz2]; omega) (by omega)
 rw [hz1, Nat.mul_one, Int.toNat_natCast, show madeCells (Value.cells (.bool false)) n = (List.replicate n (.bool false)).toArray from made_rep _ _] at this
 exact this
end Go.Proofs.YtcaoblilkgajoaaDoor
end
section
namespace Go.Proofs.YtcaoblilkgajoaaDoor
open Go Go.RowKit
section
variable {P : Program} (w : World)
theorem run_append_ints (base : Nat) (t ty e : TypeId) (i : TypeInfo) (z : Value) (bytes : Nat) (ht : P.underlying t = some (.slice e)) (hi : P.info? e = some i) (hz : i.zero = some z)
 (hsize : i.size = 1) (hby : i.bytes = bytes) (hzs : z.cells.size = 1)
 (v : Value) (n : Nat) (xs : List Value) (hown : w.ownsRow base e 1 v n xs)
 (A : Option Addr) (m c : Nat) (zs : List Int) (hin : IntsAt w A m zs)
 (h63 : n + m ≤ maxLen) (hbytes : (n + m) * bytes ≤ 140737488355328) (hbase : base ≤ w.heap.size) :
 ∃ v' w', (Builtin.append_ #[t, t] ty #[v, .slice A m c]).run P w = .ok v' w' ∧ w'.ownsRow base e 1 v' (n + m) (xs ++ zs.map (.int .i64)) ∧ w.grownBy w' v.ownBlock := by
 have hl := hin.len
 rcases Nat.eq_zero_or_pos m with h0 | h0
 ·subst h0
  obtain rfl : zs = [] := List.eq_nil_of_length_eq_zero hl
  have hr : (Builtin.append_ #[t, t] ty #[v, .slice A 0 c]).run P w = .ok v w := by
   rcases hown.2 with ⟨rfl, rfl⟩ | ⟨g, cap, cur, rfl, _, _, hnc, _⟩
   ·cases A <;> simp [Builtin.append_, run_underlying ht, sizeOf, typeInfo, hi, Builtin.lenOf, Builtin.firstCells, loadCells, loadCellsFrom]
   ·cases A <;> simp [Builtin.append_, run_underlying ht, sizeOf, typeInfo, hi, Builtin.lenOf, Builtin.firstCells, hnc, storeCells, loadCells, loadCellsFrom]
  refine ⟨v, w, hr, by simpa using hown, ⟨rfl, rfl, rfl, Nat.le_refl _, fun _ _ _ => rfl⟩⟩
 ·obtain ⟨b, o, rfl, hc⟩ := hin.2 h0
  obtain ⟨v', w', hr, h2, h3, _⟩ := run_append_own (P := P) w base t ty e i z 1 bytes ht hi hz hsize hby hzs (by omega) v n xs hown ⟨b, o, none⟩ m c (zs.map (.int .i64)) (by rw [List.length_map, hl, Nat.mul_one]) (fun j u hu => by
   have : (⟨b, o, none⟩ : Addr).add j = ⟨b, o + j, none⟩ := by unfold Addr.add; split <;> simp_all
   rw [this]; exact hc j u hu) (fun u hu => by
   obtain ⟨x, _, rfl⟩ := List.mem_map.1 hu; rfl) h63 hbytes hbase
  exact ⟨v', w', hr, h2, h3⟩
theorem wp_append_ints {o : Oper} {a : Act} {K : Act → World → Prop} {Q : Exit → Act → World → Prop} (s x : Operand) (t : TypeId)
 (ho : o.op = .call { callee := .builtin .append, args := #[s, x], argTypes := #[t, t] })
 (base : Nat) (e : TypeId) (i : TypeInfo) (z : Value) (bytes : Nat) (ht : P.underlying t = some (.slice e)) (hi : P.info? e = some i) (hz : i.zero = some z)
 (hsize : i.size = 1) (hby : i.bytes = bytes) (hzs : z.cells.size = 1)
 (v : Value) (n : Nat) (xs : List Value) (hs : a.eval s = v) (hown : w.ownsRow base e 1 v n xs)
 (A : Option Addr) (m c : Nat) (zs : List Int) (hx : a.eval x = .slice A m c) (hin : IntsAt w A m zs)
 (h63 : n + m ≤ maxLen) (hbytes : (n + m) * bytes ≤ 140737488355328) (hbase : base ≤ w.heap.size)
 (h : ∀ v' w', w'.ownsRow base e 1 v' (n + m) (xs ++ zs.map (.int .i64)) → w.grownBy w' v.ownBlock → K (a.put o.dst v') w') : o.wp P a w K Q := by
 obtain ⟨v', w', hr, h2, h3⟩ := run_append_ints (P := P) w base t o.type e i z bytes ht hi hz hsize hby hzs v n xs hown A m c zs hin h63 hbytes hbase
 unfold Oper.wp execOp
 simp only [ho, resolve, invoke, builtin, Sem.run_bind, Sem.run_pure, Result.andThen_ok, List.map_toArray, List.map_cons, List.map_nil, hs, hx, hr]
 exact h v' w' h2 h3
end
end Go.Proofs.YtcaoblilkgajoaaDoor
end
section
namespace Go.Proofs.YtcaoblilkgajoaaDoor
open Go.RowKit
def pre (xs ys : List Int) (k : Nat) : List Int := if k = 0 then [] else if k = 1 then xs else xs ++ ys
theorem owns_slice {w : World} {base : Nat} {e : TypeId} {size : Nat} {v : Value} {n : Nat} {xs : List Value} (h : w.ownsRow base e size v n xs) : ∃ A c, v = .slice A n c := by
 rcases h.2 with ⟨rfl, rfl⟩ | ⟨g, cap, cur, rfl, _⟩
 ·exact ⟨_, _, rfl⟩
 ·exact ⟨_, _, rfl⟩
end Go.Proofs.YtcaoblilkgajoaaDoor
end
section
namespace Go.Proofs.YtcaoblilkgajoaaDoor.Pl
variable {d : Dg}
def addN (o : List Nat) (b : Nat) : List Nat := if b ∈ o then o else o ++ [b]
def addS (d : Dg) (o : List Nat) (c : Nat) : Nat → List Nat
 | 0 => o
 | s + 1 => addN (addS d o c s) (nb d c s)
def ordK (d : Dg) (r : Nat) : Nat → List Nat
 | 0 => [r]
 | k + 1 => match (ordK d r k)[k]? with
   | some c => addS d (ordK d r k) c 4
   | none => ordK d r k
def ord (d : Dg) (r : Nat) : List Nat := ordK d r d.n
theorem addN_pre (o : List Nat) (b : Nat) : o <+: addN o b := by
 unfold addN; split
 ·exact List.prefix_refl _
 ·exact List.prefix_append _ _
theorem addN_mem (o : List Nat) (b : Nat) : b ∈ addN o b := by
 unfold addN; split
 ·assumption
 ·simp
theorem mem_addN {o : List Nat} {b x : Nat} (h : x ∈ addN o b) : x ∈ o ∨ x = b := by
 unfold addN at h; split at h
 ·exact .inl h
 ·simpa using h
theorem addN_nodup {o : List Nat} (h : o.Nodup) (b : Nat) : (addN o b).Nodup := by
 unfold addN; split
 ·exact h
 ·rename_i hb
  rw [List.nodup_append]
  exact ⟨h, by simp, fun x hx y hy => by simp at hy; subst hy; exact fun e => hb (e ▸ hx)⟩
theorem addS_pre (o : List Nat) (c : Nat) : ∀ s, o <+: addS d o c s
 | 0 => List.prefix_refl _
 | s + 1 => (addS_pre o c s).trans (addN_pre _ _)
theorem addS_mono (o : List Nat) (c : Nat) (s : Nat) : ∀ k, addS d o c s <+: addS d o c (s + k)
 | 0 => List.prefix_refl _
 | k + 1 => (addS_mono o c s k).trans (addN_pre _ _)
theorem addS_mem (o : List Nat) (c : Nat) {t s : Nat} (h : t < s) : nb d c t ∈ addS d o c s := by
 obtain ⟨k, rfl⟩ : ∃ k, s = t + 1 + k := ⟨s - (t + 1), by omega⟩
 exact (addS_mono o c (t + 1) k).subset (addN_mem _ _)
theorem mem_addS {o : List Nat} {c x : Nat} : ∀ {s : Nat}, x ∈ addS d o c s → x ∈ o ∨ ∃ t, t < s ∧ x = nb d c t
 | 0, h => .inl h
 | s + 1, h => by
   rcases mem_addN h with h | h
   ·rcases mem_addS h with h | ⟨t, h1, h2⟩
    ·exact .inl h
    ·exact .inr ⟨t, by omega, h2⟩
   ·exact .inr ⟨s, by omega, h⟩
theorem addS_nodup {o : List Nat} (h : o.Nodup) (c : Nat) : ∀ s, (addS d o c s).Nodup
 | 0 => h
 | s + 1 => addN_nodup (addS_nodup h c s) _
theorem ordK_pre (r k : Nat) : ordK d r k <+: ordK d r (k + 1) := by
 conv => rhs; rw [ordK]
 split
 ·exact addS_pre _ _ _
 ·exact List.prefix_refl _
theorem ordK_mono (r k : Nat) : ∀ j, ordK d r k <+: ordK d r (k + j)
 | 0 => List.prefix_refl _
 | j + 1 => (ordK_mono r k j).trans (ordK_pre r (k + j))
theorem ordK_some {r k c : Nat} (h : (ordK d r k)[k]? = some c) : ordK d r (k + 1) = addS d (ordK d r k) c 4 := by
 rw [ordK, h]
theorem ordK_none {r k : Nat} (h : (ordK d r k).length ≤ k) : ordK d r (k + 1) = ordK d r k := by
 rw [ordK, List.getElem?_eq_none h]
theorem ordK_stop {r k : Nat} (h : (ordK d r k).length ≤ k) : ∀ j, ordK d r (k + j) = ordK d r k
 | 0 => rfl
 | j + 1 => by
   have ih := ordK_stop h j
   rw [show k + (j + 1) = k + j + 1 by omega, ordK_none (by rw [ih]; omega), ih]
structure OK (d : Dg) (r k : Nat) (o : List Nat) : Prop where
 nd : o.Nodup
 mem : ∀ c, c ∈ o → c < d.n ∧ Comp d r c
 root : r ∈ o
 done : ∀ i c, i < k → o[i]? = some c → ∀ t, t < 4 → nb d c t ∈ o
theorem OK.start {r : Nat} (hr : r < d.n) : OK d r 0 [r] :=
 ⟨by simp, fun c hc => by simp at hc; subst hc; exact ⟨hr, .refl⟩, by simp, fun i c h => absurd h (by omega)⟩
theorem OK.step (hd : Wf d) {r k c : Nat} {o : List Nat} (h : OK d r k o) (hc : o[k]? = some c) : OK d r (k + 1) (addS d o c 4) := by
 have hcm := h.mem c (List.mem_of_getElem? hc)
 have hpre := addS_pre (d := d) o c 4
 refine ⟨addS_nodup h.nd c 4, fun x hx => ?_, hpre.subset h.root, fun i x hi hx t ht => ?_⟩
 ·rcases mem_addS hx with hx | ⟨t, ht, rfl⟩
  ·exact h.mem x hx
  ·exact ⟨nb_lt hd hcm.1 ht, hcm.2.trans (nb_comp hd hcm.1 ht)⟩
 ·have hik : i < o.length := by
   have : k < o.length := by
    rcases Nat.lt_or_ge k o.length with h1 | h1
    ·exact h1
    ·rw [List.getElem?_eq_none h1] at hc; cases hc
   omega
  obtain ⟨l, hl⟩ := hpre
  rw [← hl, List.getElem?_append_left hik] at hx
  by_cases e : i = k
  ·subst e
   rw [hx] at hc
   injection hc with hc
   subst hc
   exact addS_mem _ _ ht
  ·rw [← hl]; exact List.mem_append_left _ (h.done i x (by omega) hx t ht)
theorem ordK_ok (hd : Wf d) {r : Nat} (hr : r < d.n) : ∀ k, OK d r k (ordK d r k)
 | 0 => OK.start hr
 | k + 1 => by
   have ih := ordK_ok hd hr k
   cases hc : (ordK d r k)[k]? with
   | some c => rw [ordK_some hc]; exact ih.step hd hc
   | none =>
     have hl : (ordK d r k).length ≤ k := by
      rcases Nat.lt_or_ge k (ordK d r k).length with h1 | h1
      ·rw [List.getElem?_eq_getElem h1] at hc; cases hc
      ·exact h1
     rw [ordK_none hl]
     refine ⟨ih.nd, ih.mem, ih.root, fun i c hi hx t ht => ih.done i c ?_ hx t ht⟩
     have : i < (ordK d r k).length := by
      rcases Nat.lt_or_ge i (ordK d r k).length with h1 | h1
      ·exact h1
      ·rw [List.getElem?_eq_none h1] at hx; cases hx
     omega
theorem nodup_len {o : List Nat} {n : Nat} (h : o.Nodup) (hl : ∀ c, c ∈ o → c < n) : o.length ≤ n := by
 refine pigeon o.length n (fun i => o.getD i 0) (fun i hi => ?_) (fun i j hi hj e => ?_)
 ·rw [List.getD_eq_getElem?_getD, List.getElem?_eq_getElem hi]
  exact hl _ (List.getElem_mem hi)
 ·simp only [List.getD_eq_getElem?_getD, List.getElem?_eq_getElem hi, List.getElem?_eq_getElem hj, Option.getD_some] at e
  exact (List.getElem_inj h).1 e
theorem OK.len {r k : Nat} {o : List Nat} (h : OK d r k o) : o.length ≤ d.n := nodup_len h.nd (fun c hc => (h.mem c hc).1)
theorem ord_ok (hd : Wf d) {r : Nat} (hr : r < d.n) : OK d r (ord d r).length (ord d r) := by
 have h := ordK_ok hd hr d.n
 exact ⟨h.nd, h.mem, h.root, fun i c hi hx => h.done i c (by have := h.len; unfold ord at hi; omega) hx⟩
theorem ord_mem (hd : Wf d) {r : Nat} (hr : r < d.n) (c : Nat) : c ∈ ord d r ↔ Comp d r c := by
 have h := ord_ok hd hr
 refine ⟨fun hc => (h.mem c hc).2, fun e => ?_⟩
 refine comp_closed hd (P := fun c => c ∈ ord d r) (fun a ha hm t ht => ?_) hr h.root e
 obtain ⟨i, hi, rfl⟩ := List.getElem_of_mem hm
 exact h.done i _ hi (List.getElem?_eq_getElem hi) t ht
theorem ord_len (hd : Wf d) {r : Nat} (hr : r < d.n) : (ord d r).length ≤ d.n := (ord_ok hd hr).len
theorem ord_eq {r k : Nat} (hk : k ≤ d.n) (h : (ordK d r k).length ≤ k) : ordK d r k = ord d r := by
 have := ordK_stop h (d.n - k)
 rw [show k + (d.n - k) = d.n by omega] at this
 exact this.symm
theorem ordK_ord (r : Nat) {k : Nat} (hk : k ≤ d.n) : ordK d r k <+: ord d r := by
 have := ordK_mono (d := d) r k (d.n - k)
 rwa [show k + (d.n - k) = d.n by omega] at this
theorem idx_pre {o o' : List Nat} (h : o <+: o') {b : Nat} (hb : b ∈ o) : o'.idxOf b = o.idxOf b := by
 obtain ⟨l, rfl⟩ := h
 rw [List.idxOf_append, if_pos hb]
def chk (d : Dg) (o : List Nat) (c : Nat) : List Int :=
 [d.s c, ((4 * o.idxOf (nb d c 0) + d.m (4 * c) % 4 : Nat) : Int), ((4 * o.idxOf (nb d c 1) + d.m (4 * c + 1) % 4 : Nat) : Int), ((4 * o.idxOf (nb d c 2) + d.m (4 * c + 2) % 4 : Nat) : Int), ((4 * o.idxOf (nb d c 3) + d.m (4 * c + 3) % 4 : Nat) : Int)]
theorem chk_len (o : List Nat) (c : Nat) : (chk d o c).length = 5 := rfl
def code (d : Dg) (r : Nat) : List Int := (ord d r).flatMap (chk d (ord d r))
theorem flat5 (o l : List Nat) : (l.flatMap (chk d o)).length = 5 * l.length := by
 induction l with
 | nil => rfl
 | cons c l ih => rw [List.flatMap_cons, List.length_append, ih, chk_len, List.length_cons]; omega
theorem code_len (r : Nat) : (code d r).length = 5 * (ord d r).length := flat5 _ _
theorem flat5_eq {a b : Dg} {o o' : List Nat} : ∀ {l l' : List Nat}, l.flatMap (chk a o) = l'.flatMap (chk b o') → l.length = l'.length ∧ ∀ (i : Nat) (c c' : Nat), l[i]? = some c → l'[i]? = some c' → chk a o c = chk b o' c'
 | [], [], _ => ⟨rfl, fun i c c' h => by simp at h⟩
 | [], c :: l, h => by
   have := congrArg List.length h
   rw [flat5, flat5] at this; simp at this
 | c :: l, [], h => by
   have := congrArg List.length h
   rw [flat5, flat5] at this; simp at this
 | c :: l, c' :: l', h => by
   rw [List.flatMap_cons, List.flatMap_cons] at h
   have h1 := List.append_inj h (by rw [chk_len, chk_len])
   have ih := flat5_eq h1.2
   refine ⟨by simp [ih.1], fun i x x' hx hx' => ?_⟩
   cases i with
   | zero =>
     simp only [List.getElem?_cons_zero, Option.some.injEq] at hx hx'
     subst hx; subst hx'; exact h1.1
   | succ i => exact ih.2 i x x' (by simpa using hx) (by simpa using hx')
end Go.Proofs.YtcaoblilkgajoaaDoor.Pl
end
section
namespace Go.Proofs.YtcaoblilkgajoaaDoor.Pl
def hf (σ : Nat → Nat) (h : Nat) : Nat := 4 * σ (h / 4) + h % 4
theorem hf_div (σ : Nat → Nat) (h : Nat) : hf σ h / 4 = σ (h / 4) := by unfold hf; omega
theorem hf_mod (σ : Nat → Nat) (h : Nat) : hf σ h % 4 = h % 4 := by unfold hf; omega
theorem hf_at (σ : Nat → Nat) (c : Nat) {t : Nat} (ht : t < 4) : hf σ (4 * c + t) = 4 * σ c + t := by
 unfold hf; rw [show (4 * c + t) / 4 = c by omega, show (4 * c + t) % 4 = t by omega]
structure Iso (a b : Dg) (σ : Nat → Nat) : Prop where
 n : a.n = b.n
 lp : a.lp = b.lp
 lt : ∀ c, c < a.n → σ c < a.n
 inj : ∀ c c', c < a.n → c' < a.n → σ c = σ c' → c = c'
 s : ∀ c, c < a.n → b.s (σ c) = a.s c
 m : ∀ h, h < 4 * a.n → b.m (hf σ h) = hf σ (a.m h)
section
variable {a b : Dg} {σ : Nat → Nat}
theorem Iso.refl (a : Dg) : Iso a a (fun c => c) :=
 ⟨rfl, rfl, fun _ h => h, fun _ _ _ _ h => h, fun _ _ => rfl, fun h _ => by
   have e : ∀ x, hf (fun c => c) x = x := fun x => by unfold hf; show 4 * (x / 4) + x % 4 = x; omega
   rw [e, e]⟩
theorem Iso.hlt (I : Iso a b σ) {h : Nat} (hh : h < 4 * a.n) : hf σ h < 4 * a.n := by
 have := I.lt (h / 4) (by omega); unfold hf; omega
theorem Iso.hinj (I : Iso a b σ) {g h : Nat} (hg : g < 4 * a.n) (hh : h < 4 * a.n) (e : hf σ g = hf σ h) : g = h := by
 have h1 := congrArg (· / 4) e
 have h2 := congrArg (· % 4) e
 simp only [hf_div, hf_mod] at h1 h2
 have := I.inj (g / 4) (h / 4) (by omega) (by omega) h1
 omega
theorem Iso.bij (I : Iso a b σ) : Bij a.n (fun c => c < a.n) σ := ⟨fun _ h => h, I.lt, I.inj⟩
theorem Iso.symm (I : Iso a b σ) (hd : Wf a) : ∃ τ, Iso b a τ ∧ (∀ c, c < a.n → τ (σ c) = c) ∧ ∀ c, c < a.n → σ (τ c) = c := by
 have hx : ∀ c, ∃ q, c < a.n → q < a.n ∧ σ q = c := fun c => by
  by_cases h : c < a.n
  ·obtain ⟨p, hp, _, e⟩ := I.bij.back h
   refine ⟨it σ (p - 1) c, fun _ => ⟨I.bij.it _ c h, ?_⟩⟩
   have : p = (p - 1) + 1 := by omega
   rw [this] at e
   exact e
  ·exact ⟨0, fun h' => absurd h' h⟩
 let τ := fun c => Classical.choose (hx c)
 have t1 : ∀ c, c < a.n → τ c < a.n ∧ σ (τ c) = c := fun c hc => Classical.choose_spec (hx c) hc
 have t2 : ∀ c, c < a.n → τ (σ c) = c := fun c hc => I.inj _ _ (t1 _ (I.lt c hc)).1 hc (t1 _ (I.lt c hc)).2
 have t3 : ∀ h, h < 4 * a.n → hf σ (hf τ h) = h := fun h hh => by
  unfold hf; rw [show (4 * τ (h / 4) + h % 4) / 4 = τ (h / 4) by omega, (t1 (h / 4) (by omega)).2]; omega
 refine ⟨τ, ⟨I.n.symm, I.lp.symm, fun c hc => ?_, fun c c' hc hc' e => ?_, fun c hc => ?_, fun h hh => ?_⟩, t2, fun c hc => (t1 c hc).2⟩
 ·rw [← I.n] at hc ⊢; exact (t1 c hc).1
 ·rw [← I.n] at hc hc'; rw [← (t1 c hc).2, ← (t1 c' hc').2, e]
 ·rw [← I.n] at hc; rw [← I.s _ (t1 c hc).1, (t1 c hc).2]
 ·rw [← I.n] at hh
  have hl : hf τ h < 4 * a.n := by have := (t1 (h / 4) (by omega)).1; unfold hf; omega
  have e := I.m _ hl
  rw [t3 h hh] at e
  refine I.hinj (hd.lt _ hl) ?_ ?_
  ·have h1 : b.m h < 4 * a.n := by rw [e]; exact I.hlt (hd.lt _ hl)
   have := (t1 (b.m h / 4) (by omega)).1; unfold hf; omega
  ·rw [← e, t3 _ (by rw [e]; exact I.hlt (hd.lt _ hl))]
theorem Iso.nb (I : Iso a b σ) {c t : Nat} (hc : c < a.n) (ht : t < 4) : Pl.nb b (σ c) t = σ (Pl.nb a c t) := by
 unfold Pl.nb
 rw [← hf_at σ c ht, I.m _ (by omega), hf_div]
theorem Iso.mm (I : Iso a b σ) {c t : Nat} (hc : c < a.n) (ht : t < 4) : b.m (4 * σ c + t) % 4 = a.m (4 * c + t) % 4 := by
 rw [← hf_at σ c ht, I.m _ (by omega), hf_mod]
theorem mem_map_inj {o : List Nat} {x n : Nat} (inj : ∀ c c', c < n → c' < n → σ c = σ c' → c = c') (ho : ∀ c, c ∈ o → c < n) (hx : x < n) : σ x ∈ o.map σ ↔ x ∈ o := by
 rw [List.mem_map]
 constructor
 ·rintro ⟨y, hy, e⟩; rwa [← inj y x (ho y hy) hx e]
 ·intro h; exact ⟨x, h, rfl⟩
theorem idx_map {n : Nat} (inj : ∀ c c', c < n → c' < n → σ c = σ c' → c = c') {x : Nat} (hx : x < n) : ∀ {o : List Nat}, (∀ c, c ∈ o → c < n) → (o.map σ).idxOf (σ x) = o.idxOf x
 | [], _ => rfl
 | y :: o, ho => by
   rw [List.map_cons, List.idxOf_cons, List.idxOf_cons, idx_map inj hx (fun c hc => ho c (by simp [hc]))]
   by_cases e : y = x
   ·subst e; simp
   ·have : σ y ≠ σ x := fun e' => e (inj y x (ho y (by simp)) hx e')
    rw [beq_false_of_ne this, beq_false_of_ne e]
theorem Iso.addN (I : Iso a b σ) {o : List Nat} {x : Nat} (ho : ∀ c, c ∈ o → c < a.n) (hx : x < a.n) : Pl.addN (o.map σ) (σ x) = (Pl.addN o x).map σ := by
 unfold Pl.addN
 by_cases h : x ∈ o
 ·rw [if_pos h, if_pos ((mem_map_inj I.inj ho hx).2 h)]
 ·rw [if_neg h, if_neg (fun e => h ((mem_map_inj I.inj ho hx).1 e))]; simp
theorem addS_lt (hd : Wf a) {o : List Nat} {c s : Nat} (ho : ∀ c, c ∈ o → c < a.n) (hc : c < a.n) (hs : s ≤ 4) : ∀ x, x ∈ Pl.addS a o c s → x < a.n := fun x hx => by
 rcases mem_addS hx with hx | ⟨t, ht, rfl⟩
 ·exact ho x hx
 ·exact nb_lt hd hc (by omega)
theorem Iso.addS (I : Iso a b σ) (hd : Wf a) {o : List Nat} {c : Nat} (ho : ∀ c, c ∈ o → c < a.n) (hc : c < a.n) : ∀ s, s ≤ 4 → Pl.addS b (o.map σ) (σ c) s = (Pl.addS a o c s).map σ
 | 0, _ => rfl
 | s + 1, h => by
   unfold Pl.addS
   rw [I.addS hd ho hc s (by omega), I.nb hc (by omega)]
   exact I.addN (addS_lt hd ho hc (by omega)) (nb_lt hd hc (by omega))
theorem Iso.ordK (I : Iso a b σ) (hd : Wf a) {r : Nat} (hr : r < a.n) : ∀ k, Pl.ordK b (σ r) k = (Pl.ordK a r k).map σ
 | 0 => rfl
 | k + 1 => by
   have ih := I.ordK hd hr k
   have hm := fun c hc => ((ordK_ok hd hr k).mem c hc).1
   cases hc : (Pl.ordK a r k)[k]? with
   | some c =>
     have h2 : (Pl.ordK b (σ r) k)[k]? = some (σ c) := by rw [ih, List.getElem?_map, hc]; rfl
     rw [ordK_some hc, ordK_some h2, ih]
     exact I.addS hd hm (hm c (List.mem_of_getElem? hc)) 4 (Nat.le_refl _)
   | none =>
     have hl : (Pl.ordK a r k).length ≤ k := by
      rcases Nat.lt_or_ge k (Pl.ordK a r k).length with h1 | h1
      ·rw [List.getElem?_eq_getElem h1] at hc; cases hc
      ·exact h1
     rw [ordK_none hl, ordK_none (by rw [ih, List.length_map]; exact hl), ih]
theorem Iso.ord (I : Iso a b σ) (hd : Wf a) {r : Nat} (hr : r < a.n) : Pl.ord b (σ r) = (Pl.ord a r).map σ := by
 unfold Pl.ord; rw [← I.n]; exact I.ordK hd hr a.n
theorem Iso.chk (I : Iso a b σ) (hd : Wf a) {o : List Nat} {c : Nat} (ho : ∀ c, c ∈ o → c < a.n) (hc : c < a.n) : Pl.chk b (o.map σ) (σ c) = Pl.chk a o c := by
 have e : ∀ t, t < 4 → (o.map σ).idxOf (Pl.nb b (σ c) t) = o.idxOf (Pl.nb a c t) := fun t ht => by
  rw [I.nb hc ht]; exact idx_map I.inj (nb_lt hd hc ht) ho
 have m0 := I.mm hc (t := 0) (by omega)
 rw [Nat.add_zero, Nat.add_zero] at m0
 unfold Pl.chk
 rw [I.s c hc, e 0 (by omega), e 1 (by omega), e 2 (by omega), e 3 (by omega), m0, I.mm hc (t := 1) (by omega), I.mm hc (t := 2) (by omega), I.mm hc (t := 3) (by omega)]
theorem flat_map_eq {f g : Nat → List Int} : ∀ {l : List Nat}, (∀ c, c ∈ l → f (σ c) = g c) → (l.map σ).flatMap f = l.flatMap g
 | [], _ => rfl
 | c :: l, h => by
   rw [List.map_cons, List.flatMap_cons, List.flatMap_cons, h c (by simp), flat_map_eq (fun x hx => h x (by simp [hx]))]
theorem Iso.code (I : Iso a b σ) (hd : Wf a) {r : Nat} (hr : r < a.n) : Pl.code b (σ r) = Pl.code a r := by
 unfold Pl.code
 rw [I.ord hd hr]
 have hm := fun c hc => ((ord_ok hd hr).mem c hc).1
 exact flat_map_eq (fun c hc => I.chk hd hm (hm c hc))
theorem Iso.comp (I : Iso a b σ) (hd : Wf a) (hb : Wf b) {x y : Nat} (hx : x < a.n) (hy : y < a.n) : Comp b (σ x) (σ y) ↔ Comp a x y := by
 rw [← ord_mem hd hx, ← ord_mem hb (by rw [← I.n]; exact I.lt x hx), I.ord hd hx]
 exact mem_map_inj I.inj (fun c hc => ((ord_ok hd hx).mem c hc).1) hy
end
end Go.Proofs.YtcaoblilkgajoaaDoor.Pl
end
