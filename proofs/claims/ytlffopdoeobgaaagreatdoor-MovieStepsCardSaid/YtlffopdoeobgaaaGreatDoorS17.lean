/-
 The texts Yf, Yh, Byp, Rst, Unc, Und, Unk, Pok in one.
-/
import Derived.Test.YtlffopdoeobgaaaGreatDoorS16
import Derived.Test.YtlffopdoeobgaaaGreatDoorS14
import Derived.Test.YtlffopdoeobgaaaGreatDoorS04
import Derived.Test.YtlffopdoeobgaaaGreatDoorS15
set_option linter.unusedVariables false
set_option linter.unusedSimpArgs false
section
namespace Go.Proofs.YtlffopdoeobgaaaGreatDoor
open Go Go.RowKit
attribute [local go_sem ↓] Go.wp_at_zero Go.wp_at_succ
theorem row3 {W : World} {g : Nat} {t : TypeId} {vs : List Value} (h : Row W g t vs) (l : vs.length = 3) (y0 y1 y2 : Value) :
 Row (((W.setCell ⟨g, 0, none⟩ y0).setCell ⟨g, 1, none⟩ y1).setCell ⟨g, 2, none⟩ y2) g t [y0, y1, y2] := by
 obtain ⟨a, b, c, rfl⟩ : ∃ a b c, vs = [a, b, c] := by
  match vs, l with
  | [a, b, c], _ => exact ⟨a, b, c, rfl⟩
 exact ((h.set 0 y0).set 1 y1).set 2 y2
theorem DgT.set3 {W : World} {A B : Option Addr} {d : Pl.Dg} {g : Nat} {vs : List Value} (h : DgT W A B d) (hr : Row W g 24 vs) (y0 y1 y2 : Value) : DgT (((W.setCell ⟨g, 0, none⟩ y0).setCell ⟨g, 1, none⟩ y1).setCell ⟨g, 2, none⟩ y2) A B d :=
 ((h.store hr (by decide) y0).store (hr.set 0 y0) (by decide) y1).store ((hr.set 0 y0).set 1 y1) (by decide) y2
theorem below3 {w W : World} {g : Nat} (h : Below w.heap.size w W) (hg : w.heap.size ≤ g) (y0 y1 y2 : Value) : Below w.heap.size w (((W.setCell ⟨g, 0, none⟩ y0).setCell ⟨g, 1, none⟩ y1).setCell ⟨g, 2, none⟩ y2) :=
 ((h.setCell (by show _ ≤ g; exact hg) y0).setCell (by show _ ≤ g; exact hg) y1).setCell (by show _ ≤ g; exact hg) y2
end Go.Proofs.YtlffopdoeobgaaaGreatDoor
end
section
namespace Go.Proofs.YtlffopdoeobgaaaGreatDoor
open Go Go.RowKit
attribute [local go_sem ↓] Go.wp_at_zero Go.wp_at_succ
theorem ap_n {d : Pl.Dg} (hd : Pl.Valid d) {z : Mv} (h : apC d z = 0) : ((apD d z).n : Int) = d.n + gro z.kind := (signs_law hd z h).2.1
section
variable {w W W' W2 : World} {v v' : Value} {ms : List Mv} {m : Mv}
end
end Go.Proofs.YtlffopdoeobgaaaGreatDoor
end
section
namespace Go.Proofs.YtlffopdoeobgaaaGreatDoor.Pl
variable {N : Nat} {S : Nat → Prop} {r a : Nat → Nat}
theorem Flat.bypass (h : Hm N S r a) {x y u v : Nat} (hx : S x) (hy : S y) (hu : S u) (hv : S v) (hxy : x ≠ y) (huv : u ≠ v) (xu : x ≠ u) (xv : x ≠ v) (yu : y ≠ u) (yv : y ≠ v)
 (fx : a x = x) (fy : a y = y) (fu : a u = u) (fv : a v = v) (ho : Orb (phi r a) u v) (hf : Flat S r (tr (tr a u x) v y)) : Flat S r (tr a x y) := by
 have h1 := h.tr hu hx fu fx
 have fv1 : tr a u x v = v := by rw [tr_ne (Ne.symm huv) (Ne.symm xv), fv]
 have fy1 : tr a u x y = y := by rw [tr_ne yu (Ne.symm hxy), fy]
 obtain ⟨f1, k1⟩ := Flat.del h1 hv hy (Ne.symm yv) fv1 fy1 hf
 obtain ⟨f0, k0⟩ := Flat.del h hu hx (Ne.symm xu) fu fx f1
 have cuv := orb_phi_con ho
 have ovu := h.pb.symm hu ho
 have cvu := orb_phi_con ovu
 refine Flat.add h hx hy hxy fx fy (fun hc => ?_) f0
 have c2 : Con r (tr a u x) v y := (h.con_tr hu hx fu fx hv).2 (.inr (.inl ⟨cvu, hc⟩))
 have o2 := k1 c2
 by_cases oux : Orb (phi r a) u x
 ·have sub : Orb (phi r a) v y := by
   rw [phi_tr] at o2
   refine orb_sub (h.pb.tr hu hx) h.pb.eqv (fun z hz => ?_) hv o2
   by_cases z1 : z = u
   ·subst z1; rw [tr_a]; exact oux.trans (Orb.step _ _)
   ·by_cases z2 : z = x
    ·subst z2; rw [tr_b]; exact (h.pb.symm hu oux).trans (Orb.step _ _)
    ·rw [tr_ne z1 z2]; exact Orb.step _ _
  exact (h.pb.symm hu oux).trans (ho.trans sub)
 ·rw [phi_tr, h.pb.merge hu hx oux hv] at o2
  rcases o2 with e | ⟨_, e⟩ | ⟨e, _⟩
  ·exact absurd (k0 ((orb_phi_con (ho.trans e)).trans (h.con_symm hx hc))) oux
  ·exact e
  ·exact absurd (ho.trans e) oux
def cut2 (a : Nat → Nat) (u v : Nat) : Nat → Nat := tr (tr a u (a u)) v (a v)
def byp (a : Nat → Nat) (u v : Nat) : Nat → Nat := tr (cut2 a u v) (a u) (a v)
theorem cut2_hm (h : Hm N S r a) {u v : Nat} (hu : S u) (hv : S v) (huv : u ≠ v) (nu : a u ≠ u) (nv : a v ≠ v) (nuv : a u ≠ v) :
 Hm N S r (cut2 a u v) ∧ cut2 a u v u = u ∧ cut2 a u v v = v ∧ cut2 a u v (a u) = a u ∧ cut2 a u v (a v) = a v ∧ a = tr (tr (cut2 a u v) u (a u)) v (a v) ∧ a u ≠ a v ∧ a v ≠ u := by
 have n1 : a u ≠ a v := fun e => huv (h.ab.inj _ _ hu hv e)
 have n2 : a v ≠ u := fun e => nuv (by rw [← e, h.inv v hv])
 obtain ⟨c1, c2, c3⟩ := Hm.cut h hu nu
 have e1 : tr a u (a u) v = a v := tr_ne (Ne.symm huv) (Ne.symm nuv)
 have e2 : tr a u (a u) v ≠ v := by rw [e1]; exact nv
 obtain ⟨d1, d2, d3⟩ := Hm.cut c1 hv e2
 rw [e1] at d1 d2 d3
 refine ⟨d1, ?_, d2, ?_, d3, ?_, n1, n2⟩
 ·unfold cut2; rw [tr_ne huv (Ne.symm n2), c2]
 ·unfold cut2; rw [tr_ne nuv n1, c3]
 ·unfold cut2
  funext z
  by_cases z1 : z = v
  ·subst z1
   rw [tr_a]
   rw [tr_ne n2 (Ne.symm n1), tr_b, tr_ne (Ne.symm huv) (Ne.symm nuv)]
  ·by_cases z2 : z = a v
   ·subst z2
    rw [tr_b, tr_ne (Ne.symm huv) (Ne.symm nuv), tr_a, tr_ne n2 (Ne.symm n1)]
   ·rw [tr_ne z1 z2]
    by_cases z3 : z = u
    ·subst z3
     rw [tr_a, tr_ne nuv n1, tr_b]
    ·by_cases z4 : z = a u
     ·subst z4
      rw [tr_b, tr_ne huv (Ne.symm n2), tr_a]
     ·rw [tr_ne z3 z4, tr_ne z1 z2, tr_ne z3 z4]
theorem byp_flat (h : Hm N S r a) {u v : Nat} (hu : S u) (hv : S v) (huv : u ≠ v) (nu : a u ≠ u) (nv : a v ≠ v) (nuv : a u ≠ v) (ho : Orb (phi r (cut2 a u v)) u v) (hf : Flat S r a) :
 Hm N S r (byp a u v) ∧ Flat S r (byp a u v) := by
 obtain ⟨c0, c1, c2, c3, c4, c5, c6, c7⟩ := cut2_hm h hu hv huv nu nv nuv
 have hx := h.ab.maps u hu
 have hy := h.ab.maps v hv
 exact ⟨c0.tr hx hy c3 c4, Flat.bypass c0 hx hy hu hv c6 huv nu nuv c7 nv c3 c4 c1 c2 ho (by rw [← c5]; exact hf)⟩
theorem byp_at (h : Hm N S r a) {u v : Nat} (hu : S u) (hv : S v) (huv : u ≠ v) (nu : a u ≠ u) (nv : a v ≠ v) (nuv : a u ≠ v) :
 byp a u v u = u ∧ byp a u v v = v ∧ byp a u v (a u) = a v ∧ byp a u v (a v) = a u ∧ ∀ z, z ≠ u → z ≠ v → z ≠ a u → z ≠ a v → byp a u v z = a z := by
 obtain ⟨c0, c1, c2, c3, c4, c5, c6, c7⟩ := cut2_hm h hu hv huv nu nv nuv
 unfold byp
 refine ⟨by rw [tr_ne (Ne.symm nu) (Ne.symm c7), c1], by rw [tr_ne (Ne.symm nuv) (Ne.symm nv), c2], by rw [tr_a, c4], by rw [tr_b, c3], fun z z1 z2 z3 z4 => ?_⟩
 rw [tr_ne z3 z4]
 unfold cut2
 rw [tr_ne z2 z4, tr_ne z1 z3]
theorem cut2_at (u v : Nat) {z : Nat} (z1 : z ≠ u) (z2 : z ≠ v) (z3 : z ≠ a u) (z4 : z ≠ a v) : cut2 a u v z = a z := by
 unfold cut2
 rw [tr_ne z2 z4, tr_ne z1 z3]
end Go.Proofs.YtlffopdoeobgaaaGreatDoor.Pl
end
section
namespace Go.Proofs.YtlffopdoeobgaaaGreatDoor.Pl
section
variable {N M : Nat} {S T : Nat → Prop} {r a r' a' t : Nat → Nat}
theorem it_map {f f' : Nat → Nat} (hS : ∀ x, S x → S (f x)) (e : ∀ x, S x → f' (t x) = t (f x)) {x : Nat} (hx : S x) : ∀ k, it f' k (t x) = t (it f k x) ∧ S (it f k x)
 | 0 => ⟨rfl, hx⟩
 | k + 1 => by
   obtain ⟨h1, h2⟩ := it_map hS e hx k
   exact ⟨by show f' (it f' k (t x)) = t (f (it f k x)); rw [h1, e _ h2], hS _ h2⟩
theorem orb_map {f f' : Nat → Nat} (hS : ∀ x, S x → S (f x)) (e : ∀ x, S x → f' (t x) = t (f x)) (inj : ∀ x y, S x → S y → t x = t y → x = y) {x y : Nat} (hx : S x) (hy : S y) : Orb f x y ↔ Orb f' (t x) (t y) := by
 constructor
 ·rintro ⟨k, rfl⟩; exact ⟨k, (it_map hS e hx k).1⟩
 ·rintro ⟨k, h⟩
  obtain ⟨h1, h2⟩ := it_map hS e hx k
  exact ⟨k, inj _ _ h2 hy (by rw [← h1, h])⟩
theorem con_map {x y : Nat} (hS : ∀ x, S x → S (r x)) (hA : ∀ x, S x → S (a x)) (er : ∀ x, S x → r' (t x) = t (r x)) (ea : ∀ x, S x → a' (t x) = t (a x)) (inj : ∀ x y, S x → S y → t x = t y → x = y) (hx : S x) (hy : S y) : Con r a x y ↔ Con r' a' (t x) (t y) := by
 have fw : ∀ {y}, Con r a x y → Con r' a' (t x) (t y) ∧ S y := by
  intro y e
  induction e with
  | refl => exact ⟨.refl, hx⟩
  | left _ ih => exact ⟨er _ ih.2 ▸ ih.1.left, hS _ ih.2⟩
  | right _ ih => exact ⟨ea _ ih.2 ▸ ih.1.right, hA _ ih.2⟩
 have bw : ∀ {v}, Con r' a' (t x) v → ∃ y, S y ∧ t y = v ∧ Con r a x y := by
  intro v e
  induction e with
  | refl => exact ⟨x, hx, rfl, .refl⟩
  | left _ ih => obtain ⟨y, h1, rfl, h3⟩ := ih; exact ⟨r y, hS _ h1, (er _ h1).symm, h3.left⟩
  | right _ ih => obtain ⟨y, h1, rfl, h3⟩ := ih; exact ⟨a y, hA _ h1, (ea _ h1).symm, h3.right⟩
 constructor
 ·intro e; exact (fw e).1
 ·intro e
  obtain ⟨y', h1, h2, h3⟩ := bw e
  rw [← inj _ _ h1 hy h2]; exact h3
theorem Gen.map (hS : ∀ x, S x → S (r x)) (hA : ∀ x, S x → S (a x)) (er : ∀ x, S x → r' (t x) = t (r x)) (ea : ∀ x, S x → a' (t x) = t (a x)) (inj : ∀ x y, S x → S y → t x = t y → x = y)
 (hto : ∀ x, S x → T (t x)) (onto : ∀ y, T y → ∃ x, S x ∧ t x = y) {z : Int} (h : Gen S r a z) : Gen T r' a' z := by
 obtain ⟨v, d, k, f, c, h1, h2, h3, h4, h5, rfl⟩ := h
 refine ⟨v, d, k, f, c, h1.map t hto onto fun x y hx hy => orb_map hS er inj hx hy, h2.map t hto onto fun x y hx hy => ⟨fun e => by rw [e], fun e => inj x y hx hy e⟩, h3.map t hto onto fun x y hx hy => orb_map hA ea inj hx hy,
  h4.map t hto onto fun x y hx hy => orb_map (fun x hx => hS _ (hA x hx)) (fun x hx => ?_) inj hx hy, h5.map t hto onto fun x y hx hy => con_map hS hA er ea inj hx hy, rfl⟩
 unfold phi
 rw [ea x hx, er _ (hA x hx)]
theorem Flat.sub {U : Nat → Prop} (h : Hm N S r a) (h' : Hm N T r a) (hd : ∀ x, S x → ¬ T x) (hu : ∀ x, (S x ∨ T x) ↔ U x) (hf : Flat U r a) : Flat S r a := by
 obtain ⟨z, hz⟩ := h.gen
 obtain ⟨z', hz'⟩ := h'.gen
 have n1 := Gen.nonneg h hz
 have n2 := Gen.nonneg h' hz'
 have e : (fun x => S x ∨ T x) = U := funext fun x => propext (hu x)
 have hs := Gen.add h h' hd hz hz'
 rw [e] at hs
 have := hf.unique hs
 have : z = 0 := by omega
 rw [this] at hz
 exact hz
end
def idx (gs : List Nat) (c : Nat) : Nat := c - (gs.filter (fun g => decide (g < c))).length
variable {gs : List Nat}
theorem shf_idx (hf : Few gs) (h : Nat) : shf gs h = 4 * idx gs (h / 4) + h % 4 := by
 have := hf (h / 4)
 unfold shf idx
 omega
theorem flt_succ (c : Nat) : ∀ gs : List Nat, gs.Nodup → (gs.filter (fun g => decide (g < c + 1))).length = (gs.filter (fun g => decide (g < c))).length + if c ∈ gs then 1 else 0
 | [], _ => by simp
 | g :: gs, hn => by
   obtain ⟨h1, h2⟩ := List.nodup_cons.1 hn
   have ih := flt_succ c gs h2
   rw [List.filter_cons, List.filter_cons]
   by_cases e : c = g
   ·subst e
    rw [if_neg h1] at ih
    simp [ih]
   ·by_cases e2 : g < c
    ·simp [e2, show g < c + 1 by omega, e, ih]; omega
    ·simp [e2, show ¬ g < c + 1 by omega, e, ih]
theorem left_idx (hn : gs.Nodup) (c : Nat) : (gs.filter (fun g => decide (g < c))).length + (left c gs).length = c := by
 induction c with
 | zero => simp [left]
 | succ c ih =>
   rw [flt_succ c gs hn, left_succ, List.length_append]
   by_cases e : c ∈ gs <;> simp [e] <;> omega
theorem idx_left (hn : gs.Nodup) (c : Nat) : idx gs c = (left c gs).length := by
 have := left_idx hn c
 unfold idx; omega
theorem left_get (hn : gs.Nodup) {n c : Nat} (hc : c < n) (hg : c ∉ gs) : (left n gs)[idx gs c]? = some c := by
 induction n with
 | zero => omega
 | succ n ih =>
   rw [left_succ]
   by_cases e : c = n
   ·subst e
    rw [idx_left hn, List.getElem?_append_right (Nat.le_refl _)]
    simp [hg]
   ·have h := ih (by omega)
    have hl : idx gs c < (left n gs).length := by
     rcases Nat.lt_or_ge (idx gs c) (left n gs).length with h1 | h1
     ·exact h1
     ·rw [List.getElem?_eq_none h1] at h; exact absurd h (by simp)
    rw [List.getElem?_append_left hl, h]
theorem idx_lt (hn : gs.Nodup) {n c : Nat} (hc : c < n) (hg : c ∉ gs) : idx gs c < (left n gs).length := by
 have h := left_get hn hc hg
 rcases Nat.lt_or_ge (idx gs c) (left n gs).length with h1 | h1
 ·exact h1
 ·rw [List.getElem?_eq_none h1] at h; exact absurd h (by simp)
theorem idx_onto (hn : gs.Nodup) {n i : Nat} (hi : i < (left n gs).length) : ∃ c, c < n ∧ c ∉ gs ∧ idx gs c = i := by
 induction n with
 | zero => simp [left] at hi
 | succ n ih =>
   rcases Nat.lt_or_ge i (left n gs).length with h | h
   ·obtain ⟨c, h1, h2, h3⟩ := ih h
    exact ⟨c, by omega, h2, h3⟩
   ·rw [left_succ, List.length_append] at hi
    by_cases e : n ∈ gs
    ·simp [e] at hi; omega
    ·simp [e] at hi
     exact ⟨n, by omega, e, by rw [idx_left hn]; omega⟩
theorem idx_inj (hn : gs.Nodup) {c c' : Nat} (hg : c ∉ gs) (hg' : c' ∉ gs) (e : idx gs c = idx gs c') : c = c' := by
 have h1 := left_get hn (n := c + c' + 1) (by omega) hg
 have h2 := left_get hn (n := c + c' + 1) (c := c') (by omega) hg'
 rw [e, h2] at h1
 injection h1 with h1
 exact h1.symm
theorem four_get (f : Nat → Nat) {s : Nat} (hs : s < 4) : ∀ (l : List Nat) (i : Nat), (l.flatMap (four f))[4 * i + s]? = l[i]?.map (fun c => f (4 * c + s))
 | [], i => by simp
 | c :: l, 0 => by
   rw [List.flatMap_cons]
   have : s = 0 ∨ s = 1 ∨ s = 2 ∨ s = 3 := by omega
   rcases this with rfl | rfl | rfl | rfl <;> simp [four]
 | c :: l, i + 1 => by
   have ih := four_get f hs l i
   rw [List.flatMap_cons, List.getElem?_append_right (by simp [four]; omega)]
   have : 4 * (i + 1) + s - (four f c).length = 4 * i + s := by simp [four]; omega
   rw [this, ih]
   simp
def rsD (d : Dg) (gs mt : List Nat) (lp : Nat) : Dg := ⟨shrS gs d.sg, shrM gs d.n mt, lp⟩
theorem rs_n (d : Dg) (gs mt : List Nat) (lp : Nat) : (rsD d gs mt lp).n = (left d.n gs).length := shrS_len gs d.sg
theorem rs_s (hn : gs.Nodup) (d : Dg) (mt : List Nat) (lp : Nat) {c : Nat} (hc : c < d.n) (hg : c ∉ gs) : (rsD d gs mt lp).s (idx gs c) = d.s c := by
 unfold rsD Dg.s shrS
 have e := left_get hn hc hg
 unfold Dg.n at e
 rw [List.getD_eq_getElem?_getD, List.getElem?_map, e]
 rfl
theorem rs_m (hn : gs.Nodup) (hf : Few gs) (d : Dg) (mt : List Nat) (lp : Nat) {h : Nat} (hh : h < 4 * d.n) (hg : h / 4 ∉ gs) : (rsD d gs mt lp).m (shf gs h) = shf gs (mt.getD h 0) := by
 unfold rsD Dg.m shrM
 rw [List.getD_eq_getElem?_getD, shf_idx hf h, four_get _ (Nat.mod_lt _ (by omega)), left_get hn (by omega) hg]
 simp only [Option.map_some, Option.getD_some]
 rw [show 4 * (h / 4) + h % 4 = h by omega]
def stay (d : Dg) (gs : List Nat) (h : Nat) : Prop := h < 4 * d.n ∧ h / 4 ∉ gs
def gone (d : Dg) (gs : List Nat) (h : Nat) : Prop := h < 4 * d.n ∧ h / 4 ∈ gs
theorem shf_lt (hn : gs.Nodup) (hf : Few gs) {d : Dg} (mt : List Nat) (lp : Nat) {h : Nat} (hh : stay d gs h) : shf gs h < 4 * (rsD d gs mt lp).n := by
 rw [rs_n, shf_idx hf]
 have := idx_lt hn (n := d.n) (c := h / 4) (by have := hh.1; omega) hh.2
 omega
theorem shf_inj (hn : gs.Nodup) (hf : Few gs) {g h : Nat} (h1 : g / 4 ∉ gs) (h2 : h / 4 ∉ gs) (e : shf gs g = shf gs h) : g = h := by
 rw [shf_idx hf, shf_idx hf] at e
 have := idx_inj hn h1 h2 (by omega)
 omega
theorem shf_onto (hn : gs.Nodup) (hf : Few gs) {d : Dg} (mt : List Nat) (lp : Nat) {y : Nat} (hy : y < 4 * (rsD d gs mt lp).n) : ∃ h, stay d gs h ∧ shf gs h = y := by
 rw [rs_n] at hy
 obtain ⟨c, h1, h2, h3⟩ := idx_onto hn (n := d.n) (i := y / 4) (by omega)
 refine ⟨4 * c + y % 4, ⟨by omega, by rw [show (4 * c + y % 4) / 4 = c by omega]; exact h2⟩, ?_⟩
 rw [shf_idx hf, show (4 * c + y % 4) / 4 = c by omega, h3]
 omega
theorem shf_tn (hf : Few gs) (h k : Nat) : tn (shf gs h) k = shf gs (tn h k) := by
 rw [shf_idx hf, shf_idx hf, tn_div]
 unfold tn
 omega
theorem shf_div (hf : Few gs) (h : Nat) : shf gs h / 4 = idx gs (h / 4) := by rw [shf_idx hf]; omega
theorem rs_out (hn : gs.Nodup) (hf : Few gs) (d : Dg) (mt : List Nat) (lp : Nat) {h : Nat} (hh : stay d gs h) : out (rsD d gs mt lp) (shf gs h) = out d h := by
 have e := rs_s hn d mt lp (c := h / 4) (by have := hh.1; omega) hh.2
 have e2 : shf gs h % 4 = h % 4 := by rw [shf_idx hf]; omega
 unfold out
 rw [shf_div hf, e, e2]
structure Rs (d : Dg) (gs mt : List Nat) (lp : Nat) (b : Nat → Nat) : Prop where
 nd : gs.Nodup
 few : Few gs
 hm : Hm (4 * d.n) (dart d) rot b
 cl : ∀ h, gone d gs h → b h / 4 ∈ gs
 at_ : ∀ h, stay d gs h → mt.getD h 0 = b h
 way : ∀ h, stay d gs h → out d h ≠ out d (b h)
 lp : lp ≤ 64
variable {d : Dg} {mt : List Nat} {lp : Nat} {b : Nat → Nat}
theorem Rs.stay (R : Rs d gs mt lp b) {h : Nat} (hh : stay d gs h) : stay d gs (b h) := by
 have hl := R.hm.ab.maps h hh.1
 refine ⟨hl, fun e => hh.2 ?_⟩
 have := R.cl (b h) ⟨hl, e⟩
 rwa [R.hm.inv h hh.1] at this
theorem Rs.m (R : Rs d gs mt lp b) {h : Nat} (hh : Pl.stay d gs h) : (rsD d gs mt lp).m (shf gs h) = shf gs (b h) := by
 rw [rs_m R.nd R.few d mt lp hh.1 hh.2, R.at_ h hh]
theorem rot_stay {h : Nat} (hh : stay d gs h) : stay d gs (rot h) := ⟨tn_lt hh.1, by show tn h 3 / 4 ∉ gs; rw [tn_div]; exact hh.2⟩
theorem tn_stay {h k : Nat} (hh : stay d gs h) : stay d gs (tn h k) := ⟨tn_lt hh.1, by rw [tn_div]; exact hh.2⟩
theorem rot_gone {h : Nat} (hh : gone d gs h) : gone d gs (rot h) := ⟨tn_lt hh.1, by show tn h 3 / 4 ∈ gs; rw [tn_div]; exact hh.2⟩
theorem Rs.wf (hd : Wf d) (R : Rs d gs mt lp b) : Wf (rsD d gs mt lp) := by
 have hle := left_le d.n gs
 refine wf_by (by rw [rs_n]; have := hd.few; omega) (by rw [rs_n]; exact shrM_len gs d.n mt) R.lp (fun c hc => ?_) (fun z hz => ?_)
 ·rw [rs_n] at hc
  obtain ⟨c, h1, h2, rfl⟩ := idx_onto R.nd hc
  rw [rs_s R.nd d mt lp h1 h2]
  exact hd.sign c h1
 ·obtain ⟨h, hs, rfl⟩ := shf_onto R.nd R.few mt lp hz
  have hb := R.stay hs
  rw [R.m hs, R.m hb, R.hm.inv h hs.1, rs_out R.nd R.few d mt lp hs, rs_out R.nd R.few d mt lp hb]
  exact ⟨shf_lt R.nd R.few mt lp hb, rfl, R.way h hs⟩
theorem Rs.valid (hd : Wf d) (R : Rs d gs mt lp b) (hf : Flat (dart d) rot b) : Valid (rsD d gs mt lp) := by
 refine Valid.iff.2 ⟨R.wf hd, ?_⟩
 have h1 : Hm (4 * d.n) (Pl.stay d gs) rot b := ⟨⟨fun _ h => h.1, fun _ h => rot_stay h, fun x y hx hy e => R.hm.rb.inj x y hx.1 hy.1 e⟩, ⟨fun _ h => h.1, fun _ h => R.stay h, fun x y hx hy e => R.hm.ab.inj x y hx.1 hy.1 e⟩, fun x hx => R.hm.inv x hx.1⟩
 have h2 : Hm (4 * d.n) (gone d gs) rot b := ⟨⟨fun _ h => h.1, fun _ h => rot_gone h, fun x y hx hy e => R.hm.rb.inj x y hx.1 hy.1 e⟩, ⟨fun _ h => h.1, fun x h => ⟨R.hm.ab.maps x h.1, R.cl x h⟩, fun x y hx hy e => R.hm.ab.inj x y hx.1 hy.1 e⟩, fun x hx => R.hm.inv x hx.1⟩
 have fs : Flat (Pl.stay d gs) rot b := Flat.sub h1 h2 (fun x hx hy => hx.2 hy.2) (fun x => ⟨fun h => h.elim (·.1) (·.1), fun h => (Classical.em (x / 4 ∈ gs)).elim (fun e => .inr ⟨h, e⟩) (fun e => .inl ⟨h, e⟩)⟩) hf
 exact Gen.map (S := Pl.stay d gs) (t := shf gs) (fun x hx => rot_stay hx) (fun x hx => R.stay hx) (fun x hx => shf_tn R.few x 3) (fun x hx => R.m hx) (fun x y hx hy e => shf_inj R.nd R.few hx.2 hy.2 e) (fun x hx => shf_lt R.nd R.few mt lp hx) (fun y hy => shf_onto R.nd R.few mt lp hy) fs
end Go.Proofs.YtlffopdoeobgaaaGreatDoor.Pl
end
section
namespace Go.Proofs.YtlffopdoeobgaaaGreatDoor.Pl
variable {d : Dg}
theorem rot_rot (h : Nat) : rot (rot h) = tn h 2 := by unfold rot; rw [tn_tn]; unfold tn; omega
theorem st_bij (hd : Wf d) : Bij (4 * d.n) (dart d) (st d) :=
 ⟨fun _ h => h, fun x hx => tn_lt (hd.lt x hx), fun x y hx hy e => hd.bij.inj x y hx hy (tn_inj e)⟩
theorem out_st (hd : Wf d) {h : Nat} (hh : h < 4 * d.n) : out d (st d h) = out d h := by
 unfold st
 rw [out_opp hd (hd.lt h hh), out_way hd hh, Bool.not_not]
theorem out_it (hd : Wf d) {h : Nat} (hh : h < 4 * d.n) : ∀ k, out d (it (st d) k h) = out d h
 | 0 => rfl
 | k + 1 => by
   show out d (st d (it (st d) k h)) = _
   rw [out_st hd ((st_bij hd).it k h hh), out_it hd hh k]
theorem least_back {N : Nat} {S : Nat → Prop} {f : Nat → Nat} (h : Bij N S f) {x : Nat} (hx : S x) : ∃ p, 0 < p ∧ it f p x = x ∧ ∀ j, 0 < j → j < p → it f j x ≠ x := by
 obtain ⟨p, p0, _, e⟩ := h.back hx
 obtain ⟨q, ⟨q0, hq⟩, hmin⟩ := least_of (p := fun k => 0 < k ∧ it f k x = x) p ⟨p0, e⟩
 exact ⟨q, q0, hq, fun j j0 jq e2 => by have := hmin j ⟨j0, e2⟩; omega⟩
theorem no_opp (hd : Valid d) {o : Nat} (ho : o < 4 * d.n) : d.m o ≠ tn o 2 := by
 intro he
 have hv := Valid.iff.1 hd
 have hw := hv.1
 have hm := hw.hm
 have ho2 : tn o 2 < 4 * d.n := tn_lt ho
 have hne : o ≠ tn o 2 := fun e => hw.ne o ho (by rw [he]; exact e.symm)
 -- the half-edge q of the other strand that comes in, p that goes out
 obtain ⟨p, q, hpq, hqp, hcase, hop, hoq⟩ : ∃ p q, q = tn p 2 ∧ p = tn q 2 ∧ (q = tn o 1 ∨ q = tn o 3) ∧ out d p = true ∧ out d q = false := by
  have h1 : out d (tn (tn o 1) 2) = !out d (tn o 1) := out_opp hw (tn_lt ho)
  rw [tn_tn] at h1
  cases e : out d (tn o 1) with
  | true => exact ⟨tn o 1, tn o 3, by rw [tn_tn], by rw [tn_tn]; unfold tn; omega, .inr rfl, e, by rw [h1, e]; rfl⟩
  | false => exact ⟨tn o 3, tn o 1, by rw [tn_tn]; unfold tn; omega, by rw [tn_tn], .inl rfl, by rw [h1, e]; rfl, e⟩
 have hq : q < 4 * d.n := by rcases hcase with rfl | rfl <;> exact tn_lt ho
 have hp : p < 4 * d.n := by rw [hqp]; exact tn_lt hq
 have qo : q ≠ o := by rcases hcase with rfl | rfl <;> (unfold tn; omega)
 have qo2 : q ≠ tn o 2 := by rcases hcase with rfl | rfl <;> (unfold tn; omega)
 have po : p ≠ o := by rw [hqp]; rcases hcase with rfl | rfl <;> (unfold tn; omega)
 have po2 : p ≠ tn o 2 := by rw [hqp]; rcases hcase with rfl | rfl <;> (unfold tn; omega)
 obtain ⟨y, hy⟩ : ∃ y, y = d.m q := ⟨_, rfl⟩
 have hyl : y < 4 * d.n := by rw [hy]; exact hw.lt q hq
 have hyq : d.m y = q := by rw [hy, hw.inv q hq]
 have yo : y ≠ o := fun e => by rw [e, he] at hyq; exact qo2 hyq.symm
 have hmo2 : d.m (tn o 2) = o := by rw [← he, hw.inv o ho]
 have yo2 : y ≠ tn o 2 := fun e => by rw [e, hmo2] at hyq; exact qo hyq.symm
 have qy : q ≠ y := fun e => hw.ne q hq (by rw [← hy]; exact e.symm)
 -- without the edge o
 obtain ⟨c1, c2, c3⟩ := Hm.cut hm ho (hw.ne o ho)
 rw [he] at c1 c2 c3
 obtain ⟨a0, ha0⟩ : ∃ a0, a0 = tr d.m o (tn o 2) := ⟨_, rfl⟩
 rw [← ha0] at c1 c2 c3
 have a0e : tr a0 o (tn o 2) = d.m := by rw [ha0, tr_tr]
 obtain ⟨f0, k0⟩ := Flat.del c1 ho ho2 hne c2 c3 (by rw [a0e]; exact hv.2)
 have a0q : a0 q = y := by rw [ha0, tr_ne qo qo2, hy]
 have a0y : a0 y = q := by rw [ha0, tr_ne yo yo2, hyq]
 -- and without the edge q
 obtain ⟨d1, d2, d3⟩ := Hm.cut c1 hq (by rw [a0q]; exact Ne.symm qy)
 rw [a0q] at d1 d2 d3
 obtain ⟨a1, ha1⟩ : ∃ a1, a1 = tr a0 q y := ⟨_, rfl⟩
 rw [← ha1] at d1 d2 d3
 have a1e : tr a1 q y = a0 := by rw [ha1, tr_tr]
 obtain ⟨f1, k1⟩ := Flat.del d1 hq hyl qy d2 d3 (by rw [a1e]; exact f0)
 have a1z : ∀ z, z ≠ o → z ≠ tn o 2 → z ≠ q → z ≠ y → a1 z = d.m z := fun z z1 z2 z3 z4 => by rw [ha1, tr_ne z3 z4, ha0, tr_ne z1 z2]
 have rr : ∀ z, Con rot a1 z (tn z 2) := fun z => by rw [← rot_rot]; exact (Con.refl.left).left
 -- the strand of p comes back along q's edge
 have hsb := st_bij hw
 have fo : st d o = o := by unfold st; rw [he, tn_tn]; exact tn_four o
 have fo2 : st d (tn o 2) = tn o 2 := by unfold st; rw [hmo2]
 obtain ⟨k, kp, ke, kl⟩ := least_back hsb (x := p) hp
 have run : ∀ j, j < k → Con rot a1 p (it (st d) j p) := by
  intro j
  induction j with
  | zero => intro _; exact .refl
  | succ j ih =>
    intro hj
    have h1 := ih (by omega)
    have hz := hsb.it j p hp
    obtain ⟨z, ez⟩ : ∃ z, z = it (st d) j p := ⟨_, rfl⟩
    show Con rot a1 p (st d (it (st d) j p))
    rw [← ez] at h1 hz ⊢
    have hfix : ∀ w, dart d w → st d w = w → z ≠ w → True := fun _ _ _ _ => trivial
    have zo : z ≠ o := fun e => by
     have e2 : it (st d) j p = it (st d) j o := by
      rw [← ez, e]
      have : ∀ i, it (st d) i o = o := fun i => by
       induction i with
       | zero => rfl
       | succ i ih => show st d (it (st d) i o) = o; rw [ih, fo]
      exact (this j).symm
     exact po (hsb.it_inj j p o hp ho e2)
    have zo2 : z ≠ tn o 2 := fun e => by
     have e2 : it (st d) j p = it (st d) j (tn o 2) := by
      rw [← ez, e]
      have : ∀ i, it (st d) i (tn o 2) = tn o 2 := fun i => by
       induction i with
       | zero => rfl
       | succ i ih => show st d (it (st d) i (tn o 2)) = tn o 2; rw [ih, fo2]
      exact (this j).symm
     exact po2 (hsb.it_inj j p _ hp ho2 e2)
    have zq : z ≠ q := fun e => by
     have := out_it hw hp j
     rw [← ez, e, hop, hoq] at this
     exact absurd this (by decide)
    have zy : z ≠ y := fun e => by
     apply kl (j + 1) (by omega) hj
     show st d (it (st d) j p) = p
     rw [← ez, e]
     unfold st
     rw [hyq, ← hqp]
    have e3 : a1 z = d.m z := a1z z zo zo2 zq zy
    have h2 : Con rot a1 p (d.m z) := by rw [← e3]; exact h1.right
    exact h2.trans (rr (d.m z))
 have hlast : it (st d) (k - 1) p = y := by
  have e : st d (it (st d) (k - 1) p) = p := by
   have : it (st d) (k - 1 + 1) p = p := by rw [show k - 1 + 1 = k by omega]; exact ke
   exact this
  have hz := hsb.it (k - 1) p hp
  have e2 : st d y = p := by unfold st; rw [hyq, ← hqp]
  exact hsb.inj _ _ hz hyl (e.trans e2.symm)
 have cpy : Con rot a1 p y := by have := run (k - 1) (by omega); rwa [hlast] at this
 have cqy : Con rot a1 q y := by
  have := rr q
  rw [← hqp] at this
  exact this.trans cpy
 have hn : ¬ Orb (phi rot a0) q y := by
  rw [← a1e, phi_tr]
  exact d1.pb.part hq hyl qy (k1 cqy)
 have coo : Con rot a0 o (tn o 2) := by rw [← rot_rot]; exact (Con.refl.left).left
 have ooo := k0 coo
 have py : phi rot a0 y = rot q := by unfold phi; rw [a0y]
 have po' : phi rot a0 o = rot o := by unfold phi; rw [c2]
 have po2' : phi rot a0 (tn o 2) = rot (tn o 2) := by unfold phi; rw [c3]
 have sym := fun {x y} (hx : dart d x) (e : Orb (phi rot a0) x y) => c1.pb.symm hx e
 rcases hcase with e | e
 ·-- q = tn o 1: o2 goes to q, y goes to o
  have s1 : Orb (phi rot a0) (tn o 2) q := by
   have := Orb.step (phi rot a0) (tn o 2)
   rw [po2', show rot (tn o 2) = q by rw [e]; unfold rot; rw [tn_tn]; unfold tn; omega] at this
   exact this
  have s2 : Orb (phi rot a0) y o := by
   have := Orb.step (phi rot a0) y
   rw [py, show rot q = o by rw [e]; unfold rot; rw [tn_tn]; exact tn_four o] at this
   exact this
  exact hn (sym hyl (s2.trans (ooo.trans s1)))
 ·have s1 : Orb (phi rot a0) o q := by
   have := Orb.step (phi rot a0) o
   rw [po', show rot o = q by rw [e]; rfl] at this
   exact this
  have s2 : Orb (phi rot a0) y (tn o 2) := by
   have := Orb.step (phi rot a0) y
   rw [py, show rot q = tn o 2 by rw [e]; unfold rot; rw [tn_tn]; unfold tn; omega] at this
   exact this
  exact hn (sym hyl (s2.trans ((sym ho ooo).trans s1)))
end Go.Proofs.YtlffopdoeobgaaaGreatDoor.Pl
end
section
namespace Go.Proofs.YtlffopdoeobgaaaGreatDoor.Pl
variable {d : Dg}
theorem tn_ne {h j k : Nat} (e : j % 4 ≠ k % 4) : tn h j ≠ tn h k := by unfold tn; omega
theorem dg_m {d : Dg} (hd : Wf d) {h : Nat} (hh : h < 4 * d.n) : d.mt.getD h 0 = d.m h := by
 unfold Dg.m
 have := hd.len
 rw [List.getD_eq_getElem?_getD, List.getD_eq_getElem?_getD, List.getElem?_eq_getElem (by omega)]
 rfl
theorem kink_four (hd : Valid d) {o : Nat} (ho : o < 4 * d.n) (hk : d.m o / 4 = o / 4) : d.m o = tn o 1 ∨ d.m o = tn o 3 := by
 have h1 := no_opp hd ho
 have h2 := (Valid.iff.1 hd).1.ne o ho
 unfold tn at h1 ⊢
 omega
theorem kink_byp (hd : Valid d) {o : Nat} (ho : o < 4 * d.n) (hk : d.m o / 4 = o / 4) (hn : d.m (tn o 2) ≠ tn (d.m o) 2) :
 Hm (4 * d.n) (dart d) rot (byp d.m (tn (d.m o) 2) (tn o 2)) ∧ Flat (dart d) rot (byp d.m (tn (d.m o) 2) (tn o 2)) := by
 have hv := Valid.iff.1 hd
 have hw := hv.1
 have hi := hw.lt o ho
 have hA : tn o 2 < 4 * d.n := tn_lt ho
 have hB : tn (d.m o) 2 < 4 * d.n := tn_lt hi
 have hBA : tn (d.m o) 2 ≠ tn o 2 := fun e => hw.ne o ho (tn_inj e)
 have hmBA : d.m (tn (d.m o) 2) ≠ tn o 2 := fun e => hn (by rw [← e, hw.inv _ hB])
 obtain ⟨c0, c1, c2, c3, c4, c5, c6, c7⟩ := cut2_hm hw.hm hB hA hBA (hw.ne _ hB) (hw.ne _ hA) hmBA
 refine byp_flat hw.hm hB hA hBA (hw.ne _ hB) (hw.ne _ hA) hmBA ?_ hv.2
 rcases kink_four hd ho hk with e | e
 ·-- B's next is A
  have s1 := Orb.step (phi rot (cut2 d.m (tn (d.m o) 2) (tn o 2))) (tn (d.m o) 2)
  rw [show phi rot (cut2 d.m (tn (d.m o) 2) (tn o 2)) (tn (d.m o) 2) = tn o 2 by
   unfold phi; rw [c1, e]; unfold rot; rw [tn_tn, tn_tn]; unfold tn; omega] at s1
  exact s1
 ·have s1 := Orb.step (phi rot (cut2 d.m (tn (d.m o) 2) (tn o 2))) (tn (d.m o) 2)
  rw [show phi rot (cut2 d.m (tn (d.m o) 2) (tn o 2)) (tn (d.m o) 2) = o by
   unfold phi; rw [c1, e]; unfold rot; rw [tn_tn, tn_tn]; unfold tn; omega] at s1
  have n1 : o ≠ tn (d.m o) 2 := by rw [e, tn_tn]; unfold tn; omega
  have n2 : o ≠ tn o 2 := by unfold tn; omega
  have n3 : o ≠ d.m (tn (d.m o) 2) := fun e2 => by
   have : d.m o = tn (d.m o) 2 := by have h := hw.inv _ hB; rw [← e2] at h; exact h
   unfold tn at this; omega
  have n4 : o ≠ d.m (tn o 2) := fun e2 => by
   have : d.m o = tn o 2 := by have h := hw.inv _ hA; rw [← e2] at h; exact h
   exact no_opp hd ho this
  have s2 := Orb.step (phi rot (cut2 d.m (tn (d.m o) 2) (tn o 2))) o
  rw [show phi rot (cut2 d.m (tn (d.m o) 2) (tn o 2)) o = tn o 2 by
   unfold phi; rw [cut2_at _ _ n1 n2 n3 n4, e]; unfold rot; rw [tn_tn]; unfold tn; omega] at s2
  exact s1.trans s2
theorem kink_rs (hd : Valid d) {o : Nat} (ho : o < 4 * d.n) (hk : d.m o / 4 = o / 4) (hn : d.m (tn o 2) ≠ tn (d.m o) 2) {mt : List Nat} {lp : Nat} (hl : lp ≤ 64)
 (hmt : ∀ h, h < 4 * d.n → mt.getD h 0 = if h = d.m (tn o 2) then d.m (tn (d.m o) 2) else if h = d.m (tn (d.m o) 2) then d.m (tn o 2) else d.m h) :
 Rs d [o / 4] mt lp (byp d.m (tn (d.m o) 2) (tn o 2)) := by
 have hw := (Valid.iff.1 hd).1
 have hi := hw.lt o ho
 have hA : tn o 2 < 4 * d.n := tn_lt ho
 have hB : tn (d.m o) 2 < 4 * d.n := tn_lt hi
 have hBA : tn (d.m o) 2 ≠ tn o 2 := fun e => hw.ne o ho (tn_inj e)
 have hmBA : d.m (tn (d.m o) 2) ≠ tn o 2 := fun e => hn (by rw [← e, hw.inv _ hB])
 obtain ⟨b1, b2, b3, b4, b5⟩ := byp_at hw.hm hB hA hBA (hw.ne _ hB) (hw.ne _ hA) hmBA
 have q1 : tn o 2 / 4 = o / 4 := tn_div o 2
 have q2 : tn (d.m o) 2 / 4 = o / 4 := by rw [tn_div, hk]
 have four := kink_four hd ho hk
 have inv := hw.inv o ho
 -- the mates of A and B lie elsewhere
 have uA : d.m (tn o 2) / 4 ≠ o / 4 := fun e => by
  have h1 : d.m (tn o 2) = o ∨ d.m (tn o 2) = d.m o ∨ d.m (tn o 2) = tn o 2 ∨ d.m (tn o 2) = tn (d.m o) 2 := by rcases four with h | h <;> rw [h] <;> unfold tn at * <;> omega
  rcases h1 with h | h | h | h
  ·have : tn o 2 = d.m o := by have h2 := hw.inv _ hA; rw [h] at h2; exact h2.symm
   exact no_opp hd ho this.symm
  ·have := hw.bij.inj _ _ hA ho h; unfold tn at this; omega
  ·exact hw.ne _ hA h
  ·exact hn h
 have uB : d.m (tn (d.m o) 2) / 4 ≠ o / 4 := fun e => by
  have h1 : d.m (tn (d.m o) 2) = o ∨ d.m (tn (d.m o) 2) = d.m o ∨ d.m (tn (d.m o) 2) = tn o 2 ∨ d.m (tn (d.m o) 2) = tn (d.m o) 2 := by rcases four with h | h <;> rw [h] at e ⊢ <;> unfold tn at * <;> omega
  rcases h1 with h | h | h | h
  ·have : tn (d.m o) 2 = d.m o := by have h2 := hw.inv _ hB; rw [h] at h2; exact h2.symm
   unfold tn at this; omega
  ·have := hw.bij.inj _ _ hB ho h
   exact no_opp hd hi (by rw [inv]; exact this.symm)
  ·exact hmBA h
  ·exact hw.ne _ hB h
 refine ⟨by simp, few_one _, (kink_byp hd ho hk hn).1, fun h hg => ?_, fun h hs => ?_, fun h hs => ?_, hl⟩
 ·have hc : h / 4 = o / 4 := by simpa using hg.2
  have h1 : h = o ∨ h = d.m o ∨ h = tn o 2 ∨ h = tn (d.m o) 2 := by rcases four with h | h <;> rw [h] <;> unfold tn at * <;> omega
  have t1 : o ≠ tn (d.m o) 2 := by rcases four with h | h <;> rw [h, tn_tn] <;> (unfold tn; omega)
  have t2 : o ≠ tn o 2 := by unfold tn; omega
  have t3 : d.m o ≠ tn (d.m o) 2 := by unfold tn; omega
  have t4 : d.m o ≠ tn o 2 := no_opp hd ho
  rcases h1 with rfl | rfl | rfl | rfl
  ·rw [b5 h t1 t2 (fun e => uB (by rw [← e])) (fun e => uA (by rw [← e]))]; simpa using hk
  ·rw [b5 _ t3 t4 (fun e => uB (by rw [← e, hk])) (fun e => uA (by rw [← e, hk])), inv]; simp
  ·rw [b2]; simpa using q1
  ·rw [b1]; simpa using q2
 ·have hc : h / 4 ≠ o / 4 := by simpa using hs.2
  rw [hmt h hs.1]
  by_cases e1 : h = d.m (tn o 2)
  ·rw [if_pos e1, e1, b4]
  ·rw [if_neg e1]
   by_cases e2 : h = d.m (tn (d.m o) 2)
   ·rw [if_pos e2, e2, b3]
   ·rw [if_neg e2, b5 h (fun e => hc (by rw [e, q2])) (fun e => hc (by rw [e, q1])) e2 e1]
 ·have hc : h / 4 ≠ o / 4 := by simpa using hs.2
  have oA : out d (d.m (tn o 2)) = out d o := by rw [out_way hw hA, out_opp hw ho, Bool.not_not]
  have oB : out d (d.m (tn (d.m o) 2)) = !out d o := by rw [out_way hw hB, out_opp hw hi, out_way hw ho, Bool.not_not]
  by_cases e1 : h = d.m (tn o 2)
  ·rw [e1, b4, oA, oB]; cases out d o <;> decide
  ·by_cases e2 : h = d.m (tn (d.m o) 2)
   ·rw [e2, b3, oA, oB]; cases out d o <;> decide
   ·rw [b5 h (fun e => hc (by rw [e, q2])) (fun e => hc (by rw [e, q1])) e2 e1]
    exact hw.way h hs.1
theorem kink_rs0 (hd : Valid d) {o : Nat} (ho : o < 4 * d.n) (hk : d.m o / 4 = o / 4) (hn : d.m (tn o 2) = tn (d.m o) 2) {lp : Nat} (hl : lp ≤ 64) : Rs d [o / 4] d.mt lp d.m := by
 have hw := (Valid.iff.1 hd).1
 have hi := hw.lt o ho
 have hA : tn o 2 < 4 * d.n := tn_lt ho
 have four := kink_four hd ho hk
 refine ⟨by simp, few_one _, hw.hm, fun h hg => ?_, fun h hs => dg_m hw hs.1, fun h hs => hw.way h hs.1, hl⟩
 have hc : h / 4 = o / 4 := by simpa using hg.2
 have h1 : h = o ∨ h = d.m o ∨ h = tn o 2 ∨ h = tn (d.m o) 2 := by rcases four with h | h <;> rw [h] <;> unfold tn at * <;> omega
 rcases h1 with rfl | rfl | rfl | rfl
 ·simpa using hk
 ·rw [hw.inv o ho]; simp
 ·rw [hn, tn_div, hk]; simp
 ·rw [← hn, hw.inv _ hA, tn_div]; simp
theorem kink_valid (hd : Valid d) {o : Nat} (ho : o < 4 * d.n) (hk : d.m o / 4 = o / 4) (hn : d.m (tn o 2) ≠ tn (d.m o) 2) {mt : List Nat} {lp : Nat} (hl : lp ≤ 64)
 (hmt : ∀ h, h < 4 * d.n → mt.getD h 0 = if h = d.m (tn o 2) then d.m (tn (d.m o) 2) else if h = d.m (tn (d.m o) 2) then d.m (tn o 2) else d.m h) : Valid (rsD d [o / 4] mt lp) :=
 (kink_rs hd ho hk hn hl hmt).valid (Valid.iff.1 hd).1 (kink_byp hd ho hk hn).2
theorem kink_valid0 (hd : Valid d) {o : Nat} (ho : o < 4 * d.n) (hk : d.m o / 4 = o / 4) (hn : d.m (tn o 2) = tn (d.m o) 2) {lp : Nat} (hl : lp ≤ 64) : Valid (rsD d [o / 4] d.mt lp) :=
 (kink_rs0 hd ho hk hn hl).valid (Valid.iff.1 hd).1 (Valid.iff.1 hd).2
end Go.Proofs.YtlffopdoeobgaaaGreatDoor.Pl
end
section
namespace Go.Proofs.YtlffopdoeobgaaaGreatDoor.Pl
variable {d : Dg}
def Wy (d : Dg) (b : Nat → Nat) : Prop := ∀ z, z < 4 * d.n → b z ≠ z → out d (b z) = !out d z
theorem wy_m (hd : Wf d) : Wy d d.m := fun z hz _ => out_way hd hz
theorem byp_wy {b : Nat → Nat} (h : Hm (4 * d.n) (dart d) rot b) (hw : Wy d b) {u v : Nat} (hu : u < 4 * d.n) (hv : v < 4 * d.n) (huv : u ≠ v) (nu : b u ≠ u) (nv : b v ≠ v) (nuv : b u ≠ v) (ho : out d v = !out d u) : Wy d (byp b u v) := by
 obtain ⟨b1, b2, b3, b4, b5⟩ := byp_at h hu hv huv nu nv nuv
 intro z hz hne
 by_cases z1 : z = u
 ·subst z1; exact absurd b1 hne
 ·by_cases z2 : z = v
  ·subst z2; exact absurd b2 hne
  ·by_cases z3 : z = b u
   ·rw [z3, b3, hw u hu nu, hw v hv nv, ho]
   ·by_cases z4 : z = b v
    ·rw [z4, b4, hw u hu nu, hw v hv nv, ho, Bool.not_not]
    ·rw [b5 z z1 z2 z3 z4] at hne ⊢
     exact hw z hz hne
structure Lens (d : Dg) (h u : Nat) : Prop where
 hh : h < 4 * d.n
 m0 : d.m h = u
 m1 : d.m (tn h 1) = tn u 3
 ne : h / 4 ≠ u / 4
def cls (b : Nat → Nat) (u v : Nat) : Nat → Nat := if b u = v then b else byp b u v
section
variable {h u : Nat}
theorem Lens.hu (hd : Wf d) (L : Lens d h u) : u < 4 * d.n := by rw [← L.m0]; exact hd.lt h L.hh
theorem Lens.m2 (hd : Wf d) (L : Lens d h u) : d.m u = h := by rw [← L.m0]; exact hd.inv h L.hh
theorem Lens.m3 (hd : Wf d) (L : Lens d h u) : d.m (tn u 3) = tn h 1 := by rw [← L.m1]; exact hd.inv _ (tn_lt L.hh)
def lA (d : Dg) (h u : Nat) : Nat → Nat := cls d.m (tn h 2) (tn u 2)
def lB (d : Dg) (h u : Nat) : Nat → Nat := cls (lA d h u) (tn h 3) (tn u 1)
theorem ap {x y : Nat} (e : x / 4 ≠ y / 4) : x ≠ y := fun h => e (by rw [h])
theorem pm {j k h u : Nat} (e : h / 4 ≠ u / 4) : tn h j ≠ tn u k := ap (by rw [tn_div, tn_div]; exact e)
theorem pm0 {j h u : Nat} (e : h / 4 ≠ u / 4) : tn h j ≠ u := ap (by rw [tn_div]; exact e)
theorem pm1 {k h u : Nat} (e : h / 4 ≠ u / 4) : h ≠ tn u k := ap (by rw [tn_div]; exact e)
theorem pmz {h k : Nat} (e : k % 4 ≠ 0) : h ≠ tn h k := by unfold tn; omega
structure LA (d : Dg) (h u : Nat) (b : Nat → Nat) : Prop where
 hm : Hm (4 * d.n) (dart d) rot b
 fl : Flat (dart d) rot b
 wy : Wy d b
 e0 : b h = u
 e1 : b (tn h 1) = tn u 3
 e2 : b u = h
 e3 : b (tn u 3) = tn h 1
 c : (b (tn h 2) = tn u 2 ∧ b (tn u 2) = tn h 2) ∨ (b (tn h 2) = tn h 2 ∧ b (tn u 2) = tn u 2)
 nf : ∀ z, z < 4 * d.n → z ≠ tn h 2 → z ≠ tn u 2 → b z ≠ z
theorem Lens.la (hd : Valid d) (L : Lens d h u) : LA d h u (lA d h u) := by
 have hv := Valid.iff.1 hd
 have hw := hv.1
 have hu := L.hu hw
 have hh := L.hh
 have E := L.ne
 have hA : tn h 2 < 4 * d.n := tn_lt hh
 have hB : tn u 2 < 4 * d.n := tn_lt hu
 have m0 := L.m0
 have m1 := L.m1
 have m2 := L.m2 hw
 have m3 := L.m3 hw
 unfold lA cls
 by_cases hc : d.m (tn h 2) = tn u 2
 ·rw [if_pos hc]
  exact ⟨hw.hm, hv.2, wy_m hw, m0, m1, m2, m3, .inl ⟨hc, by rw [← hc, hw.inv _ hA]⟩, fun z hz _ _ => hw.ne z hz⟩
 ·rw [if_neg hc]
  have hAB : tn h 2 ≠ tn u 2 := pm E
  have nA := hw.ne _ hA
  have nB := hw.ne _ hB
  obtain ⟨b1, b2, b3, b4, b5⟩ := byp_at hw.hm hA hB hAB nA nB hc
  obtain ⟨c0, c1, c2, c3, c4, c5, c6, c7⟩ := cut2_hm hw.hm hA hB hAB nA nB hc
  -- the four inner half-edges are none of the outer ones' mates
  have ni : ∀ z, z < 4 * d.n → d.m z ≠ tn h 2 → d.m z ≠ tn u 2 → z ≠ d.m (tn h 2) ∧ z ≠ d.m (tn u 2) := fun z hz n1 n2 =>
   ⟨fun e => n1 (by rw [e, hw.inv _ hA]), fun e => n2 (by rw [e, hw.inv _ hB])⟩
  have n0 := ni h hh (by rw [m0]; exact Ne.symm (pm0 E)) (by rw [m0]; exact pmz (by omega))
  have n1 := ni (tn h 1) (tn_lt hh) (by rw [m1]; exact Ne.symm (pm E)) (by rw [m1]; exact tn_ne (by omega))
  have n2 := ni u hu (by rw [m2]; exact pmz (by omega)) (by rw [m2]; exact pm1 E)
  have n3 := ni (tn u 3) (tn_lt hu) (by rw [m3]; exact tn_ne (by omega)) (by rw [m3]; exact pm E)
  have ho : Orb (phi rot (cut2 d.m (tn h 2) (tn u 2))) (tn h 2) (tn u 2) := by
   refine ⟨2, ?_⟩
   show phi rot _ (phi rot _ (tn h 2)) = tn u 2
   have s1 : phi rot (cut2 d.m (tn h 2) (tn u 2)) (tn h 2) = tn h 1 := by unfold phi; rw [c1]; unfold rot; rw [tn_tn]; unfold tn; omega
   have s2 : phi rot (cut2 d.m (tn h 2) (tn u 2)) (tn h 1) = tn u 2 := by
    unfold phi; rw [cut2_at _ _ (tn_ne (by omega)) (pm E) n1.1 n1.2, m1]; unfold rot; rw [tn_tn]; unfold tn; omega
   rw [s1, s2]
  obtain ⟨g1, g2⟩ := byp_flat hw.hm hA hB hAB nA nB hc ho hv.2
  refine ⟨g1, g2, byp_wy hw.hm (wy_m hw) hA hB hAB nA nB hc ?_, ?_, ?_, ?_, ?_, .inr ⟨b1, b2⟩, ?_⟩
  ·rw [out_opp hw hu, out_opp hw hh, ← m0, out_way hw hh]
  ·rw [b5 h (pmz (by omega)) (pm1 E) n0.1 n0.2, m0]
  ·rw [b5 _ (tn_ne (by omega)) (pm E) n1.1 n1.2, m1]
  ·rw [b5 u (Ne.symm (pm0 E)) (pmz (by omega)) n2.1 n2.2, m2]
  ·rw [b5 _ (Ne.symm (pm E)) (tn_ne (by omega)) n3.1 n3.2, m3]
  ·intro z hz z1 z2
   by_cases z3 : z = d.m (tn h 2)
   ·rw [z3, b3]; exact Ne.symm c6
   ·by_cases z4 : z = d.m (tn u 2)
    ·rw [z4, b4]; exact c6
    ·rw [b5 z z1 z2 z3 z4]; exact hw.ne z hz
structure LB2 (d : Dg) (h u : Nat) (b : Nat → Nat) : Prop where
 hm : Hm (4 * d.n) (dart d) rot b
 fl : Flat (dart d) rot b
 wy : Wy d b
 e0 : b h = u
 e1 : b (tn h 1) = tn u 3
 e2 : b u = h
 e3 : b (tn u 3) = tn h 1
 c : (b (tn h 2) = tn u 2 ∧ b (tn u 2) = tn h 2) ∨ (b (tn h 2) = tn h 2 ∧ b (tn u 2) = tn u 2)
 c' : (b (tn h 3) = tn u 1 ∧ b (tn u 1) = tn h 3) ∨ (b (tn h 3) = tn h 3 ∧ b (tn u 1) = tn u 1)
 nf : ∀ z, z < 4 * d.n → z ≠ tn h 2 → z ≠ tn u 2 → z ≠ tn h 3 → z ≠ tn u 1 → b z ≠ z
theorem LA.lb (hw : Wf d) (L : Lens d h u) {a : Nat → Nat} (A : LA d h u a) : LB2 d h u (cls a (tn h 3) (tn u 1)) := by
 have hu := L.hu hw
 have hh := L.hh
 have E := L.ne
 have h3 : tn h 3 < 4 * d.n := tn_lt hh
 have u1 : tn u 1 < 4 * d.n := tn_lt hu
 have n3 := A.nf _ h3 (tn_ne (by omega)) (pm E)
 have n1 := A.nf _ u1 (Ne.symm (pm E)) (tn_ne (by omega))
 unfold cls
 by_cases hc : a (tn h 3) = tn u 1
 ·rw [if_pos hc]
  exact ⟨A.hm, A.fl, A.wy, A.e0, A.e1, A.e2, A.e3, A.c, .inl ⟨hc, by rw [← hc, A.hm.inv _ h3]⟩, fun z hz z1 z2 _ _ => A.nf z hz z1 z2⟩
 ·rw [if_neg hc]
  have hAB : tn h 3 ≠ tn u 1 := pm E
  obtain ⟨b1, b2, b3, b4, b5⟩ := byp_at A.hm h3 u1 hAB n3 n1 hc
  obtain ⟨c0, c1, c2, c3, c4, c5, c6, c7⟩ := cut2_hm A.hm h3 u1 hAB n3 n1 hc
  have ni : ∀ z, z < 4 * d.n → a z ≠ tn h 3 → a z ≠ tn u 1 → z ≠ a (tn h 3) ∧ z ≠ a (tn u 1) := fun z hz n1 n2 =>
   ⟨fun e => n1 (by rw [e, A.hm.inv _ h3]), fun e => n2 (by rw [e, A.hm.inv _ u1])⟩
  have k0 := ni h hh (by rw [A.e0]; exact Ne.symm (pm0 E)) (by rw [A.e0]; exact pmz (by omega))
  have k1 := ni (tn h 1) (tn_lt hh) (by rw [A.e1]; exact Ne.symm (pm E)) (by rw [A.e1]; exact tn_ne (by omega))
  have k2 := ni u hu (by rw [A.e2]; exact pmz (by omega)) (by rw [A.e2]; exact pm1 E)
  have k3 := ni (tn u 3) (tn_lt hu) (by rw [A.e3]; exact tn_ne (by omega)) (by rw [A.e3]; exact pm E)
  have k4 : tn h 2 ≠ a (tn h 3) ∧ tn h 2 ≠ a (tn u 1) := ni (tn h 2) (tn_lt hh) (by rcases A.c with ⟨e, _⟩ | ⟨e, _⟩ <;> rw [e]; exact Ne.symm (pm E); exact tn_ne (by omega)) (by rcases A.c with ⟨e, _⟩ | ⟨e, _⟩ <;> rw [e]; exact tn_ne (by omega); exact pm E)
  have k5 : tn u 2 ≠ a (tn h 3) ∧ tn u 2 ≠ a (tn u 1) := ni (tn u 2) (tn_lt hu) (by rcases A.c with ⟨_, e⟩ | ⟨_, e⟩ <;> rw [e]; exact tn_ne (by omega); exact Ne.symm (pm E)) (by rcases A.c with ⟨_, e⟩ | ⟨_, e⟩ <;> rw [e]; exact pm E; exact tn_ne (by omega))
  have r2 : cut2 a (tn h 3) (tn u 1) (tn h 2) = a (tn h 2) := cut2_at _ _ (tn_ne (by omega)) (pm E) k4.1 k4.2
  have r5 : cut2 a (tn h 3) (tn u 1) (tn u 2) = a (tn u 2) := cut2_at _ _ (Ne.symm (pm E)) (tn_ne (by omega)) k5.1 k5.2
  have r1 : cut2 a (tn h 3) (tn u 1) (tn h 1) = tn u 3 := by rw [cut2_at _ _ (tn_ne (by omega)) (pm E) k1.1 k1.2, A.e1]
  have s1 : phi rot (cut2 a (tn h 3) (tn u 1)) (tn h 3) = tn h 2 := by unfold phi; rw [c1]; unfold rot; rw [tn_tn]; unfold tn; omega
  have ho : Orb (phi rot (cut2 a (tn h 3) (tn u 1))) (tn h 3) (tn u 1) := by
   rcases A.c with ⟨e, _⟩ | ⟨e, e'⟩
   ·have s2 : phi rot (cut2 a (tn h 3) (tn u 1)) (tn h 2) = tn u 1 := by unfold phi; rw [r2, e]; unfold rot; rw [tn_tn]; unfold tn; omega
    refine ⟨2, ?_⟩
    show phi rot _ (phi rot _ (tn h 3)) = tn u 1
    rw [s1, s2]
   ·have s2 : phi rot (cut2 a (tn h 3) (tn u 1)) (tn h 2) = tn h 1 := by unfold phi; rw [r2, e]; unfold rot; rw [tn_tn]; unfold tn; omega
    have s3 : phi rot (cut2 a (tn h 3) (tn u 1)) (tn h 1) = tn u 2 := by unfold phi; rw [r1]; unfold rot; rw [tn_tn]; unfold tn; omega
    have s4 : phi rot (cut2 a (tn h 3) (tn u 1)) (tn u 2) = tn u 1 := by unfold phi; rw [r5, e']; unfold rot; rw [tn_tn]; unfold tn; omega
    refine ⟨4, ?_⟩
    show phi rot _ (phi rot _ (phi rot _ (phi rot _ (tn h 3)))) = tn u 1
    rw [s1, s2, s3, s4]
  obtain ⟨g1, g2⟩ := byp_flat A.hm h3 u1 hAB n3 n1 hc ho A.fl
  have w1 : out d (tn u 1) = !out d (tn h 3) := by
   have a1 : out d (tn (tn h 1) 2) = !out d (tn h 1) := out_opp hw (tn_lt hh)
   have a2 : out d (tn (tn u 3) 2) = !out d (tn u 3) := out_opp hw (tn_lt hu)
   rw [tn_tn] at a1 a2
   rw [show tn u (3 + 2) = tn u 1 by unfold tn; omega] at a2
   have a3 := out_way hw (tn_lt (k := 1) hh)
   rw [L.m1] at a3
   rw [a2, a3, ← a1]
  refine ⟨g1, g2, byp_wy A.hm A.wy h3 u1 hAB n3 n1 hc w1, ?_, ?_, ?_, ?_, ?_, .inr ⟨b1, b2⟩, ?_⟩
  ·rw [b5 h (pmz (by omega)) (pm1 E) k0.1 k0.2, A.e0]
  ·rw [b5 _ (tn_ne (by omega)) (pm E) k1.1 k1.2, A.e1]
  ·rw [b5 u (Ne.symm (pm0 E)) (pmz (by omega)) k2.1 k2.2, A.e2]
  ·rw [b5 _ (Ne.symm (pm E)) (tn_ne (by omega)) k3.1 k3.2, A.e3]
  ·rw [b5 _ (tn_ne (by omega)) (pm E) k4.1 k4.2, b5 _ (Ne.symm (pm E)) (tn_ne (by omega)) k5.1 k5.2]; exact A.c
  ·intro z hz z1 z2 z5 z6
   by_cases z3 : z = a (tn h 3)
   ·rw [z3, b3]; exact Ne.symm c6
   ·by_cases z4 : z = a (tn u 1)
    ·rw [z4, b4]; exact c6
    ·rw [b5 z z5 z6 z3 z4]; exact A.nf z hz z1 z2
theorem Lens.lb (hd : Valid d) (L : Lens d h u) : LB2 d h u (lB d h u) := (L.la hd).lb (Valid.iff.1 hd).1 L
theorem LB2.rs (hw : Wf d) (L : Lens d h u) {b : Nat → Nat} (B : LB2 d h u b) {x y : Nat} (hxy : x < y) (hx : (x = h / 4 ∧ y = u / 4) ∨ (x = u / 4 ∧ y = h / 4)) {mt : List Nat} {lp : Nat} (hl : lp ≤ 64)
 (hmt : ∀ z, stay d [x, y] z → mt.getD z 0 = b z) : Rs d [x, y] mt lp b := by
 have hin : ∀ z, z / 4 ∈ [x, y] ↔ z / 4 = h / 4 ∨ z / 4 = u / 4 := fun z => by
  rw [List.mem_cons, List.mem_singleton]
  rcases hx with ⟨rfl, rfl⟩ | ⟨rfl, rfl⟩
  ·exact Iff.rfl
  ·exact Or.comm
 have s0 : ∀ k, tn h k / 4 = h / 4 ∨ tn h k / 4 = u / 4 := fun k => .inl (tn_div h k)
 have s1 : ∀ k, tn u k / 4 = h / 4 ∨ tn u k / 4 = u / 4 := fun k => .inr (tn_div u k)
 refine ⟨by simp; omega, few_two hxy, B.hm, fun z hz => ?_, hmt, fun z hz e => ?_, hl⟩
 ·rw [hin]
  rcases (hin z).1 hz.2 with hz2 | hz2
  ·have : z = h ∨ z = tn h 1 ∨ z = tn h 2 ∨ z = tn h 3 := by unfold tn; omega
   rcases this with rfl | rfl | rfl | rfl
   ·rw [B.e0]; exact .inr rfl
   ·rw [B.e1]; exact s1 _
   ·rcases B.c with ⟨e, _⟩ | ⟨e, _⟩ <;> rw [e]; exact s1 _; exact s0 _
   ·rcases B.c' with ⟨e, _⟩ | ⟨e, _⟩ <;> rw [e]; exact s1 _; exact s0 _
  ·have : z = u ∨ z = tn u 1 ∨ z = tn u 2 ∨ z = tn u 3 := by unfold tn; omega
   rcases this with rfl | rfl | rfl | rfl
   ·rw [B.e2]; exact .inl rfl
   ·rcases B.c' with ⟨_, e⟩ | ⟨_, e⟩ <;> rw [e]; exact s0 _; exact s1 _
   ·rcases B.c with ⟨_, e⟩ | ⟨_, e⟩ <;> rw [e]; exact s0 _; exact s1 _
   ·rw [B.e3]; exact s0 _
 ·have hno : ¬ (z / 4 = h / 4 ∨ z / 4 = u / 4) := fun e => hz.2 ((hin z).2 e)
  have hq : ∀ k, z ≠ tn h k ∧ z ≠ tn u k := fun k => ⟨fun e => hno (by rw [e]; exact s0 k), fun e => hno (by rw [e]; exact s1 k)⟩
  have := B.wy z hz.1 (B.nf z hz.1 (hq 2).1 (hq 2).2 (hq 3).1 (hq 1).2)
  rw [this] at e
  cases h : out d z <;> rw [h] at e <;> exact absurd e (by decide)
theorem Lens.valid (hd : Valid d) (L : Lens d h u) {x y : Nat} (hxy : x < y) (hx : (x = h / 4 ∧ y = u / 4) ∨ (x = u / 4 ∧ y = h / 4)) {mt : List Nat} {lp : Nat} (hl : lp ≤ 64)
 (hmt : ∀ z, stay d [x, y] z → mt.getD z 0 = lB d h u z) : Valid (rsD d [x, y] mt lp) :=
 ((L.lb hd).rs (Valid.iff.1 hd).1 L hxy hx hl hmt).valid (Valid.iff.1 hd).1 (L.lb hd).fl
end
end Go.Proofs.YtlffopdoeobgaaaGreatDoor.Pl
end
section
namespace Go.Proofs.YtlffopdoeobgaaaGreatDoor.Pl
def jl (l : List Nat) (a b : Nat) : List Nat := (l.set a b).set b a
theorem jl_len (l : List Nat) (a b : Nat) : (jl l a b).length = l.length := by unfold jl; simp
theorem jset_getD (l : List Nat) (a v z : Nat) (ha : a < l.length) : (l.set a v).getD z 0 = if z = a then v else l.getD z 0 := by
 rw [List.getD_eq_getElem?_getD, List.getD_eq_getElem?_getD, List.getElem?_set]
 by_cases e : a = z
 ·subst e; simp [ha]
 ·rw [if_neg e, if_neg (Ne.symm e)]
theorem jl_at {l : List Nat} {a b : Nat} (ha : a < l.length) (hb : b < l.length) (z : Nat) : (jl l a b).getD z 0 = if z = b then a else if z = a then b else l.getD z 0 := by
 unfold jl
 rw [jset_getD _ _ _ _ (by simpa using hb), jset_getD _ _ _ _ ha]
theorem tr_fix {a : Nat → Nat} {x y z : Nat} (hne : x ≠ y) (fx : a x = x) (fy : a y = y) (e : tr a x y z = z) : a z = z ∧ z ≠ x ∧ z ≠ y := by
 by_cases h1 : z = x
 ·subst h1; rw [tr_a, fy] at e; exact absurd e.symm hne
 ·by_cases h2 : z = y
  ·subst h2; rw [tr_b, fx] at e; exact absurd e hne
  ·rw [tr_ne h1 h2] at e; exact ⟨e, h1, h2⟩
structure MS (M : Nat) (o : Nat → Bool) (l : List Nat) (a : Nat → Nat) : Prop where
 hm : Hm (4 * M) (fun h => h < 4 * M) rot a
 fl : Flat (fun h => h < 4 * M) rot a
 wy : ∀ z, z < 4 * M → a z ≠ z → o (a z) = !o z
 len : l.length = 4 * M
 at_ : ∀ z, z < 4 * M → a z ≠ z → l.getD z 0 = a z
section
variable {M : Nat} {o : Nat → Bool} {l : List Nat} {a : Nat → Nat}
theorem MS.join' (m : MS M o l a) {x y : Nat} (hx : x < 4 * M) (hy : y < 4 * M) (hne : x ≠ y) (fx : a x = x) (fy : a y = y) (ho : o y = !o x) (hf : Flat (fun h => h < 4 * M) rot (tr a x y)) : MS M o (jl l x y) (tr a x y) := by
 refine ⟨m.hm.tr hx hy fx fy, hf, fun z hz e => ?_, by rw [jl_len, m.len], fun z hz e => ?_⟩
 ·by_cases h1 : z = x
  ·subst h1; rw [tr_a, fy, ho]
  ·by_cases h2 : z = y
   ·subst h2; rw [tr_b, fx, ho, Bool.not_not]
   ·rw [tr_ne h1 h2] at e ⊢; exact m.wy z hz e
 ·rw [jl_at (by rw [m.len]; exact hx) (by rw [m.len]; exact hy)]
  by_cases h2 : z = y
  ·subst h2; rw [if_pos rfl, tr_b, fx]
  ·rw [if_neg h2]
   by_cases h1 : z = x
   ·subst h1; rw [if_pos rfl, tr_a, fy]
   ·rw [if_neg h1, tr_ne h1 h2]; rw [tr_ne h1 h2] at e; exact m.at_ z hz e
theorem MS.join (m : MS M o l a) {x y : Nat} (hx : x < 4 * M) (hy : y < 4 * M) (hne : x ≠ y) (fx : a x = x) (fy : a y = y) (ho : o y = !o x) (hc : Orb (phi rot a) x y ∨ Orb (phi rot a) y x ∨ ¬ Con rot a x y) : MS M o (jl l x y) (tr a x y) := by
 refine m.join' hx hy hne fx fy ho (Flat.add m.hm hx hy hne fx fy (fun e => ?_) m.fl)
 rcases hc with h | h | h
 ·exact h
 ·exact m.hm.pb.symm hy h
 ·exact absurd e h
theorem MS.two (m : MS M o l a) {x u v : Nat} (hx : x < 4 * M) (hu : u < 4 * M) (hv : v < 4 * M) (huv : u ≠ v) (nx : a x ≠ x) (fu : a u = u) (fv : a v = v) (ou : o u = !o x) (ov : o v = o x)
 (hf : Flat (fun h => h < 4 * M) rot (tr (tr (tr a x (a x)) x u) v (a x))) : MS M o (jl (jl l x u) v (a x)) (tr (tr (tr a x (a x)) x u) v (a x)) := by
 obtain ⟨c1, c2, c3⟩ := Hm.cut m.hm hx nx
 have hy : a x < 4 * M := m.hm.ab.maps x hx
 have xu : x ≠ u := fun e => nx (by rw [e]; exact fu)
 have xv : x ≠ v := fun e => nx (by rw [e]; exact fv)
 have yu : a x ≠ u := fun e => by have := m.hm.inv x hx; rw [e, fu] at this; exact xu this.symm
 have yv : a x ≠ v := fun e => by have := m.hm.inv x hx; rw [e, fv] at this; exact xv this.symm
 have fu1 : tr a x (a x) u = u := by rw [tr_ne (Ne.symm xu) (Ne.symm yu), fu]
 have fv1 : tr a x (a x) v = v := by rw [tr_ne (Ne.symm xv) (Ne.symm yv), fv]
 have h1 := c1.tr hx hu c2 fu1
 have fv2 : tr (tr a x (a x)) x u v = v := by rw [tr_ne (Ne.symm xv) (Ne.symm huv), fv1]
 have fy2 : tr (tr a x (a x)) x u (a x) = a x := by rw [tr_ne nx yu, c3]
 have oy := m.wy x hx nx
 have e1 : tr (tr (tr a x (a x)) x u) v (a x) x = u := by rw [tr_ne xv (Ne.symm nx), tr_a, fu1]
 have e2 : tr (tr (tr a x (a x)) x u) v (a x) u = x := by rw [tr_ne huv (Ne.symm yu), tr_b, c2]
 have e3 : tr (tr (tr a x (a x)) x u) v (a x) v = a x := by rw [tr_a, fy2]
 have e4 : tr (tr (tr a x (a x)) x u) v (a x) (a x) = v := by rw [tr_b, fv2]
 have e5 : ∀ z, z ≠ x → z ≠ u → z ≠ v → z ≠ a x → tr (tr (tr a x (a x)) x u) v (a x) z = a z := fun z z1 z2 z3 z4 => by rw [tr_ne z3 z4, tr_ne z1 z2, tr_ne z1 z4]
 refine ⟨h1.tr hv hy fv2 fy2, hf, fun z hz e => ?_, by rw [jl_len, jl_len, m.len], fun z hz e => ?_⟩
 ·by_cases z1 : z = x
  ·rw [z1, e1, ou]
  ·by_cases z2 : z = u
   ·rw [z2, e2, ou, Bool.not_not]
   ·by_cases z3 : z = v
    ·rw [z3, e3, oy, ov]
    ·by_cases z4 : z = a x
     ·rw [z4, e4, oy, ov, Bool.not_not]
     ·rw [e5 z z1 z2 z3 z4] at e ⊢; exact m.wy z hz e
 ·rw [jl_at (by rw [jl_len, m.len]; exact hv) (by rw [jl_len, m.len]; exact hy)]
  by_cases z4 : z = a x
  ·rw [if_pos z4, z4, e4]
  ·rw [if_neg z4]
   by_cases z3 : z = v
   ·rw [if_pos z3, z3, e3]
   ·rw [if_neg z3, jl_at (by rw [m.len]; exact hx) (by rw [m.len]; exact hu)]
    by_cases z2 : z = u
    ·rw [if_pos z2, z2, e2]
    ·rw [if_neg z2]
     by_cases z1 : z = x
     ·rw [if_pos z1, z1, e1]
     ·rw [if_neg z1, e5 z z1 z2 z3 z4]; rw [e5 z z1 z2 z3 z4] at e; exact m.at_ z hz e
theorem two_fix (m : MS M o l a) {x u v z : Nat} (hx : x < 4 * M) (hu : u < 4 * M) (hv : v < 4 * M) (huv : u ≠ v) (nx : a x ≠ x) (fu : a u = u) (fv : a v = v) (e : tr (tr (tr a x (a x)) x u) v (a x) z = z) : a z = z ∧ z ≠ u ∧ z ≠ v := by
 have xu : x ≠ u := fun e => nx (by rw [e]; exact fu)
 have xv : x ≠ v := fun e => nx (by rw [e]; exact fv)
 have yu : a x ≠ u := fun e => by have := m.hm.inv x hx; rw [e, fu] at this; exact xu this.symm
 have yv : a x ≠ v := fun e => by have := m.hm.inv x hx; rw [e, fv] at this; exact xv this.symm
 obtain ⟨c1, c2, c3⟩ := Hm.cut m.hm hx nx
 have fu1 : tr a x (a x) u = u := by rw [tr_ne (Ne.symm xu) (Ne.symm yu), fu]
 have fv1 : tr a x (a x) v = v := by rw [tr_ne (Ne.symm xv) (Ne.symm yv), fv]
 have fv2 : tr (tr a x (a x)) x u v = v := by rw [tr_ne (Ne.symm xv) (Ne.symm huv), fv1]
 have fy2 : tr (tr a x (a x)) x u (a x) = a x := by rw [tr_ne nx yu, c3]
 obtain ⟨g1, g2, g3⟩ := tr_fix (Ne.symm yv) fv2 fy2 e
 obtain ⟨g4, g5, g6⟩ := tr_fix xu c2 fu1 g1
 rw [tr_ne g5 g3] at g4
 exact ⟨g4, g6, g2⟩
theorem MS.detour (m : MS M o l a) {x u v : Nat} (hx : x < 4 * M) (hu : u < 4 * M) (hv : v < 4 * M) (huv : u ≠ v) (nx : a x ≠ x) (fu : a u = u) (fv : a v = v) (ou : o u = !o x) (ov : o v = o x)
 (n1 : ¬ Con rot a x u) (ho : Orb (phi rot a) v u) : MS M o (jl (jl l x u) v (a x)) (tr (tr (tr a x (a x)) x u) v (a x)) := by
 refine m.two hx hu hv huv nx fu fv ou ov ?_
 obtain ⟨c1, c2, c3⟩ := Hm.cut m.hm hx nx
 have hy : a x < 4 * M := m.hm.ab.maps x hx
 have xu : x ≠ u := fun e => nx (by rw [e]; exact fu)
 have xv : x ≠ v := fun e => nx (by rw [e]; exact fv)
 have yu : a x ≠ u := fun e => by have := m.hm.inv x hx; rw [e, fu] at this; exact xu this.symm
 have yv : a x ≠ v := fun e => by have := m.hm.inv x hx; rw [e, fv] at this; exact xv this.symm
 have fu1 : tr a x (a x) u = u := by rw [tr_ne (Ne.symm xu) (Ne.symm yu), fu]
 have fv1 : tr a x (a x) v = v := by rw [tr_ne (Ne.symm xv) (Ne.symm yv), fv]
 -- what the cut map holds together, the whole one does
 have up : ∀ {z w}, z < 4 * M → Con rot (tr a x (a x)) z w → Con rot a z w := by
  intro z w hz e
  refine con_sub c1 m.hm.ceqv (fun t _ => Con.refl.left) (fun t ht => ?_) hz e
  by_cases t1 : t = x
  ·subst t1; rw [c2]; exact .refl
  ·by_cases t2 : t = a x
   ·subst t2; rw [c3]; exact .refl
   ·rw [tr_ne t1 t2]; exact Con.refl.right
 have cxy : Con rot a x (a x) := Con.refl.right
 have k1 : ¬ Con rot (tr a x (a x)) x u := fun e => n1 (up hx e)
 have k2 : ¬ Con rot (tr a x (a x)) (a x) u := fun e => n1 (cxy.trans (up hy e))
 -- v's face does not come to x
 have ho2 : Orb (phi rot (tr a x (a x))) v u := by
  have cv : Con rot a v u := orb_phi_con ho
  obtain ⟨k, hk⟩ := ho
  have run : ∀ j, it (phi rot (tr a x (a x))) j v = it (phi rot a) j v := by
   intro j
   induction j with
   | zero => rfl
   | succ j ih =>
     show phi rot (tr a x (a x)) (it (phi rot (tr a x (a x))) j v) = phi rot a (it (phi rot a) j v)
     rw [ih]
     have hz := m.hm.pb.it j v hv
     have ov' : Con rot a v (it (phi rot a) j v) := orb_phi_con ⟨j, rfl⟩
     have z1 : it (phi rot a) j v ≠ x := fun e => n1 (by rw [e] at ov'; exact (m.hm.con_symm hv ov').trans cv)
     have z2 : it (phi rot a) j v ≠ a x := fun e => n1 (by rw [e] at ov'; exact cxy.trans ((m.hm.con_symm hv ov').trans cv))
     show rot (tr a x (a x) (it (phi rot a) j v)) = rot (a (it (phi rot a) j v))
     rw [tr_ne z1 z2]
  exact ⟨k, by rw [run]; exact hk⟩
 have hg : Gen (fun h => h < 4 * M) rot (tr (tr a x (a x)) x (a x)) 0 := by rw [tr_tr]; exact m.fl
 exact Gen.detour c1 hx hy hu hv (Ne.symm nx) huv c2 c3 fu1 fv1 k1 k2 ho2 hg
theorem MS.push (m : MS M o l a) {y c e p : Nat} (hy : y < 4 * M) (hc : c < 4 * M) (he : e < 4 * M) (ce : c ≠ e) (ny : a y ≠ y) (fc : a c = c) (fe : a e = e) (oc : o c = !o y) (oe : o e = o y)
 (e1 : phi rot a e = p) (e2 : phi rot a p = c) (py : p ≠ y) (pc : p ≠ c) (pyy : p ≠ a y) (hn : Orb (phi rot a) c y ∨ ¬ Con rot a c y) : MS M o (jl (jl l y c) e (a y)) (tr (tr (tr a y (a y)) y c) e (a y)) := by
 refine m.two hy hc he ce ny fc fe oc oe ?_
 obtain ⟨c1, c2, c3⟩ := Hm.cut m.hm hy ny
 have hy' : a y < 4 * M := m.hm.ab.maps y hy
 have yc : y ≠ c := fun h => ny (by rw [h]; exact fc)
 have ye : y ≠ e := fun h => ny (by rw [h]; exact fe)
 have yyc : a y ≠ c := fun h => by have := m.hm.inv y hy; rw [h, fc] at this; exact yc this.symm
 have yye : a y ≠ e := fun h => by have := m.hm.inv y hy; rw [h, fe] at this; exact ye this.symm
 refine Flat.push c1 (p := p) hy hy' hc he (Ne.symm ny) yc ye ce yyc yye c2 c3 (by rw [tr_ne (Ne.symm yc) (Ne.symm yyc), fc]) (by rw [tr_ne (Ne.symm ye) (Ne.symm yye), fe]) ?_ ?_ py pc ?_ ?_
 ·unfold phi; rw [tr_ne (Ne.symm ye) (Ne.symm yye)]; exact e1
 ·unfold phi; rw [tr_ne py pyy]; exact e2
 ·rw [tr_tr]; exact hn
 ·rw [tr_tr]; exact m.fl
end
theorem MS.valid {d' : Dg} {a : Nat → Nat} (m : MS d'.n (out d') d'.mt a) (few : d'.n ≤ 64) (lp : d'.lp ≤ 64) (sign : ∀ c, c < d'.n → d'.s c = 1 ∨ d'.s c = -1) (nf : ∀ z, z < 4 * d'.n → a z ≠ z) : Valid d' := by
 have e : ∀ z, z < 4 * d'.n → d'.m z = a z := fun z hz => by
  rw [← m.at_ z hz (nf z hz)]
  unfold Dg.m
  rw [List.getD_eq_getElem?_getD, List.getD_eq_getElem?_getD, List.getElem?_eq_getElem (by rw [m.len]; exact hz)]
  rfl
 refine Valid.iff.2 ⟨wf_by few m.len lp sign fun z hz => ?_, ?_⟩
 ·have h2 := m.hm.ab.maps z hz
  rw [e z hz, e _ h2]
  refine ⟨h2, m.hm.inv z hz, ?_⟩
  rw [m.wy z hz (nf z hz)]
  cases out d' z <;> decide
 ·exact Gen.congr m.hm (fun _ _ => rfl) (fun z hz => (e z hz).symm) m.fl
end Go.Proofs.YtlffopdoeobgaaaGreatDoor.Pl
end
