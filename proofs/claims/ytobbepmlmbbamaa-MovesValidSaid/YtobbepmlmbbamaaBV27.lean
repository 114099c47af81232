/-
  The texts Byp, Rst in one.
-/
import Derived.Test.YtobbepmlmbbamaaBAV10
import Derived.Test.YtobbepmlmbbamaaBAV08
import Derived.Test.YtobbepmlmbbamaaBAV11
set_option linter.unusedVariables false
set_option linter.unusedSimpArgs false

section
/-
  Plain Lean: a strand that two half-edges of one face bypass. No program is named here.
-/
namespace Go.Proofs.Ytobbepmlmbbamaa.Pl
variable {N : Nat} {S : Nat → Prop} {r a : Nat → Nat}

/-- BYPASSED: u and v lie in one face, u leads to x, v to y: then x may lead to y at once. -/
theorem Flat.bypass (h : Hm N S r a) {x y u v : Nat} (hx : S x) (hy : S y) (hu : S u) (hv : S v) (hxy : x ≠ y) (huv : u ≠ v) (xu : x ≠ u) (xv : x ≠ v) (yu : y ≠ u) (yv : y ≠ v)
    (fx : a x = x) (fy : a y = y) (fu : a u = u) (fv : a v = v) (ho : Orb (phi r a) u v) (hf : Flat S r (tr (tr a u x) v y)) : Flat S r (tr a x y) := by
  have h1 := h.tr hu hx fu fx
  have fv1 : tr a u x v = v := by rw [tr_ne (Ne.symm huv) (Ne.symm xv), fv]
  have fy1 : tr a u x y = y := by rw [tr_ne yu (Ne.symm hxy), fy]
  obtain ⟨f1, k1⟩ := Flat.del h1 hv hy (Ne.symm yv) fv1 fy1 hf
  obtain ⟨f0, k0⟩ := Flat.del h hu hx (Ne.symm xu) fu fx f1
  have cuv := orb_phi_con ho
  have ovu := h.pb.symm hu ho
  have cvu := orb_phi_con ovu
  refine Flat.add h hx hy hxy fx fy (fun hc => ?_) f0
  have c2 : Con r (tr a u x) v y := (h.con_tr hu hx fu fx hv).2 (.inr (.inl ⟨cvu, hc⟩))
  have o2 := k1 c2
  by_cases oux : Orb (phi r a) u x
  · have sub : Orb (phi r a) v y := by
      rw [phi_tr] at o2
      refine orb_sub (h.pb.tr hu hx) h.pb.eqv (fun z hz => ?_) hv o2
      by_cases z1 : z = u
      · subst z1; rw [tr_a]; exact oux.trans (Orb.step _ _)
      · by_cases z2 : z = x
        · subst z2; rw [tr_b]; exact (h.pb.symm hu oux).trans (Orb.step _ _)
        · rw [tr_ne z1 z2]; exact Orb.step _ _
    exact (h.pb.symm hu oux).trans (ho.trans sub)
  · rw [phi_tr, h.pb.merge hu hx oux hv] at o2
    rcases o2 with e | ⟨_, e⟩ | ⟨e, _⟩
    · exact absurd (k0 ((orb_phi_con (ho.trans e)).trans (h.con_symm hx hc))) oux
    · exact e
    · exact absurd (ho.trans e) oux

/-- Both edges cut. -/
def cut2 (a : Nat → Nat) (u v : Nat) : Nat → Nat := tr (tr a u (a u)) v (a v)
/-- What becomes of the edges when u and v are bypassed. -/
def byp (a : Nat → Nat) (u v : Nat) : Nat → Nat := tr (cut2 a u v) (a u) (a v)
theorem cut2_hm (h : Hm N S r a) {u v : Nat} (hu : S u) (hv : S v) (huv : u ≠ v) (nu : a u ≠ u) (nv : a v ≠ v) (nuv : a u ≠ v) :
    Hm N S r (cut2 a u v) ∧ cut2 a u v u = u ∧ cut2 a u v v = v ∧ cut2 a u v (a u) = a u ∧ cut2 a u v (a v) = a v ∧ a = tr (tr (cut2 a u v) u (a u)) v (a v) ∧ a u ≠ a v ∧ a v ≠ u := by
  have n1 : a u ≠ a v := fun e => huv (h.ab.inj _ _ hu hv e)
  have n2 : a v ≠ u := fun e => nuv (by rw [← e, h.inv v hv])
  obtain ⟨c1, c2, c3⟩ := Hm.cut h hu nu
  have e1 : tr a u (a u) v = a v := tr_ne (Ne.symm huv) (Ne.symm nuv)
  have e2 : tr a u (a u) v ≠ v := by rw [e1]; exact nv
  obtain ⟨d1, d2, d3⟩ := Hm.cut c1 hv e2
  rw [e1] at d1 d2 d3
  refine ⟨d1, ?_, d2, ?_, d3, ?_, n1, n2⟩
  · unfold cut2; rw [tr_ne huv (Ne.symm n2), c2]
  · unfold cut2; rw [tr_ne nuv n1, c3]
  · unfold cut2
    funext z
    by_cases z1 : z = v
    · subst z1
      rw [tr_a]
      rw [tr_ne n2 (Ne.symm n1), tr_b, tr_ne (Ne.symm huv) (Ne.symm nuv)]
    · by_cases z2 : z = a v
      · subst z2
        rw [tr_b, tr_ne (Ne.symm huv) (Ne.symm nuv), tr_a, tr_ne n2 (Ne.symm n1)]
      · rw [tr_ne z1 z2]
        by_cases z3 : z = u
        · subst z3
          rw [tr_a, tr_ne nuv n1, tr_b]
        · by_cases z4 : z = a u
          · subst z4
            rw [tr_b, tr_ne huv (Ne.symm n2), tr_a]
          · rw [tr_ne z3 z4, tr_ne z1 z2, tr_ne z3 z4]
theorem byp_flat (h : Hm N S r a) {u v : Nat} (hu : S u) (hv : S v) (huv : u ≠ v) (nu : a u ≠ u) (nv : a v ≠ v) (nuv : a u ≠ v) (ho : Orb (phi r (cut2 a u v)) u v) (hf : Flat S r a) :
    Hm N S r (byp a u v) ∧ Flat S r (byp a u v) := by
  obtain ⟨c0, c1, c2, c3, c4, c5, c6, c7⟩ := cut2_hm h hu hv huv nu nv nuv
  have hx := h.ab.maps u hu
  have hy := h.ab.maps v hv
  exact ⟨c0.tr hx hy c3 c4, Flat.bypass c0 hx hy hu hv c6 huv nu nuv c7 nv c3 c4 c1 c2 ho (by rw [← c5]; exact hf)⟩
/-- The values of the bypassed map. -/
theorem byp_at (h : Hm N S r a) {u v : Nat} (hu : S u) (hv : S v) (huv : u ≠ v) (nu : a u ≠ u) (nv : a v ≠ v) (nuv : a u ≠ v) :
    byp a u v u = u ∧ byp a u v v = v ∧ byp a u v (a u) = a v ∧ byp a u v (a v) = a u ∧ ∀ z, z ≠ u → z ≠ v → z ≠ a u → z ≠ a v → byp a u v z = a z := by
  obtain ⟨c0, c1, c2, c3, c4, c5, c6, c7⟩ := cut2_hm h hu hv huv nu nv nuv
  unfold byp
  refine ⟨by rw [tr_ne (Ne.symm nu) (Ne.symm c7), c1], by rw [tr_ne (Ne.symm nuv) (Ne.symm nv), c2], by rw [tr_a, c4], by rw [tr_b, c3], fun z z1 z2 z3 z4 => ?_⟩
  rw [tr_ne z3 z4]
  unfold cut2
  rw [tr_ne z2 z4, tr_ne z1 z3]
theorem cut2_at (u v : Nat) {z : Nat} (z1 : z ≠ u) (z2 : z ≠ v) (z3 : z ≠ a u) (z4 : z ≠ a v) : cut2 a u v z = a z := by
  unfold cut2
  rw [tr_ne z2 z4, tr_ne z1 z3]
end Go.Proofs.Ytobbepmlmbbamaa.Pl
end

section
/-
  Plain Lean: a diagram without some of its crossings: the bijection, the genus, the rules. No program is named here.
-/
namespace Go.Proofs.Ytobbepmlmbbamaa.Pl

/-! Maps that are the same but for the names of the darts -/
section
variable {N M : Nat} {S T : Nat → Prop} {r a r' a' t : Nat → Nat}
theorem it_map {f f' : Nat → Nat} (hS : ∀ x, S x → S (f x)) (e : ∀ x, S x → f' (t x) = t (f x)) {x : Nat} (hx : S x) : ∀ k, it f' k (t x) = t (it f k x) ∧ S (it f k x)
  | 0 => ⟨rfl, hx⟩
  | k + 1 => by
    obtain ⟨h1, h2⟩ := it_map hS e hx k
    exact ⟨by show f' (it f' k (t x)) = t (f (it f k x)); rw [h1, e _ h2], hS _ h2⟩
theorem orb_map {f f' : Nat → Nat} (hS : ∀ x, S x → S (f x)) (e : ∀ x, S x → f' (t x) = t (f x)) (inj : ∀ x y, S x → S y → t x = t y → x = y) {x y : Nat} (hx : S x) (hy : S y) : Orb f x y ↔ Orb f' (t x) (t y) := by
  constructor
  · rintro ⟨k, rfl⟩; exact ⟨k, (it_map hS e hx k).1⟩
  · rintro ⟨k, h⟩
    obtain ⟨h1, h2⟩ := it_map hS e hx k
    exact ⟨k, inj _ _ h2 hy (by rw [← h1, h])⟩
theorem con_map {x y : Nat} (hS : ∀ x, S x → S (r x)) (hA : ∀ x, S x → S (a x)) (er : ∀ x, S x → r' (t x) = t (r x)) (ea : ∀ x, S x → a' (t x) = t (a x)) (inj : ∀ x y, S x → S y → t x = t y → x = y) (hx : S x) (hy : S y) : Con r a x y ↔ Con r' a' (t x) (t y) := by
  have fw : ∀ {y}, Con r a x y → Con r' a' (t x) (t y) ∧ S y := by
    intro y e
    induction e with
    | refl => exact ⟨.refl, hx⟩
    | left _ ih => exact ⟨er _ ih.2 ▸ ih.1.left, hS _ ih.2⟩
    | right _ ih => exact ⟨ea _ ih.2 ▸ ih.1.right, hA _ ih.2⟩
  have bw : ∀ {v}, Con r' a' (t x) v → ∃ y, S y ∧ t y = v ∧ Con r a x y := by
    intro v e
    induction e with
    | refl => exact ⟨x, hx, rfl, .refl⟩
    | left _ ih => obtain ⟨y, h1, rfl, h3⟩ := ih; exact ⟨r y, hS _ h1, (er _ h1).symm, h3.left⟩
    | right _ ih => obtain ⟨y, h1, rfl, h3⟩ := ih; exact ⟨a y, hA _ h1, (ea _ h1).symm, h3.right⟩
  constructor
  · intro e; exact (fw e).1
  · intro e
    obtain ⟨y', h1, h2, h3⟩ := bw e
    rw [← inj _ _ h1 hy h2]; exact h3
theorem Gen.map (hS : ∀ x, S x → S (r x)) (hA : ∀ x, S x → S (a x)) (er : ∀ x, S x → r' (t x) = t (r x)) (ea : ∀ x, S x → a' (t x) = t (a x)) (inj : ∀ x y, S x → S y → t x = t y → x = y)
    (to : ∀ x, S x → T (t x)) (onto : ∀ y, T y → ∃ x, S x ∧ t x = y) {z : Int} (h : Gen S r a z) : Gen T r' a' z := by
  obtain ⟨v, d, k, f, c, h1, h2, h3, h4, h5, rfl⟩ := h
  refine ⟨v, d, k, f, c, h1.map t to onto fun x y hx hy => orb_map hS er inj hx hy, h2.map t to onto fun x y hx hy => ⟨fun e => by rw [e], fun e => inj x y hx hy e⟩, h3.map t to onto fun x y hx hy => orb_map hA ea inj hx hy,
    h4.map t to onto fun x y hx hy => orb_map (fun x hx => hS _ (hA x hx)) (fun x hx => ?_) inj hx hy, h5.map t to onto fun x y hx hy => con_map hS hA er ea inj hx hy, rfl⟩
  unfold phi
  rw [ea x hx, er _ (hA x hx)]
/-- Two parts that do not meet: flat as a whole, then each. -/
theorem Flat.sub {U : Nat → Prop} (h : Hm N S r a) (h' : Hm N T r a) (hd : ∀ x, S x → ¬ T x) (hu : ∀ x, (S x ∨ T x) ↔ U x) (hf : Flat U r a) : Flat S r a := by
  obtain ⟨z, hz⟩ := h.gen
  obtain ⟨z', hz'⟩ := h'.gen
  have n1 := Gen.nonneg h hz
  have n2 := Gen.nonneg h' hz'
  have e : (fun x => S x ∨ T x) = U := funext fun x => propext (hu x)
  have hs := Gen.add h h' hd hz hz'
  rw [e] at hs
  have := hf.unique hs
  have : z = 0 := by omega
  rw [this] at hz
  exact hz
end

/-! The crossings that stay, numbered anew -/
def idx (gs : List Nat) (c : Nat) : Nat := c - (gs.filter (fun g => decide (g < c))).length
variable {gs : List Nat}
theorem shf_idx (hf : Few gs) (h : Nat) : shf gs h = 4 * idx gs (h / 4) + h % 4 := by
  have := hf (h / 4)
  unfold shf idx
  omega
theorem flt_succ (c : Nat) : ∀ gs : List Nat, gs.Nodup → (gs.filter (fun g => decide (g < c + 1))).length = (gs.filter (fun g => decide (g < c))).length + if c ∈ gs then 1 else 0
  | [], _ => by simp
  | g :: gs, hn => by
    obtain ⟨h1, h2⟩ := List.nodup_cons.1 hn
    have ih := flt_succ c gs h2
    rw [List.filter_cons, List.filter_cons]
    by_cases e : c = g
    · subst e
      rw [if_neg h1] at ih
      simp [ih]
    · by_cases e2 : g < c
      · simp [e2, show g < c + 1 by omega, e, ih]; omega
      · simp [e2, show ¬ g < c + 1 by omega, e, ih]
theorem left_idx (hn : gs.Nodup) (c : Nat) : (gs.filter (fun g => decide (g < c))).length + (left c gs).length = c := by
  induction c with
  | zero => simp [left]
  | succ c ih =>
    rw [flt_succ c gs hn, left_succ, List.length_append]
    by_cases e : c ∈ gs <;> simp [e] <;> omega
theorem idx_left (hn : gs.Nodup) (c : Nat) : idx gs c = (left c gs).length := by
  have := left_idx hn c
  unfold idx; omega
theorem left_get (hn : gs.Nodup) {n c : Nat} (hc : c < n) (hg : c ∉ gs) : (left n gs)[idx gs c]? = some c := by
  induction n with
  | zero => omega
  | succ n ih =>
    rw [left_succ]
    by_cases e : c = n
    · subst e
      rw [idx_left hn, List.getElem?_append_right (Nat.le_refl _)]
      simp [hg]
    · have h := ih (by omega)
      have hl : idx gs c < (left n gs).length := by
        rcases Nat.lt_or_ge (idx gs c) (left n gs).length with h1 | h1
        · exact h1
        · rw [List.getElem?_eq_none h1] at h; exact absurd h (by simp)
      rw [List.getElem?_append_left hl, h]
theorem idx_lt (hn : gs.Nodup) {n c : Nat} (hc : c < n) (hg : c ∉ gs) : idx gs c < (left n gs).length := by
  have h := left_get hn hc hg
  rcases Nat.lt_or_ge (idx gs c) (left n gs).length with h1 | h1
  · exact h1
  · rw [List.getElem?_eq_none h1] at h; exact absurd h (by simp)
theorem idx_onto (hn : gs.Nodup) {n i : Nat} (hi : i < (left n gs).length) : ∃ c, c < n ∧ c ∉ gs ∧ idx gs c = i := by
  induction n with
  | zero => simp [left] at hi
  | succ n ih =>
    rcases Nat.lt_or_ge i (left n gs).length with h | h
    · obtain ⟨c, h1, h2, h3⟩ := ih h
      exact ⟨c, by omega, h2, h3⟩
    · rw [left_succ, List.length_append] at hi
      by_cases e : n ∈ gs
      · simp [e] at hi; omega
      · simp [e] at hi
        exact ⟨n, by omega, e, by rw [idx_left hn]; omega⟩
theorem idx_inj (hn : gs.Nodup) {c c' : Nat} (hg : c ∉ gs) (hg' : c' ∉ gs) (e : idx gs c = idx gs c') : c = c' := by
  have h1 := left_get hn (n := c + c' + 1) (by omega) hg
  have h2 := left_get hn (n := c + c' + 1) (c := c') (by omega) hg'
  rw [e, h2] at h1
  injection h1 with h1
  exact h1.symm
theorem four_get (f : Nat → Nat) {s : Nat} (hs : s < 4) : ∀ (l : List Nat) (i : Nat), (l.flatMap (four f))[4 * i + s]? = l[i]?.map (fun c => f (4 * c + s))
  | [], i => by simp
  | c :: l, 0 => by
    rw [List.flatMap_cons]
    have : s = 0 ∨ s = 1 ∨ s = 2 ∨ s = 3 := by omega
    rcases this with rfl | rfl | rfl | rfl <;> simp [four]
  | c :: l, i + 1 => by
    have ih := four_get f hs l i
    rw [List.flatMap_cons, List.getElem?_append_right (by simp [four]; omega)]
    have : 4 * (i + 1) + s - (four f c).length = 4 * i + s := by simp [four]; omega
    rw [this, ih]
    simp
/-- The diagram of the crossings that stay. -/
def rsD (d : Dg) (gs mt : List Nat) (lp : Nat) : Dg := ⟨shrS gs d.sg, shrM gs d.n mt, lp⟩
theorem rs_n (d : Dg) (gs mt : List Nat) (lp : Nat) : (rsD d gs mt lp).n = (left d.n gs).length := shrS_len gs d.sg
theorem rs_s (hn : gs.Nodup) (d : Dg) (mt : List Nat) (lp : Nat) {c : Nat} (hc : c < d.n) (hg : c ∉ gs) : (rsD d gs mt lp).s (idx gs c) = d.s c := by
  unfold rsD Dg.s shrS
  have e := left_get hn hc hg
  unfold Dg.n at e
  rw [List.getD_eq_getElem?_getD, List.getElem?_map, e]
  rfl
theorem rs_m (hn : gs.Nodup) (hf : Few gs) (d : Dg) (mt : List Nat) (lp : Nat) {h : Nat} (hh : h < 4 * d.n) (hg : h / 4 ∉ gs) : (rsD d gs mt lp).m (shf gs h) = shf gs (mt.getD h 0) := by
  unfold rsD Dg.m shrM
  rw [List.getD_eq_getElem?_getD, shf_idx hf h, four_get _ (Nat.mod_lt _ (by omega)), left_get hn (by omega) hg]
  simp only [Option.map_some, Option.getD_some]
  rw [show 4 * (h / 4) + h % 4 = h by omega]
def stay (d : Dg) (gs : List Nat) (h : Nat) : Prop := h < 4 * d.n ∧ h / 4 ∉ gs
def gone (d : Dg) (gs : List Nat) (h : Nat) : Prop := h < 4 * d.n ∧ h / 4 ∈ gs
theorem shf_lt (hn : gs.Nodup) (hf : Few gs) {d : Dg} (mt : List Nat) (lp : Nat) {h : Nat} (hh : stay d gs h) : shf gs h < 4 * (rsD d gs mt lp).n := by
  rw [rs_n, shf_idx hf]
  have := idx_lt hn (n := d.n) (c := h / 4) (by have := hh.1; omega) hh.2
  omega
theorem shf_inj (hn : gs.Nodup) (hf : Few gs) {g h : Nat} (h1 : g / 4 ∉ gs) (h2 : h / 4 ∉ gs) (e : shf gs g = shf gs h) : g = h := by
  rw [shf_idx hf, shf_idx hf] at e
  have := idx_inj hn h1 h2 (by omega)
  omega
theorem shf_onto (hn : gs.Nodup) (hf : Few gs) {d : Dg} (mt : List Nat) (lp : Nat) {y : Nat} (hy : y < 4 * (rsD d gs mt lp).n) : ∃ h, stay d gs h ∧ shf gs h = y := by
  rw [rs_n] at hy
  obtain ⟨c, h1, h2, h3⟩ := idx_onto hn (n := d.n) (i := y / 4) (by omega)
  refine ⟨4 * c + y % 4, ⟨by omega, by rw [show (4 * c + y % 4) / 4 = c by omega]; exact h2⟩, ?_⟩
  rw [shf_idx hf, show (4 * c + y % 4) / 4 = c by omega, h3]
  omega
theorem shf_tn (hf : Few gs) (h k : Nat) : tn (shf gs h) k = shf gs (tn h k) := by
  rw [shf_idx hf, shf_idx hf, tn_div]
  unfold tn
  omega
theorem shf_div (hf : Few gs) (h : Nat) : shf gs h / 4 = idx gs (h / 4) := by rw [shf_idx hf]; omega
theorem rs_out (hn : gs.Nodup) (hf : Few gs) (d : Dg) (mt : List Nat) (lp : Nat) {h : Nat} (hh : stay d gs h) : out (rsD d gs mt lp) (shf gs h) = out d h := by
  have e := rs_s hn d mt lp (c := h / 4) (by have := hh.1; omega) hh.2
  have e2 : shf gs h % 4 = h % 4 := by rw [shf_idx hf]; omega
  unfold out
  rw [shf_div hf, e, e2]
/-- What the mates are when crossings are taken out: an involution that keeps them apart. -/
structure Rs (d : Dg) (gs mt : List Nat) (lp : Nat) (b : Nat → Nat) : Prop where
  nd : gs.Nodup
  few : Few gs
  hm : Hm (4 * d.n) (dart d) rot b
  cl : ∀ h, gone d gs h → b h / 4 ∈ gs
  at_ : ∀ h, stay d gs h → mt.getD h 0 = b h
  way : ∀ h, stay d gs h → out d h ≠ out d (b h)
  lp : lp ≤ 64
variable {d : Dg} {mt : List Nat} {lp : Nat} {b : Nat → Nat}
theorem Rs.stay (R : Rs d gs mt lp b) {h : Nat} (hh : stay d gs h) : stay d gs (b h) := by
  have hl := R.hm.ab.maps h hh.1
  refine ⟨hl, fun e => hh.2 ?_⟩
  have := R.cl (b h) ⟨hl, e⟩
  rwa [R.hm.inv h hh.1] at this
theorem Rs.m (R : Rs d gs mt lp b) {h : Nat} (hh : Pl.stay d gs h) : (rsD d gs mt lp).m (shf gs h) = shf gs (b h) := by
  rw [rs_m R.nd R.few d mt lp hh.1 hh.2, R.at_ h hh]
theorem rot_stay {h : Nat} (hh : stay d gs h) : stay d gs (rot h) := ⟨tn_lt hh.1, by show tn h 3 / 4 ∉ gs; rw [tn_div]; exact hh.2⟩
theorem tn_stay {h k : Nat} (hh : stay d gs h) : stay d gs (tn h k) := ⟨tn_lt hh.1, by rw [tn_div]; exact hh.2⟩
theorem rot_gone {h : Nat} (hh : gone d gs h) : gone d gs (rot h) := ⟨tn_lt hh.1, by show tn h 3 / 4 ∈ gs; rw [tn_div]; exact hh.2⟩
theorem Rs.wf (hd : Wf d) (R : Rs d gs mt lp b) : Wf (rsD d gs mt lp) := by
  have hle := left_le d.n gs
  refine wf_by (by rw [rs_n]; have := hd.few; omega) (by rw [rs_n]; exact shrM_len gs d.n mt) R.lp (fun c hc => ?_) (fun z hz => ?_)
  · rw [rs_n] at hc
    obtain ⟨c, h1, h2, rfl⟩ := idx_onto R.nd hc
    rw [rs_s R.nd d mt lp h1 h2]
    exact hd.sign c h1
  · obtain ⟨h, hs, rfl⟩ := shf_onto R.nd R.few mt lp hz
    have hb := R.stay hs
    rw [R.m hs, R.m hb, R.hm.inv h hs.1, rs_out R.nd R.few d mt lp hs, rs_out R.nd R.few d mt lp hb]
    exact ⟨shf_lt R.nd R.few mt lp hb, rfl, R.way h hs⟩
theorem Rs.valid (hd : Wf d) (R : Rs d gs mt lp b) (hf : Flat (dart d) rot b) : Valid (rsD d gs mt lp) := by
  refine Valid.iff.2 ⟨R.wf hd, ?_⟩
  have h1 : Hm (4 * d.n) (Pl.stay d gs) rot b := ⟨⟨fun _ h => h.1, fun _ h => rot_stay h, fun x y hx hy e => R.hm.rb.inj x y hx.1 hy.1 e⟩, ⟨fun _ h => h.1, fun _ h => R.stay h, fun x y hx hy e => R.hm.ab.inj x y hx.1 hy.1 e⟩, fun x hx => R.hm.inv x hx.1⟩
  have h2 : Hm (4 * d.n) (gone d gs) rot b := ⟨⟨fun _ h => h.1, fun _ h => rot_gone h, fun x y hx hy e => R.hm.rb.inj x y hx.1 hy.1 e⟩, ⟨fun _ h => h.1, fun x h => ⟨R.hm.ab.maps x h.1, R.cl x h⟩, fun x y hx hy e => R.hm.ab.inj x y hx.1 hy.1 e⟩, fun x hx => R.hm.inv x hx.1⟩
  have fs : Flat (Pl.stay d gs) rot b := Flat.sub h1 h2 (fun x hx hy => hx.2 hy.2) (fun x => ⟨fun h => h.elim (·.1) (·.1), fun h => (Classical.em (x / 4 ∈ gs)).elim (fun e => .inr ⟨h, e⟩) (fun e => .inl ⟨h, e⟩)⟩) hf
  exact Gen.map (S := Pl.stay d gs) (t := shf gs) (fun x hx => rot_stay hx) (fun x hx => R.stay hx) (fun x hx => shf_tn R.few x 3) (fun x hx => R.m hx) (fun x y hx hy e => shf_inj R.nd R.few hx.2 hy.2 e) (fun x hx => shf_lt R.nd R.few mt lp hx) (fun y hy => shf_onto R.nd R.few mt lp hy) fs
end Go.Proofs.Ytobbepmlmbbamaa.Pl
end
