/-
 The texts Cmq, Cmk, Pke, Za in one.
-/
import Derived.Test.YtlffopdoeobgaaaGreatDoorK18
import Derived.Test.YtlffopdoeobgaaaGreatDoorK16
import Derived.Test.YtlffopdoeobgaaaGreatDoorK15
set_option linter.unusedVariables false
set_option linter.unusedSimpArgs false
section
namespace Go.Proofs.YtlffopdoeobgaaaGreatDoor.Pl
variable {d d' : Dg}
theorem Kq.opp {n i0 o0 i1 o1 : Nat} (k : Kq n i0 o0 i1 o1) : tn o0 2 = i0 ∧ tn i1 2 = o1 ∧ o0 / 4 = n ∧ i1 / 4 = n := by
 have := k.bd
 unfold Kq at k
 unfold tn
 omega
theorem kd_stay (n : d'.n = d.n + 1) (z : Nat) : stay d' [d.n] z ↔ z < 4 * d.n := by
 unfold stay
 rw [List.mem_singleton, n]
 omega
theorem Kd.same0 (hd : Valid d) (hd' : Valid d') {i0 o0 i1 o1 : Nat} (K : Kd d d' i0 o0 i1 o1) (mo : ∀ h, h < 4 * d.n → d'.m h = d.m h) (m4 : d'.m i0 = o1) (hlp : d.lp = d'.lp + 1) : Same d d' := by
 intro s s' h h'
 have hw := (Valid.iff.1 hd).1
 have hw' := (Valid.iff.1 hd').1
 obtain ⟨q1, q2, q3, q4⟩ := K.k.opp
 obtain ⟨a1, a2, a3, a4, n1, n2, n3, n4, n5, n6⟩ := K.k.bd
 have ho : o0 < 4 * d'.n := by rw [K.n]; exact a2.2
 have hk : d'.m o0 / 4 = o0 / 4 := by rw [K.m1, q4, q3]
 have hn : d'.m (tn o0 2) = tn (d'.m o0) 2 := by rw [q1, m4, K.m1, q2]
 have R := kink_rs0 hd' ho hk hn (lp := 0) (by omega)
 have hg := kink_cls0 hd' ho hk hn
 rw [q3] at R hg
 have := in_same hw hw' R (kd_stay K.n) mo (h'.all hw') hg h
 omega
theorem Kd.same (hd : Valid d) (hd' : Valid d') {i0 o0 i1 o1 x : Nat} (K : Kd d d' i0 o0 i1 o1) (hx : x < 4 * d.n) (mo : ∀ h, h < 4 * d.n → h ≠ x → h ≠ d.m x → d'.m h = d.m h)
 (m3 : d'.m o1 = d.m x) (m4 : d'.m (d.m x) = o1) (m5 : d'.m x = i0) (m6 : d'.m i0 = x) (hlp : d.lp = d'.lp) : Same d d' := by
 intro s s' h h'
 have hw := (Valid.iff.1 hd).1
 have hw' := (Valid.iff.1 hd').1
 obtain ⟨q1, q2, q3, q4⟩ := K.k.opp
 obtain ⟨a1, a2, a3, a4, n1, n2, n3, n4, n5, n6⟩ := K.k.bd
 have ho : o0 < 4 * d'.n := by rw [K.n]; exact a2.2
 have hi0 : i0 < 4 * d'.n := by rw [K.n]; exact a1.2
 have ho1 : o1 < 4 * d'.n := by rw [K.n]; exact a4.2
 have hk : d'.m o0 / 4 = o0 / 4 := by rw [K.m1, q4, q3]
 have hn : d'.m (tn o0 2) ≠ tn (d'.m o0) 2 := by rw [q1, m6, K.m1, q2]; omega
 obtain ⟨c1, c2⟩ := kink_cls hd' ho hk hn (h'.all hw')
 have R := kink_rs hd' ho hk hn (lp := 0) (by omega) (mt := List.ofFn (n := 4 * d'.n) (fun h => if h.1 = d'.m (tn o0 2) then d'.m (tn (d'.m o0) 2) else if h.1 = d'.m (tn (d'.m o0) 2) then d'.m (tn o0 2) else d'.m h.1)) (fun h hh => by
  rw [List.getD_eq_getElem?_getD, List.getElem?_ofFn, dif_pos hh]; rfl)
 have hnb : d'.m o1 ≠ i0 := by rw [m3]; have := hw.lt x hx; omega
 obtain ⟨b1, b2, b3, b4, b5⟩ := byp_at hw'.hm ho1 hi0 (Ne.symm n3) (hw'.ne _ ho1) (hw'.ne _ hi0) hnb
 rw [K.m1, q1, q2] at c1
 rw [K.m1, q1, q2, q3] at c2 R
 have := in_same hw hw' R (kd_stay K.n) (fun z hz => ?_) c1 c2 h
 ·omega
 ·by_cases z1 : z = x
  ·rw [z1]; rw [m6] at b4; rw [b4, m3]
  ·by_cases z2 : z = d.m x
   ·rw [z2]; rw [m3] at b3; rw [b3, m6, hw.inv x hx]
   ·rw [b5 z (by omega) (by omega) (by rw [m3]; exact z2) (by rw [m6]; exact z1), mo z hz z1 z2]
theorem slide_cls {n : Nat} {a t : Nat → Nat} (hm : Hm (4 * n) (fun h => h < 4 * n) rot a) (hm' : Hm (4 * n) (fun h => h < 4 * n) rot (cj t a)) (D : Nat → Prop) (Q : Nat → Nat → Nat → Nat → Prop)
 (q : ∀ u h p v, Q u h p v → op u = h ∧ op p = v ∧ a h = p ∧ t u = p ∧ t h = v ∧ t p = u ∧ t v = h ∧ D u ∧ D v ∧ ¬ D h ∧ ¬ D p ∧ h < 4 * n ∧ p < 4 * n)
 (dS : ∀ x, D x → x < 4 * n) (da : ∀ x, D x → D (a x)) (din : ∀ x, x < 4 * n → ¬ D x → ∃ u h p v, Q u h p v ∧ (x = h ∨ x = p))
 (dout : ∀ x, D x → (∃ u h p v, Q u h p v ∧ (x = u ∨ x = v)) ∨ (t x = x ∧ D (op x))) {k : Nat} (hk : Cls (fun h => h < 4 * n) (Orb (phi op a)) k) : Cls (fun h => h < 4 * n) (Orb (phi op (cj t a))) k := by
 have hR : ∀ w, D w → D (op (t w)) := by
  intro w hw
  rcases dout w hw with ⟨u, h, p, v, hq, rfl | rfl⟩ | ⟨e, hd⟩
  ·obtain ⟨e1, e2, e3, e4, e5, e6, e7, d1, d2, d3, d4, l1, l2⟩ := q _ _ _ _ hq
   rw [e4, e2]; exact d2
  ·obtain ⟨e1, e2, e3, e4, e5, e6, e7, d1, d2, d3, d4, l1, l2⟩ := q _ _ _ _ hq
   rw [e7, ← e1, op_op]; exact d1
  ·rw [e]; exact hd
 -- both come back to the outer half-edges at the same one
 have fR : ∀ x, D x → (phi op a x = op (t (a x))) ∨ (¬ D (phi op a x) ∧ phi op a (phi op a x) = op (t (a x))) := by
  intro x hx
  rcases dout (a x) (da x hx) with ⟨u, h, p, v, hq, e | e⟩ | ⟨e, hd⟩
  ·obtain ⟨e1, e2, e3, e4, e5, e6, e7, d1, d2, d3, d4, l1, l2⟩ := q _ _ _ _ hq
   right
   have s1 : phi op a x = h := by show op (a x) = h; rw [e, e1]
   rw [s1]
   exact ⟨d3, by show op (a h) = _; rw [e3, e2, e, e4, e2]⟩
  ·obtain ⟨e1, e2, e3, e4, e5, e6, e7, d1, d2, d3, d4, l1, l2⟩ := q _ _ _ _ hq
   right
   have s1 : phi op a x = p := by show op (a x) = p; rw [e, ← e2, op_op]
   have s2 : a p = h := by rw [← e3, hm.inv _ l1]
   rw [s1]
   exact ⟨d4, by show op (a p) = _; rw [s2, e, e7]⟩
  ·left; show op (a x) = _; rw [e]
 have gR : ∀ x, D x → (phi op (cj t a) x = op (t (a x))) ∨ (¬ D (phi op (cj t a) x) ∧ phi op (cj t a) (phi op (cj t a) x) = op (t (a x))) := by
  intro x hx
  rcases dout x hx with ⟨u, h, p, v, hq, rfl | rfl⟩ | ⟨e, hd⟩
  ·obtain ⟨e1, e2, e3, e4, e5, e6, e7, d1, d2, d3, d4, l1, l2⟩ := q _ _ _ _ hq
   right
   have s2 : a p = h := by rw [← e3, hm.inv _ l1]
   have s1 : phi op (cj t a) x = p := by show op (t (a (t x))) = p; rw [e4, s2, e5, ← e2, op_op]
   rw [s1]
   exact ⟨d4, by show op (t (a (t p))) = _; rw [e6]⟩
  ·obtain ⟨e1, e2, e3, e4, e5, e6, e7, d1, d2, d3, d4, l1, l2⟩ := q _ _ _ _ hq
   right
   have s1 : phi op (cj t a) x = h := by show op (t (a (t x))) = h; rw [e7, e3, e6, e1]
   rw [s1]
   exact ⟨d3, by show op (t (a (t h))) = _; rw [e5]⟩
  ·left; show op (t (a (t x))) = _; rw [e]
 have fo : ∀ x, D x → Orb (phi op a) x (op (t (a x))) := fun x hx => by
  rcases fR x hx with e | ⟨_, e⟩
  ·exact ⟨1, e⟩
  ·exact ⟨2, e⟩
 have go : ∀ x, D x → Orb (phi op (cj t a)) x (op (t (a x))) := fun x hx => by
  rcases gR x hx with e | ⟨_, e⟩
  ·exact ⟨1, e⟩
  ·exact ⟨2, e⟩
 have fE := hm.op.pb.eqv
 have gE := hm'.op.pb.eqv
 have fin : ∀ x, x < 4 * n → ∃ y, D y ∧ Orb (phi op a) x y := by
  intro x hx
  by_cases hD : D x
  ·exact ⟨x, hD, Orb.refl _ _⟩
  ·obtain ⟨u, h, p, v, hq, rfl | rfl⟩ := din x hx hD
   ·obtain ⟨e1, e2, e3, e4, e5, e6, e7, d1, d2, d3, d4, l1, l2⟩ := q _ _ _ _ hq
    exact ⟨v, d2, ⟨1, by show op (a x) = v; rw [e3, e2]⟩⟩
   ·obtain ⟨e1, e2, e3, e4, e5, e6, e7, d1, d2, d3, d4, l1, l2⟩ := q _ _ _ _ hq
    have s2 : a x = h := by rw [← e3, hm.inv _ l1]
    exact ⟨u, d1, ⟨1, by show op (a x) = u; rw [s2, ← e1, op_op]⟩⟩
 have gin : ∀ x, x < 4 * n → ∃ y, D y ∧ Orb (phi op (cj t a)) x y := by
  intro x hx
  by_cases hD : D x
  ·exact ⟨x, hD, Orb.refl _ _⟩
  ·obtain ⟨u, h, p, v, hq, rfl | rfl⟩ := din x hx hD
   ·obtain ⟨e1, e2, e3, e4, e5, e6, e7, d1, d2, d3, d4, l1, l2⟩ := q _ _ _ _ hq
    exact ⟨_, hR _ (da _ d2), ⟨1, by show op (t (a (t x))) = _; rw [e5]⟩⟩
   ·obtain ⟨e1, e2, e3, e4, e5, e6, e7, d1, d2, d3, d4, l1, l2⟩ := q _ _ _ _ hq
    exact ⟨_, hR _ (da _ d1), ⟨1, by show op (t (a (t x))) = _; rw [e6]⟩⟩
 have h1 := hk.sub (D := D) dS fin
 have h2 : Cls D (Orb (phi op (cj t a))) k := Cls.congr h1 (fun _ => Iff.rfl) fun x y hx hy => by
  constructor
  ·refine orb_ret (D := D) (fun x hx => ?_) hx hy
   rcases fR x hx with e | ⟨n1, e⟩
   ·left; rw [e]; exact ⟨hR _ (da x hx), go x hx⟩
   ·right; rw [e]; exact ⟨hR _ (da x hx), n1, go x hx⟩
  ·refine orb_ret (D := D) (fun x hx => ?_) hx hy
   rcases gR x hx with e | ⟨n1, e⟩
   ·left; rw [e]; exact ⟨hR _ (da x hx), fo x hx⟩
   ·right; rw [e]; exact ⟨hR _ (da x hx), n1, fo x hx⟩
 exact h2.sup gE dS gin
theorem Tr.same (hd : Valid d) {h0 h1 h2 : Nat} (t : Tr d h0 h1 h2) (sg : d'.sg = d.sg) (lp : d'.lp = d.lp) (len : d'.mt.length = 4 * d.n) (hm : ∀ x, x < 4 * d.n → d'.m x = cj (tu h0 h1 h2) d.m x) : Same d d' := by
 intro s s' h h'
 have hv := Valid.iff.1 hd
 have hw := hv.1
 have hw' := (Valid.iff.1 (t.valid hd sg lp len hm)).1
 have T := t.tri hw
 have hn : d'.n = d.n := by unfold Dg.n; rw [sg]
 have hj := hw.hm.cj (t := tu h0 h1 h2) T.tS (fun x _ => T.tt x)
 have hm' : Hm (4 * d.n) (fun h => h < 4 * d.n) rot (cj (tu h0 h1 h2) d.m) := ⟨hw.hm.rb, hj.ab, hj.inv⟩
 have o1 : ∀ x y z, rot x = y → rot y = z → op x = z := fun x y z e1 e2 => by show tn x 2 = z; rw [← rot_rot, e1, e2]
 have key := slide_cls (k := 2 * s) hw.hm hm' (Dout (dart d) h0 h1 h2 (tn h0 1) (tn h1 1) (tn h2 1))
  (fun u h p v => (u = tn h0 2 ∧ h = h0 ∧ p = tn h1 1 ∧ v = tn h1 3) ∨ (u = tn h1 2 ∧ h = h1 ∧ p = tn h2 1 ∧ v = tn h2 3) ∨ (u = tn h2 2 ∧ h = h2 ∧ p = tn h0 1 ∧ v = tn h0 3))
  (fun u h p v hq => by
    rcases hq with ⟨rfl, rfl, rfl, rfl⟩ | ⟨rfl, rfl, rfl, rfl⟩ | ⟨rfl, rfl, rfl, rfl⟩
    ·exact ⟨o1 _ _ _ T.ru0 T.rp0, o1 _ _ _ T.rp1 T.rh1, T.ah0, T.tu0, T.th0, T.tp1, T.tv1, T.du0, T.dv1, T.nh0, T.np1, T.mem _ (by simp), T.mem _ (by simp)⟩
    ·exact ⟨o1 _ _ _ T.ru1 T.rp1, o1 _ _ _ T.rp2 T.rh2, T.ah1, T.tu1, T.th1, T.tp2, T.tv2, T.du1, T.dv2, T.nh1, T.np2, T.mem _ (by simp), T.mem _ (by simp)⟩
    ·exact ⟨o1 _ _ _ T.ru2 T.rp2, o1 _ _ _ T.rp0 T.rh0, T.ah2, T.tu2, T.th2, T.tp0, T.tv0, T.du2, T.dv0, T.nh2, T.np0, T.mem _ (by simp), T.mem _ (by simp)⟩)
  (fun x hx => hx.1) (fun x hx => T.da hw.hm hx)
  (fun x hx hD => by
    have hD2 : x = h0 ∨ x = h1 ∨ x = h2 ∨ x = tn h0 1 ∨ x = tn h1 1 ∨ x = tn h2 1 := by
     rw [T.out hx] at hD
     exact Classical.byContradiction fun e => hD e
    rcases hD2 with e | e | e | e | e | e
    ·exact ⟨_, _, _, _, .inl ⟨rfl, rfl, rfl, rfl⟩, .inl e⟩
    ·exact ⟨_, _, _, _, .inr (.inl ⟨rfl, rfl, rfl, rfl⟩), .inl e⟩
    ·exact ⟨_, _, _, _, .inr (.inr ⟨rfl, rfl, rfl, rfl⟩), .inl e⟩
    ·exact ⟨_, _, _, _, .inr (.inr ⟨rfl, rfl, rfl, rfl⟩), .inr e⟩
    ·exact ⟨_, _, _, _, .inl ⟨rfl, rfl, rfl, rfl⟩, .inr e⟩
    ·exact ⟨_, _, _, _, .inr (.inl ⟨rfl, rfl, rfl, rfl⟩), .inr e⟩)
  (fun x hx => by
    by_cases e : x ∈ [tn h0 2, tn h1 2, tn h2 2, tn h0 3, tn h1 3, tn h2 3]
    ·left
     simp only [List.mem_cons, List.not_mem_nil, or_false] at e
     rcases e with e | e | e | e | e | e
     ·exact ⟨_, _, _, _, .inl ⟨rfl, rfl, rfl, rfl⟩, .inl e⟩
     ·exact ⟨_, _, _, _, .inr (.inl ⟨rfl, rfl, rfl, rfl⟩), .inl e⟩
     ·exact ⟨_, _, _, _, .inr (.inr ⟨rfl, rfl, rfl, rfl⟩), .inl e⟩
     ·exact ⟨_, _, _, _, .inr (.inr ⟨rfl, rfl, rfl, rfl⟩), .inr e⟩
     ·exact ⟨_, _, _, _, .inl ⟨rfl, rfl, rfl, rfl⟩, .inr e⟩
     ·exact ⟨_, _, _, _, .inr (.inl ⟨rfl, rfl, rfl, rfl⟩), .inr e⟩
    ·right
     have hx0 := (T.out hx.1).1 hx
     have hno : x ∉ [h0, h1, h2, tn h0 1, tn h1 1, tn h2 1, tn h0 2, tn h1 2, tn h2 2, tn h0 3, tn h1 3, tn h2 3] := fun hm => by
      simp only [List.mem_cons, List.not_mem_nil, or_false] at hm e
      rcases hm with h | h | h | h | h | h | h
      ·exact hx0 (.inl h)
      ·exact hx0 (.inr (.inl h))
      ·exact hx0 (.inr (.inr (.inl h)))
      ·exact hx0 (.inr (.inr (.inr (.inl h))))
      ·exact hx0 (.inr (.inr (.inr (.inr (.inl h)))))
      ·exact hx0 (.inr (.inr (.inr (.inr (.inr h)))))
      ·exact e h
     refine ⟨T.tx x hno, ?_⟩
     have c1 := (T.cx hw.hm hx.1 hno).1
     have c2 := (T.cx hw.hm (rot_lt hx.1) c1).1
     rw [T.out (show dart d (op x) from tn_lt hx.1)]
     intro hm
     apply c2
     rw [rot_rot]
     simp only [List.mem_cons, List.not_mem_nil, or_false]
     rcases hm with h | h | h | h | h | h
     ·exact .inl h
     ·exact .inr (.inl h)
     ·exact .inr (.inr (.inl h))
     ·exact .inr (.inr (.inr (.inl h)))
     ·exact .inr (.inr (.inr (.inr (.inl h))))
     ·exact .inr (.inr (.inr (.inr (.inr (.inl h))))))
  (h.all hw)
 have e2 : Cls (dart d') (Orb (st d')) (2 * s) := Cls.congr key (fun x => by unfold dart; rw [hn]) fun x y hx hy => by
  refine Orb.congr (S := fun z => z < 4 * d.n) (fun z hz => tn_lt (hm'.ab.maps z hz)) (fun z hz => ?_) hx
  show tn _ 2 = tn (d'.m z) 2
  rw [hm z hz]
 have := h'.iff hw' e2
 omega
end Go.Proofs.YtlffopdoeobgaaaGreatDoor.Pl
end
section
namespace Go.Proofs.YtlffopdoeobgaaaGreatDoor.Pl
section
variable {d : Dg} {h u : Nat}
theorem Lens.lA_c (E : d.m (tn h 2) = tn u 2) : lA d h u = d.m := by unfold lA Pl.cls; rw [if_pos E]
theorem Lens.lA_e (hw : Wf d) (L : Lens d h u) (E : d.m (tn h 2) ≠ tn u 2) : lA d h u (d.m (tn h 2)) = d.m (tn u 2) ∧ lA d h u (d.m (tn u 2)) = d.m (tn h 2) ∧ ∀ z, z ≠ tn h 2 → z ≠ tn u 2 → z ≠ d.m (tn h 2) → z ≠ d.m (tn u 2) → lA d h u z = d.m z := by
 have hh := L.hh
 have hu := L.hu hw
 obtain ⟨b1, b2, b3, b4, b5⟩ := byp_at hw.hm (tn_lt hh) (tn_lt hu) (pm L.ne) (hw.ne _ (tn_lt (k := 2) hh)) (hw.ne _ (tn_lt (k := 2) hu)) E
 unfold lA Pl.cls
 rw [if_neg E]
 exact ⟨b3, b4, b5⟩
theorem Lens.lB_c (E : lA d h u (tn h 3) = tn u 1) : lB d h u = lA d h u := by unfold lB; unfold Pl.cls; rw [if_pos E]
theorem Lens.lB_e (hd : Valid d) (L : Lens d h u) (E : lA d h u (tn h 3) ≠ tn u 1) : lB d h u (lA d h u (tn h 3)) = lA d h u (tn u 1) ∧ lB d h u (lA d h u (tn u 1)) = lA d h u (tn h 3) ∧
 ∀ z, z ≠ tn h 3 → z ≠ tn u 1 → z ≠ lA d h u (tn h 3) → z ≠ lA d h u (tn u 1) → lB d h u z = lA d h u z := by
 have hw := (Valid.iff.1 hd).1
 have hh := L.hh
 have hu := L.hu hw
 have A := L.la hd
 obtain ⟨b1, b2, b3, b4, b5⟩ := byp_at A.hm (tn_lt hh) (tn_lt hu) (pm L.ne) (A.nf _ (tn_lt (k := 3) hh) (tn_ne (by omega)) (pm L.ne)) (A.nf _ (tn_lt (k := 1) hu) (Ne.symm (pm L.ne)) (tn_ne (by omega))) E
 unfold lB
 unfold Pl.cls
 rw [if_neg E]
 exact ⟨b3, b4, b5⟩
end
theorem tn_pp (n f t k : Nat) : tn (pp n f t) k = pp n f (t + k) := by unfold tn pp; omega
structure Out (d d' : Dg) (f g c1 c2 : Nat) : Prop where
 n : d'.n = d.n + 2
 L : Lens d' (pp d.n f 0) (pp (d.n + 1) g 2)
 b : ∀ z, z < 4 * d.n → lB d' (pp d.n f 0) (pp (d.n + 1) g 2) z = d.m z
 e1 : c1 = if d'.m (pp d.n f 2) = pp (d.n + 1) g 0 then 1 else 0
 e2 : c2 = if lA d' (pp d.n f 0) (pp (d.n + 1) g 2) (pp d.n f 3) = pp (d.n + 1) g 3 then 1 else 0
section
variable {d d' : Dg} {f g c1 c2 : Nat}
theorem Out.stay (O : Out d d' f g c1 c2) (z : Nat) : Pl.stay d' [d.n, d.n + 1] z ↔ z < 4 * d.n := by
 unfold Pl.stay
 rw [O.n, List.mem_cons, List.mem_singleton]
 omega
theorem Out.hx (O : Out d d' f g c1 c2) : (d.n = pp d.n f 0 / 4 ∧ d.n + 1 = pp (d.n + 1) g 2 / 4) ∨ (d.n = pp (d.n + 1) g 2 / 4 ∧ d.n + 1 = pp d.n f 0 / 4) := by
 left; unfold pp; omega
theorem Out.same (hd : Valid d) (hd' : Valid d') (O : Out d d' f g c1 c2) (hlp : d.lp = d'.lp + c1 + c2) : Same d d' := by
 intro s s' h h'
 have hw := (Valid.iff.1 hd).1
 have hw' := (Valid.iff.1 hd').1
 have R := (O.L.lb hd').rs hw' O.L (x := d.n) (y := d.n + 1) (by omega) O.hx (lp := 0) (by omega) (mt := List.ofFn (n := 4 * d'.n) (fun z => lB d' (pp d.n f 0) (pp (d.n + 1) g 2) z.1)) (fun z hz => by
  rw [List.getD_eq_getElem?_getD, List.getElem?_ofFn, dif_pos hz.1]; rfl)
 have := in_same hw hw' R O.stay O.b (O.L.cls hd' (h'.all hw')) (O.L.gone hd' O.hx) h
 have q1 : tn (pp d.n f 0) 2 = pp d.n f 2 := tn_pp _ _ _ _
 have q2 : tn (pp (d.n + 1) g 2) 2 = pp (d.n + 1) g 0 := by rw [tn_pp, show 2 + 2 = 0 + 4 from rfl, pp_mod]
 have q3 : tn (pp d.n f 0) 3 = pp d.n f 3 := tn_pp _ _ _ _
 have q4 : tn (pp (d.n + 1) g 2) 1 = pp (d.n + 1) g 3 := tn_pp _ _ _ _
 rw [q1, q2, q3, q4] at this
 have e1 := O.e1
 have e2 := O.e2
 by_cases a1 : d'.m (pp d.n f 2) = pp (d.n + 1) g 0 <;> by_cases a2 : lA d' (pp d.n f 0) (pp (d.n + 1) g 2) (pp d.n f 3) = pp (d.n + 1) g 3 <;> simp only [a1, a2, if_true, if_false] at this e1 e2 <;> omega
structure In (d d' : Dg) (f g : Nat) : Prop where
 n : d'.n = d.n + 2
 v : Valid d'
 m0 : d'.m (pp d.n f 0) = pp (d.n + 1) g 2
 m1 : d'.m (pp d.n f 1) = pp (d.n + 1) g 1
theorem In.lens (I : In d d' f g) : Lens d' (pp d.n f 0) (pp (d.n + 1) g 2) :=
 ⟨by rw [I.n]; unfold pp; omega, I.m0, by rw [tn_pp, I.m1, tn_pp, show 2 + 3 = 1 + 4 from rfl, pp_mod], by unfold pp; omega⟩
section
variable (I : In d d' f g)
include I
theorem In.e1 (E : d'.m (pp d.n f 2) ≠ pp (d.n + 1) g 0) : lA d' (pp d.n f 0) (pp (d.n + 1) g 2) (d'.m (pp d.n f 2)) = d'.m (pp (d.n + 1) g 0) ∧ lA d' (pp d.n f 0) (pp (d.n + 1) g 2) (d'.m (pp (d.n + 1) g 0)) = d'.m (pp d.n f 2) ∧
 ∀ z, z ≠ pp d.n f 2 → z ≠ pp (d.n + 1) g 0 → z ≠ d'.m (pp d.n f 2) → z ≠ d'.m (pp (d.n + 1) g 0) → lA d' (pp d.n f 0) (pp (d.n + 1) g 2) z = d'.m z := by
 have q1 : tn (pp d.n f 0) 2 = pp d.n f 2 := tn_pp _ _ _ _
 have q2 : tn (pp (d.n + 1) g 2) 2 = pp (d.n + 1) g 0 := by rw [tn_pp, show 2 + 2 = 0 + 4 from rfl, pp_mod]
 have := I.lens.lA_e (Valid.iff.1 I.v).1 (by rw [q1, q2]; exact E)
 rwa [q1, q2] at this
theorem In.k1 (E : d'.m (pp d.n f 2) = pp (d.n + 1) g 0) : lA d' (pp d.n f 0) (pp (d.n + 1) g 2) = d'.m := by
 have _ := I
 have q1 : tn (pp d.n f 0) 2 = pp d.n f 2 := tn_pp _ _ _ _
 have q2 : tn (pp (d.n + 1) g 2) 2 = pp (d.n + 1) g 0 := by rw [tn_pp, show 2 + 2 = 0 + 4 from rfl, pp_mod]
 exact Lens.lA_c (by rw [q1, q2]; exact E)
theorem In.e2 (E : lA d' (pp d.n f 0) (pp (d.n + 1) g 2) (pp d.n f 3) ≠ pp (d.n + 1) g 3) : lB d' (pp d.n f 0) (pp (d.n + 1) g 2) (lA d' (pp d.n f 0) (pp (d.n + 1) g 2) (pp d.n f 3)) = lA d' (pp d.n f 0) (pp (d.n + 1) g 2) (pp (d.n + 1) g 3) ∧
 lB d' (pp d.n f 0) (pp (d.n + 1) g 2) (lA d' (pp d.n f 0) (pp (d.n + 1) g 2) (pp (d.n + 1) g 3)) = lA d' (pp d.n f 0) (pp (d.n + 1) g 2) (pp d.n f 3) ∧
 ∀ z, z ≠ pp d.n f 3 → z ≠ pp (d.n + 1) g 3 → z ≠ lA d' (pp d.n f 0) (pp (d.n + 1) g 2) (pp d.n f 3) → z ≠ lA d' (pp d.n f 0) (pp (d.n + 1) g 2) (pp (d.n + 1) g 3) → lB d' (pp d.n f 0) (pp (d.n + 1) g 2) z = lA d' (pp d.n f 0) (pp (d.n + 1) g 2) z := by
 have q3 : tn (pp d.n f 0) 3 = pp d.n f 3 := tn_pp _ _ _ _
 have q4 : tn (pp (d.n + 1) g 2) 1 = pp (d.n + 1) g 3 := tn_pp _ _ _ _
 have := I.lens.lB_e I.v (by rw [q3, q4]; exact E)
 rwa [q3, q4] at this
theorem In.k2 (E : lA d' (pp d.n f 0) (pp (d.n + 1) g 2) (pp d.n f 3) = pp (d.n + 1) g 3) : lB d' (pp d.n f 0) (pp (d.n + 1) g 2) = lA d' (pp d.n f 0) (pp (d.n + 1) g 2) := by
 have _ := I
 have q3 : tn (pp d.n f 0) 3 = pp d.n f 3 := tn_pp _ _ _ _
 have q4 : tn (pp (d.n + 1) g 2) 1 = pp (d.n + 1) g 3 := tn_pp _ _ _ _
 exact Lens.lB_c (by rw [q3, q4]; exact E)
theorem In.po (t : Nat) {z : Nat} (hz : z < 4 * d.n) : z ≠ pp d.n f t := by have _ := I; have := pp_bd d.n f t; omega
theorem In.qo (t : Nat) {z : Nat} (hz : z < 4 * d.n) : z ≠ pp (d.n + 1) g t := by have _ := I; have := pp_bd (d.n + 1) g t; omega
theorem In.edges (hw : Wf d) {x y : Nat} (hx : x < 4 * d.n) (hy : y < 4 * d.n) (xy : x ≠ y) (xm : d.m x ≠ y) (v2 : d'.m (pp d.n f 2) = d.m y) (v0 : d'.m (pp (d.n + 1) g 0) = y) (v3 : d'.m (pp d.n f 3) = x) (w3 : d'.m (pp (d.n + 1) g 3) = d.m x)
 (old : ∀ z, z < 4 * d.n → z ≠ x → z ≠ d.m x → z ≠ y → z ≠ d.m y → d'.m z = d.m z) : Out d d' f g 0 0 := by
 have hmx := hw.lt x hx
 have hmy := hw.lt y hy
 have n1 : d'.m (pp d.n f 2) ≠ pp (d.n + 1) g 0 := by rw [v2]; exact I.qo 0 hmy
 obtain ⟨a1, a2, a3⟩ := I.e1 n1
 rw [v2, v0] at a1 a2 a3
 have k1 := a3 (pp d.n f 3) (pp_ne (by omega)) pp_nq (Ne.symm (I.po 3 hmy)) (Ne.symm (I.po 3 hy))
 have k2 := a3 (pp (d.n + 1) g 3) (Ne.symm pp_nq) (pp_ne (by omega)) (Ne.symm (I.qo 3 hmy)) (Ne.symm (I.qo 3 hy))
 rw [v3] at k1
 rw [w3] at k2
 have n2 : lA d' (pp d.n f 0) (pp (d.n + 1) g 2) (pp d.n f 3) ≠ pp (d.n + 1) g 3 := by rw [k1]; exact I.qo 3 hx
 obtain ⟨b1, b2, b3⟩ := I.e2 n2
 rw [k1, k2] at b1 b2 b3
 refine ⟨I.n, I.lens, fun z hz => ?_, by rw [if_neg n1], by rw [if_neg n2]⟩
 by_cases z1 : z = x
 ·rw [z1, b1]
 ·by_cases z2 : z = d.m x
  ·rw [z2, b2, hw.inv x hx]
  ·rw [b3 z (I.po 3 hz) (I.qo 3 hz) z1 z2]
   by_cases z3 : z = y
   ·rw [z3, a2]
   ·by_cases z4 : z = d.m y
    ·rw [z4, a1, hw.inv y hy]
    ·rw [a3 z (I.po 2 hz) (I.qo 0 hz) z4 z3, old z hz z1 z2 z3 z4]
theorem In.loops (v2 : d'.m (pp d.n f 2) = pp (d.n + 1) g 0) (v3 : d'.m (pp d.n f 3) = pp (d.n + 1) g 3) (old : ∀ z, z < 4 * d.n → d'.m z = d.m z) : Out d d' f g 1 1 := by
 have k := I.k1 v2
 have n2 : lA d' (pp d.n f 0) (pp (d.n + 1) g 2) (pp d.n f 3) = pp (d.n + 1) g 3 := by rw [k, v3]
 exact ⟨I.n, I.lens, fun z hz => by rw [I.k2 n2, k, old z hz], by rw [if_pos v2], by rw [if_pos n2]⟩
theorem In.xedge (hw : Wf d) {x : Nat} (hx : x < 4 * d.n) (v2 : d'.m (pp d.n f 2) = pp (d.n + 1) g 0) (v3 : d'.m (pp d.n f 3) = x) (w3 : d'.m (pp (d.n + 1) g 3) = d.m x)
 (old : ∀ z, z < 4 * d.n → z ≠ x → z ≠ d.m x → d'.m z = d.m z) : Out d d' f g 1 0 := by
 have k := I.k1 v2
 have n2 : lA d' (pp d.n f 0) (pp (d.n + 1) g 2) (pp d.n f 3) ≠ pp (d.n + 1) g 3 := by rw [k, v3]; exact I.qo 3 hx
 obtain ⟨b1, b2, b3⟩ := I.e2 n2
 rw [k, v3, w3] at b1 b2 b3
 refine ⟨I.n, I.lens, fun z hz => ?_, by rw [if_pos v2], by rw [if_neg n2]⟩
 by_cases z1 : z = x
 ·rw [z1, b1]
 ·by_cases z2 : z = d.m x
  ·rw [z2, b2, hw.inv x hx]
  ·rw [b3 z (I.po 3 hz) (I.qo 3 hz) z1 z2, old z hz z1 z2]
theorem In.yedge (hw : Wf d) {y : Nat} (hy : y < 4 * d.n) (v2 : d'.m (pp d.n f 2) = d.m y) (v0 : d'.m (pp (d.n + 1) g 0) = y) (v3 : d'.m (pp d.n f 3) = pp (d.n + 1) g 3)
 (old : ∀ z, z < 4 * d.n → z ≠ y → z ≠ d.m y → d'.m z = d.m z) : Out d d' f g 0 1 := by
 have hmy := hw.lt y hy
 have n1 : d'.m (pp d.n f 2) ≠ pp (d.n + 1) g 0 := by rw [v2]; exact I.qo 0 hmy
 obtain ⟨a1, a2, a3⟩ := I.e1 n1
 rw [v2, v0] at a1 a2 a3
 have n2 : lA d' (pp d.n f 0) (pp (d.n + 1) g 2) (pp d.n f 3) = pp (d.n + 1) g 3 := by
  rw [a3 (pp d.n f 3) (pp_ne (by omega)) pp_nq (Ne.symm (I.po 3 hmy)) (Ne.symm (I.po 3 hy)), v3]
 refine ⟨I.n, I.lens, fun z hz => ?_, by rw [if_neg n1], by rw [if_pos n2]⟩
 rw [I.k2 n2]
 by_cases z3 : z = y
 ·rw [z3, a2]
 ·by_cases z4 : z = d.m y
  ·rw [z4, a1, hw.inv y hy]
  ·rw [a3 z (I.po 2 hz) (I.qo 0 hz) z4 z3, old z hz z3 z4]
theorem In.self0 (v2 : d'.m (pp d.n f 2) = pp d.n f 3) (v0 : d'.m (pp (d.n + 1) g 0) = pp (d.n + 1) g 3) (old : ∀ z, z < 4 * d.n → d'.m z = d.m z) : Out d d' f g 0 1 := by
 have n1 : d'.m (pp d.n f 2) ≠ pp (d.n + 1) g 0 := by rw [v2]; exact pp_nq
 obtain ⟨a1, a2, a3⟩ := I.e1 n1
 rw [v2, v0] at a1 a2 a3
 refine ⟨I.n, I.lens, fun z hz => ?_, by rw [if_neg n1], by rw [if_pos a1]⟩
 rw [I.k2 a1, a3 z (I.po 2 hz) (I.qo 0 hz) (I.po 3 hz) (I.qo 3 hz), old z hz]
theorem In.self1 (hw : Wf d) {x : Nat} (hx : x < 4 * d.n) (v2 : d'.m (pp d.n f 2) = d.m x) (v0 : d'.m (pp (d.n + 1) g 0) = pp (d.n + 1) g 3) (v3 : d'.m (pp d.n f 3) = x)
 (old : ∀ z, z < 4 * d.n → z ≠ x → z ≠ d.m x → d'.m z = d.m z) : Out d d' f g 0 0 := by
 have hmx := hw.lt x hx
 have n1 : d'.m (pp d.n f 2) ≠ pp (d.n + 1) g 0 := by rw [v2]; exact I.qo 0 hmx
 obtain ⟨a1, a2, a3⟩ := I.e1 n1
 rw [v2, v0] at a1 a2 a3
 have k1 := a3 (pp d.n f 3) (pp_ne (by omega)) pp_nq (Ne.symm (I.po 3 hmx)) pp_nq
 rw [v3] at k1
 have n2 : lA d' (pp d.n f 0) (pp (d.n + 1) g 2) (pp d.n f 3) ≠ pp (d.n + 1) g 3 := by rw [k1]; exact I.qo 3 hx
 obtain ⟨b1, b2, b3⟩ := I.e2 n2
 rw [k1, a2] at b1 b2 b3
 refine ⟨I.n, I.lens, fun z hz => ?_, by rw [if_neg n1], by rw [if_neg n2]⟩
 by_cases z1 : z = x
 ·rw [z1, b1]
 ·by_cases z2 : z = d.m x
  ·rw [z2, b2, hw.inv x hx]
  ·rw [b3 z (I.po 3 hz) (I.qo 3 hz) z1 z2, a3 z (I.po 2 hz) (I.qo 0 hz) z2 (I.qo 3 hz), old z hz z1 z2]
theorem In.self2 (hw : Wf d) {x : Nat} (hx : x < 4 * d.n) (v2 : d'.m (pp d.n f 2) = pp d.n f 3) (v0 : d'.m (pp (d.n + 1) g 0) = x) (w3 : d'.m (pp (d.n + 1) g 3) = d.m x)
 (old : ∀ z, z < 4 * d.n → z ≠ x → z ≠ d.m x → d'.m z = d.m z) : Out d d' f g 0 0 := by
 have hmx := hw.lt x hx
 have n1 : d'.m (pp d.n f 2) ≠ pp (d.n + 1) g 0 := by rw [v2]; exact pp_nq
 obtain ⟨a1, a2, a3⟩ := I.e1 n1
 rw [v2, v0] at a1 a2 a3
 have k2 := a3 (pp (d.n + 1) g 3) (Ne.symm pp_nq) (pp_ne (by omega)) (Ne.symm pp_nq) (Ne.symm (I.qo 3 hx))
 rw [w3] at k2
 have n2 : lA d' (pp d.n f 0) (pp (d.n + 1) g 2) (pp d.n f 3) ≠ pp (d.n + 1) g 3 := by rw [a1]; exact I.qo 3 hx
 obtain ⟨b1, b2, b3⟩ := I.e2 n2
 rw [a1, k2] at b1 b2 b3
 refine ⟨I.n, I.lens, fun z hz => ?_, by rw [if_neg n1], by rw [if_neg n2]⟩
 by_cases z1 : z = x
 ·rw [z1, b1]
 ·by_cases z2 : z = d.m x
  ·rw [z2, b2, hw.inv x hx]
  ·rw [b3 z (I.po 3 hz) (I.qo 3 hz) z1 z2, a3 z (I.po 2 hz) (I.qo 0 hz) (I.po 3 hz) z1, old z hz z1 z2]
end
end
end Go.Proofs.YtlffopdoeobgaaaGreatDoor.Pl
end
section
namespace Go.Proofs.YtlffopdoeobgaaaGreatDoor.Pl
section
variable {d d' : Dg} {f g : Nat} {fx fy : Bool}
theorem Pd.l0 (hd : Valid d) (K : Pd d d' f g fx fy) : (pkL0 d f g).length = 4 * (d.n + 2) ∧ (pkL0 d f g).getD (pp d.n f 0) 0 = pp (d.n + 1) g 2 ∧ (pkL0 d f g).getD (pp d.n f 1) 0 = pp (d.n + 1) g 1 ∧ ∀ z, z < 4 * d.n → (pkL0 d f g).getD z 0 = d.m z := by
 have B := K.base hd
 have hw := (Valid.iff.1 hd).1
 refine ⟨B.ms.len, ?_, ?_, fun z hz => ?_⟩
 ·rw [B.ms.at_ _ (by unfold pp; omega) (by rw [B.b4]; unfold pp; omega), B.b4]
 ·rw [B.ms.at_ _ (by unfold pp; omega) (by rw [B.b1]; unfold pp; omega), B.b1]
 ·rw [B.ms.at_ z (by omega) (by rw [B.old z hz]; exact hw.ne z hz), B.old z hz]
theorem Pd.out_loops (hd : Valid d) (K : Pd d d' f g fx fy) (hv : Valid d') (hl : d'.mt = jl (jl (pkL0 d f g) (pp (d.n + 1) g 0) (pp d.n f 2)) (pp d.n f 3) (pp (d.n + 1) g 3)) : Out d d' f g 1 1 := by
 have hw := (Valid.iff.1 hd).1
 have hw' := (Valid.iff.1 hv).1
 obtain ⟨ln, l0, l1, lo⟩ := K.l0 hd
 have e : ∀ z, z < 4 * (d.n + 2) → d'.m z = if z = (pp (d.n + 1) g 3) then (pp d.n f 3) else if z = (pp d.n f 3) then (pp (d.n + 1) g 3) else if z = (pp d.n f 2) then (pp (d.n + 1) g 0) else if z = (pp (d.n + 1) g 0) then (pp d.n f 2) else (pkL0 d f g).getD z 0 := fun z hz => by
  rw [← dg_m hw' (by rw [K.n]; exact hz), hl, jl_at (by simp only [jl_len, ln, pp]; omega) (by simp only [jl_len, ln, pp]; omega), jl_at (by simp only [jl_len, ln, pp]; omega) (by simp only [jl_len, ln, pp]; omega)]
 have m0 : d'.m (pp d.n f 0) = (pp (d.n + 1) g 2) := by rw [e _ (by unfold pp; omega), if_neg (by unfold pp; omega), if_neg (by unfold pp; omega), if_neg (by unfold pp; omega), if_neg (by unfold pp; omega), l0]
 have m1 : d'.m (pp d.n f 1) = (pp (d.n + 1) g 1) := by rw [e _ (by unfold pp; omega), if_neg (by unfold pp; omega), if_neg (by unfold pp; omega), if_neg (by unfold pp; omega), if_neg (by unfold pp; omega), l1]
 have v2 : d'.m (pp d.n f 2) = (pp (d.n + 1) g 0) := by rw [e _ (by unfold pp; omega), if_neg (by unfold pp; omega), if_neg (by unfold pp; omega), if_pos rfl]
 have v0 : d'.m (pp (d.n + 1) g 0) = (pp d.n f 2) := by rw [e _ (by unfold pp; omega), if_neg (by unfold pp; omega), if_neg (by unfold pp; omega), if_neg (by unfold pp; omega), if_pos rfl]
 have v3 : d'.m (pp d.n f 3) = (pp (d.n + 1) g 3) := by rw [e _ (by unfold pp; omega), if_neg (by unfold pp; omega), if_pos rfl]
 have w3 : d'.m (pp (d.n + 1) g 3) = (pp d.n f 3) := by rw [e _ (by unfold pp; omega), if_pos rfl]
 have old : ∀ z, z < 4 * d.n → d'.m z = d.m z := fun z hz => by rw [e z (by omega), if_neg (by unfold pp; omega), if_neg (by unfold pp; omega), if_neg (by unfold pp; omega), if_neg (by unfold pp; omega), lo z hz]
 exact (show In d d' f g from ⟨K.n, hv, m0, m1⟩).loops v2 v3 old
theorem Pd.out_xedge (hd : Valid d) (K : Pd d d' f g fx fy) (hv : Valid d') {x : Nat} (hx : x < 4 * d.n) (hl : d'.mt = jl (jl (jl (pkL0 d f g) (pp (d.n + 1) g 0) (pp d.n f 2)) x (pp d.n f 3)) (pp (d.n + 1) g 3) (d.m x)) : Out d d' f g 1 0 := by
 have hw := (Valid.iff.1 hd).1
 have hw' := (Valid.iff.1 hv).1
 obtain ⟨ln, l0, l1, lo⟩ := K.l0 hd
 have hmx := hw.lt x hx
 have hnex := hw.ne x hx
 have e : ∀ z, z < 4 * (d.n + 2) → d'.m z = if z = (d.m x) then (pp (d.n + 1) g 3) else if z = (pp (d.n + 1) g 3) then (d.m x) else if z = (pp d.n f 3) then x else if z = x then (pp d.n f 3) else if z = (pp d.n f 2) then (pp (d.n + 1) g 0) else if z = (pp (d.n + 1) g 0) then (pp d.n f 2) else (pkL0 d f g).getD z 0 := fun z hz => by
  rw [← dg_m hw' (by rw [K.n]; exact hz), hl, jl_at (by simp only [jl_len, ln, pp]; omega) (by simp only [jl_len, ln, pp]; omega), jl_at (by simp only [jl_len, ln, pp]; omega) (by simp only [jl_len, ln, pp]; omega), jl_at (by simp only [jl_len, ln, pp]; omega) (by simp only [jl_len, ln, pp]; omega)]
 have m0 : d'.m (pp d.n f 0) = (pp (d.n + 1) g 2) := by rw [e _ (by unfold pp; omega), if_neg (by unfold pp; omega), if_neg (by unfold pp; omega), if_neg (by unfold pp; omega), if_neg (by unfold pp; omega), if_neg (by unfold pp; omega), if_neg (by unfold pp; omega), l0]
 have m1 : d'.m (pp d.n f 1) = (pp (d.n + 1) g 1) := by rw [e _ (by unfold pp; omega), if_neg (by unfold pp; omega), if_neg (by unfold pp; omega), if_neg (by unfold pp; omega), if_neg (by unfold pp; omega), if_neg (by unfold pp; omega), if_neg (by unfold pp; omega), l1]
 have v2 : d'.m (pp d.n f 2) = (pp (d.n + 1) g 0) := by rw [e _ (by unfold pp; omega), if_neg (by unfold pp; omega), if_neg (by unfold pp; omega), if_neg (by unfold pp; omega), if_neg (by unfold pp; omega), if_pos rfl]
 have v0 : d'.m (pp (d.n + 1) g 0) = (pp d.n f 2) := by rw [e _ (by unfold pp; omega), if_neg (by unfold pp; omega), if_neg (by unfold pp; omega), if_neg (by unfold pp; omega), if_neg (by unfold pp; omega), if_neg (by unfold pp; omega), if_pos rfl]
 have v3 : d'.m (pp d.n f 3) = x := by rw [e _ (by unfold pp; omega), if_neg (by unfold pp; omega), if_neg (by unfold pp; omega), if_pos rfl]
 have w3 : d'.m (pp (d.n + 1) g 3) = (d.m x) := by rw [e _ (by unfold pp; omega), if_neg (by unfold pp; omega), if_pos rfl]
 have old : ∀ z, z < 4 * d.n → z ≠ x → z ≠ d.m x → d'.m z = d.m z := fun z hz z1 z2 => by rw [e z (by omega), if_neg z2, if_neg (by unfold pp; omega), if_neg (by unfold pp; omega), if_neg z1, if_neg (by unfold pp; omega), if_neg (by unfold pp; omega), lo z hz]
 exact (show In d d' f g from ⟨K.n, hv, m0, m1⟩).xedge hw hx v2 v3 w3 old
theorem Pd.out_yedge (hd : Valid d) (K : Pd d d' f g fx fy) (hv : Valid d') {y : Nat} (hy : y < 4 * d.n) (hl : d'.mt = jl (jl (jl (pkL0 d f g) y (pp (d.n + 1) g 0)) (pp d.n f 2) (d.m y)) (pp d.n f 3) (pp (d.n + 1) g 3)) : Out d d' f g 0 1 := by
 have hw := (Valid.iff.1 hd).1
 have hw' := (Valid.iff.1 hv).1
 obtain ⟨ln, l0, l1, lo⟩ := K.l0 hd
 have hmy := hw.lt y hy
 have hney := hw.ne y hy
 have e : ∀ z, z < 4 * (d.n + 2) → d'.m z = if z = (pp (d.n + 1) g 3) then (pp d.n f 3) else if z = (pp d.n f 3) then (pp (d.n + 1) g 3) else if z = (d.m y) then (pp d.n f 2) else if z = (pp d.n f 2) then (d.m y) else if z = (pp (d.n + 1) g 0) then y else if z = y then (pp (d.n + 1) g 0) else (pkL0 d f g).getD z 0 := fun z hz => by
  rw [← dg_m hw' (by rw [K.n]; exact hz), hl, jl_at (by simp only [jl_len, ln, pp]; omega) (by simp only [jl_len, ln, pp]; omega), jl_at (by simp only [jl_len, ln, pp]; omega) (by simp only [jl_len, ln, pp]; omega), jl_at (by simp only [jl_len, ln, pp]; omega) (by simp only [jl_len, ln, pp]; omega)]
 have m0 : d'.m (pp d.n f 0) = (pp (d.n + 1) g 2) := by rw [e _ (by unfold pp; omega), if_neg (by unfold pp; omega), if_neg (by unfold pp; omega), if_neg (by unfold pp; omega), if_neg (by unfold pp; omega), if_neg (by unfold pp; omega), if_neg (by unfold pp; omega), l0]
 have m1 : d'.m (pp d.n f 1) = (pp (d.n + 1) g 1) := by rw [e _ (by unfold pp; omega), if_neg (by unfold pp; omega), if_neg (by unfold pp; omega), if_neg (by unfold pp; omega), if_neg (by unfold pp; omega), if_neg (by unfold pp; omega), if_neg (by unfold pp; omega), l1]
 have v2 : d'.m (pp d.n f 2) = (d.m y) := by rw [e _ (by unfold pp; omega), if_neg (by unfold pp; omega), if_neg (by unfold pp; omega), if_neg (by unfold pp; omega), if_pos rfl]
 have v0 : d'.m (pp (d.n + 1) g 0) = y := by rw [e _ (by unfold pp; omega), if_neg (by unfold pp; omega), if_neg (by unfold pp; omega), if_neg (by unfold pp; omega), if_neg (by unfold pp; omega), if_pos rfl]
 have v3 : d'.m (pp d.n f 3) = (pp (d.n + 1) g 3) := by rw [e _ (by unfold pp; omega), if_neg (by unfold pp; omega), if_pos rfl]
 have w3 : d'.m (pp (d.n + 1) g 3) = (pp d.n f 3) := by rw [e _ (by unfold pp; omega), if_pos rfl]
 have old : ∀ z, z < 4 * d.n → z ≠ y → z ≠ d.m y → d'.m z = d.m z := fun z hz z1 z2 => by rw [e z (by omega), if_neg (by unfold pp; omega), if_neg (by unfold pp; omega), if_neg z2, if_neg (by unfold pp; omega), if_neg (by unfold pp; omega), if_neg z1, lo z hz]
 exact (show In d d' f g from ⟨K.n, hv, m0, m1⟩).yedge hw hy v2 v0 v3 old
theorem Pd.out_edges (hd : Valid d) (K : Pd d d' f g fx fy) (hv : Valid d') {x : Nat} (hx : x < 4 * d.n) {y : Nat} (hy : y < 4 * d.n) (xy : x ≠ y) (xm : d.m x ≠ y) (hl : d'.mt = jl (jl (jl (jl (pkL0 d f g) y (pp (d.n + 1) g 0)) (pp d.n f 2) (d.m y)) x (pp d.n f 3)) (pp (d.n + 1) g 3) (d.m x)) : Out d d' f g 0 0 := by
 have hw := (Valid.iff.1 hd).1
 have hw' := (Valid.iff.1 hv).1
 obtain ⟨ln, l0, l1, lo⟩ := K.l0 hd
 have hmx := hw.lt x hx
 have hnex := hw.ne x hx
 have hmy := hw.lt y hy
 have hney := hw.ne y hy
 have ym : d.m y ≠ x := fun e => xm (by rw [← e, hw.inv y hy])
 have mm : d.m x ≠ d.m y := fun e => xy (hw.bij.inj _ _ hx hy e)
 have e : ∀ z, z < 4 * (d.n + 2) → d'.m z = if z = (d.m x) then (pp (d.n + 1) g 3) else if z = (pp (d.n + 1) g 3) then (d.m x) else if z = (pp d.n f 3) then x else if z = x then (pp d.n f 3) else if z = (d.m y) then (pp d.n f 2) else if z = (pp d.n f 2) then (d.m y) else if z = (pp (d.n + 1) g 0) then y else if z = y then (pp (d.n + 1) g 0) else (pkL0 d f g).getD z 0 := fun z hz => by
  rw [← dg_m hw' (by rw [K.n]; exact hz), hl, jl_at (by simp only [jl_len, ln, pp]; omega) (by simp only [jl_len, ln, pp]; omega), jl_at (by simp only [jl_len, ln, pp]; omega) (by simp only [jl_len, ln, pp]; omega), jl_at (by simp only [jl_len, ln, pp]; omega) (by simp only [jl_len, ln, pp]; omega), jl_at (by simp only [jl_len, ln, pp]; omega) (by simp only [jl_len, ln, pp]; omega)]
 have m0 : d'.m (pp d.n f 0) = (pp (d.n + 1) g 2) := by rw [e _ (by unfold pp; omega), if_neg (by unfold pp; omega), if_neg (by unfold pp; omega), if_neg (by unfold pp; omega), if_neg (by unfold pp; omega), if_neg (by unfold pp; omega), if_neg (by unfold pp; omega), if_neg (by unfold pp; omega), if_neg (by unfold pp; omega), l0]
 have m1 : d'.m (pp d.n f 1) = (pp (d.n + 1) g 1) := by rw [e _ (by unfold pp; omega), if_neg (by unfold pp; omega), if_neg (by unfold pp; omega), if_neg (by unfold pp; omega), if_neg (by unfold pp; omega), if_neg (by unfold pp; omega), if_neg (by unfold pp; omega), if_neg (by unfold pp; omega), if_neg (by unfold pp; omega), l1]
 have v2 : d'.m (pp d.n f 2) = (d.m y) := by rw [e _ (by unfold pp; omega), if_neg (by unfold pp; omega), if_neg (by unfold pp; omega), if_neg (by unfold pp; omega), if_neg (by unfold pp; omega), if_neg (by unfold pp; omega), if_pos rfl]
 have v0 : d'.m (pp (d.n + 1) g 0) = y := by rw [e _ (by unfold pp; omega), if_neg (by unfold pp; omega), if_neg (by unfold pp; omega), if_neg (by unfold pp; omega), if_neg (by unfold pp; omega), if_neg (by unfold pp; omega), if_neg (by unfold pp; omega), if_pos rfl]
 have v3 : d'.m (pp d.n f 3) = x := by rw [e _ (by unfold pp; omega), if_neg (by unfold pp; omega), if_neg (by unfold pp; omega), if_pos rfl]
 have w3 : d'.m (pp (d.n + 1) g 3) = (d.m x) := by rw [e _ (by unfold pp; omega), if_neg (by unfold pp; omega), if_pos rfl]
 have old : ∀ z, z < 4 * d.n → z ≠ x → z ≠ d.m x → z ≠ y → z ≠ d.m y → d'.m z = d.m z := fun z hz z1 z2 z3 z4 => by rw [e z (by omega), if_neg z2, if_neg (by unfold pp; omega), if_neg (by unfold pp; omega), if_neg z1, if_neg z4, if_neg (by unfold pp; omega), if_neg (by unfold pp; omega), if_neg z3, lo z hz]
 exact (show In d d' f g from ⟨K.n, hv, m0, m1⟩).edges hw hx hy xy xm v2 v0 v3 w3 old
theorem Pd.out_self0 (hd : Valid d) (K : Pd d d' f g fx fy) (hv : Valid d') (hl : d'.mt = jl (jl (pkL0 d f g) (pp (d.n + 1) g 3) (pp (d.n + 1) g 0)) (pp d.n f 2) (pp d.n f 3)) : Out d d' f g 0 1 := by
 have hw := (Valid.iff.1 hd).1
 have hw' := (Valid.iff.1 hv).1
 obtain ⟨ln, l0, l1, lo⟩ := K.l0 hd
 have e : ∀ z, z < 4 * (d.n + 2) → d'.m z = if z = (pp d.n f 3) then (pp d.n f 2) else if z = (pp d.n f 2) then (pp d.n f 3) else if z = (pp (d.n + 1) g 0) then (pp (d.n + 1) g 3) else if z = (pp (d.n + 1) g 3) then (pp (d.n + 1) g 0) else (pkL0 d f g).getD z 0 := fun z hz => by
  rw [← dg_m hw' (by rw [K.n]; exact hz), hl, jl_at (by simp only [jl_len, ln, pp]; omega) (by simp only [jl_len, ln, pp]; omega), jl_at (by simp only [jl_len, ln, pp]; omega) (by simp only [jl_len, ln, pp]; omega)]
 have m0 : d'.m (pp d.n f 0) = (pp (d.n + 1) g 2) := by rw [e _ (by unfold pp; omega), if_neg (by unfold pp; omega), if_neg (by unfold pp; omega), if_neg (by unfold pp; omega), if_neg (by unfold pp; omega), l0]
 have m1 : d'.m (pp d.n f 1) = (pp (d.n + 1) g 1) := by rw [e _ (by unfold pp; omega), if_neg (by unfold pp; omega), if_neg (by unfold pp; omega), if_neg (by unfold pp; omega), if_neg (by unfold pp; omega), l1]
 have v2 : d'.m (pp d.n f 2) = (pp d.n f 3) := by rw [e _ (by unfold pp; omega), if_neg (by unfold pp; omega), if_pos rfl]
 have v0 : d'.m (pp (d.n + 1) g 0) = (pp (d.n + 1) g 3) := by rw [e _ (by unfold pp; omega), if_neg (by unfold pp; omega), if_neg (by unfold pp; omega), if_pos rfl]
 have v3 : d'.m (pp d.n f 3) = (pp d.n f 2) := by rw [e _ (by unfold pp; omega), if_pos rfl]
 have w3 : d'.m (pp (d.n + 1) g 3) = (pp (d.n + 1) g 0) := by rw [e _ (by unfold pp; omega), if_neg (by unfold pp; omega), if_neg (by unfold pp; omega), if_neg (by unfold pp; omega), if_pos rfl]
 have old : ∀ z, z < 4 * d.n → d'.m z = d.m z := fun z hz => by rw [e z (by omega), if_neg (by unfold pp; omega), if_neg (by unfold pp; omega), if_neg (by unfold pp; omega), if_neg (by unfold pp; omega), lo z hz]
 exact (show In d d' f g from ⟨K.n, hv, m0, m1⟩).self0 v2 v0 old
theorem Pd.out_self1 (hd : Valid d) (K : Pd d d' f g fx fy) (hv : Valid d') {x : Nat} (hx : x < 4 * d.n) (hl : d'.mt = jl (jl (jl (pkL0 d f g) x (pp d.n f 3)) (pp (d.n + 1) g 3) (pp (d.n + 1) g 0)) (pp d.n f 2) (d.m x)) : Out d d' f g 0 0 := by
 have hw := (Valid.iff.1 hd).1
 have hw' := (Valid.iff.1 hv).1
 obtain ⟨ln, l0, l1, lo⟩ := K.l0 hd
 have hmx := hw.lt x hx
 have hnex := hw.ne x hx
 have e : ∀ z, z < 4 * (d.n + 2) → d'.m z = if z = (d.m x) then (pp d.n f 2) else if z = (pp d.n f 2) then (d.m x) else if z = (pp (d.n + 1) g 0) then (pp (d.n + 1) g 3) else if z = (pp (d.n + 1) g 3) then (pp (d.n + 1) g 0) else if z = (pp d.n f 3) then x else if z = x then (pp d.n f 3) else (pkL0 d f g).getD z 0 := fun z hz => by
  rw [← dg_m hw' (by rw [K.n]; exact hz), hl, jl_at (by simp only [jl_len, ln, pp]; omega) (by simp only [jl_len, ln, pp]; omega), jl_at (by simp only [jl_len, ln, pp]; omega) (by simp only [jl_len, ln, pp]; omega), jl_at (by simp only [jl_len, ln, pp]; omega) (by simp only [jl_len, ln, pp]; omega)]
 have m0 : d'.m (pp d.n f 0) = (pp (d.n + 1) g 2) := by rw [e _ (by unfold pp; omega), if_neg (by unfold pp; omega), if_neg (by unfold pp; omega), if_neg (by unfold pp; omega), if_neg (by unfold pp; omega), if_neg (by unfold pp; omega), if_neg (by unfold pp; omega), l0]
 have m1 : d'.m (pp d.n f 1) = (pp (d.n + 1) g 1) := by rw [e _ (by unfold pp; omega), if_neg (by unfold pp; omega), if_neg (by unfold pp; omega), if_neg (by unfold pp; omega), if_neg (by unfold pp; omega), if_neg (by unfold pp; omega), if_neg (by unfold pp; omega), l1]
 have v2 : d'.m (pp d.n f 2) = (d.m x) := by rw [e _ (by unfold pp; omega), if_neg (by unfold pp; omega), if_pos rfl]
 have v0 : d'.m (pp (d.n + 1) g 0) = (pp (d.n + 1) g 3) := by rw [e _ (by unfold pp; omega), if_neg (by unfold pp; omega), if_neg (by unfold pp; omega), if_pos rfl]
 have v3 : d'.m (pp d.n f 3) = x := by rw [e _ (by unfold pp; omega), if_neg (by unfold pp; omega), if_neg (by unfold pp; omega), if_neg (by unfold pp; omega), if_neg (by unfold pp; omega), if_pos rfl]
 have w3 : d'.m (pp (d.n + 1) g 3) = (pp (d.n + 1) g 0) := by rw [e _ (by unfold pp; omega), if_neg (by unfold pp; omega), if_neg (by unfold pp; omega), if_neg (by unfold pp; omega), if_pos rfl]
 have old : ∀ z, z < 4 * d.n → z ≠ x → z ≠ d.m x → d'.m z = d.m z := fun z hz z1 z2 => by rw [e z (by omega), if_neg z2, if_neg (by unfold pp; omega), if_neg (by unfold pp; omega), if_neg (by unfold pp; omega), if_neg (by unfold pp; omega), if_neg z1, lo z hz]
 exact (show In d d' f g from ⟨K.n, hv, m0, m1⟩).self1 hw hx v2 v0 v3 old
theorem Pd.out_self2 (hd : Valid d) (K : Pd d d' f g fx fy) (hv : Valid d') {x : Nat} (hx : x < 4 * d.n) (hl : d'.mt = jl (jl (jl (pkL0 d f g) x (pp (d.n + 1) g 0)) (pp d.n f 2) (pp d.n f 3)) (pp (d.n + 1) g 3) (d.m x)) : Out d d' f g 0 0 := by
 have hw := (Valid.iff.1 hd).1
 have hw' := (Valid.iff.1 hv).1
 obtain ⟨ln, l0, l1, lo⟩ := K.l0 hd
 have hmx := hw.lt x hx
 have hnex := hw.ne x hx
 have e : ∀ z, z < 4 * (d.n + 2) → d'.m z = if z = (d.m x) then (pp (d.n + 1) g 3) else if z = (pp (d.n + 1) g 3) then (d.m x) else if z = (pp d.n f 3) then (pp d.n f 2) else if z = (pp d.n f 2) then (pp d.n f 3) else if z = (pp (d.n + 1) g 0) then x else if z = x then (pp (d.n + 1) g 0) else (pkL0 d f g).getD z 0 := fun z hz => by
  rw [← dg_m hw' (by rw [K.n]; exact hz), hl, jl_at (by simp only [jl_len, ln, pp]; omega) (by simp only [jl_len, ln, pp]; omega), jl_at (by simp only [jl_len, ln, pp]; omega) (by simp only [jl_len, ln, pp]; omega), jl_at (by simp only [jl_len, ln, pp]; omega) (by simp only [jl_len, ln, pp]; omega)]
 have m0 : d'.m (pp d.n f 0) = (pp (d.n + 1) g 2) := by rw [e _ (by unfold pp; omega), if_neg (by unfold pp; omega), if_neg (by unfold pp; omega), if_neg (by unfold pp; omega), if_neg (by unfold pp; omega), if_neg (by unfold pp; omega), if_neg (by unfold pp; omega), l0]
 have m1 : d'.m (pp d.n f 1) = (pp (d.n + 1) g 1) := by rw [e _ (by unfold pp; omega), if_neg (by unfold pp; omega), if_neg (by unfold pp; omega), if_neg (by unfold pp; omega), if_neg (by unfold pp; omega), if_neg (by unfold pp; omega), if_neg (by unfold pp; omega), l1]
 have v2 : d'.m (pp d.n f 2) = (pp d.n f 3) := by rw [e _ (by unfold pp; omega), if_neg (by unfold pp; omega), if_neg (by unfold pp; omega), if_neg (by unfold pp; omega), if_pos rfl]
 have v0 : d'.m (pp (d.n + 1) g 0) = x := by rw [e _ (by unfold pp; omega), if_neg (by unfold pp; omega), if_neg (by unfold pp; omega), if_neg (by unfold pp; omega), if_neg (by unfold pp; omega), if_pos rfl]
 have v3 : d'.m (pp d.n f 3) = (pp d.n f 2) := by rw [e _ (by unfold pp; omega), if_neg (by unfold pp; omega), if_neg (by unfold pp; omega), if_pos rfl]
 have w3 : d'.m (pp (d.n + 1) g 3) = (d.m x) := by rw [e _ (by unfold pp; omega), if_neg (by unfold pp; omega), if_pos rfl]
 have old : ∀ z, z < 4 * d.n → z ≠ x → z ≠ d.m x → d'.m z = d.m z := fun z hz z1 z2 => by rw [e z (by omega), if_neg z2, if_neg (by unfold pp; omega), if_neg (by unfold pp; omega), if_neg (by unfold pp; omega), if_neg (by unfold pp; omega), if_neg z1, lo z hz]
 exact (show In d d' f g from ⟨K.n, hv, m0, m1⟩).self2 hw hx v2 v0 w3 old
end
end Go.Proofs.YtlffopdoeobgaaaGreatDoor.Pl
end
section
namespace Go.Proofs.YtlffopdoeobgaaaGreatDoor
open Go Go.RowKit
theorem apC_zero {d : Pl.Dg} {m : Mv} (h : apC d m = 0) : (1 ≤ m.kind ∧ m.kind ≤ 5) ∧ inR d.n m ∧
 (if m.kind = 1 then curlableC d m.x else if m.kind = 2 then uncC d m.x.toNat else if m.kind = 3 then pkQ d m.x m.y m.sign else if m.kind = 4 then unpC d m.x.toNat m.y.toNat else sldC d m.x.toNat) = 0 := by
 unfold apC at h
 by_cases hk : m.kind < 1 ∨ 5 < m.kind
 ·rw [if_pos hk] at h; exact absurd h (by decide)
 ·rw [if_neg hk] at h
  by_cases hv : Pl.vb (inR d.n m) = false
  ·rw [if_pos hv] at h; exact absurd h (by decide)
  ·rw [if_neg hv] at h
   exact ⟨by omega, Pl.vb_iff.1 (by simpa using hv), h⟩
theorem crl_ok {d : Pl.Dg} (hd : Pl.Valid d) {x s : Int} {ov : Bool} (hx : -1 ≤ x ∧ x < 4 * d.n) (hs : s = 1 ∨ s = -1) (h : curlableC d x = 0) : Pl.Valid (crl d x s ov) ∧ Pl.Same d (crl d x s ov) := by
 unfold curlableC at h
 obtain ⟨a1, a2, a3, a4, n1, n2, n3, n4, n5, n6⟩ := (kq d.n s ov hs).bd
 have hl := hd.wf.len
 by_cases hx0 : x < 0
 ·rw [if_pos hx0] at h
  have hlp : ¬ d.lp = 0 := fun e => by rw [if_pos e] at h; exact absurd h (by decide)
  rw [if_neg hlp] at h
  have hn : d.n + 1 ≤ 64 := Nat.le_of_not_lt fun e => by unfold fullC at h; rw [if_pos e] at h; exact absurd h (by decide)
  have hv := crl_loop hd (x := x) (ov := ov) hs hn hx0
  have hm := crl_mloop hd.wf (x := x) (ov := ov) hs hx0
  refine ⟨hv, Pl.Kd.same0 hd hv (crl_kd hd.wf hs hn ?_ ?_) (fun h hh => ?_) ?_ ?_⟩
  ·rw [hm, if_neg (Ne.symm n1), if_neg n5, if_neg n4, if_pos rfl]
  ·rw [hm, if_neg (Ne.symm n2), if_neg n6, if_pos rfl]
  ·rw [hm, if_neg (by omega), if_neg (by omega), if_neg (by omega), if_neg (by omega), app_m (by omega)]; rfl
  ·rw [hm, if_pos rfl]
  ·show d.lp = (if x < 0 then d.lp - 1 else d.lp) + 1
   rw [if_pos hx0]; omega
 ·rw [if_neg hx0] at h
  obtain ⟨k, rfl⟩ := Int.eq_ofNat_of_zero_le (Int.not_lt.1 hx0)
  have hk : k < 4 * d.n := by omega
  rw [Int.toNat_natCast] at h
  by_cases ho : Pl.out d k = true
  ·rw [if_pos ho] at h
   have hn : d.n + 1 ≤ 64 := Nat.le_of_not_lt fun e => by unfold fullC at h; rw [if_pos e] at h; exact absurd h (by decide)
   have hv := crl_edge hd (ov := ov) hs hn hk ho
   have hy := hd.wf.lt k hk
   have hne := hd.wf.ne k hk
   have e : (crl d (k : Int) s ov).mt = jn (jn (jn (d.mt ++ List.replicate 4 0) (kO0 d.n s ov) (kI1 d.n s ov)) (kO1 d.n s ov) (d.m k)) k (kI0 d.n s ov) := by
    unfold crl; simp only [if_neg (show ¬ ((k : Int) < 0) by omega), Int.toNat_natCast]
   have hm : ∀ z, (crl d (k : Int) s ov).m z = if z = kI0 d.n s ov then k else if z = k then kI0 d.n s ov else if z = d.m k then kO1 d.n s ov else if z = kO1 d.n s ov then d.m k else if z = kI1 d.n s ov then kO0 d.n s ov else if z = kO0 d.n s ov then kI1 d.n s ov else (d.mt ++ List.replicate 4 0).getD z z := fun z => by
    show (crl d (k : Int) s ov).mt.getD z z = _
    rw [e, jn_m _ _ _ _ _ (by rw [jn_len, jn_len]; simp; omega) (by rw [jn_len, jn_len]; simp; omega), jn_m _ _ _ _ _ (by rw [jn_len]; simp; omega) (by rw [jn_len]; simp; omega), jn_m _ _ _ _ _ (by simp; omega) (by simp; omega)]
   refine ⟨hv, Pl.Kd.same hd hv (crl_kd hd.wf hs hn ?_ ?_) hk (fun h hh h1 h2 => ?_) ?_ ?_ ?_ ?_ ?_⟩
   ·rw [hm, if_neg (Ne.symm n1), if_neg (by omega), if_neg (by omega), if_neg n5, if_neg n4, if_pos rfl]
   ·rw [hm, if_neg (Ne.symm n2), if_neg (by omega), if_neg (by omega), if_neg n6, if_pos rfl]
   ·rw [hm, if_neg (by omega), if_neg h1, if_neg h2, if_neg (by omega), if_neg (by omega), if_neg (by omega), app_m (by omega)]; rfl
   ·rw [hm, if_neg (Ne.symm n3), if_neg (by omega), if_neg (by omega), if_pos rfl]
   ·rw [hm, if_neg (by omega), if_neg hne, if_pos rfl]
   ·rw [hm, if_neg (by omega), if_pos rfl]
   ·rw [hm, if_pos rfl]
   ·show d.lp = if (k : Int) < 0 then d.lp - 1 else d.lp
    rw [if_neg (by omega)]
  ·rw [if_neg ho] at h; exact absurd h (by decide)
theorem kk_div (d : Pl.Dg) (c : Nat) : kk d c / 4 = c := by unfold kk; split <;> (try split) <;> omega
theorem jn_jl (l : List Nat) (a b : Nat) : jn l a b = Pl.jl l a b := rfl
theorem unD_ok {d : Pl.Dg} (hd : Pl.Valid d) {c : Nat} (hc : c < d.n) (h : uncC d c = 0) : Pl.Valid (unD d c) ∧ Pl.Same d (unD d c) := by
 have hw := hd.wf
 have ho := kk_lt hc
 have hod := kk_div d c
 unfold uncC at h
 by_cases hk : d.m (kk d c) / 4 = c
 ·rw [if_pos hk] at h
  have hk2 : d.m (kk d c) / 4 = kk d c / 4 := by rw [hod, hk]
  unfold unD unM
  by_cases hn : d.m (kA d c) = kB d c
  ·rw [if_pos hn] at h
   have hl : d.lp + 1 ≤ 64 := Nat.le_of_not_lt fun e => by rw [if_pos e] at h; exact absurd h (by decide)
   rw [if_pos hn, if_pos hn]
   have v := Pl.kink_valid0 hd ho hk2 hn hl
   have s := Pl.kink_same0 hd ho hk2 hn hl rfl
   rw [hod] at v s
   exact ⟨v, s⟩
  ·rw [if_neg hn, if_neg hn]
   have hA := kA_lt hc
   have hB := kB_lt hw hc
   have nAB : d.m (kA d c) ≠ d.m (kB d c) := fun e => hw.ne _ ho (Pl.tn_inj (hw.bij.inj _ _ hA hB e).symm)
   have hmt : ∀ z, z < 4 * d.n → (jn d.mt (d.m (kA d c)) (d.m (kB d c))).getD z 0 = if z = d.m (kA d c) then d.m (kB d c) else if z = d.m (kB d c) then d.m (kA d c) else d.m z := fun z hz => by
    rw [jn_jl, Pl.jl_at (by rw [hw.len]; exact hw.lt _ hA) (by rw [hw.len]; exact hw.lt _ hB), Pl.dg_m hw hz]
    by_cases z1 : z = d.m (kB d c)
    ·rw [if_pos z1, if_neg (fun e => nAB (e.symm.trans z1)), if_pos z1]
    ·rw [if_neg z1, if_neg z1]
   have v := Pl.kink_valid hd ho hk2 hn hw.lp hmt
   have s := Pl.kink_same hd ho hk2 hn hw.lp rfl hmt
   rw [hod] at v s
   exact ⟨v, s⟩
 ·rw [if_neg hk] at h; exact absurd h (by decide)
theorem lens_lens {d : Pl.Dg} (hd : Pl.Wf d) {x y i : Nat} (hxy : x < y) (hy : y < d.n) (h : lensI d x y = some i) :
 Pl.Lens d (lnH x y i) (d.m (lnH x y i)) ∧ ((x = lnH x y i / 4 ∧ y = d.m (lnH x y i) / 4) ∨ (x = d.m (lnH x y i) / 4 ∧ y = lnH x y i / 4)) ∧ Pl.nx d (lnH x y i) = Pl.tn (d.m (lnH x y i)) 3 ∧ d.m (Pl.tn (d.m (lnH x y i)) 3) = Pl.tn (lnH x y i) 1 := by
 obtain ⟨h1, h2, h3⟩ := lens_is h
 have hi := lens_lt h
 have hl : lnH x y i < 4 * d.n := by unfold lnH; split <;> omega
 have hu := hd.lt _ hl
 have e1 : d.m (Pl.tn (d.m (lnH x y i)) 3) = Pl.tn (lnH x y i) 1 := by
  unfold Pl.nx at h2
  unfold Pl.tn at h2 ⊢
  omega
 have e2 : Pl.nx d (lnH x y i) / 4 = d.m (lnH x y i) / 4 := by unfold Pl.nx; rw [Pl.tn_div]
 have e3 : lnH x y i / 4 = if i < 4 then x else y := by unfold lnH; split <;> omega
 rw [e2] at h1
 unfold lnO at h1
 have hp : (x = lnH x y i / 4 ∧ y = d.m (lnH x y i) / 4) ∨ (x = d.m (lnH x y i) / 4 ∧ y = lnH x y i / 4) := by
  by_cases h4 : i < 4
  ·rw [if_pos h4] at h1 e3; exact .inl ⟨e3.symm, h1.symm⟩
  ·rw [if_neg h4] at h1 e3; exact .inr ⟨h1.symm, e3.symm⟩
 refine ⟨⟨hl, rfl, by rw [← e1, hd.inv _ (Pl.tn_lt hu)], fun e => ?_⟩, hp, rfl, e1⟩
 rcases hp with ⟨a, b⟩ | ⟨a, b⟩ <;> omega
theorem unp_at {d : Pl.Dg} (hd : Pl.Valid d) {h u : Nat} (L : Pl.Lens d h u) (l : Ln) (e2 : l.p2 = Pl.tn h 2) (e3 : l.p3 = Pl.tn h 3) (f0 : l.q0 = Pl.tn u 2) (f3 : l.q3 = Pl.tn u 1) :
 unpL d l = d.lp + (if d.m (Pl.tn h 2) = Pl.tn u 2 then 1 else 0) + (if Pl.lA d h u (Pl.tn h 3) = Pl.tn u 1 then 1 else 0) ∧
 ∀ z, z < 4 * d.n → z / 4 ≠ h / 4 → z / 4 ≠ u / 4 → (unpB d l).getD z 0 = Pl.lB d h u z := by
 have hw := hd.wf
 have hh := L.hh
 have hu := L.hu hw
 have A := L.la hd
 have E := L.ne
 have hA : Pl.tn h 2 < 4 * d.n := Pl.tn_lt hh
 have hB : Pl.tn u 2 < 4 * d.n := Pl.tn_lt hu
 have h3 : Pl.tn h 3 < 4 * d.n := Pl.tn_lt hh
 have u1 : Pl.tn u 1 < 4 * d.n := Pl.tn_lt hu
 have al : ∀ z, z < 4 * d.n → z ≠ Pl.tn h 2 → z ≠ Pl.tn u 2 → (unpA d l).getD z 0 = Pl.lA d h u z := fun z hz z1 z2 => by
  unfold unpA
  rw [e2, f0, Pl.dg_m hw hA, Pl.dg_m hw hB]
  by_cases c : d.m (Pl.tn h 2) = Pl.tn u 2
  ·rw [if_pos c, Pl.Lens.lA_c c, Pl.dg_m hw hz]
  ·rw [if_neg c, jn_jl, Pl.jl_at (by rw [hw.len]; exact hw.lt _ hA) (by rw [hw.len]; exact hw.lt _ hB), Pl.dg_m hw hz]
   obtain ⟨b1, b2, b3⟩ := L.lA_e hw c
   by_cases z4 : z = d.m (Pl.tn u 2)
   ·rw [if_pos z4, z4, b2]
   ·rw [if_neg z4]
    by_cases z3 : z = d.m (Pl.tn h 2)
    ·rw [if_pos z3, z3, b1]
    ·rw [if_neg z3, b3 z z1 z2 z3 z4]
 have alen : (unpA d l).length = 4 * d.n := by unfold unpA; split <;> simp [jn_len, hw.len]
 have a3 := al (Pl.tn h 3) h3 (Pl.tn_ne (by omega)) (Pl.pm E)
 have a1 := al (Pl.tn u 1) u1 (Ne.symm (Pl.pm E)) (Pl.tn_ne (by omega))
 constructor
 ·unfold unpL
  rw [e2, f0, e3, f3, Pl.dg_m hw hA, a3]
 ·intro z hz n1 n2
  have z0 : ∀ k, z ≠ Pl.tn h k := fun k e => n1 (by rw [e, Pl.tn_div])
  have z1 : ∀ k, z ≠ Pl.tn u k := fun k e => n2 (by rw [e, Pl.tn_div])
  unfold unpB
  rw [e3, f3, a3, a1]
  by_cases c : Pl.lA d h u (Pl.tn h 3) = Pl.tn u 1
  ·rw [if_pos c, Pl.Lens.lB_c c, al z hz (z0 2) (z1 2)]
  ·rw [if_neg c, jn_jl, Pl.jl_at (by rw [alen]; exact A.hm.ab.maps _ h3) (by rw [alen]; exact A.hm.ab.maps _ u1), al z hz (z0 2) (z1 2)]
   obtain ⟨b1, b2, b3⟩ := L.lB_e hd c
   by_cases z4 : z = Pl.lA d h u (Pl.tn u 1)
   ·rw [if_pos z4, z4, b2]
   ·rw [if_neg z4]
    by_cases z3 : z = Pl.lA d h u (Pl.tn h 3)
    ·rw [if_pos z3, z3, b1]
    ·rw [if_neg z3, b3 z (z0 3) (z1 1) z3 z4]
theorem unpD_ok {d : Pl.Dg} (hd : Pl.Valid d) {x y : Nat} (hxy : x < y) (hy : y < d.n) (h : unpC d x y = 0) : Pl.Valid (unpD d x y) ∧ Pl.Same d (unpD d x y) := by
 unfold unpC at h
 unfold unpD
 cases hL : lensI d x y with
 | none => rw [hL] at h; exact absurd (show (6 : Int) = 0 from h) (by decide)
 | some i =>
   rw [hL] at h
   have h' : (if 64 < unpL d (lensOf d (lnH x y i)) then (5 : Int) else 0) = 0 := h
   have hl : unpL d (lensOf d (lnH x y i)) ≤ 64 := Nat.le_of_not_lt fun e => by rw [if_pos e] at h'; exact absurd h' (by decide)
   obtain ⟨L, hp, e1, e2⟩ := lens_lens hd.wf hxy hy hL
   obtain ⟨g1, g2⟩ := unp_at hd L (lensOf d (lnH x y i)) rfl (by show Pl.tn (d.m (Pl.nx d (lnH x y i))) 2 = _; rw [e1, e2]; exact Pl.tn12 _) rfl (by show Pl.tn (Pl.nx d (lnH x y i)) 2 = _; rw [e1]; exact Pl.tn32 _)
   have hmt : ∀ z, Pl.stay d [x, y] z → (unpB d (lensOf d (lnH x y i))).getD z 0 = Pl.lB d (lnH x y i) (d.m (lnH x y i)) z := fun z hz => by
    have hz2 : ¬ (z / 4 = x ∨ z / 4 = y) := by have := hz.2; simpa using this
    refine g2 z hz.1 ?_ ?_ <;> rcases hp with ⟨a, b⟩ | ⟨a, b⟩ <;> omega
   exact ⟨L.valid hd hxy hp hl hmt, L.same hd hxy hp hl g1 hmt⟩
theorem sldD_ok {d : Pl.Dg} (hd : Pl.Valid d) {h : Nat} (hh : h < 4 * d.n) (hi : is3 d h) : Pl.Valid (sldD d h) ∧ Pl.Same d (sldD d h) :=
 have hw := (Pl.Valid.iff.1 hd).1
 ⟨sld_valid hd hh hi, (tr_of hh hi).same hd rfl rfl (sF_len hw h 3) (sld_m hw hh hi)⟩
end Go.Proofs.YtlffopdoeobgaaaGreatDoor
end
