/-
 The texts Cmq, Cmk, Q, Row, Grow, Wd, We, Wg, Wh, Wb, Wc, Val, Wj, Wk, Wl, Slt, Wi.
-/
import Derived.Test.YtghdiolnonejaaaGreatDoorA01
import Derived.Deep.AppendLies
import Derived.Deep.RegionLaw
import Derived.Maps.AppendAt
import Derived.Test.YtghdiolnonejaaaGreatDoorShelf
set_option linter.unusedVariables false
set_option linter.unusedSimpArgs false
section
namespace Go.Proofs.YtghdiolnonejaaaGreatDoor.Pl
variable {d d':Dg}
theorem Kq.opp {n i0 o0 i1 o1:Nat} (k:Kq n i0 o0 i1 o1):tn o0 2 = i0 ∧ tn i1 2 = o1 ∧ o0 / 4 = n ∧ i1 / 4 = n := by
 have:=k.bd
 unfold Kq at k
 unfold tn
 omega
theorem kd_stay (n:d'.n = d.n + 1) (z:Nat):stay d' [d.n] z ↔ z < 4 * d.n := by
 unfold stay
 rw [List.mem_singleton,n]
 omega
theorem Kd.same0 (hd:Valid d) (hd':Valid d') {i0 o0 i1 o1:Nat} (K:Kd d d' i0 o0 i1 o1) (mo:∀ h,h < 4 * d.n → d'.m h = d.m h) (m4:d'.m i0 = o1) (hlp:d.lp = d'.lp + 1):Same d d' := by
 intro s s' h h'
 have hw:=(Valid.iff.1 hd).1
 have hw':=(Valid.iff.1 hd').1
 obtain ⟨q1,q2,q3,q4⟩:=K.k.opp
 obtain ⟨a1,a2,a3,a4,n1,n2,n3,n4,n5,n6⟩:=K.k.bd
 have ho:o0 < 4 * d'.n:=by rw [K.n]; exact a2.2
 have hk:d'.m o0 / 4 = o0 / 4:=by rw [K.m1,q4,q3]
 have hn:d'.m (tn o0 2) = tn (d'.m o0) 2:=by rw [q1,m4,K.m1,q2]
 have R:=kink_rs0 hd' ho hk hn (lp := 0) (by omega)
 have hg:=kink_cls0 hd' ho hk hn
 rw [q3] at R hg
 have:=in_same hw hw' R (kd_stay K.n) mo (h'.all hw') hg h
 omega
theorem Kd.same (hd:Valid d) (hd':Valid d') {i0 o0 i1 o1 x:Nat} (K:Kd d d' i0 o0 i1 o1) (hx:x < 4 * d.n) (mo:∀ h,h < 4 * d.n → h ≠ x → h ≠ d.m x → d'.m h = d.m h)
 (m3:d'.m o1 = d.m x) (m4:d'.m (d.m x) = o1) (m5:d'.m x = i0) (m6:d'.m i0 = x) (hlp:d.lp = d'.lp):Same d d' := by
 intro s s' h h'
 have hw:=(Valid.iff.1 hd).1
 have hw':=(Valid.iff.1 hd').1
 obtain ⟨q1,q2,q3,q4⟩:=K.k.opp
 obtain ⟨a1,a2,a3,a4,n1,n2,n3,n4,n5,n6⟩:=K.k.bd
 have ho:o0 < 4 * d'.n:=by rw [K.n]; exact a2.2
 have hi0:i0 < 4 * d'.n:=by rw [K.n]; exact a1.2
 have ho1:o1 < 4 * d'.n:=by rw [K.n]; exact a4.2
 have hk:d'.m o0 / 4 = o0 / 4:=by rw [K.m1,q4,q3]
 have hn:d'.m (tn o0 2) ≠ tn (d'.m o0) 2:=by rw [q1,m6,K.m1,q2]; omega
 obtain ⟨c1,c2⟩:=kink_cls hd' ho hk hn (h'.all hw')
 have R:=kink_rs hd' ho hk hn (lp := 0) (by omega) (mt := List.ofFn (n := 4 * d'.n) (fun h => if h.1 = d'.m (tn o0 2) then d'.m (tn (d'.m o0) 2) else if h.1 = d'.m (tn (d'.m o0) 2) then d'.m (tn o0 2) else d'.m h.1)) (fun h hh => by
  rw [List.getD_eq_getElem?_getD,List.getElem?_ofFn,dif_pos hh]; rfl)
 have hnb:d'.m o1 ≠ i0:=by rw [m3]; have := hw.lt x hx; omega
 obtain ⟨b1,b2,b3,b4,b5⟩:=byp_at hw'.hm ho1 hi0 (Ne.symm n3) (hw'.ne _ ho1) (hw'.ne _ hi0) hnb
 rw [K.m1,q1,q2] at c1
 rw [K.m1,q1,q2,q3] at c2 R
 have:=in_same hw hw' R (kd_stay K.n) (fun z hz => ?_) c1 c2 h
 ·omega
 ·by_cases z1:z = x
  ·rw [z1]; rw [m6] at b4; rw [b4,m3]
  ·by_cases z2:z = d.m x
   ·rw [z2]; rw [m3] at b3; rw [b3,m6,hw.inv x hx]
   ·rw [b5 z (by omega) (by omega) (by rw [m3]; exact z2) (by rw [m6]; exact z1),mo z hz z1 z2]
theorem slide_cls {n:Nat} {a t:Nat → Nat} (hm:Hm (4 * n) (fun h => h < 4 * n) rot a) (hm':Hm (4 * n) (fun h => h < 4 * n) rot (cj t a)) (D:Nat → Prop) (Q:Nat → Nat → Nat → Nat → Prop)
 (q:∀ u h p v,Q u h p v → op u = h ∧ op p = v ∧ a h = p ∧ t u = p ∧ t h = v ∧ t p = u ∧ t v = h ∧ D u ∧ D v ∧ ¬ D h ∧ ¬ D p ∧ h < 4 * n ∧ p < 4 * n)
 (dS:∀ x,D x → x < 4 * n) (da:∀ x,D x → D (a x)) (din:∀ x,x < 4 * n → ¬ D x → ∃ u h p v,Q u h p v ∧ (x = h ∨ x = p))
 (dout:∀ x,D x → (∃ u h p v,Q u h p v ∧ (x = u ∨ x = v)) ∨ (t x = x ∧ D (op x))) {k:Nat} (hk:Cls (fun h => h < 4 * n) (Orb (phi op a)) k):Cls (fun h => h < 4 * n) (Orb (phi op (cj t a))) k := by
 have hR:∀ w,D w → D (op (t w)):=by
  intro w hw
  rcases dout w hw with ⟨u,h,p,v,hq,rfl | rfl⟩ | ⟨e,hd⟩
  ·obtain ⟨e1,e2,e3,e4,e5,e6,e7,d1,d2,d3,d4,l1,l2⟩:=q _ _ _ _ hq
   rw [e4,e2]; exact d2
  ·obtain ⟨e1,e2,e3,e4,e5,e6,e7,d1,d2,d3,d4,l1,l2⟩:=q _ _ _ _ hq
   rw [e7,← e1,op_op]; exact d1
  ·rw [e]; exact hd
 -- both come back to the outer half-edges at the same one
 have fR:∀ x,D x → (phi op a x = op (t (a x))) ∨ (¬ D (phi op a x) ∧ phi op a (phi op a x) = op (t (a x))):=by
  intro x hx
  rcases dout (a x) (da x hx) with ⟨u,h,p,v,hq,e | e⟩ | ⟨e,hd⟩
  ·obtain ⟨e1,e2,e3,e4,e5,e6,e7,d1,d2,d3,d4,l1,l2⟩:=q _ _ _ _ hq
   right
   have s1:phi op a x = h:=by show op (a x) = h; rw [e,e1]
   rw [s1]
   exact ⟨d3,by show op (a h) = _; rw [e3,e2,e,e4,e2]⟩
  ·obtain ⟨e1,e2,e3,e4,e5,e6,e7,d1,d2,d3,d4,l1,l2⟩:=q _ _ _ _ hq
   right
   have s1:phi op a x = p:=by show op (a x) = p; rw [e,← e2,op_op]
   have s2:a p = h:=by rw [← e3,hm.inv _ l1]
   rw [s1]
   exact ⟨d4,by show op (a p) = _; rw [s2,e,e7]⟩
  ·left; show op (a x) = _; rw [e]
 have gR:∀ x,D x → (phi op (cj t a) x = op (t (a x))) ∨ (¬ D (phi op (cj t a) x) ∧ phi op (cj t a) (phi op (cj t a) x) = op (t (a x))):=by
  intro x hx
  rcases dout x hx with ⟨u,h,p,v,hq,rfl | rfl⟩ | ⟨e,hd⟩
  ·obtain ⟨e1,e2,e3,e4,e5,e6,e7,d1,d2,d3,d4,l1,l2⟩:=q _ _ _ _ hq
   right
   have s2:a p = h:=by rw [← e3,hm.inv _ l1]
   have s1:phi op (cj t a) x = p:=by show op (t (a (t x))) = p; rw [e4,s2,e5,← e2,op_op]
   rw [s1]
   exact ⟨d4,by show op (t (a (t p))) = _; rw [e6]⟩
  ·obtain ⟨e1,e2,e3,e4,e5,e6,e7,d1,d2,d3,d4,l1,l2⟩:=q _ _ _ _ hq
   right
   have s1:phi op (cj t a) x = h:=by show op (t (a (t x))) = h; rw [e7,e3,e6,e1]
   rw [s1]
   exact ⟨d3,by show op (t (a (t h))) = _; rw [e5]⟩
  ·left; show op (t (a (t x))) = _; rw [e]
 have fo:∀ x,D x → Orb (phi op a) x (op (t (a x))):=fun x hx => by
  rcases fR x hx with e | ⟨_,e⟩
  ·exact ⟨1,e⟩
  ·exact ⟨2,e⟩
 have go:∀ x,D x → Orb (phi op (cj t a)) x (op (t (a x))):=fun x hx => by
  rcases gR x hx with e | ⟨_,e⟩
  ·exact ⟨1,e⟩
  ·exact ⟨2,e⟩
 have fE:=hm.op.pb.eqv
 have gE:=hm'.op.pb.eqv
 have fin:∀ x,x < 4 * n → ∃ y,D y ∧ Orb (phi op a) x y:=by
  intro x hx
  by_cases hD:D x
  ·exact ⟨x,hD,Orb.refl _ _⟩
  ·obtain ⟨u,h,p,v,hq,rfl | rfl⟩:=din x hx hD
   ·obtain ⟨e1,e2,e3,e4,e5,e6,e7,d1,d2,d3,d4,l1,l2⟩:=q _ _ _ _ hq
    exact ⟨v,d2,⟨1,by show op (a x) = v; rw [e3,e2]⟩⟩
   ·obtain ⟨e1,e2,e3,e4,e5,e6,e7,d1,d2,d3,d4,l1,l2⟩:=q _ _ _ _ hq
    have s2:a x = h:=by rw [← e3,hm.inv _ l1]
    exact ⟨u,d1,⟨1,by show op (a x) = u; rw [s2,← e1,op_op]⟩⟩
 have gin:∀ x,x < 4 * n → ∃ y,D y ∧ Orb (phi op (cj t a)) x y:=by
  intro x hx
  by_cases hD:D x
  ·exact ⟨x,hD,Orb.refl _ _⟩
  ·obtain ⟨u,h,p,v,hq,rfl | rfl⟩:=din x hx hD
   ·obtain ⟨e1,e2,e3,e4,e5,e6,e7,d1,d2,d3,d4,l1,l2⟩:=q _ _ _ _ hq
    exact ⟨_,hR _ (da _ d2),⟨1,by show op (t (a (t x))) = _; rw [e5]⟩⟩
   ·obtain ⟨e1,e2,e3,e4,e5,e6,e7,d1,d2,d3,d4,l1,l2⟩:=q _ _ _ _ hq
    exact ⟨_,hR _ (da _ d1),⟨1,by show op (t (a (t x))) = _; rw [e6]⟩⟩
 have h1:=hk.sub (D := D) dS fin
 have h2:Cls D (Orb (phi op (cj t a))) k:=Cls.congr h1 (fun _ => Iff.rfl) fun x y hx hy => by
  constructor
  ·refine orb_ret (D := D) (fun x hx => ?_) hx hy
   rcases fR x hx with e | ⟨n1,e⟩
   ·left; rw [e]; exact ⟨hR _ (da x hx),go x hx⟩
   ·right; rw [e]; exact ⟨hR _ (da x hx),n1,go x hx⟩
  ·refine orb_ret (D := D) (fun x hx => ?_) hx hy
   rcases gR x hx with e | ⟨n1,e⟩
   ·left; rw [e]; exact ⟨hR _ (da x hx),fo x hx⟩
   ·right; rw [e]; exact ⟨hR _ (da x hx),n1,fo x hx⟩
 exact h2.sup gE dS gin
theorem Tr.same (hd:Valid d) {h0 h1 h2:Nat} (t:Tr d h0 h1 h2) (sg:d'.sg = d.sg) (lp:d'.lp = d.lp) (len:d'.mt.length = 4 * d.n) (hm:∀ x,x < 4 * d.n → d'.m x = cj (tu h0 h1 h2) d.m x):Same d d' := by
 intro s s' h h'
 have hv:=Valid.iff.1 hd
 have hw:=hv.1
 have hw':=(Valid.iff.1 (t.valid hd sg lp len hm)).1
 have T:=t.tri hw
 have hn:d'.n = d.n:=by unfold Dg.n; rw [sg]
 have hj:=hw.hm.cj (t := tu h0 h1 h2) T.tS (fun x _ => T.tt x)
 have hm':Hm (4 * d.n) (fun h => h < 4 * d.n) rot (cj (tu h0 h1 h2) d.m):=⟨hw.hm.rb,hj.ab,hj.inv⟩
 have o1:∀ x y z,rot x = y → rot y = z → op x = z:=fun x y z e1 e2 => by show tn x 2 = z; rw [← rot_rot,e1,e2]
 have key:=slide_cls (k := 2 * s) hw.hm hm' (Dout (dart d) h0 h1 h2 (tn h0 1) (tn h1 1) (tn h2 1))
  (fun u h p v => (u = tn h0 2 ∧ h = h0 ∧ p = tn h1 1 ∧ v = tn h1 3) ∨ (u = tn h1 2 ∧ h = h1 ∧ p = tn h2 1 ∧ v = tn h2 3) ∨ (u = tn h2 2 ∧ h = h2 ∧ p = tn h0 1 ∧ v = tn h0 3))
  (fun u h p v hq => by
    rcases hq with ⟨rfl,rfl,rfl,rfl⟩ | ⟨rfl,rfl,rfl,rfl⟩ | ⟨rfl,rfl,rfl,rfl⟩
    ·exact ⟨o1 _ _ _ T.ru0 T.rp0,o1 _ _ _ T.rp1 T.rh1,T.ah0,T.tu0,T.th0,T.tp1,T.tv1,T.du0,T.dv1,T.nh0,T.np1,T.mem _ (by simp),T.mem _ (by simp)⟩
    ·exact ⟨o1 _ _ _ T.ru1 T.rp1,o1 _ _ _ T.rp2 T.rh2,T.ah1,T.tu1,T.th1,T.tp2,T.tv2,T.du1,T.dv2,T.nh1,T.np2,T.mem _ (by simp),T.mem _ (by simp)⟩
    ·exact ⟨o1 _ _ _ T.ru2 T.rp2,o1 _ _ _ T.rp0 T.rh0,T.ah2,T.tu2,T.th2,T.tp0,T.tv0,T.du2,T.dv0,T.nh2,T.np0,T.mem _ (by simp),T.mem _ (by simp)⟩)
  (fun x hx => hx.1) (fun x hx => T.da hw.hm hx)
  (fun x hx hD => by
    have hD2:x = h0 ∨ x = h1 ∨ x = h2 ∨ x = tn h0 1 ∨ x = tn h1 1 ∨ x = tn h2 1:=by
     rw [T.out hx] at hD
     exact Classical.byContradiction fun e => hD e
    rcases hD2 with e | e | e | e | e | e
    ·exact ⟨_,_,_,_,.inl ⟨rfl,rfl,rfl,rfl⟩,.inl e⟩
    ·exact ⟨_,_,_,_,.inr (.inl ⟨rfl,rfl,rfl,rfl⟩),.inl e⟩
    ·exact ⟨_,_,_,_,.inr (.inr ⟨rfl,rfl,rfl,rfl⟩),.inl e⟩
    ·exact ⟨_,_,_,_,.inr (.inr ⟨rfl,rfl,rfl,rfl⟩),.inr e⟩
    ·exact ⟨_,_,_,_,.inl ⟨rfl,rfl,rfl,rfl⟩,.inr e⟩
    ·exact ⟨_,_,_,_,.inr (.inl ⟨rfl,rfl,rfl,rfl⟩),.inr e⟩)
  (fun x hx => by
    by_cases e:x ∈ [tn h0 2,tn h1 2,tn h2 2,tn h0 3,tn h1 3,tn h2 3]
    ·left
     simp only [List.mem_cons,List.not_mem_nil,or_false] at e
     rcases e with e | e | e | e | e | e
     ·exact ⟨_,_,_,_,.inl ⟨rfl,rfl,rfl,rfl⟩,.inl e⟩
     ·exact ⟨_,_,_,_,.inr (.inl ⟨rfl,rfl,rfl,rfl⟩),.inl e⟩
     ·exact ⟨_,_,_,_,.inr (.inr ⟨rfl,rfl,rfl,rfl⟩),.inl e⟩
     ·exact ⟨_,_,_,_,.inr (.inr ⟨rfl,rfl,rfl,rfl⟩),.inr e⟩
     ·exact ⟨_,_,_,_,.inl ⟨rfl,rfl,rfl,rfl⟩,.inr e⟩
     ·exact ⟨_,_,_,_,.inr (.inl ⟨rfl,rfl,rfl,rfl⟩),.inr e⟩
    ·right
     have hx0:=(T.out hx.1).1 hx
     have hno:x ∉ [h0,h1,h2,tn h0 1,tn h1 1,tn h2 1,tn h0 2,tn h1 2,tn h2 2,tn h0 3,tn h1 3,tn h2 3]:=fun hm => by
      simp only [List.mem_cons,List.not_mem_nil,or_false] at hm e
      rcases hm with h | h | h | h | h | h | h
      ·exact hx0 (.inl h)
      ·exact hx0 (.inr (.inl h))
      ·exact hx0 (.inr (.inr (.inl h)))
      ·exact hx0 (.inr (.inr (.inr (.inl h))))
      ·exact hx0 (.inr (.inr (.inr (.inr (.inl h)))))
      ·exact hx0 (.inr (.inr (.inr (.inr (.inr h)))))
      ·exact e h
     refine ⟨T.tx x hno,?_⟩
     have c1:=(T.cx hw.hm hx.1 hno).1
     have c2:=(T.cx hw.hm (rot_lt hx.1) c1).1
     rw [T.out (show dart d (op x) from tn_lt hx.1)]
     intro hm
     apply c2
     rw [rot_rot]
     simp only [List.mem_cons,List.not_mem_nil,or_false]
     rcases hm with h | h | h | h | h | h
     ·exact .inl h
     ·exact .inr (.inl h)
     ·exact .inr (.inr (.inl h))
     ·exact .inr (.inr (.inr (.inl h)))
     ·exact .inr (.inr (.inr (.inr (.inl h))))
     ·exact .inr (.inr (.inr (.inr (.inr (.inl h))))))
  (h.all hw)
 have e2:Cls (dart d') (Orb (st d')) (2 * s):=Cls.congr key (fun x => by unfold dart; rw [hn]) fun x y hx hy => by
  refine Orb.congr (S := fun z => z < 4 * d.n) (fun z hz => tn_lt (hm'.ab.maps z hz)) (fun z hz => ?_) hx
  show tn _ 2 = tn (d'.m z) 2
  rw [hm z hz]
 have:=h'.iff hw' e2
 omega
end Go.Proofs.YtghdiolnonejaaaGreatDoor.Pl
end
section
namespace Go.Proofs.YtghdiolnonejaaaGreatDoor.Pl
section
variable {d:Dg} {h u:Nat}
theorem Lens.lA_c (E:d.m (tn h 2) = tn u 2):lA d h u = d.m := by unfold lA Pl.cls; rw [if_pos E]
theorem Lens.lA_e (hw:Wf d) (L:Lens d h u) (E:d.m (tn h 2) ≠ tn u 2):lA d h u (d.m (tn h 2)) = d.m (tn u 2) ∧ lA d h u (d.m (tn u 2)) = d.m (tn h 2) ∧ ∀ z,z ≠ tn h 2 → z ≠ tn u 2 → z ≠ d.m (tn h 2) → z ≠ d.m (tn u 2) → lA d h u z = d.m z := by
 have hh:=L.hh
 have hu:=L.hu hw
 obtain ⟨b1,b2,b3,b4,b5⟩:=byp_at hw.hm (tn_lt hh) (tn_lt hu) (pm L.ne) (hw.ne _ (tn_lt (k := 2) hh)) (hw.ne _ (tn_lt (k := 2) hu)) E
 unfold lA Pl.cls
 rw [if_neg E]
 exact ⟨b3,b4,b5⟩
theorem Lens.lB_c (E:lA d h u (tn h 3) = tn u 1):lB d h u = lA d h u := by unfold lB; unfold Pl.cls; rw [if_pos E]
theorem Lens.lB_e (hd:Valid d) (L:Lens d h u) (E:lA d h u (tn h 3) ≠ tn u 1):lB d h u (lA d h u (tn h 3)) = lA d h u (tn u 1) ∧ lB d h u (lA d h u (tn u 1)) = lA d h u (tn h 3) ∧
 ∀ z,z ≠ tn h 3 → z ≠ tn u 1 → z ≠ lA d h u (tn h 3) → z ≠ lA d h u (tn u 1) → lB d h u z = lA d h u z := by
 have hw:=(Valid.iff.1 hd).1
 have hh:=L.hh
 have hu:=L.hu hw
 have A:=L.la hd
 obtain ⟨b1,b2,b3,b4,b5⟩:=byp_at A.hm (tn_lt hh) (tn_lt hu) (pm L.ne) (A.nf _ (tn_lt (k := 3) hh) (tn_ne (by omega)) (pm L.ne)) (A.nf _ (tn_lt (k := 1) hu) (Ne.symm (pm L.ne)) (tn_ne (by omega))) E
 unfold lB
 unfold Pl.cls
 rw [if_neg E]
 exact ⟨b3,b4,b5⟩
end
theorem tn_pp (n f t k:Nat):tn (pp n f t) k = pp n f (t + k) := by unfold tn pp; omega
structure Out (d d':Dg) (f g c1 c2:Nat):Prop where
 n:d'.n = d.n + 2
 L:Lens d' (pp d.n f 0) (pp (d.n + 1) g 2)
 b:∀ z,z < 4 * d.n → lB d' (pp d.n f 0) (pp (d.n + 1) g 2) z = d.m z
 e1:c1 = if d'.m (pp d.n f 2) = pp (d.n + 1) g 0 then 1 else 0
 e2:c2 = if lA d' (pp d.n f 0) (pp (d.n + 1) g 2) (pp d.n f 3) = pp (d.n + 1) g 3 then 1 else 0
section
variable {d d':Dg} {f g c1 c2:Nat}
theorem Out.stay (O:Out d d' f g c1 c2) (z:Nat):Pl.stay d' [d.n,d.n + 1] z ↔ z < 4 * d.n := by
 unfold Pl.stay
 rw [O.n,List.mem_cons,List.mem_singleton]
 omega
theorem Out.hx (O:Out d d' f g c1 c2):(d.n = pp d.n f 0 / 4 ∧ d.n + 1 = pp (d.n + 1) g 2 / 4) ∨ (d.n = pp (d.n + 1) g 2 / 4 ∧ d.n + 1 = pp d.n f 0 / 4) := by
 left; unfold pp; omega
theorem Out.same (hd:Valid d) (hd':Valid d') (O:Out d d' f g c1 c2) (hlp:d.lp = d'.lp + c1 + c2):Same d d' := by
 intro s s' h h'
 have hw:=(Valid.iff.1 hd).1
 have hw':=(Valid.iff.1 hd').1
 have R:=(O.L.lb hd').rs hw' O.L (x := d.n) (y := d.n + 1) (by omega) O.hx (lp := 0) (by omega) (mt := List.ofFn (n := 4 * d'.n) (fun z => lB d' (pp d.n f 0) (pp (d.n + 1) g 2) z.1)) (fun z hz => by
  rw [List.getD_eq_getElem?_getD,List.getElem?_ofFn,dif_pos hz.1]; rfl)
 have:=in_same hw hw' R O.stay O.b (O.L.cls hd' (h'.all hw')) (O.L.gone hd' O.hx) h
 have q1:tn (pp d.n f 0) 2 = pp d.n f 2:=tn_pp _ _ _ _
 have q2:tn (pp (d.n + 1) g 2) 2 = pp (d.n + 1) g 0:=by rw [tn_pp,show 2 + 2 = 0 + 4 from rfl,pp_mod]
 have q3:tn (pp d.n f 0) 3 = pp d.n f 3:=tn_pp _ _ _ _
 have q4:tn (pp (d.n + 1) g 2) 1 = pp (d.n + 1) g 3:=tn_pp _ _ _ _
 rw [q1,q2,q3,q4] at this
 have e1:=O.e1
 have e2:=O.e2
 by_cases a1:d'.m (pp d.n f 2) = pp (d.n + 1) g 0 <;> by_cases a2:lA d' (pp d.n f 0) (pp (d.n + 1) g 2) (pp d.n f 3) = pp (d.n + 1) g 3 <;> simp only [a1,a2,if_true,if_false] at this e1 e2 <;> omega
structure In (d d':Dg) (f g:Nat):Prop where
 n:d'.n = d.n + 2
 v:Valid d'
 m0:d'.m (pp d.n f 0) = pp (d.n + 1) g 2
 m1:d'.m (pp d.n f 1) = pp (d.n + 1) g 1
theorem In.lens (I:In d d' f g):Lens d' (pp d.n f 0) (pp (d.n + 1) g 2) :=
 ⟨by rw [I.n]; unfold pp; omega,I.m0,by rw [tn_pp,I.m1,tn_pp,show 2 + 3 = 1 + 4 from rfl,pp_mod],by unfold pp; omega⟩
section
variable (I:In d d' f g)
include I
theorem In.e1 (E:d'.m (pp d.n f 2) ≠ pp (d.n + 1) g 0):lA d' (pp d.n f 0) (pp (d.n + 1) g 2) (d'.m (pp d.n f 2)) = d'.m (pp (d.n + 1) g 0) ∧ lA d' (pp d.n f 0) (pp (d.n + 1) g 2) (d'.m (pp (d.n + 1) g 0)) = d'.m (pp d.n f 2) ∧
 ∀ z,z ≠ pp d.n f 2 → z ≠ pp (d.n + 1) g 0 → z ≠ d'.m (pp d.n f 2) → z ≠ d'.m (pp (d.n + 1) g 0) → lA d' (pp d.n f 0) (pp (d.n + 1) g 2) z = d'.m z := by
 have q1:tn (pp d.n f 0) 2 = pp d.n f 2:=tn_pp _ _ _ _
 have q2:tn (pp (d.n + 1) g 2) 2 = pp (d.n + 1) g 0:=by rw [tn_pp,show 2 + 2 = 0 + 4 from rfl,pp_mod]
 have:=I.lens.lA_e (Valid.iff.1 I.v).1 (by rw [q1,q2]; exact E)
 rwa [q1,q2] at this
theorem In.k1 (E:d'.m (pp d.n f 2) = pp (d.n + 1) g 0):lA d' (pp d.n f 0) (pp (d.n + 1) g 2) = d'.m := by
 have _:=I
 have q1:tn (pp d.n f 0) 2 = pp d.n f 2:=tn_pp _ _ _ _
 have q2:tn (pp (d.n + 1) g 2) 2 = pp (d.n + 1) g 0:=by rw [tn_pp,show 2 + 2 = 0 + 4 from rfl,pp_mod]
 exact Lens.lA_c (by rw [q1,q2]; exact E)
theorem In.e2 (E:lA d' (pp d.n f 0) (pp (d.n + 1) g 2) (pp d.n f 3) ≠ pp (d.n + 1) g 3):lB d' (pp d.n f 0) (pp (d.n + 1) g 2) (lA d' (pp d.n f 0) (pp (d.n + 1) g 2) (pp d.n f 3)) = lA d' (pp d.n f 0) (pp (d.n + 1) g 2) (pp (d.n + 1) g 3) ∧
 lB d' (pp d.n f 0) (pp (d.n + 1) g 2) (lA d' (pp d.n f 0) (pp (d.n + 1) g 2) (pp (d.n + 1) g 3)) = lA d' (pp d.n f 0) (pp (d.n + 1) g 2) (pp d.n f 3) ∧
 ∀ z,z ≠ pp d.n f 3 → z ≠ pp (d.n + 1) g 3 → z ≠ lA d' (pp d.n f 0) (pp (d.n + 1) g 2) (pp d.n f 3) → z ≠ lA d' (pp d.n f 0) (pp (d.n + 1) g 2) (pp (d.n + 1) g 3) → lB d' (pp d.n f 0) (pp (d.n + 1) g 2) z = lA d' (pp d.n f 0) (pp (d.n + 1) g 2) z := by
 have q3:tn (pp d.n f 0) 3 = pp d.n f 3:=tn_pp _ _ _ _
 have q4:tn (pp (d.n + 1) g 2) 1 = pp (d.n + 1) g 3:=tn_pp _ _ _ _
 have:=I.lens.lB_e I.v (by rw [q3,q4]; exact E)
 rwa [q3,q4] at this
theorem In.k2 (E:lA d' (pp d.n f 0) (pp (d.n + 1) g 2) (pp d.n f 3) = pp (d.n + 1) g 3):lB d' (pp d.n f 0) (pp (d.n + 1) g 2) = lA d' (pp d.n f 0) (pp (d.n + 1) g 2) := by
 have _:=I
 have q3:tn (pp d.n f 0) 3 = pp d.n f 3:=tn_pp _ _ _ _
 have q4:tn (pp (d.n + 1) g 2) 1 = pp (d.n + 1) g 3:=tn_pp _ _ _ _
 exact Lens.lB_c (by rw [q3,q4]; exact E)
theorem In.po (t:Nat) {z:Nat} (hz:z < 4 * d.n):z ≠ pp d.n f t := by have _ := I; have := pp_bd d.n f t; omega
theorem In.qo (t:Nat) {z:Nat} (hz:z < 4 * d.n):z ≠ pp (d.n + 1) g t := by have _ := I; have := pp_bd (d.n + 1) g t; omega
theorem In.edges (hw:Wf d) {x y:Nat} (hx:x < 4 * d.n) (hy:y < 4 * d.n) (xy:x ≠ y) (xm:d.m x ≠ y) (v2:d'.m (pp d.n f 2) = d.m y) (v0:d'.m (pp (d.n + 1) g 0) = y) (v3:d'.m (pp d.n f 3) = x) (w3:d'.m (pp (d.n + 1) g 3) = d.m x)
 (old:∀ z,z < 4 * d.n → z ≠ x → z ≠ d.m x → z ≠ y → z ≠ d.m y → d'.m z = d.m z):Out d d' f g 0 0 := by
 have hmx:=hw.lt x hx
 have hmy:=hw.lt y hy
 have n1:d'.m (pp d.n f 2) ≠ pp (d.n + 1) g 0:=by rw [v2]; exact I.qo 0 hmy
 obtain ⟨a1,a2,a3⟩:=I.e1 n1
 rw [v2,v0] at a1 a2 a3
 have k1:=a3 (pp d.n f 3) (pp_ne (by omega)) pp_nq (Ne.symm (I.po 3 hmy)) (Ne.symm (I.po 3 hy))
 have k2:=a3 (pp (d.n + 1) g 3) (Ne.symm pp_nq) (pp_ne (by omega)) (Ne.symm (I.qo 3 hmy)) (Ne.symm (I.qo 3 hy))
 rw [v3] at k1
 rw [w3] at k2
 have n2:lA d' (pp d.n f 0) (pp (d.n + 1) g 2) (pp d.n f 3) ≠ pp (d.n + 1) g 3:=by rw [k1]; exact I.qo 3 hx
 obtain ⟨b1,b2,b3⟩:=I.e2 n2
 rw [k1,k2] at b1 b2 b3
 refine ⟨I.n,I.lens,fun z hz => ?_,by rw [if_neg n1],by rw [if_neg n2]⟩
 by_cases z1:z = x
 ·rw [z1,b1]
 ·by_cases z2:z = d.m x
  ·rw [z2,b2,hw.inv x hx]
  ·rw [b3 z (I.po 3 hz) (I.qo 3 hz) z1 z2]
   by_cases z3:z = y
   ·rw [z3,a2]
   ·by_cases z4:z = d.m y
    ·rw [z4,a1,hw.inv y hy]
    ·rw [a3 z (I.po 2 hz) (I.qo 0 hz) z4 z3,old z hz z1 z2 z3 z4]
theorem In.loops (v2:d'.m (pp d.n f 2) = pp (d.n + 1) g 0) (v3:d'.m (pp d.n f 3) = pp (d.n + 1) g 3) (old:∀ z,z < 4 * d.n → d'.m z = d.m z):Out d d' f g 1 1 := by
 have k:=I.k1 v2
 have n2:lA d' (pp d.n f 0) (pp (d.n + 1) g 2) (pp d.n f 3) = pp (d.n + 1) g 3:=by rw [k,v3]
 exact ⟨I.n,I.lens,fun z hz => by rw [I.k2 n2,k,old z hz],by rw [if_pos v2],by rw [if_pos n2]⟩
theorem In.xedge (hw:Wf d) {x:Nat} (hx:x < 4 * d.n) (v2:d'.m (pp d.n f 2) = pp (d.n + 1) g 0) (v3:d'.m (pp d.n f 3) = x) (w3:d'.m (pp (d.n + 1) g 3) = d.m x)
 (old:∀ z,z < 4 * d.n → z ≠ x → z ≠ d.m x → d'.m z = d.m z):Out d d' f g 1 0 := by
 have k:=I.k1 v2
 have n2:lA d' (pp d.n f 0) (pp (d.n + 1) g 2) (pp d.n f 3) ≠ pp (d.n + 1) g 3:=by rw [k,v3]; exact I.qo 3 hx
 obtain ⟨b1,b2,b3⟩:=I.e2 n2
 rw [k,v3,w3] at b1 b2 b3
 refine ⟨I.n,I.lens,fun z hz => ?_,by rw [if_pos v2],by rw [if_neg n2]⟩
 by_cases z1:z = x
 ·rw [z1,b1]
 ·by_cases z2:z = d.m x
  ·rw [z2,b2,hw.inv x hx]
  ·rw [b3 z (I.po 3 hz) (I.qo 3 hz) z1 z2,old z hz z1 z2]
theorem In.yedge (hw:Wf d) {y:Nat} (hy:y < 4 * d.n) (v2:d'.m (pp d.n f 2) = d.m y) (v0:d'.m (pp (d.n + 1) g 0) = y) (v3:d'.m (pp d.n f 3) = pp (d.n + 1) g 3)
 (old:∀ z,z < 4 * d.n → z ≠ y → z ≠ d.m y → d'.m z = d.m z):Out d d' f g 0 1 := by
 have hmy:=hw.lt y hy
 have n1:d'.m (pp d.n f 2) ≠ pp (d.n + 1) g 0:=by rw [v2]; exact I.qo 0 hmy
 obtain ⟨a1,a2,a3⟩:=I.e1 n1
 rw [v2,v0] at a1 a2 a3
 have n2:lA d' (pp d.n f 0) (pp (d.n + 1) g 2) (pp d.n f 3) = pp (d.n + 1) g 3:=by
  rw [a3 (pp d.n f 3) (pp_ne (by omega)) pp_nq (Ne.symm (I.po 3 hmy)) (Ne.symm (I.po 3 hy)),v3]
 refine ⟨I.n,I.lens,fun z hz => ?_,by rw [if_neg n1],by rw [if_pos n2]⟩
 rw [I.k2 n2]
 by_cases z3:z = y
 ·rw [z3,a2]
 ·by_cases z4:z = d.m y
  ·rw [z4,a1,hw.inv y hy]
  ·rw [a3 z (I.po 2 hz) (I.qo 0 hz) z4 z3,old z hz z3 z4]
theorem In.self0 (v2:d'.m (pp d.n f 2) = pp d.n f 3) (v0:d'.m (pp (d.n + 1) g 0) = pp (d.n + 1) g 3) (old:∀ z,z < 4 * d.n → d'.m z = d.m z):Out d d' f g 0 1 := by
 have n1:d'.m (pp d.n f 2) ≠ pp (d.n + 1) g 0:=by rw [v2]; exact pp_nq
 obtain ⟨a1,a2,a3⟩:=I.e1 n1
 rw [v2,v0] at a1 a2 a3
 refine ⟨I.n,I.lens,fun z hz => ?_,by rw [if_neg n1],by rw [if_pos a1]⟩
 rw [I.k2 a1,a3 z (I.po 2 hz) (I.qo 0 hz) (I.po 3 hz) (I.qo 3 hz),old z hz]
theorem In.self1 (hw:Wf d) {x:Nat} (hx:x < 4 * d.n) (v2:d'.m (pp d.n f 2) = d.m x) (v0:d'.m (pp (d.n + 1) g 0) = pp (d.n + 1) g 3) (v3:d'.m (pp d.n f 3) = x)
 (old:∀ z,z < 4 * d.n → z ≠ x → z ≠ d.m x → d'.m z = d.m z):Out d d' f g 0 0 := by
 have hmx:=hw.lt x hx
 have n1:d'.m (pp d.n f 2) ≠ pp (d.n + 1) g 0:=by rw [v2]; exact I.qo 0 hmx
 obtain ⟨a1,a2,a3⟩:=I.e1 n1
 rw [v2,v0] at a1 a2 a3
 have k1:=a3 (pp d.n f 3) (pp_ne (by omega)) pp_nq (Ne.symm (I.po 3 hmx)) pp_nq
 rw [v3] at k1
 have n2:lA d' (pp d.n f 0) (pp (d.n + 1) g 2) (pp d.n f 3) ≠ pp (d.n + 1) g 3:=by rw [k1]; exact I.qo 3 hx
 obtain ⟨b1,b2,b3⟩:=I.e2 n2
 rw [k1,a2] at b1 b2 b3
 refine ⟨I.n,I.lens,fun z hz => ?_,by rw [if_neg n1],by rw [if_neg n2]⟩
 by_cases z1:z = x
 ·rw [z1,b1]
 ·by_cases z2:z = d.m x
  ·rw [z2,b2,hw.inv x hx]
  ·rw [b3 z (I.po 3 hz) (I.qo 3 hz) z1 z2,a3 z (I.po 2 hz) (I.qo 0 hz) z2 (I.qo 3 hz),old z hz z1 z2]
theorem In.self2 (hw:Wf d) {x:Nat} (hx:x < 4 * d.n) (v2:d'.m (pp d.n f 2) = pp d.n f 3) (v0:d'.m (pp (d.n + 1) g 0) = x) (w3:d'.m (pp (d.n + 1) g 3) = d.m x)
 (old:∀ z,z < 4 * d.n → z ≠ x → z ≠ d.m x → d'.m z = d.m z):Out d d' f g 0 0 := by
 have hmx:=hw.lt x hx
 have n1:d'.m (pp d.n f 2) ≠ pp (d.n + 1) g 0:=by rw [v2]; exact pp_nq
 obtain ⟨a1,a2,a3⟩:=I.e1 n1
 rw [v2,v0] at a1 a2 a3
 have k2:=a3 (pp (d.n + 1) g 3) (Ne.symm pp_nq) (pp_ne (by omega)) (Ne.symm pp_nq) (Ne.symm (I.qo 3 hx))
 rw [w3] at k2
 have n2:lA d' (pp d.n f 0) (pp (d.n + 1) g 2) (pp d.n f 3) ≠ pp (d.n + 1) g 3:=by rw [a1]; exact I.qo 3 hx
 obtain ⟨b1,b2,b3⟩:=I.e2 n2
 rw [a1,k2] at b1 b2 b3
 refine ⟨I.n,I.lens,fun z hz => ?_,by rw [if_neg n1],by rw [if_neg n2]⟩
 by_cases z1:z = x
 ·rw [z1,b1]
 ·by_cases z2:z = d.m x
  ·rw [z2,b2,hw.inv x hx]
  ·rw [b3 z (I.po 3 hz) (I.qo 3 hz) z1 z2,a3 z (I.po 2 hz) (I.qo 0 hz) (I.po 3 hz) z1,old z hz z1 z2]
end
end
end Go.Proofs.YtghdiolnonejaaaGreatDoor.Pl
end
section
namespace Go.Proofs.YtghdiolnonejaaaGreatDoor
open Go Go.RowKit
def OwnT (w:World) (base:Nat) (e:TypeId) (v:Value) (n:Nat) (xs:List Value):Prop :=
 xs.length = n ∧ ∃ g off cap cur,v = .slice (some ⟨g,off,none⟩) n cap ∧ base ≤ g ∧ w.heap[g]? = some (.cells cur e (0,0)) ∧ n ≤ cap ∧ cap ≤ maxLen ∧ off + cap ≤ cur.size ∧ (cur.toList.drop off).take n = xs
theorem lt_of_heap {w:World} {g:Nat} {o:Obj} (h:w.heap[g]? = some o):g < w.heap.size := by
 rcases Nat.lt_or_ge g w.heap.size with h1 | h1
 ·exact h1
 ·rw [Array.getElem?_eq_none h1] at h; cases h
theorem OwnT.keep {w w':World} {base:Nat} {e:TypeId} {v:Value} {n:Nat} {xs:List Value} (h:OwnT w base e v n xs) (hb:∀ g,base ≤ g → g < w.heap.size → v.ownBlock = some g → w'.heap[g]? = w.heap[g]?):OwnT w' base e v n xs := by
 obtain ⟨h0,g,off,cap,cur,rfl,h1,h2,h3⟩:=h
 exact ⟨h0,g,off,cap,cur,rfl,h1,(hb g h1 (lt_of_heap h2) rfl).trans h2,h3⟩
theorem OwnT.below {w w':World} {base:Nat} {e:TypeId} {v:Value} {n:Nat} {xs:List Value} (h:OwnT w base e v n xs) (hb:Below w.heap.size w w'):OwnT w' base e v n xs :=
 h.keep fun g _ h2 _ => hb.block g h2
theorem OwnT.cells {w:World} {base:Nat} {e:TypeId} {v:Value} {n:Nat} {xs:List Value} (h:OwnT w base e v n xs):∃ g off cap,v = .slice (some ⟨g,off,none⟩) n cap ∧ base ≤ g ∧ g < w.heap.size ∧ n ≤ cap ∧ cap ≤ maxLen ∧ ∀ (j:Nat) u,xs[j]? = some u → w.cell? ⟨g,off + j,none⟩ = some u := by
 obtain ⟨h0,g,off,cap,cur,rfl,h1,h2,h3,h4,h5,h6⟩:=h
 refine ⟨g,off,cap,rfl,h1,lt_of_heap h2,h3,h4,fun j u hu => ?_⟩
 rw [cell_of_row w g _ cur e (0,0) h2]
 rw [← h6,List.getElem?_take] at hu
 split at hu
 ·rw [List.getElem?_drop] at hu
  rw [← Array.getElem?_toList]; exact hu
 ·cases hu
theorem OwnT.tail0 {w:World} {base:Nat} {e:TypeId} {g off n cap:Nat} {x:Value} {xs:List Value} (h:OwnT w base e (.slice (some ⟨g,off,none⟩) (n + 1) cap) (n + 1) (x :: xs)) (hc:cap = 1):OwnT w base e (.slice (some ⟨g,off,none⟩) n (cap - 1)) n xs := by
 obtain ⟨h0,g',off',cap',cur,e1,h1,h2,h3,h4,h5,h6⟩:=h
 injection e1 with e1 _ e2
 injection e1 with e1
 injection e1 with e3 e4
 subst e2; subst e3; subst e4
 have hl:xs.length = n:=by simpa using h0
 obtain rfl:n = 0 := by omega
 exact ⟨hl,g,off,cap - 1,cur,rfl,h1,h2,by omega,by omega,by omega,by rw [List.take_zero]; exact (List.eq_nil_of_length_eq_zero hl).symm⟩
theorem OwnT.tail {w:World} {base:Nat} {e:TypeId} {g off n cap:Nat} {x:Value} {xs:List Value} (h:OwnT w base e (.slice (some ⟨g,off,none⟩) (n + 1) cap) (n + 1) (x :: xs)):OwnT w base e (.slice (some ⟨g,off + 1,none⟩) n (cap - 1)) n xs := by
 obtain ⟨h0,g',off',cap',cur,e1,h1,h2,h3,h4,h5,h6⟩:=h
 injection e1 with e1 _ e2
 injection e1 with e1
 injection e1 with e3 e4
 subst e2; subst e3; subst e4
 have hl:xs.length = n:=by simpa using h0
 refine ⟨hl,g,off + 1,cap - 1,cur,rfl,h1,h2,by omega,by omega,by omega,?_⟩
 have e5:cur.toList.drop off = (cur.toList.drop off).head?.getD x :: cur.toList.drop (off + 1):=by
  have:cur.toList.drop off ≠ []:=by
   intro e; rw [e] at h6; simp at h6
  rw [List.drop_eq_getElem_cons (by simp; omega)]
  simp
 rw [e5,List.take_succ_cons] at h6
 injection h6
section
variable {P:Program} (w:World)
theorem run_append_tail (base:Nat) (t ty e:TypeId) (i:TypeInfo) (z:Value) (bytes:Nat) (ht:P.underlying t = some (.slice e)) (hi:P.info? e = some i) (hz:i.zero = some z)
 (hsize:i.size = 1) (hby:i.bytes = bytes) (hzs:z.cells.size = 1)
 (v:Value) (n:Nat) (xs:List Value) (hown:OwnT w base e v n xs)
 (a:Addr) (c:Nat) (x:Value) (hnews:w.cell? (a.add 0) = some x) (h1:x.oneCell' = true)
 (h63:n + 1 ≤ maxLen) (hbytes:(n + 1) * bytes ≤ 140737488355328) (hbase:base ≤ w.heap.size) :
 ∃ v' w',(Builtin.append_ #[t,t] ty #[v,.slice (some a) 1 c]).run P w = .ok v' w' ∧ OwnT w' base e v' (n + 1) (xs ++ [x]) ∧ w.grownBy w' v.ownBlock := by
 subst hby
 have hsmall:n + 1 ≤ 9223372036854775807:=by simp only [maxLen] at h63; omega
 have hlen:(xs ++ [x]).length = n + 1:=by rw [List.length_append,hown.1]; rfl
 have hn1:∀ (j:Nat) u,[x][j]? = some u → w.cell? (a.add j) = some u:=by
  intro j u hu
  match j,hu with
  | 0,hu => simp at hu; subst hu; exact hnews
 obtain ⟨h0,g,off,cap,cur,rfl,hbg,hg,hnc,hcm,hcs,htake⟩:=hown
 by_cases hroom:n + 1 ≤ cap
 ·have hf:=run_firstCells_some (P := P) w i.size 1 a 1 c [x] (by rw [hsize]; rfl) hn1
  have hst:=run_storeCells_at P g (off + n) e [x] 0 cur w hg (by simp; omega) (by simpa using h1)
  simp only [Nat.add_zero] at hst
  rw [hsize] at hf
  have hr:(Builtin.append_ #[t,t] ty #[.slice (some ⟨g,off,none⟩) n cap,.slice (some a) 1 c]).run P w = .ok (.slice (some ⟨g,off,none⟩) (n + 1) cap) (w.setRow g (cur.toList.take (off + n) ++ [x] ++ cur.toList.drop (off + n + [x].length)).toArray):=by
   simp only [List.length_singleton] at hst ⊢
   simp [Builtin.append_,run_underlying ht,sizeOf,typeInfo,hi,hsize,Builtin.lenOf,hroom,hf,Addr.add_lit,hst]
  refine ⟨_,_,hr,⟨hlen,g,off,cap,_,rfl,hbg,setRow_heap w g cur _ e _ hg,hroom,hcm,?_,?_⟩,⟨rfl,rfl,rfl,by simp,fun k _ hk => setRow_other w g k _ (fun e => hk (by simp [Value.ownBlock,e]))⟩⟩
  ·simp only [List.size_toArray,List.length_append,List.length_take,List.length_drop,Array.length_toList,List.length_cons,List.length_nil]
   omega
  ·have e1 : cur.toList.take (off + n) = cur.toList.take off ++ xs := by
    rw [← htake,List.take_add]
   rw [e1]
   simp only [List.append_assoc]
   have e2:(cur.toList.take off).length = off:=by rw [List.length_take,Array.length_toList]; omega
   rw [List.drop_append,e2,Nat.sub_self,List.drop_zero,List.drop_eq_nil_of_le (by omega),List.nil_append,← List.append_assoc,← hlen,List.take_left]
 ·have holds : ∀ (j : Nat) u, xs[j]? = some u → w.cell? ((⟨g, off, none⟩ : Addr).add j) = some u := by
   intro j u hu
   have:(⟨g,off,none⟩:Addr).add j = ⟨g,off + j,none⟩:=by unfold Addr.add; split <;> simp_all
   rw [this,cell_of_row w g _ cur e (0,0) hg]
   rw [← htake,List.getElem?_take] at hu
   split at hu
   ·rw [List.getElem?_drop] at hu
    rw [← Array.getElem?_toList]; exact hu
   ·cases hu
  have hr:=run_append_grow (P := P) w t ty e i z ht hi hz ⟨g,off,none⟩ n cap xs (by rw [hsize,h0]; omega) holds a 1 c [x] (by rw [hsize]; rfl) hn1 (by omega) (by omega) (growslice_fits (by omega) hbytes)
  have hge:=grownCap_ge w (n + 1) cap e
  have hcm':grownCap w (n + 1) cap e ≤ maxLen:=grownCap_le_maxLen w (n + 1) cap e h63
  refine ⟨_,_,hr,⟨hlen,w.heap.size,0,_,_,rfl,hbase,heap_alloc_new w.drew _,hge,hcm',?_,?_⟩,⟨rfl,rfl,rfl,by simp,fun k hk _ => Below.heap_alloc w.drew _ k hk⟩⟩
  ·simp only [Array.size_append,List.size_toArray,size_zeroCells,hzs,h0,List.length_cons,List.length_nil]
   omega
  ·simp only [Array.toList_append,List.drop_zero]
   rw [← hlen]
   exact List.take_left
theorem wp_append_tail {o:Oper} {a:Act} {K:Act → World → Prop} {Q:Exit → Act → World → Prop} (s x:Operand) (t:TypeId)
 (ho:o.op = .call { callee := .builtin .append,args := #[s,x],argTypes := #[t,t] })
 (base:Nat) (e:TypeId) (i:TypeInfo) (z:Value) (bytes:Nat) (ht:P.underlying t = some (.slice e)) (hi:P.info? e = some i) (hz:i.zero = some z)
 (hsize:i.size = 1) (hby:i.bytes = bytes) (hzs:z.cells.size = 1)
 (v:Value) (n:Nat) (xs:List Value) (hs:a.eval s = v) (hown:OwnT w base e v n xs)
 (ad:Addr) (c:Nat) (u:Value) (hx:a.eval x = .slice (some ad) 1 c) (hnews:w.cell? (ad.add 0) = some u) (h1:u.oneCell' = true)
 (h63:n + 1 ≤ maxLen) (hbytes:(n + 1) * bytes ≤ 140737488355328) (hbase:base ≤ w.heap.size)
 (h:∀ v' w',OwnT w' base e v' (n + 1) (xs ++ [u]) → w.grownBy w' v.ownBlock → K (a.put o.dst v') w'):o.wp P a w K Q := by
 obtain ⟨v',w',hr,h2,h3⟩:=run_append_tail (P := P) w base t o.type e i z bytes ht hi hz hsize hby hzs v n xs hown ad c u hnews h1 h63 hbytes hbase
 unfold Oper.wp execOp
 simp only [ho,resolve,invoke,builtin,Sem.run_bind,Sem.run_pure,Result.andThen_ok,List.map_toArray,List.map_cons,List.map_nil,hs,hx,hr]
 exact h v' w' h2 h3
theorem wpList_append_tail {ops:Array Oper} {rest:List Oper} {o:Oper} {a:Act} {Q:Exit → Act → World → Prop} (hgd:o.guard = none) (s x:Operand) (t:TypeId)
 (ho:o.op = .call { callee := .builtin .append,args := #[s,x],argTypes := #[t,t] })
 (base:Nat) (e:TypeId) (i:TypeInfo) (z:Value) (bytes:Nat) (ht:P.underlying t = some (.slice e)) (hi:P.info? e = some i) (hz:i.zero = some z)
 (hsize:i.size = 1) (hby:i.bytes = bytes) (hzs:z.cells.size = 1)
 (v:Value) (n:Nat) (xs:List Value) (hs:a.eval s = v) (hown:OwnT w base e v n xs)
 (ad:Addr) (c:Nat) (u:Value) (hx:a.eval x = .slice (some ad) 1 c) (hnews:w.cell? (ad.add 0) = some u) (h1:u.oneCell' = true)
 (h63:n + 1 ≤ maxLen) (hbytes:(n + 1) * bytes ≤ 140737488355328) (hbase:base ≤ w.heap.size)
 (h:∀ v' w',OwnT w' base e v' (n + 1) (xs ++ [u]) → w.grownBy w' v.ownBlock → wpList P ops Q rest (a.put o.dst v') w'):wpList P ops Q (o :: rest) a w :=
 wpList_plain hgd fun _ hK => wp_append_tail w s x t ho base e i z bytes ht hi hz hsize hby hzs v n xs hs hown ad c u hx hnews h1 h63 hbytes hbase fun v' w' h2 h3 => hK _ _ (h v' w' h2 h3)
end
end Go.Proofs.YtghdiolnonejaaaGreatDoor
end
section
namespace Go.Proofs.YtghdiolnonejaaaGreatDoor
open Go Go.RowKit
def Row (w:World) (g:Nat) (t:TypeId) (vs:List Value):Prop := w.heap[g]? = some (.cells vs.toArray t (0,0))
theorem Row.lt {w:World} {g:Nat} {t:TypeId} {vs:List Value} (h:Row w g t vs):g < w.heap.size := lt_of_heap h
theorem Row.cell {w:World} {g:Nat} {t:TypeId} {vs:List Value} (h:Row w g t vs) {i:Nat} (hi:i < vs.length):w.cell? ⟨g,i,none⟩ = some (vs[i]'hi) := by
 rw [cell_of_row w g i _ t (0,0) h]; simp [hi]
theorem Row.free {w:World} {g:Nat} {t:TypeId} {vs:List Value} (h:Row w g t vs) (i:Nat):w.frozen? ⟨g,i,none⟩ = false := frozen_of_row w g i _ t h
theorem Row.set {w:World} {g:Nat} {t:TypeId} {vs:List Value} (h:Row w g t vs) (i:Nat) (v:Value):Row (w.setCell ⟨g,i,none⟩ v) g t (vs.set i v) := by
 unfold Row
 rw [Go.heap_setCell_same w g i _ t v h]
 simp
theorem Row.other {w:World} {g:Nat} {t:TypeId} {vs:List Value} (h:Row w g t vs) {a:Addr} (ha:g ≠ a.block) (v:Value):Row (w.setCell a v) g t vs := (Below.heap_setCell w a v g ha).trans h
theorem Row.alloc {w:World} {g:Nat} {t:TypeId} {vs:List Value} (h:Row w g t vs) (o:Obj):Row (w.alloc o) g t vs := (Below.heap_alloc w o g h.lt).trans h
theorem Row.drew {w:World} {g:Nat} {t:TypeId} {vs:List Value} (h:Row w g t vs):Row w.drew g t vs := h
theorem Row.below {w w':World} {g:Nat} {t:TypeId} {vs:List Value} (h:Row w g t vs) (hb:Below w.heap.size w w'):Row w' g t vs := (hb.block g h.lt).trans h
theorem Row.grown {w w':World} {g:Nat} {t:TypeId} {vs:List Value} {r:Option Nat} (h:Row w g t vs) (hg:w.grownBy w' r) (hr:some g ≠ r):Row w' g t vs := (hg.block g h.lt hr).trans h
theorem Row.new (w:World) (t:TypeId) (vs:List Value):Row (w.alloc (.cells vs.toArray t)) w.heap.size t vs := heap_alloc_new w _
def IRow (w:World) (g:Nat) (zs:List Int):Prop := Row w g 3 (zs.map (.int .i64))
theorem IRow.cell {w:World} {g:Nat} {zs:List Int} (h:IRow w g zs) {i:Nat} (hi:i < zs.length):w.cell? ⟨g,i,none⟩ = some (.int .i64 (Pl.pv zs i)) := by
 refine (Row.cell h (i := i) (by simpa using hi)).trans ?_
 unfold Pl.pv
 rw [List.getElem_map,List.getD_eq_getElem?_getD,List.getElem?_eq_getElem hi]; rfl
theorem IRow.set {w:World} {g:Nat} {zs:List Int} (h:IRow w g zs) (i:Nat) (v:Int):IRow (w.setCell ⟨g,i,none⟩ (.int .i64 v)) g (zs.set i v) := by
 unfold IRow
 rw [List.map_set]
 exact Row.set h i _
theorem IRow.ints {w:World} {g:Nat} {zs:List Int} (h:IRow w g zs):IntsAt w (some ⟨g,0,none⟩) zs.length zs := by
 refine ⟨by simp,fun _ => ⟨g,0,rfl,fun j u hu => ?_⟩⟩
 rw [Nat.zero_add]
 refine (cell_of_row w g j _ _ (0,0) h).trans ?_
 simpa using hu
def BRow (w:World) (g:Nat) (bs:List Bool):Prop := Row w g 4 (bs.map .bool)
theorem BRow.cell {w:World} {g:Nat} {bs:List Bool} (h:BRow w g bs) {i:Nat} (hi:i < bs.length):w.cell? ⟨g,i,none⟩ = some (.bool (bs.getD i false)) := by
 refine (Row.cell h (i := i) (by simpa using hi)).trans ?_
 rw [List.getElem_map,List.getD_eq_getElem?_getD,List.getElem?_eq_getElem hi]; rfl
theorem BRow.set {w:World} {g:Nat} {bs:List Bool} (h:BRow w g bs) (i:Nat) (v:Bool):BRow (w.setCell ⟨g,i,none⟩ (.bool v)) g (bs.set i v) := by
 unfold BRow
 rw [List.map_set]
 exact Row.set h i _
theorem made_rep (v:Value) (n:Nat):madeCells #[v] n = (List.replicate n v).toArray := by
 apply Array.ext'
 simp only [madeCells,Array.toList_map,Array.toList_range]
 refine List.ext_getElem (by simp) (fun i h1 h2 => ?_)
 have:i % 1 = 0:=Nat.mod_one i
 simp [this]
theorem IRow.made (w:World) (n:Nat):IRow (w.alloc (.cells (Array.replicate n (Value.int .i64 0)) 3)) w.heap.size (List.replicate n 0) := by
 unfold IRow Row
 rw [List.map_replicate]
 exact heap_alloc_new w _
theorem BRow.made (w:World) (n:Nat):BRow (w.alloc (.cells (Array.replicate n (Value.bool false)) 4)) w.heap.size (List.replicate n false) := by
 unfold BRow Row
 rw [List.map_replicate]
 exact heap_alloc_new w _
theorem intInfo:(Tryz.prog.info? 3).map (fun i => (i.zero,i.size,i.bytes)) = some (some (.int .i64 0),1,8) := by kernel_rfl
theorem boolInfo:(Tryz.prog.info? 4).map (fun i => (i.zero,i.size,i.bytes)) = some (some (.bool false),1,1) := by kernel_rfl
theorem run_ints (n:Nat) (hn:n ≤ 100000) (w:World):(Instr.makeSlice 22 (.int .i64 (n:Int)) (.int .i64 (n:Int))).run Tryz.prog w = .ok (.slice (some ⟨w.heap.size,0,none⟩) n n) (w.alloc (.cells (Array.replicate n (Value.int .i64 0)) 3)) := by
 obtain ⟨i0,hi,hz0,hz1,hz2⟩:=info_parts intInfo
 have:=run_make (P := Tryz.prog) w 22 3 i0 (.int .i64 0) Tryz.underlying22 hi hz0 .i64 .i64 n n (by omega) (Int.le_refl _) (by rw [hz2]; omega) (by omega)
 rw [hz1,Nat.mul_one,Int.toNat_natCast,show madeCells (Value.cells (.int .i64 0)) n = (List.replicate n (.int .i64 0)).toArray from made_rep _ _] at this
 exact this
theorem run_bools (n:Nat) (hn:n ≤ 100000) (w:World):(Instr.makeSlice 72 (.int .i64 (n:Int)) (.int .i64 (n:Int))).run Tryz.prog w = .ok (.slice (some ⟨w.heap.size,0,none⟩) n n) (w.alloc (.cells (Array.replicate n (Value.bool false)) 4)) := by
 obtain ⟨i0,hi,hz0,hz1,hz2⟩:=info_parts boolInfo
 have:=run_make (P := Tryz.prog) w 72 4 i0 (.bool false) Tryz.underlying72 hi hz0 .i64 .i64 n n (by omega) (Int.le_refl _) (by rw [hz2]; omega) (by omega)
 rw [hz1,Nat.mul_one,Int.toNat_natCast,show madeCells (Value.cells (.bool false)) n = (List.replicate n (.bool false)).toArray from made_rep _ _] at this
 exact this
end Go.Proofs.YtghdiolnonejaaaGreatDoor
end
section
namespace Go.Proofs.YtghdiolnonejaaaGreatDoor
open Go Go.RowKit
section
variable {P:Program} (w:World)
theorem run_append_ints (base:Nat) (t ty e:TypeId) (i:TypeInfo) (z:Value) (bytes:Nat) (ht:P.underlying t = some (.slice e)) (hi:P.info? e = some i) (hz:i.zero = some z)
 (hsize:i.size = 1) (hby:i.bytes = bytes) (hzs:z.cells.size = 1)
 (v:Value) (n:Nat) (xs:List Value) (hown:w.ownsRow base e 1 v n xs)
 (A:Option Addr) (m c:Nat) (zs:List Int) (hin:IntsAt w A m zs)
 (h63:n + m ≤ maxLen) (hbytes:(n + m) * bytes ≤ 140737488355328) (hbase:base ≤ w.heap.size) :
 ∃ v' w',(Builtin.append_ #[t,t] ty #[v,.slice A m c]).run P w = .ok v' w' ∧ w'.ownsRow base e 1 v' (n + m) (xs ++ zs.map (.int .i64)) ∧ w.grownBy w' v.ownBlock := by
 have hl:=hin.len
 rcases Nat.eq_zero_or_pos m with h0 | h0
 ·subst h0
  obtain rfl:zs = [] := List.eq_nil_of_length_eq_zero hl
  have hr:(Builtin.append_ #[t,t] ty #[v,.slice A 0 c]).run P w = .ok v w:=by
   rcases hown.2 with ⟨rfl,rfl⟩ | ⟨g,cap,cur,rfl,_,_,hnc,_⟩
   ·cases A <;> simp [Builtin.append_,run_underlying ht,sizeOf,typeInfo,hi,Builtin.lenOf,Builtin.firstCells,loadCells,loadCellsFrom]
   ·cases A <;> simp [Builtin.append_,run_underlying ht,sizeOf,typeInfo,hi,Builtin.lenOf,Builtin.firstCells,hnc,storeCells,loadCells,loadCellsFrom]
  refine ⟨v,w,hr,by simpa using hown,⟨rfl,rfl,rfl,Nat.le_refl _,fun _ _ _ => rfl⟩⟩
 ·obtain ⟨b,o,rfl,hc⟩:=hin.2 h0
  obtain ⟨v',w',hr,h2,h3,_⟩:=run_append_own (P := P) w base t ty e i z 1 bytes ht hi hz hsize hby hzs (by omega) v n xs hown ⟨b,o,none⟩ m c (zs.map (.int .i64)) (by rw [List.length_map,hl,Nat.mul_one]) (fun j u hu => by
   have:(⟨b,o,none⟩:Addr).add j = ⟨b,o + j,none⟩:=by unfold Addr.add; split <;> simp_all
   rw [this]; exact hc j u hu) (fun u hu => by
   obtain ⟨x,_,rfl⟩:=List.mem_map.1 hu; rfl) h63 hbytes hbase
  exact ⟨v',w',hr,h2,h3⟩
theorem wp_append_ints {o:Oper} {a:Act} {K:Act → World → Prop} {Q:Exit → Act → World → Prop} (s x:Operand) (t:TypeId)
 (ho:o.op = .call { callee := .builtin .append,args := #[s,x],argTypes := #[t,t] })
 (base:Nat) (e:TypeId) (i:TypeInfo) (z:Value) (bytes:Nat) (ht:P.underlying t = some (.slice e)) (hi:P.info? e = some i) (hz:i.zero = some z)
 (hsize:i.size = 1) (hby:i.bytes = bytes) (hzs:z.cells.size = 1)
 (v:Value) (n:Nat) (xs:List Value) (hs:a.eval s = v) (hown:w.ownsRow base e 1 v n xs)
 (A:Option Addr) (m c:Nat) (zs:List Int) (hx:a.eval x = .slice A m c) (hin:IntsAt w A m zs)
 (h63:n + m ≤ maxLen) (hbytes:(n + m) * bytes ≤ 140737488355328) (hbase:base ≤ w.heap.size)
 (h:∀ v' w',w'.ownsRow base e 1 v' (n + m) (xs ++ zs.map (.int .i64)) → w.grownBy w' v.ownBlock → K (a.put o.dst v') w'):o.wp P a w K Q := by
 obtain ⟨v',w',hr,h2,h3⟩:=run_append_ints (P := P) w base t o.type e i z bytes ht hi hz hsize hby hzs v n xs hown A m c zs hin h63 hbytes hbase
 unfold Oper.wp execOp
 simp only [ho,resolve,invoke,builtin,Sem.run_bind,Sem.run_pure,Result.andThen_ok,List.map_toArray,List.map_cons,List.map_nil,hs,hx,hr]
 exact h v' w' h2 h3
theorem wpList_append_ints {ops:Array Oper} {rest:List Oper} {o:Oper} {a:Act} {Q:Exit → Act → World → Prop} (hgd:o.guard = none) (s x:Operand) (t:TypeId)
 (ho:o.op = .call { callee := .builtin .append,args := #[s,x],argTypes := #[t,t] })
 (base:Nat) (e:TypeId) (i:TypeInfo) (z:Value) (bytes:Nat) (ht:P.underlying t = some (.slice e)) (hi:P.info? e = some i) (hz:i.zero = some z)
 (hsize:i.size = 1) (hby:i.bytes = bytes) (hzs:z.cells.size = 1)
 (v:Value) (n:Nat) (xs:List Value) (hs:a.eval s = v) (hown:w.ownsRow base e 1 v n xs)
 (A:Option Addr) (m c:Nat) (zs:List Int) (hx:a.eval x = .slice A m c) (hin:IntsAt w A m zs)
 (h63:n + m ≤ maxLen) (hbytes:(n + m) * bytes ≤ 140737488355328) (hbase:base ≤ w.heap.size)
 (h:∀ v' w',w'.ownsRow base e 1 v' (n + m) (xs ++ zs.map (.int .i64)) → w.grownBy w' v.ownBlock → wpList P ops Q rest (a.put o.dst v') w'):wpList P ops Q (o :: rest) a w :=
 wpList_plain hgd fun _ hK => wp_append_ints w s x t ho base e i z bytes ht hi hz hsize hby hzs v n xs hs hown A m c zs hx hin h63 hbytes hbase fun v' w' h2 h3 => hK _ _ (h v' w' h2 h3)
end
end Go.Proofs.YtghdiolnonejaaaGreatDoor
end
section
namespace Go.Proofs.YtghdiolnonejaaaGreatDoor
open Go.RowKit
def pre (xs ys:List Int) (k:Nat):List Int := if k = 0 then [] else if k = 1 then xs else xs ++ ys
theorem owns_slice {w:World} {base:Nat} {e:TypeId} {size:Nat} {v:Value} {n:Nat} {xs:List Value} (h:w.ownsRow base e size v n xs):∃ A c,v = .slice A n c := by
 rcases h.2 with ⟨rfl,rfl⟩ | ⟨g,cap,cur,rfl,_⟩
 ·exact ⟨_,_,rfl⟩
 ·exact ⟨_,_,rfl⟩
def OwnN (w:World) (base g n cap:Nat) (l:List Nat):Prop := w.ownsRow base 3 1 (.slice (some ⟨g,0,none⟩) n cap) n (l.map (fun k:Nat => Value.int .i64 k))
theorem OwnN.len {w:World} {base g n cap:Nat} {l:List Nat} (h:OwnN w base g n cap l):l.length = n := by have := h.1; simpa using this
theorem OwnN.cell {w:World} {base g n cap:Nat} {l:List Nat} (h:OwnN w base g n cap l) {k:Nat} (hk:k < n):w.cell? ⟨g,k,none⟩ = some (.int .i64 (l.getD k 0:Nat)) := by
 have hl:=h.len
 rw [World.ownsRow.cellAt h k (by omega),List.getElem?_map,List.getElem?_eq_getElem (by omega),List.getD_eq_getElem?_getD,List.getElem?_eq_getElem (by omega)]; rfl
theorem OwnN.free {w:World} {base g n cap:Nat} {l:List Nat} (h:OwnN w base g n cap l) (k:Nat):w.frozen? ⟨g,k,none⟩ = false := World.ownsRow.frozenAt h k
theorem OwnN.set {w:World} {base g n cap:Nat} {l:List Nat} (h:OwnN w base g n cap l) (k v:Nat):OwnN (w.setCell ⟨g,k,none⟩ (.int .i64 (v:Nat))) base g n cap (l.set k v) ∧ w.grownBy (w.setCell ⟨g,k,none⟩ (.int .i64 (v:Nat))) (some g) := by
 have:=World.ownsRow.stored h k (.int .i64 (v:Nat))
 refine ⟨?_,this.2⟩
 unfold OwnN
 rw [List.map_set]
 exact this.1
theorem grownBy_trans {w w1 w2:World} {r:Option Nat} (h:w.grownBy w1 r) (h2:w1.grownBy w2 r):w.grownBy w2 r :=
 ⟨h2.os.trans h.os,h2.tape.trans h.tape,h2.output.trans h.output,Nat.le_trans h.size h2.size,fun k hk hr => (h2.block k (Nat.lt_of_lt_of_le hk h.size) hr).trans (h.block k hk hr)⟩
def jn (l:List Nat) (a b:Nat):List Nat := (l.set a b).set b a
theorem join_any (base g n cap a b:Nat) (l:List Nat) (w:World) (h:OwnN w base g n cap l) (ha:a < n) (hb:b < n) (hn:n ≤ 100000) :
 Calls Tryz.prog 75 #[.slice (some ⟨g,0,none⟩) n cap,.int .i64 (a:Int),.int .i64 (b:Int)] w fun e w' => e = .returned (.tuple #[]) ∧ OwnN w' base g n cap (jn l a b) ∧ w.grownBy w' (some g) := by
 have c1:=h.cell ha
 have f1:=h.free a
 obtain ⟨h2,g2⟩:=h.set a b
 have c2:=h2.cell hb
 have f2:=h2.free b
 obtain ⟨h3,g3⟩:=h2.set b a
 have H3:=hide h3
 have G3:=hide (grownBy_trans g2 g3)
 clear h h2 h3 g2 g3
 go_enter Tryz.func75,Tryz.ntmps75
 go_wp2
 go_end0
 exact ⟨rfl,H3.out,G3.out⟩
end Go.Proofs.YtghdiolnonejaaaGreatDoor
end
section
namespace Go.Proofs.YtghdiolnonejaaaGreatDoor
open Go.RowKit
attribute [local go_sem ↓] Go.wp_at_zero Go.wp_at_succ
structure GS (w:World) (g:Nat) (x0 x1 x2:Value) (W:World):Prop where
 row:∃ vs,Row W g 24 [x0,x1,x2] ∧ Row W (g + 1) 24 vs ∧ vs.length = 3
 bel:Below w.heap.size w W
 lo:w.heap.size ≤ g
theorem GS.drew {w:World} {g:Nat} {x0 x1 x2:Value} {W:World} (h:GS w g x0 x1 x2 W):GS w g x0 x1 x2 W.drew := ⟨h.row,h.bel.drew,h.lo⟩
def cv (W:World) (a:Addr):Value := (W.cell? a).getD (.bool false)
theorem cv_some {W:World} {a:Addr} {v:Value} (h:W.cell? a = some v):W.cell? a = some (cv W a) := by unfold cv; rw [h]; rfl
theorem GS.below {w:World} {g:Nat} {x0 x1 x2:Value} {W W':World} (h:GS w g x0 x1 x2 W) (hb:Below W.heap.size W W'):GS w g x0 x1 x2 W' :=
 let ⟨vs,r1,r2,r3⟩:=h.row
 ⟨⟨vs,r1.below hb,r2.below hb,r3⟩,h.bel.trans (hb.mono h.bel.size),h.lo⟩
theorem GS.set {w:World} {g:Nat} {x0 x1 x2:Value} {W:World} (h:GS w g x0 x1 x2 W) (o:Nat) (v:Value):GS w g x0 x1 x2 (W.setCell ⟨g + 1,o,none⟩ v) :=
 let ⟨vs,r1,r2,r3⟩:=h.row
 ⟨⟨vs.set o v,r1.other (by simp) v,r2.set o v,by rw [List.length_set,r3]⟩,h.bel.setCell (by have := h.lo; simp; omega) v,h.lo⟩
theorem GS.all {w:World} {g:Nat} {x0 x1 x2:Value} {W:World} (h:GS w g x0 x1 x2 W):W.cell? ⟨g,0,none⟩ = some x0 ∧ W.cell? ⟨g,1,none⟩ = some x1 ∧ W.cell? ⟨g,2,none⟩ = some x2 ∧ W.cell? ⟨g + 1,0,none⟩ = some (cv W ⟨g + 1,0,none⟩) ∧ W.cell? ⟨g + 1,1,none⟩ = some (cv W ⟨g + 1,1,none⟩) ∧ W.cell? ⟨g + 1,2,none⟩ = some (cv W ⟨g + 1,2,none⟩) ∧ (∀ o,W.frozen? ⟨g + 1,o,none⟩ = false) ∧ GS w g x0 x1 x2 W := by
 obtain ⟨vs,r1,r2,r3⟩:=h.row
 exact ⟨r1.cell (i := 0) (by show 0 < 3; omega),r1.cell (i := 1) (by show 1 < 3; omega),r1.cell (i := 2) (by show 2 < 3; omega),cv_some (r2.cell (i := 0) (by omega)),cv_some (r2.cell (i := 1) (by omega)),cv_some (r2.cell (i := 2) (by omega)),fun o => r2.free o,h⟩
theorem GS.fin {w:World} {g:Nat} {x0 x1 x2:Value} {W:World} (h:GS w g x0 x1 x2 W) (y0 y1 y2:Value) :
 (((W.setCell ⟨g + 1,0,none⟩ y0).setCell ⟨g + 1,1,none⟩ y1).setCell ⟨g + 1,2,none⟩ y2).cell? ⟨g + 1,0,none⟩ = some y0 ∧ (((W.setCell ⟨g + 1,0,none⟩ y0).setCell ⟨g + 1,1,none⟩ y1).setCell ⟨g + 1,2,none⟩ y2).cell? ⟨g + 1,1,none⟩ = some y1 ∧ (((W.setCell ⟨g + 1,0,none⟩ y0).setCell ⟨g + 1,1,none⟩ y1).setCell ⟨g + 1,2,none⟩ y2).cell? ⟨g + 1,2,none⟩ = some y2 := by
 obtain ⟨vs,_,r2,r3⟩:=h.row
 have r:=((r2.set 0 y0).set 1 y1).set 2 y2
 obtain ⟨a,b,c,rfl⟩:∃ a b c,vs = [a,b,c] := by
  match vs,r3 with
  | [a,b,c],_ => exact ⟨a,b,c,rfl⟩
 exact ⟨r.cell (i := 0) (by simp),r.cell (i := 1) (by simp),r.cell (i := 2) (by simp)⟩
theorem GS.start (w:World) (x0 x1 x2 y0 y1 y2:Value):GS w w.heap.size x0 x1 x2 ((w.alloc (.cells #[x0,x1,x2] 24)).alloc (.cells #[y0,y1,y2] 24)) := by
 refine ⟨⟨[y0,y1,y2],Row.alloc (Row.new w _ [x0,x1,x2]) _,?_,rfl⟩,((Below.refl _ _).alloc (Nat.le_refl _) _).alloc (by simp) _,Nat.le_refl _⟩
 have:=Row.new (w.alloc (.cells #[x0,x1,x2] 24)) 24 [y0,y1,y2]
 simpa using this
theorem IntsAt.alloc {w:World} {A:Option Addr} {n:Nat} {zs:List Int} (h:IntsAt w A n zs) (o:Obj):IntsAt (w.alloc o) A n zs := h.keep ((Below.refl _ _).alloc (Nat.le_refl _) o)
theorem IntsAt.drew {w:World} {A:Option Addr} {n:Nat} {zs:List Int} (h:IntsAt w A n zs):IntsAt w.drew A n zs := h
theorem owns_pos {w:World} {base:Nat} {e:TypeId} {A:Option Addr} {n c:Nat} {xs:List Value} (hn:0 < n) (h:w.ownsRow base e 1 (.slice A n c) n xs):∃ g,A = some ⟨g,0,none⟩ ∧ base ≤ g ∧ g < w.heap.size := by
 rcases h.2 with ⟨_,h0⟩ | ⟨g,cap,cur,h1,h2,h3,_⟩
 ·omega
 ·injection h1 with h1
  exact ⟨g,h1,h2,lt_of_heap h3⟩
theorem own_keep {w w':World} {base base':Nat} {e:TypeId} {v:Value} {n:Nat} {xs:List Value} (h:w.ownsRow base e 1 v n xs) (hb:Below w.heap.size w w') (hle:base' ≤ base):w'.ownsRow base' e 1 v n xs := by
 refine ⟨h.1,?_⟩
 rcases h.2 with hz | ⟨g,cap,cur,r1,r2,r3,r4⟩
 ·exact .inl hz
 ·exact .inr ⟨g,cap,cur,r1,Nat.le_trans hle r2,(hb.block g (lt_of_heap r3)).trans r3,r4⟩
theorem own_set {w:World} {base:Nat} {e:TypeId} {g n c b o:Nat} {v:Value} {xs:List Value} (h:w.ownsRow base e 1 (.slice (some ⟨g,0,none⟩) n c) n xs) (hne:g ≠ b):(w.setCell ⟨b,o,none⟩ v).ownsRow base e 1 (.slice (some ⟨g,0,none⟩) n c) n xs := by
 refine ⟨h.1,?_⟩
 rcases h.2 with hz | ⟨g',cap,cur,r1,r2,r3,r4⟩
 ·exact .inl hz
 ·injection r1 with e1 e2 e3
  injection e1 with e1
  injection e1 with e1
  subst e1
  exact .inr ⟨g,cap,cur,by rw [e3],r2,(Below.heap_setCell w _ v g hne).trans r3,r4⟩
end Go.Proofs.YtghdiolnonejaaaGreatDoor
end
section
namespace Go.Proofs.YtghdiolnonejaaaGreatDoor
open Go.RowKit
def nilD:Value := .agg #[.slice none 0 0,.slice none 0 0,.int .i64 0]
def nilM:Value := .agg #[.int .i64 0,.int .i64 0,.int .i64 0,.int .i64 0,.bool false]
def ResErr (k:Int) (e:Ending):Prop := e = .returned (.tuple #[nilD,nilM,.int .i64 k])
structure DgT (w:World) (A:Option Addr) (B:Option Addr) (d:Pl.Dg):Prop where
 s:RowT w 3 A d.n (d.sg.map (.int .i64))
 m:RowT w 3 B (4 * d.n) ((nats d.mt).map (.int .i64))
theorem DgT.at {w:World} {A B:Option Addr} {d:Pl.Dg} (h:DgT w A B d):DgAt w A B d := ⟨h.s.row,h.m.row⟩
theorem DgT.keep {w w':World} {A B:Option Addr} {d:Pl.Dg} (h:DgT w A B d) (hb:Below w.heap.size w w'):DgT w' A B d := ⟨h.s.keep hb,h.m.keep hb⟩
theorem own_intsT {w:World} {base:Nat} {e:TypeId} {A:Option Addr} {n c:Nat} {zs:List Int} (h:w.ownsRow base e 1 (.slice A n c) n (zs.map (.int .i64))):RowT w e A n (zs.map (.int .i64)) := by
 have hl:=h.1
 refine ⟨by simpa using hl,fun hn => ?_⟩
 rcases h.2 with ⟨_,h2⟩ | ⟨g,cap,cur,h1,_,h3,_,_,_,h7⟩
 ·omega
 ·injection h1 with h1 _ _
  refine ⟨g,0,cur,(0,0),h1,h3,fun j u hu => ?_⟩
  rw [Nat.zero_add,← Array.getElem?_toList]
  have h9:=hu
  rw [← h7,List.getElem?_take] at h9
  split at h9
  ·exact h9
  ·exact absurd h9 (by simp)
theorem OwnN.intsT {w:World} {base g n c:Nat} {l:List Nat} (h:OwnN w base g n c l):RowT w 3 (some ⟨g,0,none⟩) n ((nats l).map (.int .i64)) := by
 refine own_intsT (base := base) (e := 3) (c := c) ?_
 unfold OwnN at h
 unfold nats
 rw [List.map_map]
 exact h
def ResOk (r:Pl.Dg) (mv:Mv) (e:Ending) (w':World):Prop :=
 ∃ (A B:Option Addr) (c1 c2:Nat),e = .returned (.tuple #[.agg #[.slice A r.n c1,.slice B (4 * r.n) c2,.int .i64 r.lp],mv.v,.int .i64 0]) ∧ DgT w' A B r
theorem fin8 {W:World} {gd gm:Nat} {vs us:List Value} (h1:Row W gd 24 vs) (h2:Row W gm 43 us) (l1:vs.length = 3) (l2:us.length = 5) (hne:gd ≠ gm) (y0 y1 y2 z0 z1 z2 z3 z4:Value) :
 ((((((((W.setCell ⟨gd,0,none⟩ y0).setCell ⟨gd,1,none⟩ y1).setCell ⟨gd,2,none⟩ y2).setCell ⟨gm,0,none⟩ z0).setCell ⟨gm,1,none⟩ z1).setCell ⟨gm,2,none⟩ z2).setCell ⟨gm,3,none⟩ z3).setCell ⟨gm,4,none⟩ z4).cell? ⟨gd,0,none⟩ = some y0 ∧ ((((((((W.setCell ⟨gd,0,none⟩ y0).setCell ⟨gd,1,none⟩ y1).setCell ⟨gd,2,none⟩ y2).setCell ⟨gm,0,none⟩ z0).setCell ⟨gm,1,none⟩ z1).setCell ⟨gm,2,none⟩ z2).setCell ⟨gm,3,none⟩ z3).setCell ⟨gm,4,none⟩ z4).cell? ⟨gd,1,none⟩ = some y1 ∧ ((((((((W.setCell ⟨gd,0,none⟩ y0).setCell ⟨gd,1,none⟩ y1).setCell ⟨gd,2,none⟩ y2).setCell ⟨gm,0,none⟩ z0).setCell ⟨gm,1,none⟩ z1).setCell ⟨gm,2,none⟩ z2).setCell ⟨gm,3,none⟩ z3).setCell ⟨gm,4,none⟩ z4).cell? ⟨gd,2,none⟩ = some y2 ∧ ((((((((W.setCell ⟨gd,0,none⟩ y0).setCell ⟨gd,1,none⟩ y1).setCell ⟨gd,2,none⟩ y2).setCell ⟨gm,0,none⟩ z0).setCell ⟨gm,1,none⟩ z1).setCell ⟨gm,2,none⟩ z2).setCell ⟨gm,3,none⟩ z3).setCell ⟨gm,4,none⟩ z4).cell? ⟨gm,0,none⟩ = some z0 ∧ ((((((((W.setCell ⟨gd,0,none⟩ y0).setCell ⟨gd,1,none⟩ y1).setCell ⟨gd,2,none⟩ y2).setCell ⟨gm,0,none⟩ z0).setCell ⟨gm,1,none⟩ z1).setCell ⟨gm,2,none⟩ z2).setCell ⟨gm,3,none⟩ z3).setCell ⟨gm,4,none⟩ z4).cell? ⟨gm,1,none⟩ = some z1 ∧ ((((((((W.setCell ⟨gd,0,none⟩ y0).setCell ⟨gd,1,none⟩ y1).setCell ⟨gd,2,none⟩ y2).setCell ⟨gm,0,none⟩ z0).setCell ⟨gm,1,none⟩ z1).setCell ⟨gm,2,none⟩ z2).setCell ⟨gm,3,none⟩ z3).setCell ⟨gm,4,none⟩ z4).cell? ⟨gm,2,none⟩ = some z2 ∧ ((((((((W.setCell ⟨gd,0,none⟩ y0).setCell ⟨gd,1,none⟩ y1).setCell ⟨gd,2,none⟩ y2).setCell ⟨gm,0,none⟩ z0).setCell ⟨gm,1,none⟩ z1).setCell ⟨gm,2,none⟩ z2).setCell ⟨gm,3,none⟩ z3).setCell ⟨gm,4,none⟩ z4).cell? ⟨gm,3,none⟩ = some z3 ∧ ((((((((W.setCell ⟨gd,0,none⟩ y0).setCell ⟨gd,1,none⟩ y1).setCell ⟨gd,2,none⟩ y2).setCell ⟨gm,0,none⟩ z0).setCell ⟨gm,1,none⟩ z1).setCell ⟨gm,2,none⟩ z2).setCell ⟨gm,3,none⟩ z3).setCell ⟨gm,4,none⟩ z4).cell? ⟨gm,4,none⟩ = some z4 := by
 obtain ⟨a,b,c,rfl⟩:∃ a b c,vs = [a,b,c] := by
  match vs,l1 with
  | [a,b,c],_ => exact ⟨a,b,c,rfl⟩
 obtain ⟨a',b',c',d',e',rfl⟩:∃ a b c d e,us = [a,b,c,d,e] := by
  match us,l2 with
  | [a,b,c,d,e],_ => exact ⟨a,b,c,d,e,rfl⟩
 have r1:=((((((((h1.set 0 y0).set 1 y1).set 2 y2).other (a := ⟨gm,0,none⟩) hne z0).other (a := ⟨gm,1,none⟩) hne z1).other (a := ⟨gm,2,none⟩) hne z2).other (a := ⟨gm,3,none⟩) hne z3).other (a := ⟨gm,4,none⟩) hne z4)
 have r2:=((((((((h2.other (a := ⟨gd,0,none⟩) (Ne.symm hne) y0).other (a := ⟨gd,1,none⟩) (Ne.symm hne) y1).other (a := ⟨gd,2,none⟩) (Ne.symm hne) y2).set 0 z0).set 1 z1).set 2 z2).set 3 z3).set 4 z4)
 exact ⟨r1.cell (i := 0) (by simp),r1.cell (i := 1) (by simp),r1.cell (i := 2) (by simp),r2.cell (i := 0) (by simp),r2.cell (i := 1) (by simp),r2.cell (i := 2) (by simp),r2.cell (i := 3) (by simp),r2.cell (i := 4) (by simp)⟩
theorem box3 {W:World} {g:Nat} {t:TypeId} {a b c:Value} (h:Row W g t [a,b,c]):W.cell? ⟨g,0,none⟩ = some a ∧ W.cell? ⟨g,1,none⟩ = some b ∧ W.cell? ⟨g,2,none⟩ = some c ∧ ∀ o,W.frozen? ⟨g,o,none⟩ = false :=
 ⟨h.cell (i := 0) (by simp),h.cell (i := 1) (by simp),h.cell (i := 2) (by simp),h.free⟩
theorem box5 {W:World} {g:Nat} {t:TypeId} {a b c d e:Value} (h:Row W g t [a,b,c,d,e]):W.cell? ⟨g,0,none⟩ = some a ∧ W.cell? ⟨g,1,none⟩ = some b ∧ W.cell? ⟨g,2,none⟩ = some c ∧ W.cell? ⟨g,3,none⟩ = some d ∧ W.cell? ⟨g,4,none⟩ = some e ∧ ∀ o,W.frozen? ⟨g,o,none⟩ = false :=
 ⟨h.cell (i := 0) (by simp),h.cell (i := 1) (by simp),h.cell (i := 2) (by simp),h.cell (i := 3) (by simp),h.cell (i := 4) (by simp),h.free⟩
theorem own_grown {w w':World} {base:Nat} {e:TypeId} {g g' n c:Nat} {xs:List Value} (h:w.ownsRow base e 1 (.slice (some ⟨g,0,none⟩) n c) n xs) (hg:w.grownBy w' (some g')) (hne:g ≠ g'):w'.ownsRow base e 1 (.slice (some ⟨g,0,none⟩) n c) n xs := by
 refine ⟨h.1,?_⟩
 rcases h.2 with hz | ⟨k,cap,cur,r1,r2,r3,r4⟩
 ·exact .inl hz
 ·injection r1 with e1 e2 e3
  injection e1 with e1
  injection e1 with e1
  subst e1
  subst e3
  exact .inr ⟨g,c,cur,rfl,r2,(hg.block g (lt_of_heap r3) (by intro h; injection h; omega)).trans r3,r4⟩
theorem own_ints {w:World} {base:Nat} {e:TypeId} {g n c:Nat} {zs:List Int} (h:w.ownsRow base e 1 (.slice (some ⟨g,0,none⟩) n c) n (zs.map (.int .i64))):IntsAt w (some ⟨g,0,none⟩) n zs := by
 have hl:=h.1
 refine ⟨by simpa using hl,fun _ => ⟨g,0,rfl,fun j u hu => ?_⟩⟩
 rw [Nat.zero_add]
 have hj:j < n:=by
  have:=(List.getElem?_eq_some_iff.mp hu).1
  simp at this hl
  omega
 rw [World.ownsRow.cellAt h j (by simpa using hj)]
 exact hu
theorem OwnN.ints {w:World} {base g n c:Nat} {l:List Nat} (h:OwnN w base g n c l):IntsAt w (some ⟨g,0,none⟩) n (nats l) := by
 refine own_ints (base := base) (e := 3) (c := c) ?_
 unfold OwnN at h
 unfold nats
 rw [List.map_map]
 exact h
theorem OwnN.drew' {w W:World} {base g n c:Nat} {l:List Nat} (e:W = w.drew) (h:OwnN w base g n c l):OwnN W base g n c l := by subst e; exact h
def kI0 (n:Nat) (sg:Int) (ov:Bool):Nat := if ov then (if sg = -1 then 4 * n + 1 else 4 * n + 3) else 4 * n
def kO0 (n:Nat) (sg:Int) (ov:Bool):Nat := if ov then (if sg = -1 then 4 * n + 3 else 4 * n + 1) else 4 * n + 2
def kI1 (n:Nat) (sg:Int) (ov:Bool):Nat := if ov then 4 * n else (if sg = -1 then 4 * n + 1 else 4 * n + 3)
def kO1 (n:Nat) (sg:Int) (ov:Bool):Nat := if ov then 4 * n + 2 else (if sg = -1 then 4 * n + 3 else 4 * n + 1)
def crl (d:Pl.Dg) (x sg:Int) (ov:Bool):Pl.Dg where
 sg := d.sg ++ [sg]
 mt := if x < 0 then jn (jn (d.mt ++ List.replicate 4 0) (kO0 d.n sg ov) (kI1 d.n sg ov)) (kO1 d.n sg ov) (kI0 d.n sg ov) else jn (jn (jn (d.mt ++ List.replicate 4 0) (kO0 d.n sg ov) (kI1 d.n sg ov)) (kO1 d.n sg ov) (d.m x.toNat)) x.toNat (kI0 d.n sg ov)
 lp := if x < 0 then d.lp - 1 else d.lp
theorem crl_n (d:Pl.Dg) (x sg:Int) (ov:Bool):(crl d x sg ov).n = d.n + 1 := by unfold Pl.Dg.n crl; simp
end Go.Proofs.YtghdiolnonejaaaGreatDoor
end
section
namespace Go.Proofs.YtghdiolnonejaaaGreatDoor
open Go.RowKit
def ClosedPost (l:List Nat) (base g n cap a b:Nat) (w:World) (e:Ending) (w':World):Prop :=
 e = .returned (.int .i64 (if l.getD a 0 = b then 1 else 0)) ∧ OwnN w' base g n cap (if l.getD a 0 = b then l else jn l (l.getD a 0) (l.getD b 0)) ∧ w.grownBy w' (some g)
theorem grown_refl (w:World) (r:Option Nat):w.grownBy w r := ⟨rfl,rfl,rfl,Nat.le_refl _,fun _ _ _ => rfl⟩
theorem grown_drew {w W w':World} {r:Option Nat} (e:W = w.drew) (h:W.grownBy w' r):w.grownBy w' r := by subst e; exact ⟨h.os,h.tape,h.output,h.size,h.block⟩
set_option maxRecDepth 100000 in
set_option maxHeartbeats 1000000 in
theorem closed_any (base g n cap a b:Nat) (l:List Nat) (w:World) (h:OwnN w base g n cap l) (ha:a < n) (hb:b < n) (hn:n ≤ 100000) (hl:∀ k,k < n → l.getD k 0 < n) :
 Calls Tryz.prog 77 #[.slice (some ⟨g,0,none⟩) n cap,.int .i64 (a:Int),.int .i64 (b:Int)] w (ClosedPost l base g n cap a b w) := by
 have c1:=h.cell ha
 have c2:=h.cell hb
 have la:=hl a ha
 have lb:=hl b hb
 obtain ⟨x,hx⟩:∃ x,x = l.getD a 0 := ⟨_,rfl⟩
 obtain ⟨y,hy⟩:∃ y,y = l.getD b 0 := ⟨_,rfl⟩
 rw [← hx] at c1 la
 rw [← hy] at c2 lb
 have HH:=hide h
 have HX:=hide hx
 have HY:=hide hy
 clear h hx hy
 go_enter Tryz.func77,Tryz.ntmps77
 by_cases hxb:x = b
 ·subst hxb
  go_wp2
  go_ret
  refine ⟨ret_int ?_,?_,grown_refl _ _⟩
  ·rw [if_pos HX.out.symm]
  ·rw [if_pos HX.out.symm]; exact HH.out
 ·have t1:((x:Int) == (b:Int)) = false:=by rw [beq_eq_false_iff_ne]; omega
  have i1:(a:Int) < (n:Int):=by omega
  have i2:(b:Int) < (n:Int):=by omega
  have i3:(0:Int) ≤ (a:Int):=by omega
  have i4:(0:Int) ≤ (b:Int):=by omega
  go_wp2_with fail
  go_still_tail 9,(by kernel_rfl)
  change wpList _ _ _ _ _ w.drew
  obtain ⟨W6,hW6⟩:∃ W6:World,W6 = w.drew := ⟨_,rfl⟩
  rw [← hW6]
  have O6:=hide (OwnN.drew' hW6 HH.out)
  have HW:=hide hW6
  clear hW6 c1 c2
  go_wp2_with fail
  refine (join_any base g n cap x y l W6 O6.out la lb hn).mono ?_
  rintro e w5 ⟨rfl,own5,gr5⟩
  have OWN5:=hide own5
  have GR5:=hide gr5
  clear own5 gr5
  go_wp2_with fail
  go_ret
  have hne:¬ l.getD a 0 = b:=by rw [← HX.out]; exact hxb
  refine ⟨ret_int ?_,?_,grown_drew HW.out GR5.out⟩
  ·rw [if_neg hne]
  ·rw [if_neg hne,← HX.out,← HY.out]; exact OWN5.out
end Go.Proofs.YtghdiolnonejaaaGreatDoor
end
section
namespace Go.Proofs.YtghdiolnonejaaaGreatDoor
open Go.RowKit
def boxV (A B:Option Addr) (n cp q cq:Nat) (l:Value):List Value := [.slice A n cp,.slice B q cq,l]
set_option maxRecDepth 100000 in
set_option maxHeartbeats 4000000 in
theorem label_any (d:Pl.Dg) (hd:Pl.Wf d) (A B:Option Addr) (cp cq:Nat) (l:Value) (w:World) (hg:DgAt w A B d) :
 Calls Tryz.prog 40 #[.agg #[.slice A d.n cp,.slice B (4 * d.n) cq,l]] w fun e w' =>
  ∃ (ps:List Int) (P g:Nat),e = .returned (.tuple #[.slice (some ⟨g,0,none⟩) d.n d.n,.int .i64 (P:Int)]) ∧ Pl.LB d ps P ∧ (∀ a,a < d.n → 0 ≤ Pl.pv ps a) ∧ w.heap.size ≤ g ∧ IRow w' g ps ∧ Below w.heap.size w w' := by
 have hn:=hd.few
 have HF:=hide hd
 clear hd
 have hmk:=run_ints d.n (by omega) (w.alloc (.cells #[.slice A d.n cp,.slice B (4 * d.n) cq,l] 24))
 go_enter Tryz.func40,Tryz.ntmps40
 go_wp2
 clear hmk
 obtain ⟨W1,hW1⟩:∃ W1:World,W1 = (w.alloc (.cells #[.slice A d.n cp,.slice B (4 * d.n) cq,l] 24)).alloc (.cells (Array.replicate d.n (Value.int .i64 0)) 3) := ⟨_,rfl⟩
 have B1:=hide (show Below w.heap.size w W1 by rw [hW1]; exact ((Below.refl _ _).alloc (Nat.le_refl _) _).alloc (by simp) _)
 have X1:=hide (show Row W1 w.heap.size 24 (boxV A B d.n cp (4 * d.n) cq l) by rw [hW1]; exact (Row.new w _ _).alloc _)
 have R1:=hide (show IRow W1 (w.heap.size + 1) (List.replicate d.n 0) by
  rw [hW1]
  have:=IRow.made (w.alloc (.cells #[.slice A d.n cp,.slice B (4 * d.n) cq,l] 24)) d.n
  simpa using this)
 rw [← hW1]
 clear hW1
 go_loopg [18] d.n (fun g i wx => ∃ k:Nat,k + g = d.n ∧ i = .int .i64 k ∧ Below w.heap.size w wx ∧ Row wx w.heap.size 24 (boxV A B d.n cp (4 * d.n) cq l) ∧ IRow wx (w.heap.size + 1) (List.replicate k (-1) ++ List.replicate (d.n - k) 0))
 case atStart => exact ⟨0,by omega,rfl,B1.out,X1.out,by simpa using R1.out⟩
 case round =>
  obtain ⟨k,hkg,rfl,b2,x2,r2⟩:=hrel
  have HG:=hide hkg
  have hks:k ≤ d.n:=by omega
  clear hkg
  by_cases hlt:k < d.n
  ·have c1:=r2.cell (i := k) (by simp; omega)
   have f1:=Row.free r2 k
   have B2:=hide b2
   have X2:=hide x2
   have R2:=hide r2
   clear b2 x2 r2
   go_wp2
   go_roundg (gk - 1)
   case measure => have := HG.out; omega
   case rel =>
    refine ⟨k + 1,by have := HG.out; omega,by go_num,?_,X2.out.other (by simp) _,?_⟩
    ·exact B2.out.setCell (by simp) _
    ·have:=R2.out.set k (-1)
     rwa [Pl.fill_set hlt] at this
  ·have hkn:k = d.n:=by omega
   have B2:=hide b2
   have X2:=hide x2
   have R2:=hide (show IRow wr (w.heap.size + 1) (List.replicate d.n (-1)) by subst hkn; simpa using r2)
   clear b2 x2 r2 hkn
   go_wp2
   go_loopg [6,27] d.n (fun g p i wx => ∃ (k P:Nat) (ps:List Int),k + g = d.n ∧ i = .int .i64 k ∧ p = .int .i64 P ∧ Pl.LB d ps P ∧ (∀ a,a < k → 0 ≤ Pl.pv ps a) ∧ Below w.heap.size w wx ∧ Row wx w.heap.size 24 (boxV A B d.n cp (4 * d.n) cq l) ∧ IRow wx (w.heap.size + 1) ps)
   case atStart => exact ⟨0,0,_,by omega,rfl,rfl,Pl.LB.start d,fun a ha => absurd ha (by omega),B2.out,X2.out,R2.out⟩
   case round =>
    clear B2 X2 R2 B1 X1 R1 HG hks hlt
    obtain ⟨j,P,ps,hjg,rfl,rfl,hlb,hall,b3,x3,r3⟩:=hrel
    have HG:=hide hjg
    have HL:=hide hlb
    have HA:=hide hall
    have hjs:j ≤ d.n:=by omega
    have hlen:ps.length = d.n:=hlb.len
    have hP:=hlb.le
    have HLen:=hide hlen
    clear hjg hlb hall
    by_cases hjn:j < d.n
    ·have c1:=r3.cell (i := j) (by omega)
     have f1:=Row.free r3 j
     have B3:=hide b3
     have X3:=hide x3
     have R3:=hide r3
     clear b3 x3 r3 hlen
     by_cases hlab:0 ≤ Pl.pv ps j
     ·go_wp2
      go_roundg (gk - 1)
      case measure => have := HG.out; omega
      case rel =>
       refine ⟨j + 1,P,ps,by have := HG.out; omega,by go_num,rfl,HL.out,fun a ha => ?_,B3.out,X3.out,R3.out⟩
       by_cases e:a = j
       ·rw [e]; exact hlab
       ·exact HA.out a (by omega)
     ·have hneg:Pl.pv ps j < 0:=by omega
      have hjl:j < ps.length:=by have := HLen.out; omega
      obtain ⟨wo,rfl⟩:∃ wo:World,wo = wr := ⟨_,rfl⟩
      have hwz:w.heap.size + 2 ≤ wo.heap.size:=by have := R3.out.lt; omega
      go_wp2
      obtain ⟨W2,hW2⟩:∃ W2:World,W2 = (wo.setCell ⟨w.heap.size + 1,j,none⟩ (.int .i64 P)).alloc (.cells #[.int .i64 j] 3) := ⟨_,rfl⟩
      have B4:=hide (show Below w.heap.size w W2 by rw [hW2]; exact (B3.out.setCell (by simp) _).alloc (by simp; omega) _)
      have X4:=hide (show Row W2 w.heap.size 24 (boxV A B d.n cp (4 * d.n) cq l) by rw [hW2]; exact (X3.out.other (by simp) _).alloc _)
      have R4:=hide (show IRow W2 (w.heap.size + 1) (ps.set j P) by rw [hW2]; exact Row.alloc (R3.out.set j P) _)
      have Q4:=hide (show OwnT W2 (w.heap.size + 2) 3 (.slice (some ⟨wo.heap.size,0,none⟩) 1 1) 1 [.int .i64 j] by
       rw [hW2]
       refine ⟨rfl,wo.heap.size,0,1,#[.int .i64 j],rfl,hwz,?_,by omega,by unfold maxLen; omega,by simp,rfl⟩
       have:=heap_alloc_new (wo.setCell ⟨w.heap.size + 1,j,none⟩ (.int .i64 P)) (.cells #[.int .i64 j] 3)
       simpa using this)
      have HQ:=hide (Pl.LQ.start HL.out hjn hneg)
      have HU:=hide (Pl.unl_set hjl hneg (v := (P:Int)) (by omega))
      rw [← hW2]
      clear hW2 B3 X3 R3 c1 f1 hneg hlab
      go_loopg [8] (Pl.unl (ps.set j P) + 1) (fun g v wx => ∃ (p1:List Int) (qs:List Nat),g = Pl.unl p1 + qs.length ∧ Pl.unl p1 + qs.length ≤ d.n ∧ Pl.LQ d j ps P p1 qs d.n 0 ∧ OwnT wx (w.heap.size + 2) 3 v qs.length (qs.map (fun q:Nat => Value.int .i64 q)) ∧ Below w.heap.size w wx ∧ Row wx w.heap.size 24 (boxV A B d.n cp (4 * d.n) cq l) ∧ IRow wx (w.heap.size + 1) p1)
      case atStart => exact ⟨_,[j],rfl,by have h1 := HU.out; have h2:Pl.unl ps ≤ ps.length := List.countP_le_length; have h3 := HLen.out; simp only [List.length_singleton]; omega,HQ.out,Q4.out,B4.out,X4.out,R4.out⟩
      case round =>
       clear B4 X4 R4 Q4 HQ HU
       obtain ⟨p1,qs,hgk,hgn,hlq,hown,b5,x5,r5⟩:=hrel
       have HGN:=hide hgn
       have HGK:=hide hgk
       have HQ:=hide hlq
       have B5:=hide b5
       have X5:=hide x5
       have R5:=hide r5
       clear hgk hgn hlq b5 x5 r5
       cases qs with
       | nil =>
         obtain ⟨g0,off,cap,rfl,_,_,_,_,_⟩:=hown.cells
         have HD:=hide (Pl.LQ.done HF.out HQ.out)
         simp only [List.length_nil]
         go_wp2
         go_roundg (d.n - (j + 1))
         case measure => have := HG.out; omega
         case rel =>
          refine ⟨j + 1,P + 1,p1,by omega,by go_num,by go_num,HD.out.1,fun a ha => ?_,B5.out,X5.out,R5.out⟩
          by_cases e:a = j
          ·rw [e]; exact HD.out.2.2
          ·exact HD.out.2.1 a (by omega) (HA.out a (by omega))
       | cons q qs =>
         have hqn:q < d.n:=(HQ.out.wait q (by simp)).1
         have HQP:=hide ((HQ.out.wait q (by simp)).2)
         have hown':=hown
         obtain ⟨g0,off,cap,rfl,hg0,hg1,hcl,hcm,hcells⟩:=hown'.cells
         have cq0:wr.cell? ⟨g0,off,none⟩ = some (.int .i64 (q:Int)):=by
          have:=hcells 0 (.int .i64 (q:Int)) rfl
          simpa using this
         rw [List.length_cons] at hown hcl
         rw [List.map_cons] at hown
         have HO:=hide hown
         simp only [List.length_cons]
         unfold maxLen at hcm
         clear hown hcells
         obtain ⟨wo,rfl⟩:∃ wo:World,wo = wr := ⟨_,rfl⟩
         have HP:=hide (HQ.out.pop rfl)
         by_cases hcap:cap = 1
         case' pos =>
          have Q6:=hide (HO.out.tail0 hcap)
          have hq0:qs.length = 0:=by omega
          have HQ0:=hide hq0
          go_wp2
          have HC:=hide hcap
          clear hq0 hcap
         case' neg =>
          have Q6:=hide (show OwnT wo (w.heap.size + 2) 3 (.slice (some ⟨g0,off + 1,none⟩) qs.length (cap - 1)) qs.length (qs.map (fun q:Nat => Value.int .i64 q)) from HO.out.tail)
          go_wp2
         all_goals
          clear HO cq0
          go_loopg [8,49] 4 (fun g v i wx => ∃ (p2:List Int) (qs2:List Nat) (s:Nat),s + g = 4 ∧ i = .int .i64 s ∧ Pl.unl p2 + qs2.length = Pl.unl p1 + qs.length ∧ Pl.LQ d j ps P p2 qs2 q s ∧ Pl.pv p2 q = P ∧ OwnT wx (w.heap.size + 2) 3 v qs2.length (qs2.map (fun q:Nat => Value.int .i64 q)) ∧ Below w.heap.size w wx ∧ Row wx w.heap.size 24 (boxV A B d.n cp (4 * d.n) cq l) ∧ IRow wx (w.heap.size + 1) p2)
          case atStart =>
           refine ⟨p1,qs,0,rfl,rfl,rfl,HP.out,HQP.out,?_,B5.out,X5.out,R5.out⟩
           first
            | exact Q6.out
            | (have h6 := Q6.out; rw [HQ0.out,HC.out] at h6; rw [HQ0.out]; exact h6)
          case round =>
           clear B5 X5 R5 HP HQP Q6
           obtain ⟨p2,qs2,s,hsg,rfl,hum,hlq2,hpq,hown2,b6,x6,r6⟩:=hrel
           have HSG:=hide hsg
           have HUM:=hide hum
           have HQ2:=hide hlq2
           have HPQ:=hide hpq
           have HO2:=hide hown2
           have hs4:s ≤ 4:=by omega
           have HL2:=hide hlq2.len
           obtain ⟨g2,off2,cap2,rfl,hg20,hg21,hcl2,hcm2,_⟩:=hown2.cells
           unfold maxLen at hcm2
           clear hsg hum hlq2 hpq hown2
           by_cases hs:s < 4
           ·have hi:4 * q + s < 4 * d.n:=by omega
            obtain ⟨bb,bo,rfl,hmc⟩:=mate_at hg.m hi
            have hmc':=cell_below hmc b6
            have hnb:=Pl.nb_lt HF.out hqn hs
            have hml:=HF.out.lt _ hi
            have hnl:Pl.nb d q s < p2.length:=by have := HL2.out; omega
            have c7:=r6.cell hnl
            have f7:=Row.free r6 (Pl.nb d q s)
            have B6:=hide b6
            have X6:=hide x6
            have R6:=hide r6
            have x7:=x6.cell (i := 1) (by show 1 < 3; omega)
            have x7':wr.cell? ⟨w.heap.size,1,none⟩ = some (.slice (some ⟨bb,bo,none⟩) (4 * d.n) cq):=x7
            unfold Pl.nb at c7 f7
            clear b6 x6 r6 x7 hmc
            by_cases hneg:Pl.pv p2 (d.m (4 * q + s) / 4) < 0
            ·obtain ⟨wq,rfl⟩:∃ wq:World,wq = wr := ⟨_,rfl⟩
             have hq65:qs2.length ≤ 1000:=by
              have h1:=HUM.out
              have h2:=HGN.out
              rw [List.length_cons] at h2
              omega
             obtain ⟨i0,hi0,hz0,hz1,hz2⟩:=info_parts intInfo
             have hwz2:w.heap.size + 2 ≤ wq.heap.size:=by have := R6.out.lt; omega
             have HC1:=hide (show ((wq.setCell ⟨w.heap.size + 1,d.m (4 * q + s) / 4,none⟩ (.int .i64 P)).alloc (.cells #[.int .i64 ((d.m (4 * q + s):Int) / 4)] 3)).cell? ((⟨wq.heap.size,0,none⟩:Addr).add 0) = some (.int .i64 ((d.m (4 * q + s):Int) / 4)) by
              have h8:=Lib.cell_of_heap (heap_alloc_new (wq.setCell ⟨w.heap.size + 1,d.m (4 * q + s) / 4,none⟩ (.int .i64 P)) (.cells #[.int .i64 ((d.m (4 * q + s):Int) / 4)] 3)) 0
              simpa [Addr.add] using h8)
             go_wp2_with (at_builtin; refine wpList_append_tail _ rfl _ _ 22 rfl (w.heap.size + 2) 3 i0 (.int .i64 0) 8 Tryz.underlying22 hi0 hz0 hz1 hz2 rfl (.slice (some ⟨g2,off2,none⟩) qs2.length cap2) qs2.length (qs2.map (fun q:Nat => Value.int .i64 q)) (by rfl) (OwnT.below (OwnT.keep HO2.out (w' := wq.setCell ⟨w.heap.size + 1,d.m (4 * q + s) / 4,none⟩ (.int .i64 P)) (fun g h1 h2 h3 => Below.heap_setCell _ _ _ _ (by simp; omega))) ((Below.refl _ _).alloc (Nat.le_refl _) _)) ⟨wq.heap.size,0,none⟩ 1 (.int .i64 ((d.m (4 * q + s):Int) / 4)) (by rfl) HC1.out rfl (by unfold maxLen; omega) (by omega) (by simp; omega) ?_; intro v7 w7 own7 grow7)
             have hne2:(Value.slice (some ⟨g2,off2,none⟩) qs2.length cap2).ownBlock = some g2:=rfl
             rw [hne2] at grow7
             go_roundg (gk - 1)
             case measure => have := HSG.out; omega
             case rel =>
              have hu:=Pl.unl_set (ps := p2) (i := Pl.nb d q s) (by have := HL2.out; omega) hneg (v := (P:Int)) (by omega)
              refine ⟨p2.set (Pl.nb d q s) P,qs2 ++ [Pl.nb d q s],s + 1,by have := HSG.out; omega,by go_num,?_,HQ2.out.push HF.out hqn HPQ.out hs hneg,?_,?_,?_,?_,?_⟩
              ·have:=HUM.out; rw [List.length_append,List.length_singleton]; omega
              ·rw [Pl.pv_set (by have := HL2.out; omega)]; split; rfl; exact HPQ.out
              ·rw [List.length_append,List.length_singleton,List.map_append]
               have e9:(Value.int .i64 ((Pl.nb d q s:Nat):Int)) = Value.int .i64 ((d.m (4 * q + s):Int) / 4):=by
                congr 1
               rw [List.map_cons,List.map_nil,e9]
               exact own7
              ·exact (Below.alloc (B6.out.setCell (by simp) _) (by simp; omega) _).grown grow7 (by simp; omega) (fun k hk => by injection hk with hk; omega)
              ·exact Row.grown ((X6.out.other (by simp) _).alloc _) grow7 (by intro e; injection e with e; omega)
              ·exact Row.grown (Row.alloc (R6.out.set _ P) _) grow7 (by intro e; injection e with e; omega)
            ·go_wp2
             go_roundg (gk - 1)
             case measure => have := HSG.out; omega
             case rel =>
              exact ⟨p2,qs2,s + 1,by have := HSG.out; omega,by go_num,HUM.out,HQ2.out.skip (by unfold Pl.nb; omega),HPQ.out,HO2.out,B6.out,X6.out,R6.out⟩
           ·have hs4':s = 4:=by omega
            have B6:=hide b6
            have X6:=hide x6
            have R6:=hide r6
            clear b6 x6 r6
            go_wp2
            go_roundg (Pl.unl p1 + qs.length)
            case measure => have := HGK.out; rw [List.length_cons] at this; omega
            case rel =>
             exact ⟨p2,qs2,HUM.out.symm,by have h8 := HUM.out; have h9 := HGN.out; rw [List.length_cons] at h9; omega,by have h7 := HQ2.out; rw [hs4'] at h7; exact h7.rest,HO2.out,B6.out,X6.out,R6.out⟩
    ·have hjn':j = d.n:=by omega
     have B3:=hide b3
     have R3:=hide r3
     have hwz3:w.heap.size + 1 < wr.heap.size:=r3.lt
     clear b3 x3 r3 hlen
     go_wp2
     go_ret2
     exact ⟨ps,P,w.heap.size + 1,rfl,HL.out,fun a ha => HA.out a (by omega),by omega,R3.out,B3.out⟩
theorem label_m (d:Pl.Dg) (hd:Pl.Wf d) (A B:Option Addr) (cp cq m:Nat) (l:Value) (w:World) (hm:m = 4 * d.n) (hg:DgAt w A B d) :
 Calls Tryz.prog 40 #[.agg #[.slice A d.n cp,.slice B m cq,l]] w fun e w' =>
  ∃ (ps:List Int) (P g:Nat),e = .returned (.tuple #[.slice (some ⟨g,0,none⟩) d.n d.n,.int .i64 (P:Int)]) ∧ Pl.LB d ps P ∧ (∀ a,a < d.n → 0 ≤ Pl.pv ps a) ∧ w.heap.size ≤ g ∧ IRow w' g ps ∧ Below w.heap.size w w' := by
 subst hm; exact label_any d hd A B cp cq l w hg
end Go.Proofs.YtghdiolnonejaaaGreatDoor
end
section
namespace Go.Proofs.YtghdiolnonejaaaGreatDoor
open Go.RowKit
set_option maxRecDepth 100000 in
set_option maxHeartbeats 4000000 in
theorem spherical_any (d:Pl.Dg) (hd:Pl.Wf d) (A B:Option Addr) (cp cq:Nat) (l:Value) (w:World) (hl:l = .int .i64 d.lp) (hg:DgAt w A B d) :
 Calls Tryz.prog 21 #[.agg #[.slice A d.n cp,.slice B (4 * d.n) cq,l]] w fun e w' => e = .returned (.bool (Pl.vb (Pl.Rule d))) ∧ Below w.heap.size w w' := by
 subst hl
 have hn:=hd.few
 have HF:=hide hd
 clear hd
 obtain ⟨m,hm⟩:∃ m,m = 4 * d.n := ⟨_,rfl⟩
 rw [← hm]
 have HM:=hide hm
 have hm6:m ≤ 256:=by omega
 clear hm
 go_enter Tryz.func21,Tryz.ntmps21
 go_wp2_with fail
 have b0:Below w.heap.size w (w.alloc (.cells #[.slice A d.n cp,.slice B m cq,.int .i64 d.lp] 24)):=(Below.refl _ _).alloc (Nat.le_refl _) _
 have x0:Row (w.alloc (.cells #[.slice A d.n cp,.slice B m cq,.int .i64 d.lp] 24)) w.heap.size 24 (boxV A B d.n cp m cq (.int .i64 d.lp)):=Row.new w _ _
 refine (label_m d HF.out A B cp cq m _ _ HM.out (hg.keep b0)).mono ?_
 rintro e w1 ⟨ps,P,g,rfl,hlb,hall,hgb,hrow,hb1⟩
 have X1:=hide (x0.below hb1)
 have B1:=hide (b0.trans (hb1.mono (by simp)))
 have hPn:=hlb.le
 have HLB:=hide hlb
 have HALL:=hide hall
 have HLen:=hide hlb.len
 have R1:=hide hrow
 have hg0:w.heap.size + 1 ≤ g:=by simpa using hgb
 have hg1:g < w1.heap.size:=hrow.lt
 clear b0 x0 hb1 hlb hall hrow hgb
 have hmk:=run_ints P (by omega) w1
 go_wp2
 clear hmk
 obtain ⟨W2,hW2⟩:∃ W2:World,W2 = w1.alloc (.cells (Array.replicate P (Value.int .i64 0)) 3) := ⟨_,rfl⟩
 have B2:=hide (show Below w.heap.size w W2 by rw [hW2]; exact B1.out.alloc (by omega) _)
 have X2:=hide (show Row W2 w.heap.size 24 (boxV A B d.n cp m cq (.int .i64 d.lp)) by rw [hW2]; exact X1.out.alloc _)
 have R2:=hide (show IRow W2 g ps by rw [hW2]; exact Row.alloc R1.out _)
 have E2:=hide (show IRow W2 w1.heap.size (List.replicate P 0) by rw [hW2]; exact IRow.made w1 P)
 rw [← hW2]
 clear hW2 B1 X1 R1
 generalize w1.heap.size = eb at hg1 E2 ⊢
 go_loopg [22] d.n (fun g' i wx => ∃ (k:Nat) (es:List Int),k + g' = d.n ∧ i = .int .i64 k ∧ Pl.Ex d ps es P k 0 ∧ Below w.heap.size w wx ∧ Row wx w.heap.size 24 (boxV A B d.n cp m cq (.int .i64 d.lp)) ∧ IRow wx g ps ∧ IRow wx eb es)
 case atStart => exact ⟨0,_,by omega,rfl,Pl.Ex.start d ps P,B2.out,X2.out,R2.out,E2.out⟩
 case round =>
  clear B2 X2 R2 E2
  obtain ⟨k,es,hkg,rfl,hex,b3,x3,r3,e3⟩:=hrel
  have HG:=hide hkg
  have HE:=hide hex
  have hks:k ≤ d.n:=by omega
  have hel:=hex.1
  have HEL:=hide hel
  clear hkg hex
  by_cases hlt:k < d.n
  ·obtain ⟨q,hq⟩:∃ q:Nat,Pl.pv ps k = q := ⟨(Pl.pv ps k).toNat,by have := HALL.out k hlt; omega⟩
   have hqP:q < P:=by have := (HLB.out.lo k hlt).2; omega
   have c1:=r3.cell (i := k) (by have := HLen.out; omega)
   rw [hq] at c1
   have c2:=e3.cell (i := q) (by omega)
   have f2:=Row.free e3 q
   have hlo:-1000 ≤ Pl.pv es q ∧ Pl.pv es q ≤ 1000:=by
    have h1:=HE.out.2 q hqP
    have h2:Pl.nf d ps q 0 = 0:=rfl
    have h3:Pl.nv ps q k ≤ k:=Pl.cnt_top _ k
    omega
   have HQ:=hide hq
   have B3:=hide b3
   have X3:=hide x3
   have R3:=hide r3
   have E3:=hide e3
   clear hq b3 x3 r3 e3 hel
   go_wp2
   go_roundg (gk - 1)
   case measure => have := HG.out; omega
   case rel =>
    refine ⟨k + 1,_,by have := HG.out; omega,by go_num,HE.out.less hqP HQ.out,B3.out.setCell (by simp; omega) _,X3.out.other (by simp; omega) _,Row.other R3.out (by simp; omega) _,E3.out.set q (Pl.pv es q - 1)⟩
  ·have hkn:k = d.n:=by omega
   have HE':=hide (show Pl.Ex d ps es P d.n 0 by have := HE.out; rw [hkn] at this; exact this)
   have hmk2:=run_bools m (by omega) wr
   have B3:=hide b3
   have X3:=hide x3
   have R3:=hide r3
   have E3:=hide e3
   have x3c:wr.cell? ⟨w.heap.size,1,none⟩ = some (.slice B m cq):=x3.cell (i := 1) (by show 1 < 3; omega)
   have ewz:eb < wr.heap.size:=e3.lt
   have x3d:(wr.alloc (.cells (Array.replicate m (Value.bool false)) 4)).cell? ⟨w.heap.size,1,none⟩ = some (.slice B m cq):=(x3.alloc _).cell (i := 1) (by show 1 < 3; omega)
   clear b3 x3 r3 e3 hkn HE hel
   go_wp2
   clear hmk2 x3c x3d
   obtain ⟨W4,hW4⟩:∃ W4:World,W4 = wr.alloc (.cells (Array.replicate m (Value.bool false)) 4) := ⟨_,rfl⟩
   have B4:=hide (show Below w.heap.size w W4 by rw [hW4]; exact B3.out.alloc (by omega) _)
   have X4:=hide (show Row W4 w.heap.size 24 (boxV A B d.n cp m cq (.int .i64 d.lp)) by rw [hW4]; exact X3.out.alloc _)
   have R4:=hide (show IRow W4 g ps by rw [hW4]; exact Row.alloc R3.out _)
   have E4:=hide (show IRow W4 eb es by rw [hW4]; exact Row.alloc E3.out _)
   have S4:=hide (show BRow W4 wr.heap.size (List.replicate (4 * d.n) false) by rw [hW4,← HM.out]; exact BRow.made wr m)
   rw [← hW4]
   clear hW4 B3 X3 R3 E3
   generalize wr.heap.size = sb at ewz S4 ⊢
   go_loopg [40] m (fun g' i wx => ∃ (k:Nat) (es:List Int) (bs:List Bool),k + g' = m ∧ i = .int .i64 k ∧ Pl.Ex d ps es P d.n k ∧ Pl.SQ d k bs ∧ Below w.heap.size w wx ∧ Row wx w.heap.size 24 (boxV A B d.n cp m cq (.int .i64 d.lp)) ∧ IRow wx g ps ∧ IRow wx eb es ∧ BRow wx sb bs)
   case atStart => exact ⟨0,es,_,by omega,rfl,HE'.out,Pl.SQ.start d,B4.out,X4.out,R4.out,E4.out,S4.out⟩
   case round =>
    clear B4 X4 R4 E4 S4 HG HEL HE'
    obtain ⟨j,e5,bs,hjg,rfl,hex,hsq,b6,x6,r6,e6,s6⟩:=hrel
    have HG:=hide hjg
    have HE:=hide hex
    have HS:=hide hsq
    have hjs:j ≤ m:=by omega
    have HEL:=hide hex.1
    have HSL:=hide hsq.len
    clear hjg hex hsq
    by_cases hjm:j < m
    ·have hj4:j < 4 * d.n:=by have := HM.out; omega
     have c1:=s6.cell (i := j) (by have := HSL.out; omega)
     by_cases hseen:Pl.gb bs j = true
     ·have c1':wr.cell? ⟨sb,j,none⟩ = some (.bool true):=by rw [c1]; exact congrArg (fun b => some (Value.bool b)) hseen
      have B6:=hide b6
      have X6:=hide x6
      have R6:=hide r6
      have E6:=hide e6
      have S6:=hide s6
      have HSE:=hide (HS.out.seen HF.out hj4 hseen)
      clear c1 b6 x6 r6 e6 s6 hseen
      go_wp2
      go_roundg (gk - 1)
      case measure => have := HG.out; omega
      case rel => exact ⟨j + 1,e5,bs,by have := HG.out; omega,by go_num,HE.out.same HSE.out.2,HSE.out.1,B6.out,X6.out,R6.out,E6.out,S6.out⟩
     ·have hseen':Pl.gb bs j = false:=by simpa using hseen
      have c1':wr.cell? ⟨sb,j,none⟩ = some (.bool false):=by rw [c1]; exact congrArg (fun b => some (Value.bool b)) hseen'
      have HSE:=hide (HS.out.enter HF.out hj4 hseen')
      have hj4':j / 4 < d.n:=by omega
      obtain ⟨q,hq⟩:∃ q:Nat,Pl.pv ps (j / 4) = q := ⟨(Pl.pv ps (j / 4)).toNat,by have := HALL.out (j / 4) hj4'; omega⟩
      have hqP:q < P:=by have := (HLB.out.lo (j / 4) hj4').2; omega
      have c2:=r6.cell (i := j / 4) (by have := HLen.out; omega)
      rw [hq] at c2
      have c3:=e6.cell (i := q) (by have := HEL.out; omega)
      have f3:=Row.free e6 q
      have hlo:-1000 ≤ Pl.pv e5 q ∧ Pl.pv e5 q ≤ 1000:=by
       have h1:=HE.out.2 q hqP
       have h2:Pl.nf d ps q j ≤ j:=Pl.cnt_top _ j
       have h3:Pl.nv ps q d.n ≤ d.n:=Pl.cnt_top _ d.n
       omega
      have HQ:=hide hq
      have B6:=hide b6
      have X6:=hide x6
      have R6:=hide r6
      have E6:=hide e6
      have S6:=hide s6
      obtain ⟨wo,rfl⟩:∃ wo:World,wo = wr := ⟨_,rfl⟩
      clear c1 b6 x6 r6 e6 s6 hseen hseen' hq
      go_wp2
      obtain ⟨W5,hW5⟩:∃ W5:World,W5 = wo.setCell ⟨eb,q,none⟩ (.int .i64 (Pl.pv e5 q + 1)) := ⟨_,rfl⟩
      have B7:=hide (show Below w.heap.size w W5 by rw [hW5]; exact B6.out.setCell (by simp; omega) _)
      have X7:=hide (show Row W5 w.heap.size 24 (boxV A B d.n cp m cq (.int .i64 d.lp)) by rw [hW5]; exact X6.out.other (by simp; omega) _)
      have R7:=hide (show IRow W5 g ps by rw [hW5]; exact Row.other R6.out (by simp; omega) _)
      have E7:=hide (show IRow W5 eb (e5.set q (Pl.pv e5 q + 1)) by rw [hW5]; exact E6.out.set q _)
      have S7:=hide (show BRow W5 sb bs by rw [hW5]; exact Row.other S6.out (by simp; omega) _)
      rw [← hW5]
      clear hW5 B6 X6 R6 E6 S6 c1' c2 c3 f3
      go_loopg [10] (Pl.uns bs) (fun g' v wx => ∃ (i:Nat) (b8:List Bool),g' = Pl.uns b8 ∧ v = .int .i64 (Pl.it (Pl.nx d) i j:Nat) ∧ Pl.SI d j i b8 ∧ Below w.heap.size w wx ∧ Row wx w.heap.size 24 (boxV A B d.n cp m cq (.int .i64 d.lp)) ∧ IRow wx g ps ∧ IRow wx eb (e5.set q (Pl.pv e5 q + 1)) ∧ BRow wx sb b8)
      case atStart => exact ⟨0,bs,rfl,rfl,HSE.out.1,B7.out,X7.out,R7.out,E7.out,S7.out⟩
      case round =>
       clear B7 X7 R7 E7 S7
       obtain ⟨i,b8,hgk,rfl,hsi,b9,x9,r9,e9,s9⟩:=hrel
       have HGK:=hide hgk
       have HSI:=hide hsi
       have HSZ:=hide hsi.len
       have hcur4:=hsi.lt HF.out
       clear hgk hsi
       obtain ⟨cur,hcur⟩:∃ cur,cur = Pl.it (Pl.nx d) i j := ⟨_,rfl⟩
       rw [← hcur] at hcur4 ⊢
       have HC:=hide hcur
       clear hcur
       have hcm:cur < m:=by have := HM.out; omega
       have c1:=s9.cell (i := cur) (by have := HSZ.out; omega)
       have f1:=Row.free s9 cur
       by_cases hseen:Pl.gb b8 cur = true
       ·have c1':wr.cell? ⟨sb,cur,none⟩ = some (.bool true):=by rw [c1]; exact congrArg (fun b => some (Value.bool b)) hseen
        have HD:=hide (HSI.out.done HF.out (by rw [← HC.out]; exact hseen))
        have B9:=hide b9
        have X9:=hide x9
        have R9:=hide r9
        have E9:=hide e9
        have S9:=hide s9
        clear c1 f1 b9 x9 r9 e9 s9 hseen
        go_wp2
        go_roundg (m - (j + 1))
        case measure => have := HG.out; omega
        case rel => exact ⟨j + 1,_,b8,by omega,by go_num,HE.out.more hqP HQ.out HSE.out.2,HD.out,B9.out,X9.out,R9.out,E9.out,S9.out⟩
       ·have hseen':Pl.gb b8 cur = false:=by simpa using hseen
        have c1':wr.cell? ⟨sb,cur,none⟩ = some (.bool false):=by rw [c1]; exact congrArg (fun b => some (Value.bool b)) hseen'
        obtain ⟨bb,bo,rfl,hmc⟩:=mate_at hg.m hcur4
        have hml:=HF.out.lt _ hcur4
        have b10:Below w.heap.size w (wr.setCell ⟨sb,cur,none⟩ (.bool true)):=b9.setCell (by simp; omega) _
        have c2:=cell_below hmc b10
        have x10:Row (wr.setCell ⟨sb,cur,none⟩ (.bool true)) w.heap.size 24 (boxV A (some ⟨bb,bo,none⟩) d.n cp m cq (.int .i64 d.lp)):=x9.other (by simp; omega) _
        have c3:(wr.setCell ⟨sb,cur,none⟩ (.bool true)).cell? ⟨w.heap.size,1,none⟩ = some (.slice (some ⟨bb,bo,none⟩) m cq):=x10.cell (i := 1) (by show 1 < 3; omega)
        have B9:=hide b10
        have X9:=hide x10
        have R9:=hide (show IRow (wr.setCell ⟨sb,cur,none⟩ (.bool true)) g ps from Row.other r9 (by simp; omega) _)
        have E9:=hide (show IRow (wr.setCell ⟨sb,cur,none⟩ (.bool true)) eb (e5.set q (Pl.pv e5 q + 1)) from Row.other e9 (by simp; omega) _)
        have S9:=hide (s9.set cur true)
        have HU:=hide (Pl.uns_set (by have := HSZ.out; omega) hseen')
        clear c1 b10 x10 b9 x9 r9 e9 s9 hseen hseen' hmc
        go_wp2_with fail
        refine (turn_back _ _ (by omega)).mono ?_
        rintro e w9 ⟨rfl,rfl⟩
        go_wp2
        go_roundg (gk - 1)
        case measure => have h1 := HGK.out; have h2 := HU.out; omega
        case rel => exact ⟨i + 1,b8.set cur true,by have h1 := HGK.out; have h2 := HU.out; omega,by rw [HC.out]; rfl,by have := HSI.out.step HF.out; rw [← HC.out] at this; exact this,B9.out,X9.out,R9.out,E9.out,S9.out⟩
    ·have hjm':j = 4 * d.n:=by have := HM.out; omega
     have HE':=hide (show Pl.Ex d ps e5 P d.n (4 * d.n) by have := HE.out; rw [hjm'] at this; exact this)
     have HR:=hide (HE'.out.rule HF.out HLB.out HALL.out)
     have B6:=hide b6
     have E6:=hide e6
     clear b6 x6 r6 e6 s6 hjm' HE
     go_wp2
     go_loopg [75] P (fun g' i wx => ∃ k:Nat,k + g' = P ∧ i = .int .i64 k ∧ (∀ p,p < k → Pl.pv e5 p = 2) ∧ Below w.heap.size w wx ∧ IRow wx eb e5)
     case atStart => exact ⟨0,by omega,rfl,fun p hp => absurd hp (by omega),B6.out,E6.out⟩
     case round =>
      clear B6 E6
      obtain ⟨k,hkg,rfl,hall2,b7,e7⟩:=hrel
      have HGG:=hide hkg
      have HA2:=hide hall2
      have hkP:k ≤ P:=by omega
      clear hkg hall2
      by_cases hlt:k < P
      ·have c1:=e7.cell (i := k) (by have := HEL.out; omega)
       have B7:=hide b7
       have E7:=hide e7
       clear b7 e7
       by_cases h2:Pl.pv e5 k = 2
       ·have H2:=hide h2
        rw [h2] at c1
        clear h2
        go_wp2
        go_roundg (gk - 1)
        case measure => have := HGG.out; omega
        case rel =>
         refine ⟨k + 1,by have := HGG.out; omega,by go_num,fun p hp => ?_,B7.out,E7.out⟩
         by_cases e:p = k
         ·rw [e]; exact H2.out
         ·exact HA2.out p (by omega)
       ·have hb2:(Pl.pv e5 k != 2) = true:=by rw [bne_iff_ne]; exact h2
        have H2:=hide h2
        clear h2
        go_wp2
        go_ret
        exact ⟨ret_bool (Pl.vb_false (fun hr => H2.out (HR.out.2 hr k hlt))).symm,B7.out⟩
      ·have hkP':k = P:=by omega
       have B7:=hide b7
       clear b7 e7
       go_wp2
       go_ret
       exact ⟨ret_bool (Pl.vb_true (HR.out.1 (fun p hp => HA2.out p (by omega)))).symm,B7.out⟩
theorem spherical_n (d:Pl.Dg) (hd:Pl.Wf d) (A B:Option Addr) (n q cp cq:Nat) (l:Value) (w:World) (e1:n = d.n) (e2:q = 4 * d.n) (hl:l = .int .i64 d.lp) (hg:DgAt w A B d) :
 Calls Tryz.prog 21 #[.agg #[.slice A n cp,.slice B q cq,l]] w fun e w' => e = .returned (.bool (Pl.vb (Pl.Rule d))) ∧ Below w.heap.size w w' := by
 subst e1; subst e2; exact spherical_any d hd A B cp cq l w hl hg
end Go.Proofs.YtghdiolnonejaaaGreatDoor
end
section
namespace Go.Proofs.YtghdiolnonejaaaGreatDoor
open Go.RowKit
theorem ints_pv {w:World} {A:Option Addr} {n k:Nat} {zs:List Int} (h:IntsAt w A n zs) (hk:k < n) :
 ∃ b o,A = some ⟨b,o,none⟩ ∧ w.cell? ⟨b,o + k,none⟩ = some (.int .i64 (Pl.pv zs k)) := h.at_ hk
set_option maxRecDepth 100000 in
set_option maxHeartbeats 1500000 in
theorem valid_any (sg mt:List Int) (lp:Int) (A B:Option Addr) (n q cp cq:Nat) (w:World) (hs:IntsAt w A n sg) (hm:IntsAt w B q mt) (hn:n ≤ maxLen) (hq:q ≤ maxLen) (hlp:-9223372036854775808 ≤ lp ∧ lp ≤ 9223372036854775807) :
 Calls Tryz.prog 8 #[.agg #[.slice A n cp,.slice B q cq,.int .i64 lp]] w fun e w' => e = .returned (.bool (Pl.vb (Pl.VL sg mt lp))) ∧ Below w.heap.size w w' := by
 unfold maxLen at hn hq
 have HLS:=hide hs.len
 have HLM:=hide hm.len
 have b0:Below w.heap.size w (w.alloc (.cells #[.slice A n cp,.slice B q cq,.int .i64 lp] 24)):=(Below.refl _ _).alloc (Nat.le_refl _) _
 by_cases h1:64 < n
 ·have HV:=hide (fun h:Pl.VL sg mt lp => show False by have := h.few; have := HLS.out; omega)
  go_enter Tryz.func8,Tryz.ntmps8
  go_wp2
  go_ret
  exact ⟨ret_bool (Pl.vb_false HV.out).symm,b0⟩
 ·have h1':decide (64 < (n:Int)) = false:=by simp; omega
  by_cases h2:q = 4 * n
  ·by_cases h3:0 ≤ lp ∧ lp ≤ 64
   ·have h2':(((q:Nat):Int) != 4 * (n:Int)) = false:=by simp; omega
    have h3a:decide (lp < 0) = false:=by simp; omega
    have h3b:decide (64 < lp) = false:=by simp; omega
    have HQ4:=hide h2
    have hq6:q ≤ 256:=by omega
    clear h2
    have x0:Row (w.alloc (.cells #[.slice A n cp,.slice B q cq,.int .i64 lp] 24)) w.heap.size 24 (boxV A B n cp q cq (.int .i64 lp)):=Row.new w _ _
    go_enter Tryz.func8,Tryz.ntmps8
    go_wp2
    have B0:=hide b0
    have X0:=hide x0
    clear b0 x0 h1' h2' h3a h3b
    go_loopg [34] n (fun g i wx => ∃ k:Nat,k + g = n ∧ i = .int .i64 k ∧ (∀ c,c < k → Pl.pv sg c = 1 ∨ Pl.pv sg c = -1) ∧ Below w.heap.size w wx ∧ Row wx w.heap.size 24 (boxV A B n cp q cq (.int .i64 lp)))
    case atStart => exact ⟨0,by omega,rfl,fun c hc => absurd hc (by omega),B0.out,X0.out⟩
    case round =>
     clear B0 X0
     obtain ⟨k,hkg,rfl,hsg,b1,x1⟩:=hrel
     have HG:=hide hkg
     have HSG:=hide hsg
     have hkn:k ≤ n:=by omega
     clear hkg hsg
     by_cases hlt:k < n
     ·obtain ⟨ab,ao,rfl,hc⟩:=ints_pv hs hlt
      have hc1:=cell_below hc b1
      have B1:=hide b1
      have X1:=hide x1
      clear b1 x1 hc
      by_cases hz:Pl.pv sg k = 1
      ·have HZ:=hide hz
       rw [hz] at hc1
       clear hz
       go_wp2
       go_roundg (gk - 1)
       case measure => have := HG.out; omega
       case rel =>
        refine ⟨k + 1,by have := HG.out; omega,by go_num,fun c hc => ?_,B1.out,X1.out⟩
        by_cases e:c = k
        ·rw [e]; exact .inl HZ.out
        ·exact HSG.out c (by omega)
      ·by_cases hz2:Pl.pv sg k = -1
       ·have HZ:=hide hz2
        rw [hz2] at hc1
        clear hz hz2
        go_wp2
        go_roundg (gk - 1)
        case measure => have := HG.out; omega
        case rel =>
         refine ⟨k + 1,by have := HG.out; omega,by go_num,fun c hc => ?_,B1.out,X1.out⟩
         by_cases e:c = k
         ·rw [e]; exact .inr HZ.out
         ·exact HSG.out c (by omega)
       ·have HV := hide (fun h : Pl.VL sg mt lp => show False by
         rcases h.sign (c := k) (by have := HLS.out; omega) with e | e
         ·exact hz e
         ·exact hz2 e)
        have t1:(Pl.pv sg k != 1) = true:=by rw [bne_iff_ne]; exact hz
        have t2:(Pl.pv sg k != -1) = true:=by rw [bne_iff_ne]; exact hz2
        clear hz hz2
        go_wp2
        go_ret
        exact ⟨ret_bool (Pl.vb_false HV.out).symm,B1.out⟩
     ·have HSG':=hide (fun (c:Nat) (hc:c < sg.length) => HSG.out c (by have := HLS.out; omega))
      have B1:=hide b1
      have X1:=hide x1
      have x1c:wr.cell? ⟨w.heap.size,1,none⟩ = some (.slice B q cq):=x1.cell (i := 1) (by show 1 < 3; omega)
      clear b1 x1 HSG HG
      go_wp2
      clear x1c
      go_loopg [48] q (fun g i wx => ∃ k:Nat,k + g = q ∧ i = .int .i64 k ∧ (∀ h,h < k → 0 ≤ Pl.pv mt h ∧ Pl.pv mt h < mt.length ∧ Pl.pv mt h ≠ h ∧ Pl.pv mt (Pl.pv mt h).toNat = h ∧ Pl.out (Pl.mk sg mt lp) h ≠ Pl.out (Pl.mk sg mt lp) (Pl.pv mt h).toNat) ∧ Below w.heap.size w wx ∧ Row wx w.heap.size 24 (boxV A B n cp q cq (.int .i64 lp)))
      case atStart => exact ⟨0,by omega,rfl,fun c hc => absurd hc (by omega),B1.out,X1.out⟩
      case round =>
       clear B1 X1
       obtain ⟨j,hjg,rfl,hmo,b2,x2⟩:=hrel
       have HG:=hide hjg
       have HMO:=hide hmo
       have hjq:j ≤ q:=by omega
       clear hjg hmo
       by_cases hlt2:j < q
       ·obtain ⟨bb,bo,rfl,hc⟩:=ints_pv hm hlt2
        have hc1:=cell_below hc b2
        have x2c:wr.cell? ⟨w.heap.size,1,none⟩ = some (.slice (some ⟨bb,bo,none⟩) q cq):=x2.cell (i := 1) (by show 1 < 3; omega)
        have hjl:j < mt.length:=by have := HLM.out; omega
        have B2:=hide b2
        have X2:=hide x2
        clear b2 x2 hc
        by_cases hz0:Pl.pv mt j < 0
        ·have HV:=hide (fun h:Pl.VL sg mt lp => show False by have := (h.mate hjl).1; omega)
         have t1:decide (Pl.pv mt j < 0) = true:=by simpa using hz0
         clear hz0
         go_wp2
         go_ret
         exact ⟨ret_bool (Pl.vb_false HV.out).symm,B2.out⟩
        ·have t1:decide (Pl.pv mt j < 0) = false:=by simpa using hz0
         by_cases hz1:Pl.pv mt j < q
         ·obtain ⟨t,ht⟩:∃ t:Nat,Pl.pv mt j = t := ⟨(Pl.pv mt j).toNat,by omega⟩
          have htq:t < q:=by omega
          have t2:decide (4 * (n:Int) ≤ (t:Int)) = false:=by have := HQ4.out; simp; omega
          rw [ht] at hc1 t1
          have HT:=hide ht
          have hj4:j < 4 * n:=by have := HQ4.out; omega
          have ht4:t < 4 * n:=by have := HQ4.out; omega
          clear hz0 hz1 ht
          by_cases htj:t = j
          ·have HV:=hide (fun h:Pl.VL sg mt lp => show False by have := (h.mate hjl).2.2.1; rw [HT.out] at this; omega)
           have t3:(((t:Nat):Int) == (j:Int)) = true:=by simp; omega
           clear htj
           go_wp2
           go_ret
           exact ⟨ret_bool (Pl.vb_false HV.out).symm,B2.out⟩
          ·have t3:(((t:Nat):Int) == (j:Int)) = false:=by simp; omega
           obtain ⟨bb',bo',ebb,hcb⟩:=ints_pv hm htq
           injection ebb with ebb
           injection ebb with ebb1 ebb2
           subst ebb1; subst ebb2
           have hc2:=cell_below hcb B2.out
           clear hcb
           by_cases hinv:Pl.pv mt t = j
           ·have HI:=hide hinv
            rw [hinv] at hc2
            clear hinv
            have HSS:=hide (fun (p:Cls (fun w' => Row w' w.heap.size 24 (boxV A (some ⟨bb,bo,none⟩) n cp q cq (.int .i64 lp)) ∧ Below w.heap.size w w')) (h:Nat) (hh:h < 4 * n) =>
             calls_cls (C := fun w' => Row w' w.heap.size 24 (boxV A (some ⟨bb,bo,none⟩) n cp q cq (.int .i64 lp)) ∧ Below w.heap.size w w')
              (out_n (Pl.mk sg mt lp) A (some ⟨bb,bo,none⟩) n cp q cq (.int .i64 lp) h p.w HLS.out.symm hh (by omega) (hs.keep p.ok.2)) (fun e w' h => ⟨h.1,p.ok.1.below h.2,p.ok.2.trans (h.2.mono p.ok.2.size)⟩))
            have c30:∀ p:Cls (fun w' => Row w' w.heap.size 24 (boxV A (some ⟨bb,bo,none⟩) n cp q cq (.int .i64 lp)) ∧ Below w.heap.size w w'),p.w.cell? ⟨w.heap.size,0,none⟩ = some (.slice A n cp):=fun p => p.ok.1.cell (i := 0) (by show 0 < 3; omega)
            have c31:∀ p:Cls (fun w' => Row w' w.heap.size 24 (boxV A (some ⟨bb,bo,none⟩) n cp q cq (.int .i64 lp)) ∧ Below w.heap.size w w'),p.w.cell? ⟨w.heap.size,1,none⟩ = some (.slice (some ⟨bb,bo,none⟩) q cq):=fun p => p.ok.1.cell (i := 1) (by show 1 < 3; omega)
            have c32:∀ p:Cls (fun w' => Row w' w.heap.size 24 (boxV A (some ⟨bb,bo,none⟩) n cp q cq (.int .i64 lp)) ∧ Below w.heap.size w w'),p.w.cell? ⟨w.heap.size,2,none⟩ = some (.int .i64 lp):=fun p => p.ok.1.cell (i := 2) (by show 2 < 3; omega)
            go_wp2
            refine wp_region_cls (fun w' => Row w' w.heap.size 24 (boxV A (some ⟨bb,bo,none⟩) n cp q cq (.int .i64 lp)) ∧ Below w.heap.size w w') (by kernel_rfl) (by kernel_rfl) ⟨X2.out.drew,B2.out.drew⟩ (fun hne => ?_)
            repeat (quiet_step ((go_at_call 20; exact HSS.out _ _ (by omega))))
            refine wpQuiet_nil ?_
            rintro _ ⟨p,rfl⟩
            have hp1:=hide p.ok.1
            have hp2:=hide p.ok.2
            clear HSS c30 c31 c32
            go_wp2
            ·have t5:(Pl.out (Pl.mk sg mt lp) j == Pl.out (Pl.mk sg mt lp) t) = true:=by assumption
             go_ret
             refine ⟨ret_bool (Pl.vb_false fun h => ?_).symm,hp2.out⟩
             have h5:=(h.mate hjl).2.2.2.2
             rw [HT.out,Int.toNat_natCast] at h5
             exact h5 (beq_iff_eq.1 t5)
            ·have t5:(Pl.out (Pl.mk sg mt lp) j == Pl.out (Pl.mk sg mt lp) t) = false:=by assumption
             go_roundg (gk - 1)
             case measure => have := HG.out; omega
             case rel =>
              refine ⟨j + 1,by have := HG.out; omega,by go_num,fun h hh => ?_,hp2.out,hp1.out⟩
              by_cases e:h = j
              ·subst e
               rw [HT.out,Int.toNat_natCast]
               exact ⟨by omega,by have := HLM.out; omega,by omega,HI.out,beq_eq_false_iff_ne.1 t5⟩
              ·exact HMO.out h (by omega)
           ·have HV := hide (fun h : Pl.VL sg mt lp => show False by
             have:=(h.mate hjl).2.2.2.1
             rw [HT.out,Int.toNat_natCast] at this
             exact hinv this)
            have t4:(Pl.pv mt t != (j:Int)) = true:=by rw [bne_iff_ne]; exact hinv
            clear hinv
            go_wp2
            go_ret
            exact ⟨ret_bool (Pl.vb_false HV.out).symm,B2.out⟩
         ·have HV:=hide (fun h:Pl.VL sg mt lp => show False by have := (h.mate hjl).2.1; have := HLM.out; omega)
          have t2:decide (4 * (n:Int) ≤ Pl.pv mt j) = true:=by have := HQ4.out; simp; omega
          clear hz0 hz1
          go_wp2
          go_ret
          exact ⟨ret_bool (Pl.vb_false HV.out).symm,B2.out⟩
       ·have hjq':j = q:=by omega
        have hw:=Pl.wf_of (sg := sg) (mt := mt) (lp := lp) (by have := HLS.out; omega) (by have := HLS.out; have := HLM.out; have := HQ4.out; omega) h3 HSG'.out (fun k hk => HMO.out k (by have := HLM.out; omega))
        have hpos:∀ z,z ∈ mt → 0 ≤ z:=fun z hz => by
         obtain ⟨k,hk,rfl⟩:=Pl.mem_pv hz
         exact (HMO.out k (by have := HLM.out; omega)).1
        have HW:=hide hw
        have HR:=hide (Pl.VL.of hw hpos h3.1)
        have HN:=hide (Pl.nats_mk (sg := sg) (lp := lp) hpos)
        have B2:=hide b2
        have x20:wr.cell? ⟨w.heap.size,0,none⟩ = some (.slice A n cp):=x2.cell (i := 0) (by show 0 < 3; omega)
        have x21:wr.cell? ⟨w.heap.size,1,none⟩ = some (.slice B q cq):=x2.cell (i := 1) (by show 1 < 3; omega)
        have x22:wr.cell? ⟨w.heap.size,2,none⟩ = some (.int .i64 lp):=x2.cell (i := 2) (by show 2 < 3; omega)
        clear b2 x2 hw hpos hjq'
        go_wp2_with fail
        refine (spherical_n (Pl.mk sg mt lp) HW.out A B n q cp cq (.int .i64 lp) _ HLS.out.symm (by have := HQ4.out; have := HLS.out; rw [Pl.mk_n]; omega) ?_ ⟨?_,?_⟩).mono ?_
        ·show Value.int .i64 lp = .int .i64 ((lp.toNat:Nat):Int)
         rw [Int.toNat_of_nonneg h3.1]
        ·rw [Pl.mk_n,HLS.out]; exact hs.keep B2.out
        ·unfold nats
         rw [HN.out,Pl.mk_n,HLS.out,← HQ4.out]; exact hm.keep B2.out
        rintro e w3 ⟨rfl,hb3⟩
        go_wp2
        go_ret
        exact ⟨ret_bool (congrArg Pl.vb (propext HR.out.symm)),B2.out.trans (hb3.mono B2.out.size)⟩
   ·have HV:=hide (fun h:Pl.VL sg mt lp => show False by have := h.loops; omega)
    have h2':(((q:Nat):Int) != 4 * (n:Int)) = false:=by simp; omega
    have HQ2:=hide h2
    clear h2
    go_enter Tryz.func8,Tryz.ntmps8
    go_wp2
    all_goals
     go_ret
     exact ⟨ret_bool (Pl.vb_false HV.out).symm,b0⟩
  ·have HV:=hide (fun h:Pl.VL sg mt lp => show False by have := h.len; have := HLS.out; have := HLM.out; omega)
   have h2':(((q:Nat):Int) != 4 * (n:Int)) = true:=by simp; omega
   go_enter Tryz.func8,Tryz.ntmps8
   go_wp2
   go_ret
   exact ⟨ret_bool (Pl.vb_false HV.out).symm,b0⟩
end Go.Proofs.YtghdiolnonejaaaGreatDoor
end
section
namespace Go.Proofs.YtghdiolnonejaaaGreatDoor
open Go.RowKit
theorem out2_i (d:Pl.Dg) (A B:Option Addr) (n cp q cq:Nat) (l:Value) (h:Int) (w:World) (e:n = d.n) (hh:0 ≤ h ∧ h < 4 * (n:Int)) (hn:n ≤ 1000) (hs:IntsAt w A n d.sg) :
 Calls Tryz.prog 105 #[.agg #[.slice A n cp,.slice B q cq,l],.int .i64 h] w fun e w' => e = .returned (.bool (Pl.out d h.toNat)) ∧ Below w.heap.size w w' := by
 obtain ⟨k,rfl⟩:=Int.eq_ofNat_of_zero_le hh.1
 exact out2_n d A B n cp q cq l k w e (by omega) hn hs
theorem opp_i (h:Int) (w:World) (hh:0 ≤ h ∧ h ≤ 1000000) :
 Calls Tryz.prog 60 #[.int .i64 h] w fun e w' => e = .returned (.int .i64 (Pl.tn h.toNat 2:Nat)) ∧ w' = w := by
 obtain ⟨k,rfl⟩:=Int.eq_ofNat_of_zero_le hh.1
 refine (opposite_any k w (by omega)).mono ?_
 rintro e w' ⟨rfl,rfl⟩
 exact ⟨rfl,rfl⟩
theorem below_drewN {B:Nat} {a w:World} (h:Below B a w) (n:Nat):Below B a (w.drewN n) := ⟨h.os,h.tape,h.output,h.size,h.block⟩
def kk (d:Pl.Dg) (c:Nat):Nat := if d.m (4 * c + 2) / 4 = c then 4 * c + 2 else if d.s c = 1 then 4 * c + 1 else 4 * c + 3
def isK (d:Pl.Dg) (c:Nat):Prop := d.m (kk d c) / 4 = c
def kinkE (d:Pl.Dg) (c:Nat) (b:Bool):Ending := if b then .returned (.tuple #[.int .i64 (Pl.tn (kk d c) 2:Nat),.int .i64 (Pl.tn (d.m (kk d c)) 2:Nat),.bool true]) else .returned (.tuple #[.int .i64 0,.int .i64 0,.bool false])
def KinkPost (d:Pl.Dg) (c:Nat) (w:World) (e:Ending) (w':World):Prop := e = kinkE d c (Pl.vb (isK d c)) ∧ Below w.heap.size w w'
theorem kink_at {d:Pl.Dg} {c o:Nat} {w:World} {e:Ending} {w':World} (h:kk d c = o) (hm:d.m o / 4 = c) (he:e = .returned (.tuple #[.int .i64 (Pl.tn o 2:Nat),.int .i64 (Pl.tn (d.m o) 2:Nat),.bool true])) (hb:Below w.heap.size w w'):KinkPost d c w e w' := by
 refine ⟨?_,hb⟩
 rw [Pl.vb_true (show isK d c by unfold isK; rw [h]; exact hm)]
 unfold kinkE
 rw [if_pos rfl,h,he]
theorem kink_no {d:Pl.Dg} {c:Nat} {w:World} {e:Ending} {w':World} (h:¬ d.m (kk d c) / 4 = c) (he:e = .returned (.tuple #[.int .i64 0,.int .i64 0,.bool false])) (hb:Below w.heap.size w w'):KinkPost d c w e w' := by
 refine ⟨?_,hb⟩
 rw [Pl.vb_false (show ¬ isK d c from h)]
 exact he
set_option maxRecDepth 100000 in
set_option maxHeartbeats 2000000 in
theorem kink_any (d:Pl.Dg) (hd:Pl.Wf d) (A B:Option Addr) (cp cq m c:Nat) (w:World) (hm:m = 4 * d.n) (hg:DgAt w A B d) (hc:c < d.n) :
 Calls Tryz.prog 76 #[.agg #[.slice A d.n cp,.slice B m cq,.int .i64 d.lp],.int .i64 (c:Int)] w (KinkPost d c w) := by
 have hn:=hd.few
 have HM:=hide hm
 clear hm
 have hmm:m ≤ 256:=by have := HM.out; omega
 have HG:=hide hg
 clear hg
 have x0:Row (w.alloc (.cells #[.slice A d.n cp,.slice B m cq,.int .i64 d.lp] 24)) w.heap.size 24 [.slice A d.n cp,.slice B m cq,.int .i64 d.lp]:=Row.new w _ _
 have X0:=hide x0
 have B0:=hide (show Below w.heap.size w (w.alloc (.cells #[.slice A d.n cp,.slice B m cq,.int .i64 d.lp] 24)) from (Below.refl _ _).alloc (Nat.le_refl _) _)
 clear x0
 go_enter Tryz.func76,Tryz.ntmps76
 go_wp2
 go_loopg [11] 3 (fun g i wx => ∃ k:Nat,k + g = 3 ∧ i = .int .i64 k ∧ (0 < k → ¬ d.m (4 * c + 2) / 4 = c) ∧ (1 < k → d.s c = 1 → ¬ d.m (4 * c + 1) / 4 = c) ∧ (2 < k → d.s c = -1 → ¬ d.m (4 * c + 3) / 4 = c) ∧ Below w.heap.size w wx ∧ Row wx w.heap.size 24 [.slice A d.n cp,.slice B m cq,.int .i64 d.lp])
 case atStart => exact ⟨0,rfl,rfl,fun h => absurd h (by omega),fun h => absurd h (by omega),fun h => absurd h (by omega),B0.out,X0.out⟩
 case round =>
  clear B0 X0
  obtain ⟨k,hkg,rfl,q0,q1,q2,b1,x1⟩:=hrel
  have HG0:=hide hkg
  have Q0:=hide q0
  have Q1:=hide q1
  have Q2:=hide q2
  have B1:=hide b1
  have X1:=hide x1
  have hk4:k = 0 ∨ k = 1 ∨ k = 2 ∨ k = 3:=by omega
  obtain ⟨e0,e1,e2,e3⟩:=box3 x1
  have i0:∀ W,(Instr.index 153 (.agg #[.int .i64 2,.int .i64 1,.int .i64 3]) (.int .i64 0)).run Tryz.prog W = .ok (.int .i64 2) W:=fun _ => by kernel_rfl
  have i1:∀ W,(Instr.index 153 (.agg #[.int .i64 2,.int .i64 1,.int .i64 3]) (.int .i64 1)).run Tryz.prog W = .ok (.int .i64 1) W:=fun _ => by kernel_rfl
  have i2:∀ W,(Instr.index 153 (.agg #[.int .i64 2,.int .i64 1,.int .i64 3]) (.int .i64 2)).run Tryz.prog W = .ok (.int .i64 3) W:=fun _ => by kernel_rfl
  clear hkg q0 q1 q2 b1 x1
  rcases hk4 with rfl | rfl | rfl | rfl
  ·go_wp2_with fail
   refine (out2_i d A B d.n cp m cq (.int .i64 d.lp) _ _ rfl (by omega) (by omega) (HG.out.s.keep B1.out)).mono ?_
   rintro e w2 ⟨rfl,hb2⟩
   have B2:=hide (B1.out.trans (hb2.mono B1.out.size))
   have X2:=hide (X1.out.below hb2)
   have HG2:=hide (HG.out.keep B2.out)
   have et:(4 * (c:Int) + 2).toNat = 4 * c + 2:=by omega
   rw [et]
   clear et hb2
   obtain ⟨b,o,rfl,cm⟩:=mate_at HG2.out.m (k := 4 * c + 2) (by omega)
   obtain ⟨f0,f1,f2,f3⟩:=box3 X2.out
   have g1:(0:Int) ≤ 4 * (c:Int) + 2:=by omega
   have g2:4 * (c:Int) + 2 < (m:Int):=by have := HM.out; omega
   have lt:=hd.lt (4 * c + 2) (by omega)
   obtain ⟨x,hx⟩:∃ x,x = d.m (4 * c + 2) := ⟨_,rfl⟩
   rw [← hx] at cm lt
   have HX:=hide hx
   clear hx
   have hO:Pl.out d (4 * c + 2) = true:=out_two (by omega)
   rw [hO]
   clear hO
   by_cases hk:x / 4 = c
   ·have t1:((x:Int) / 4 == (c:Int)) = true:=by rw [beq_iff_eq]; omega
    have HK:=hide hk
    clear hk
    go_wp2_with fail
    go_quiet ((go_at_call 60; exact Calls.quiet_of_same (opp_i _ _ (by omega))))
    go_wp2
    go_ret3
    have hkk:kk d c = 4 * c + 2:=by unfold kk; rw [if_pos (by rw [← HX.out]; exact HK.out)]
    refine kink_at hkk (by rw [← HX.out]; exact HK.out) ?_ (below_drewN B2.out _)
    rw [← HX.out,show (4 * (c:Int) + 2).toNat = 4 * c + 2 by omega,Int.toNat_natCast]
    rfl
   ·have t1:((x:Int) / 4 == (c:Int)) = false:=by rw [beq_eq_false_iff_ne]; omega
    have HK:=hide hk
    clear hk
    go_wp2
    go_roundg 2
    case measure => have := HG0.out; omega
    case rel => exact ⟨1,rfl,by go_num,fun _ => by rw [← HX.out]; exact HK.out,fun h => absurd h (by omega),fun h => absurd h (by omega),B2.out,X2.out⟩
  ·go_wp2_with fail
   refine (out2_i d A B d.n cp m cq (.int .i64 d.lp) _ _ rfl (by omega) (by omega) (HG.out.s.keep B1.out)).mono ?_
   rintro e w2 ⟨rfl,hb2⟩
   have B2:=hide (B1.out.trans (hb2.mono B1.out.size))
   have X2:=hide (X1.out.below hb2)
   have HG2:=hide (HG.out.keep B2.out)
   have et:(4 * (c:Int) + 1).toNat = 4 * c + 1:=by omega
   rw [et]
   clear et hb2
   obtain ⟨b,o,rfl,cm⟩:=mate_at HG2.out.m (k := 4 * c + 1) (by omega)
   obtain ⟨f0,f1,f2,f3⟩:=box3 X2.out
   have g1:(0:Int) ≤ 4 * (c:Int) + 1:=by omega
   have g2:4 * (c:Int) + 1 < (m:Int):=by have := HM.out; omega
   have lt:=hd.lt (4 * c + 1) (by omega)
   obtain ⟨x,hx⟩:∃ x,x = d.m (4 * c + 1) := ⟨_,rfl⟩
   rw [← hx] at cm lt
   have HX:=hide hx
   clear hx
   by_cases hs1:d.s c = 1
   ·have S1:=hide hs1
    clear hs1
    have hO:Pl.out d (4 * c + 1) = true:=by rw [out_one (by omega),show (4 * c + 1) / 4 = c by omega,S1.out]; rfl
    rw [hO]
    clear hO
    by_cases hk:x / 4 = c
    ·have t1:((x:Int) / 4 == (c:Int)) = true:=by rw [beq_iff_eq]; omega
     have HK:=hide hk
     clear hk
     go_wp2_with fail
     go_quiet ((go_at_call 60; exact Calls.quiet_of_same (opp_i _ _ (by omega))))
     go_wp2
     go_ret3
     have hkk:kk d c = 4 * c + 1:=by unfold kk; rw [if_neg (Q0.out (by omega)),if_pos S1.out]
     refine kink_at hkk (by rw [← HX.out]; exact HK.out) ?_ (below_drewN B2.out _)
     rw [← HX.out,show (4 * (c:Int) + 1).toNat = 4 * c + 1 by omega,Int.toNat_natCast]
     rfl
    ·have t1:((x:Int) / 4 == (c:Int)) = false:=by rw [beq_eq_false_iff_ne]; omega
     have HK:=hide hk
     clear hk
     go_wp2
     go_roundg 1
     case measure => have := HG0.out; omega
     case rel => exact ⟨2,rfl,by go_num,fun _ => Q0.out (by omega),fun _ _ => by rw [← HX.out]; exact HK.out,fun h => absurd h (by omega),B2.out,X2.out⟩
   ·have S1:=hide hs1
    clear hs1
    have hO:Pl.out d (4 * c + 1) = false:=by rw [out_one (by omega),show (4 * c + 1) / 4 = c by omega,beq_eq_false_iff_ne]; exact S1.out
    rw [hO]
    clear hO
    go_wp2
    go_roundg 1
    case measure => have := HG0.out; omega
    case rel => exact ⟨2,rfl,by go_num,fun _ => Q0.out (by omega),fun _ h => absurd h S1.out,fun h => absurd h (by omega),B2.out,X2.out⟩
  ·go_wp2_with fail
   refine (out2_i d A B d.n cp m cq (.int .i64 d.lp) _ _ rfl (by omega) (by omega) (HG.out.s.keep B1.out)).mono ?_
   rintro e w2 ⟨rfl,hb2⟩
   have B2:=hide (B1.out.trans (hb2.mono B1.out.size))
   have X2:=hide (X1.out.below hb2)
   have HG2:=hide (HG.out.keep B2.out)
   have et:(4 * (c:Int) + 3).toNat = 4 * c + 3:=by omega
   rw [et]
   clear et hb2
   obtain ⟨b,o,rfl,cm⟩:=mate_at HG2.out.m (k := 4 * c + 3) (by omega)
   obtain ⟨f0,f1,f2,f3⟩:=box3 X2.out
   have g1:(0:Int) ≤ 4 * (c:Int) + 3:=by omega
   have g2:4 * (c:Int) + 3 < (m:Int):=by have := HM.out; omega
   have lt:=hd.lt (4 * c + 3) (by omega)
   obtain ⟨x,hx⟩:∃ x,x = d.m (4 * c + 3) := ⟨_,rfl⟩
   rw [← hx] at cm lt
   have HX:=hide hx
   clear hx
   by_cases hs1:d.s c = -1
   ·have S1:=hide hs1
    have S2:=hide (show ¬ d.s c = 1 by omega)
    clear hs1
    have hO:Pl.out d (4 * c + 3) = true:=by rw [out_three (by omega),show (4 * c + 3) / 4 = c by omega,S1.out]; rfl
    rw [hO]
    clear hO
    by_cases hk:x / 4 = c
    ·have t1:((x:Int) / 4 == (c:Int)) = true:=by rw [beq_iff_eq]; omega
     have HK:=hide hk
     clear hk
     go_wp2_with fail
     go_quiet ((go_at_call 60; exact Calls.quiet_of_same (opp_i _ _ (by omega))))
     go_wp2
     go_ret3
     have hkk:kk d c = 4 * c + 3:=by unfold kk; rw [if_neg (Q0.out (by omega)),if_neg S2.out]
     refine kink_at hkk (by rw [← HX.out]; exact HK.out) ?_ (below_drewN B2.out _)
     rw [← HX.out,show (4 * (c:Int) + 3).toNat = 4 * c + 3 by omega,Int.toNat_natCast]
     rfl
    ·have t1:((x:Int) / 4 == (c:Int)) = false:=by rw [beq_eq_false_iff_ne]; omega
     have HK:=hide hk
     clear hk
     go_wp2
     go_roundg 0
     case measure => have := HG0.out; omega
     case rel => exact ⟨3,rfl,by go_num,fun _ => Q0.out (by omega),fun _ => Q1.out (by omega),fun _ _ => by rw [← HX.out]; exact HK.out,B2.out,X2.out⟩
   ·have S1:=hide hs1
    clear hs1
    have hO:Pl.out d (4 * c + 3) = false:=by rw [out_three (by omega),show (4 * c + 3) / 4 = c by omega,beq_eq_false_iff_ne]; exact S1.out
    rw [hO]
    clear hO
    go_wp2
    go_roundg 0
    case measure => have := HG0.out; omega
    case rel => exact ⟨3,rfl,by go_num,fun _ => Q0.out (by omega),fun _ => Q1.out (by omega),fun _ h => absurd h S1.out,B2.out,X2.out⟩
  ·go_wp2
   go_ret3
   refine kink_no ?_ rfl B1.out
   unfold kk
   have h0:=Q0.out (by omega)
   rw [if_neg h0]
   rcases hd.sign c hc with h | h
   ·rw [if_pos h]; exact Q1.out (by omega) h
   ·rw [if_neg (by omega)]; exact Q2.out (by omega) h
end Go.Proofs.YtghdiolnonejaaaGreatDoor
end
section
namespace Go.Proofs.YtghdiolnonejaaaGreatDoor
open Go.RowKit
def ahd (gs:List Nat) (h k:Nat):Nat := ((gs.take k).filter (fun c => decide (c < h / 4))).length
theorem ahd_le (gs:List Nat) (h k:Nat):ahd gs h k ≤ k := by
 unfold ahd
 have:=List.length_filter_le (fun c => decide (c < h / 4)) (gs.take k)
 have:=List.length_take_le k gs
 omega
theorem ahd_succ {gs:List Nat} {k:Nat} (hk:k < gs.length) (h:Nat):ahd gs h (k + 1) = ahd gs h k + if gs.getD k 0 < h / 4 then 1 else 0 := by
 unfold ahd
 rw [List.take_succ_eq_append_getElem hk,List.filter_append,List.length_append,List.getD_eq_getElem?_getD,List.getElem?_eq_getElem hk]
 by_cases e:gs[k] < h / 4 <;> simp [List.filter_cons,e]
theorem ahd_all {gs:List Nat} {k:Nat} (hk:gs.length ≤ k) (h:Nat):ahd gs h k = (gs.filter (fun c => decide (c < h / 4))).length := by
 unfold ahd
 rw [List.take_of_length_le hk]
theorem nats_at {w:World} {A:Option Addr} {n k:Nat} {gs:List Nat} (h:IntsAt w A n (nats gs)) (hk:k < n) :
 ∃ b o,A = some ⟨b,o,none⟩ ∧ w.cell? ⟨b,o + k,none⟩ = some (.int .i64 (gs.getD k 0:Nat)) := by
 obtain ⟨b,o,e,hc⟩:=h.at_ hk
 refine ⟨b,o,e,hc.trans ?_⟩
 have hl:=h.len
 unfold nats at hl ⊢
 rw [List.length_map] at hl
 rw [List.getD_eq_getElem?_getD,List.getD_eq_getElem?_getD,List.getElem?_map,List.getElem?_eq_getElem (by omega)]; rfl
set_option maxRecDepth 100000 in
set_option maxHeartbeats 1000000 in
theorem shifted_any (gs:List Nat) (A:Option Addr) (n c h:Nat) (w:World) (hg:IntsAt w A n (nats gs)) (hn:n ≤ 100) (hh:h ≤ 100000) (hf:Pl.Few gs) :
 Calls Tryz.prog 78 #[.int .i64 (h:Int),.slice A n c] w fun e w' => e = .returned (.int .i64 (Pl.shf gs h:Nat)) ∧ w' = w := by
 have hl:=hg.len
 unfold nats at hl
 rw [List.length_map] at hl
 have HL:=hide hl
 have HG:=hide hg
 clear hl hg
 go_enter Tryz.func78,Tryz.ntmps78
 go_wp2
 go_loop [5,10] (fun b i => ∃ k:Nat,k ≤ n ∧ i = .int .i64 k ∧ b = .int .i64 (4 * (ahd gs h k:Nat))) (fun _ i => n - (intOf i).toNat)
 case atStart => exact ⟨0,by omega,rfl,rfl⟩
 case round =>
  obtain ⟨k,hk,rfl,rfl⟩:=hrel
  have hle:=ahd_le gs h k
  by_cases hlt:k < n
  ·obtain ⟨b,o,rfl,hc⟩:=nats_at HG.out hlt
   have HS:=hide (ahd_succ (gs := gs) (k := k) (by have := HL.out; omega) h)
   obtain ⟨x,hx⟩:∃ x,x = gs.getD k 0 := ⟨_,rfl⟩
   rw [← hx] at hc HS
   clear hx
   by_cases ht:x < h / 4
   ·have HT:=hide ht
    have t1:decide ((x:Int) < (h:Int) / 4) = true:=by simp; omega
    clear ht
    go_wp2
    go_round
    case rel => exact ⟨k + 1,by omega,by go_num,by rw [HS.out,if_pos HT.out]; go_num⟩
    case measure => simp [intOf]; omega
   ·have HT:=hide ht
    have t1:decide ((x:Int) < (h:Int) / 4) = false:=by simp; omega
    clear ht
    go_wp2
    go_round
    case rel => exact ⟨k + 1,by omega,by go_num,by rw [HS.out,if_neg HT.out]; go_num⟩
    case measure => simp [intOf]; omega
  ·go_wp2
   go_ret
   refine ⟨ret_int ?_,rfl⟩
   have h1:=ahd_all (gs := gs) (k := k) (by have := HL.out; omega) h
   have h2:=Pl.shf_le hf h
   unfold Pl.shf
   rw [h1]
   omega
end Go.Proofs.YtghdiolnonejaaaGreatDoor
end
section
namespace Go.Proofs.YtghdiolnonejaaaGreatDoor
open Go Go.RowKit
structure Shk (w:World) (vS vM:Value) (ss:List Int) (ms:List Nat) (lp:Int) (W:World):Prop where
 res:Row W w.heap.size 24 [.slice none 0 0,.slice none 0 0,.int .i64 0]
 box:Row W (w.heap.size + 1) 24 [vS,vM,.int .i64 lp]
 s:W.ownsRow (w.heap.size + 2) 3 1 vS ss.length (ss.map (.int .i64))
 m:W.ownsRow (w.heap.size + 2) 3 1 vM ms.length (ms.map (fun k:Nat => Value.int .i64 k))
 ne:∀ g,vS.ownBlock = some g → vM.ownBlock ≠ some g
 bel:Below w.heap.size w W
theorem Shk.big {w:World} {vS vM:Value} {ss:List Int} {ms:List Nat} {lp:Int} {W:World} (h:Shk w vS vM ss ms lp W):w.heap.size + 2 ≤ W.heap.size := by have := h.box.lt; omega
theorem Shk.below {w:World} {vS vM:Value} {ss:List Int} {ms:List Nat} {lp:Int} {W W':World} (h:Shk w vS vM ss ms lp W) (hb:Below W.heap.size W W'):Shk w vS vM ss ms lp W' :=
 ⟨h.res.below hb,h.box.below hb,own_keep h.s hb (Nat.le_refl _),own_keep h.m hb (Nat.le_refl _),h.ne,h.bel.trans (hb.mono (by have := h.big; omega))⟩
theorem Shk.alloc {w:World} {vS vM:Value} {ss:List Int} {ms:List Nat} {lp:Int} {W:World} (h:Shk w vS vM ss ms lp W) (o:Obj):Shk w vS vM ss ms lp (W.alloc o) := h.below ((Below.refl _ _).alloc (Nat.le_refl _) o)
theorem row_apart {W:World} {g:Nat} {vs:List Value} {base:Nat} {v:Value} {n:Nat} {xs:List Value} (h:Row W g 24 vs) (ho:W.ownsRow base 3 1 v n xs):some g ≠ v.ownBlock := by
 intro e
 obtain ⟨cs,fr,h3⟩:=ownsRow_block ho g e.symm
 rw [h] at h3
 injection h3 with h3
 injection h3 with _ h4
 exact absurd h4 (by decide)
theorem Shk.appS {w:World} {vS vM v':Value} {ss:List Int} {ms:List Nat} {lp x:Int} {W W2:World} (h:Shk w vS vM ss ms lp W) (own:W2.ownsRow (w.heap.size + 2) 3 1 v' (ss.length + 1) (ss.map (.int .i64) ++ [.int .i64 x])) (gr:W.grownBy W2 vS.ownBlock) {g':Nat} (hv:v'.ownBlock = some g') (hat0:vS.ownBlock = some g' ∨ g' = W.heap.size) :
 Shk w v' vM (ss ++ [x]) ms lp (W2.setCell ⟨w.heap.size + 1,0,none⟩ v') := by
 have hat:v'.ownBlock = vS.ownBlock ∨ v'.ownBlock = some W.heap.size:=by
  rcases hat0 with e | e
  ·exact .inl (hv.trans e.symm)
  ·exact .inr (hv.trans (congrArg some e))
 have hlt:=h.s.lt
 have hlm:=h.m.lt
 refine ⟨(h.res.grown gr (row_apart h.res h.s)).other (by simp) _,(h.box.grown gr (row_apart h.box h.s)).set 0 v',?_,?_,?_,?_⟩
 ·refine ownsRow_setCell_below ?_ (by simp) _
  simpa using own
 ·refine ownsRow_setCell_below (h.m.kept gr ?_) (by simp) _
  cases hm:vM.ownBlock with
  | none => exact .inl rfl
  | some g => exact .inr (fun e => h.ne g e.symm hm)
 ·intro g hg hm
  rcases hat with e | e
  ·exact h.ne g (e ▸ hg) hm
  ·rw [e] at hg
   injection hg with hg
   have:=(hlm g hm).2
   omega
 ·exact (h.bel.grown gr h.bel.size (fun k hk => by have := (hlt k hk).1; omega)).setCell (by simp) _
theorem Shk.appM {w:World} {vS vM v':Value} {ss:List Int} {ms:List Nat} {lp:Int} {x:Nat} {W W2:World} (h:Shk w vS vM ss ms lp W) (own:W2.ownsRow (w.heap.size + 2) 3 1 v' (ms.length + 1) (ms.map (fun k:Nat => Value.int .i64 k) ++ [.int .i64 x])) (gr:W.grownBy W2 vM.ownBlock) {g':Nat} (hv:v'.ownBlock = some g') (hat0:vM.ownBlock = some g' ∨ g' = W.heap.size) :
 Shk w vS v' ss (ms ++ [x]) lp (W2.setCell ⟨w.heap.size + 1,1,none⟩ v') := by
 have hat:v'.ownBlock = vM.ownBlock ∨ v'.ownBlock = some W.heap.size:=by
  rcases hat0 with e | e
  ·exact .inl (hv.trans e.symm)
  ·exact .inr (hv.trans (congrArg some e))
 have hlt:=h.s.lt
 have hlm:=h.m.lt
 refine ⟨(h.res.grown gr (row_apart h.res h.m)).other (by simp) _,(h.box.grown gr (row_apart h.box h.m)).set 1 v',?_,?_,?_,?_⟩
 ·refine ownsRow_setCell_below (h.s.kept gr ?_) (by simp) _
  cases hm:vS.ownBlock with
  | none => exact .inl rfl
  | some g => exact .inr (fun e => h.ne g hm e.symm)
 ·refine ownsRow_setCell_below ?_ (by simp) _
  simpa using own
 ·intro g hg hm
  rcases hat with e | e
  ·exact h.ne g hg (e ▸ hm)
  ·rw [e] at hm
   injection hm with hm
   have:=(hlt g hg).2
   omega
 ·exact (h.bel.grown gr h.bel.size (fun k hk => by have := (hlm k hk).1; omega)).setCell (by simp) _
theorem one_news (W:World) (x:Value):∀ j u,[x][j]? = some u → (W.alloc (.cells #[x] 3)).cell? ((⟨W.heap.size,0,none⟩:Addr).add j) = some u := by
 intro j u hu
 match j,hu with
 | 0,hu => simp at hu; subst hu; exact (Lib.cell_of_heap (heap_alloc_new W _) 0).trans rfl
theorem contains_nats (gs:List Nat) (k:Nat):(gs.map (fun m:Nat => (m:Int))).contains (k:Int) = gs.contains k := by
 rw [Bool.eq_iff_iff]
 simp
 exact ⟨fun ⟨a,h,e⟩ => (show a = k by omega) ▸ h,fun h => ⟨k,h,rfl⟩⟩
theorem contains_any (gs:List Nat) (A:Option Addr) (n c k:Nat) (w:World) (hg:IntsAt w A n (nats gs)) (hn:1 ≤ n ∧ n ≤ 100) :
 Calls Tryz.prog 107 #[.slice A n c,.int .i64 (k:Int)] w fun e w' => e = .returned (.bool (gs.contains k)) ∧ w' = w := by
 have hl:=hg.len
 obtain ⟨b,o,rfl,hc⟩:=hg.2 (by omega)
 have:=Tryz.slices_Contains_int b o n c (nats gs) (k:Int) w (by omega) (by omega) (fun j hj => hc j _ (by
  rw [List.getElem?_map,List.getElem?_eq_getElem hj,List.getD_eq_getElem?_getD,List.getElem?_eq_getElem hj]; rfl))
 refine this.mono ?_
 rintro e w' ⟨rfl,rfl⟩
 refine ⟨?_,rfl⟩
 rw [List.take_of_length_le (by omega)]
 unfold nats
 rw [contains_nats]
def shM (gs:List Nat) (mt:List Nat) (k:Nat):List Nat := (Pl.left k gs).flatMap (Pl.four (fun h => Pl.shf gs (mt.getD h 0)))
def shS (gs:List Nat) (sg:List Int) (k:Nat):List Int := (Pl.left k gs).map (fun c => sg.getD c 0)
theorem shM_stay {gs:List Nat} {k:Nat} (h:gs.contains k = false) (mt:List Nat):shM gs mt (k + 1) = shM gs mt k ++ [Pl.shf gs (mt.getD (4 * k) 0),Pl.shf gs (mt.getD (4 * k + 1) 0),Pl.shf gs (mt.getD (4 * k + 2) 0),Pl.shf gs (mt.getD (4 * k + 3) 0)] := by
 unfold shM
 rw [Pl.left_succ,h,List.flatMap_append]
 rfl
theorem shM_gone {gs:List Nat} {k:Nat} (h:gs.contains k = true) (mt:List Nat):shM gs mt (k + 1) = shM gs mt k := by
 unfold shM
 rw [Pl.left_succ,h]
 simp
theorem shS_stay {gs:List Nat} {k:Nat} (h:gs.contains k = false) (sg:List Int):shS gs sg (k + 1) = shS gs sg k ++ [sg.getD k 0] := by
 unfold shS
 rw [Pl.left_succ,h,List.map_append]
 rfl
theorem shS_gone {gs:List Nat} {k:Nat} (h:gs.contains k = true) (sg:List Int):shS gs sg (k + 1) = shS gs sg k := by
 unfold shS
 rw [Pl.left_succ,h]
 simp
theorem shS_len (gs:List Nat) (sg:List Int) (k:Nat):(shS gs sg k).length ≤ k := by unfold shS; rw [List.length_map]; exact Pl.left_le k gs
theorem shM_len (gs:List Nat) (mt:List Nat) (k:Nat):(shM gs mt k).length ≤ 4 * k := by unfold shM; rw [Pl.flat4]; have := Pl.left_le k gs; omega
theorem shr_fin {w:World} {vS vM:Value} {ss:List Int} {ms:List Nat} {lp:Int} {W:World} (h:Shk w vS vM ss ms lp W) :
 (((W.setCell ⟨w.heap.size,0,none⟩ vS).setCell ⟨w.heap.size,1,none⟩ vM).setCell ⟨w.heap.size,2,none⟩ (.int .i64 lp)).cell? ⟨w.heap.size,0,none⟩ = some vS ∧
 (((W.setCell ⟨w.heap.size,0,none⟩ vS).setCell ⟨w.heap.size,1,none⟩ vM).setCell ⟨w.heap.size,2,none⟩ (.int .i64 lp)).cell? ⟨w.heap.size,1,none⟩ = some vM ∧
 (((W.setCell ⟨w.heap.size,0,none⟩ vS).setCell ⟨w.heap.size,1,none⟩ vM).setCell ⟨w.heap.size,2,none⟩ (.int .i64 lp)).cell? ⟨w.heap.size,2,none⟩ = some (.int .i64 lp) := by
 have r:=((h.res.set 0 vS).set 1 vM).set 2 (.int .i64 lp)
 exact ⟨r.cell (i := 0) (by simp),r.cell (i := 1) (by simp),r.cell (i := 2) (by simp)⟩
theorem four_take {f:Nat → Nat} (k:Nat) {j:Nat} (hj:j < 4):(Pl.four f k).take (j + 1) = (Pl.four f k).take j ++ [f (4 * k + j)] := by
 have h:j = 0 ∨ j = 1 ∨ j = 2 ∨ j = 3:=by omega
 rcases h with rfl | rfl | rfl | rfl <;> rfl
def ShrPost (gs:List Nat) (sg:List Int) (mt:List Nat) (lp:Int) (w:World) (e:Ending) (w':World):Prop :=
 ∃ vS vM:Value,e = .returned (.agg #[vS,vM,.int .i64 lp]) ∧ w'.ownsRow (w.heap.size + 2) 3 1 vS (Pl.left sg.length gs).length ((Pl.shrS gs sg).map (.int .i64)) ∧ w'.ownsRow (w.heap.size + 2) 3 1 vM (4 * (Pl.left sg.length gs).length) ((Pl.shrM gs sg.length mt).map (fun k:Nat => Value.int .i64 k)) ∧ Below w.heap.size w w'
set_option maxRecDepth 100000 in
set_option maxHeartbeats 2000000 in
theorem shrunk_any (gs:List Nat) (sg:List Int) (mt:List Nat) (lp:Int) (A B C:Option Addr) (n q r cp cq cr:Nat) (w:World) (hs:IntsAt w A n sg) (hm:IntsAt w B q (nats mt)) (hg:IntsAt w C r (nats gs)) (hf:Pl.Few gs)
 (hq:q = 4 * n) (hcq:q ≤ cq) (hcq2:cq ≤ maxLen) (hn:n ≤ 100) (hr:1 ≤ r ∧ r ≤ 100) (hmt:∀ h,mt.getD h 0 ≤ 1000) :
 Calls Tryz.prog 79 #[.slice A n cp,.slice B q cq,.int .i64 lp,.slice C r cr] w (ShrPost gs sg mt lp w) := by
 unfold maxLen at hcq2
 have hls:=hs.len
 have HQ:=hide hq
 have HS:=hide hs
 have HMT:=hide hm
 have HG:=hide hg
 have HLS:=hide hls
 clear hq hs hm hg hls
 go_enter Tryz.func79,Tryz.ntmps79
 go_wp2
 have H0:=hide (show Shk w (.slice none 0 0) (.slice none 0 0) [] [] lp ((w.alloc (.cells #[.slice none 0 0,.slice none 0 0,.int .i64 0] 24)).alloc (.cells #[.slice none 0 0,.slice none 0 0,.int .i64 lp] 24)) from
  ⟨(Row.new w _ [_,_,_]).alloc _,by have := Row.new (w.alloc (.cells #[.slice none 0 0,.slice none 0 0,.int .i64 0] 24)) 24 [.slice none 0 0,.slice none 0 0,.int .i64 lp]; simpa using this,
   World.ownsRow_nil _ _ _ _,World.ownsRow_nil _ _ _ _,fun g h => by simp [Value.ownBlock] at h,((Below.refl _ _).alloc (Nat.le_refl _) _).alloc (by simp) _⟩)
 go_loopg [18] n (fun g i wx => ∃ (k:Nat) (vS vM:Value),k + g = n ∧ i = .int .i64 k ∧ Shk w vS vM (shS gs sg k) (shM gs mt k) lp wx)
 case atStart => exact ⟨0,.slice none 0 0,.slice none 0 0,by omega,rfl,H0.out⟩
 case round =>
  clear H0
  obtain ⟨k,vS,vM,hkg,rfl,hk⟩:=hrel
  have HKG:=hide hkg
  have hkn:k ≤ n:=by omega
  have HK:=hide hk
  clear hkg hk
  obtain ⟨go,rfl⟩:∃ go,go = gk := ⟨_,rfl⟩
  by_cases hlt:k < n
  ·obtain ⟨ab,ao,rfl,hca⟩:=ints_pv (HS.out.keep HK.out.bel) hlt
   obtain ⟨x,hx⟩:∃ x,x = Pl.pv sg k := ⟨_,rfl⟩
   rw [← hx] at hca
   have HX:=hide hx
   clear hx
   go_wp2_with fail
   refine (contains_any gs C r cr k _ (HG.out.keep HK.out.bel) hr).mono ?_
   rintro e w1 ⟨rfl,rfl⟩
   cases hc:gs.contains k with
   | true =>
     have HC:=hide hc
     clear hc
     go_wp2
     go_roundg (go - 1)
     case measure => have := HKG.out; omega
     case rel => exact ⟨k + 1,vS,vM,by have := HKG.out; omega,by go_num,by rw [shM_gone HC.out,shS_gone HC.out]; exact HK.out⟩
   | false =>
     have HC:=hide hc
     clear hc
     obtain ⟨i0,hi0,hz0,hz1,hz2⟩:=info_parts intInfo
     obtain ⟨e0,e1,e2,e3⟩:=box3 HK.out.box
     have hbig:=HK.out.big
     have hsl:=shS_len gs sg k
     obtain ⟨mb,mo,rfl,_⟩:=nats_at HMT.out (k := 4 * k) (by have := HQ.out; omega)
     have hq1:(4:Int) * (k:Int) + 4 ≤ (q:Int):=by have := HQ.out; omega
     have hq2:(4:Int) * (k:Int) + 4 ≤ (cq:Int):=by omega
     have hq3:(q:Int) ≤ (cq:Int):=by omega
     go_wp2_with (at_builtin; refine wpList_append_lies _ (by rfl) _ _ 22 (by rfl) (w.heap.size + 2) 3 i0 (.int .i64 0) 1 8 Tryz.underlying22 hi0 hz0 hz1 hz2 rfl (by omega) vS (shS gs sg k).length ((shS gs sg k).map (.int .i64)) (by rfl) (HK.out.s.alloc _) ⟨w1.heap.size,0,none⟩ 1 1 [.int .i64 x] (by rfl) (by rfl) (one_news w1 (.int .i64 x)) (by simp [Value.oneCell']) (by omega) (by unfold maxLen; omega) (by omega) (by simp; omega) (w1.heap.size + 1) (by simp) ?_; intro g2 c2 w2 own2 grow2 at2 lt2; obtain ⟨q0,q1,q2,q3⟩:=box3 (Row.grown (Row.alloc HK.out.box (.cells #[.int .i64 x] 3)) grow2 (row_apart (Row.alloc HK.out.box (.cells #[.int .i64 x] 3)) (World.ownsRow.alloc HK.out.s (.cells #[.int .i64 x] 3)))); have OWN2 := hide own2; have GR2 := hide grow2; have AT2 := hide at2; clear own2 grow2 at2)
     have H3:=hide (Shk.appS (HK.out.alloc (.cells #[.int .i64 x] 3)) OWN2.out GR2.out rfl (by simpa using AT2.out))
     clear q0 q1 q2 q3 e0 e1 e2 e3
     obtain ⟨vS',hvS'⟩:∃ v,v = Value.slice (some ⟨g2,0,none⟩) ((shS gs sg k).length + 1) c2 := ⟨_,rfl⟩
     rw [← hvS'] at H3
     rw [HX.out,show Pl.pv sg k = sg.getD k 0 from rfl,← shS_stay HC.out] at H3
     have HV:=hide hvS'
     clear hvS'
     rw [show 4 * k + 4 - 4 * k = 4 from by omega]
     go_loopg [40] 4 (fun g i wx => ∃ (j:Nat) (vN:Value),j + g = 4 ∧ i = .int .i64 j ∧ Shk w vS' vN (shS gs sg (k + 1)) (shM gs mt k ++ (Pl.four (fun h => Pl.shf gs (mt.getD h 0)) k).take j) lp wx)
     case atStart => exact ⟨0,vM,by omega,rfl,by rw [← HV.out]; simpa using H3.out⟩
     case round =>
      clear H3
      obtain ⟨j,vN,hjg,rfl,hj⟩:=hrel
      have HJG:=hide hjg
      have hj4:j ≤ 4:=by omega
      have HJ:=hide hj
      clear hjg hj
      by_cases hlj:j < 4
      ·obtain ⟨mb',mo',e',hcm⟩:=nats_at (HMT.out.keep HJ.out.bel) (k := 4 * k + j) (by have := HQ.out; omega)
       injection e' with e'
       injection e' with e1' e2'
       subst e1'
       subst e2'
       obtain ⟨y,hy⟩:∃ y,y = mt.getD (4 * k + j) 0 := ⟨_,rfl⟩
       have hy1:=hmt (4 * k + j)
       rw [← hy,← Nat.add_assoc] at hcm
       rw [← hy] at hy1
       have HY:=hide hy
       clear hy
       obtain ⟨e0,e1,e2,e3⟩:=box3 HJ.out.box
       have hml:=shM_len gs mt k
       have htl:((Pl.four (fun h => Pl.shf gs (mt.getD h 0)) k).take j).length ≤ 4:=by have := List.length_take_le j (Pl.four (fun h => Pl.shf gs (mt.getD h 0)) k); omega
       have hll:(shM gs mt k ++ (Pl.four (fun h => Pl.shf gs (mt.getD h 0)) k).take j).length ≤ 404:=by rw [List.length_append]; omega
       obtain ⟨l,hl⟩:∃ l,l = shM gs mt k ++ (Pl.four (fun h => Pl.shf gs (mt.getD h 0)) k).take j := ⟨_,rfl⟩
       rw [← hl] at hll HJ
       have HL:=hide hl
       clear hl hml htl
       have hbig2:=HJ.out.big
       go_wp2_with fail
       have P1:∀ u ∈ [Value.int .i64 (Pl.shf gs y:Nat)],u.oneCell' = true:=by simp [Value.oneCell']
       have P2:l.length + 1 ≤ maxLen:=by unfold maxLen; omega
       have P3:(l.length + 1) * 8 ≤ 140737488355328:=by omega
       have P4:w.heap.size + 2 ≤ (wr.alloc (.cells #[.int .i64 (Pl.shf gs y:Nat)] 3)).drew.heap.size:=by simp; omega
       have P5:(wr.alloc (.cells #[.int .i64 (Pl.shf gs y:Nat)] 3)).drew.heap.size = wr.heap.size + 1:=by simp
       have PP:=hide P1
       have P5H:=hide P5
       have KB:=hide (show Row (wr.alloc (.cells #[.int .i64 (Pl.shf gs y:Nat)] 3)).drew (w.heap.size + 1) 24 [vS',vN,.int .i64 lp] from Row.drew (Row.alloc HJ.out.box _))
       have KM:=hide (show (wr.alloc (.cells #[.int .i64 (Pl.shf gs y:Nat)] 3)).drew.ownsRow (w.heap.size + 2) 3 1 vN l.length (l.map (fun k:Nat => Value.int .i64 k)) from ((HJ.out.m.alloc _).drew))
       clear P1 P5
       have HGd:IntsAt wr.drew C r (nats gs):=IntsAt.drew (HG.out.keep HJ.out.bel)
       obtain ⟨_,kb1,_,kb3⟩:=box3 KB.out
       go_region_law
        (first
          | (refine step_append_lies _ ?_ (.tmp 45) (.tmp 49) 22 ?_ (w.heap.size + 2) 3 i0 (.int .i64 0) 1 8 Tryz.underlying22 hi0 hz0 hz1 hz2 rfl Nat.zero_lt_one vN l.length (l.map (fun k : Nat => Value.int .i64 k)) ?_ KM.out ⟨wr.heap.size, 0, none⟩ 1 1 [.int .i64 (Pl.shf gs y : Nat)] ?_ rfl (World.news_of_block (cs := #[.int .i64 (Pl.shf gs y : Nat)]) (t := 3) (fr := (0, 0)) (heap_alloc_new wr _)) PP.out Nat.zero_lt_one P2 P3 P4 (wr.heap.size + 1) P5H.out ?_
             ·rfl
             ·rfl
             ·rfl
             ·rfl
             intro g3 c3 w3 own3 grow3 at3 lt3
             obtain ⟨q0,q1,q2,q3⟩:=box3 (KB.out.grown grow3 (row_apart KB.out KM.out))
             have OWN3:=hide own3
             have GR3:=hide grow3
             have AT3:=hide at3
             clear own3 grow3 at3 q0 q2)
          | (go_simp
             go_wp2_with ((go_at_call 78); refine Calls.mono (shifted_any gs C r cr y _ ?_ (by omega) (by omega) hf) ?_; (focus (exact HGd)); rintro e w5 ⟨rfl,rfl⟩)))
       all_goals
        go_wp2
        go_roundg (gk - 1)
        case measure => have := HJG.out; omega
        case rel =>
         refine ⟨j + 1,.slice (some ⟨g3,0,none⟩) (l.length + 1) c3,by have := HJG.out; omega,by go_num,?_⟩
         have hh:=Shk.appM (x := Pl.shf gs y) (Shk.below (HJ.out.alloc (.cells #[.int .i64 (Pl.shf gs y:Nat)] 3)) ((Below.refl _ _).drew)) OWN3.out GR3.out rfl (by simpa using AT3.out)
         rw [HL.out,HY.out,List.append_assoc,← four_take (f := fun h => Pl.shf gs (mt.getD h 0)) k hlj,← HL.out] at hh
         exact hh
      ·have hj44:j = 4:=by omega
       subst hj44
       go_wp2
       go_roundg (go - 1)
       case measure => have := HKG.out; omega
       case rel =>
        refine ⟨k + 1,vS',vN,by have := HKG.out; omega,by go_num,?_⟩
        rw [shM_stay HC.out]
        exact HJ.out
  ·obtain ⟨A2,c2,rfl⟩:=owns_slice HK.out.s
   obtain ⟨A3,c3,rfl⟩:=owns_slice HK.out.m
   obtain ⟨e0,e1,e2,e3⟩:=box3 HK.out.box
   obtain ⟨f0,f1,f2,f3⟩:=box3 HK.out.res
   have HFIN:=hide (shr_fin HK.out)
   obtain rfl:k = n := by omega
   go_wp2
   refine bodyPost_ret (v := .agg #[.slice A2 (shS gs sg k).length c2,.slice A3 (shM gs mt k).length c3,.int .i64 lp]) ?_ rfl ?_
   ·obtain ⟨r0,r1,r2⟩:=HFIN.out
    simp [results,Tryz.results79,go_sem,r0,r1,r2]
   ·have e1:shS gs sg k = Pl.shrS gs sg:=by unfold shS Pl.shrS; rw [HLS.out]
    have e2:shM gs mt k = Pl.shrM gs sg.length mt:=by unfold shM Pl.shrM; rw [HLS.out]
    refine ⟨.slice A2 (shS gs sg k).length c2,.slice A3 (shM gs mt k).length c3,rfl,?_,?_,?_⟩
    ·rw [← Pl.shrS_len,← e1]
     exact ownsRow_setCell_below (ownsRow_setCell_below (ownsRow_setCell_below HK.out.s (by simp) _) (by simp) _) (by simp) _
    ·rw [← Pl.shrM_len gs sg.length mt,← e2]
     exact ownsRow_setCell_below (ownsRow_setCell_below (ownsRow_setCell_below HK.out.m (by simp) _) (by simp) _) (by simp) _
    ·exact ((HK.out.bel.setCell (by simp) _).setCell (by simp) _).setCell (by simp) _
end Go.Proofs.YtghdiolnonejaaaGreatDoor
end
section
namespace Go.Proofs.YtghdiolnonejaaaGreatDoor.Pl
section
variable {S:Nat → Prop} {r a t:Nat → Nat} {h0 h1 h2 p0 p1 p2 u0 u1 u2 v0 v1 v2:Nat}
theorem perm_flip:[u0,u1,u2,v0,v1,v2,h0,h1,h2,p0,p1,p2].Perm [h0,h1,h2,p0,p1,p2,u0,u1,u2,v0,v1,v2] :=
 List.perm_append_comm (l₁ := [u0,u1,u2,v0,v1,v2]) (l₂ := [h0,h1,h2,p0,p1,p2])
theorem Tri.flip (T:Tri S r a t h0 h1 h2 p0 p1 p2 u0 u1 u2 v0 v1 v2):Tri S r (cj t a) t u0 u1 u2 v0 v1 v2 h0 h1 h2 p0 p1 p2 := by
 refine ⟨fun x hx => T.mem x (perm_flip.mem_iff.1 hx),T.rp0,T.rp1,T.rp2,T.rh0,T.rh1,T.rh2,T.rv0,T.rv1,T.rv2,T.ru0,T.ru1,T.ru2,?_,?_,?_,?_,?_,?_,?_,T.th0,T.th1,T.th2,T.tv1,T.tv2,T.tv0,T.tp0,T.tp1,T.tp2,T.tu2,T.tu0,T.tu1,fun x hx => T.tx x (fun h => hx (perm_flip.mem_iff.2 h))⟩
 ·unfold cj; rw [T.tu0,T.ap1,T.th0]
 ·unfold cj; rw [T.tu1,T.ap2,T.th1]
 ·unfold cj; rw [T.tu2,T.ap0,T.th2]
 ·unfold cj; rw [T.tv1,T.ah0,T.tp1]
 ·unfold cj; rw [T.tv2,T.ah1,T.tp2]
 ·unfold cj; rw [T.tv0,T.ah2,T.tp0]
 ·exact perm_flip.nodup_iff.2 T.nd
end
structure Sj (N:Nat) (m f:Nat → Nat) (Ou In:Nat → Prop):Prop where
 lt:∀ x,x < N → m x < N
 inv:∀ x,x < N → m (m x) = x
 fl:∀ x,x < N → f x < N
 ff:∀ x,f (f x) = x
 fO:∀ x,Ou x → In (f x)
 fx:∀ x,¬ Ou x → ¬ In x → f x = x
 fI:∀ x,In x → Ou (f x)
 mI:∀ x,In x → In (m x)
 no:∀ x,Ou x → ¬ In x
variable {N:Nat} {m f:Nat → Nat} {Ou In:Nat → Prop}
theorem Sj.far (h:Sj N m f Ou In) {u:Nat} (hu:u < N) (ho:Ou u) (hm:¬ Ou (m u)):f (m u) = m u :=
 h.fx _ hm (fun hi => h.no u ho (by have := h.mI _ hi; rwa [h.inv u hu] at this))
theorem Sj.step (h:Sj N m f Ou In) {l:List Nat} {k:Nat} (hl:Half N m (cj f m) (fun x => ∃ u,u < k ∧ Ou u ∧ (x = f u ∨ x = f (m u))) l) (hk:k < N) (ho:Ou k) :
 Half N m (cj f m) (fun x => ∃ u,u < k + 1 ∧ Ou u ∧ (x = f u ∨ x = f (m u))) ((l.set (f k) (f (m k))).set (f (m k)) (f k)) := by
 refine (hl.join (h.fl _ hk) (h.fl _ (h.lt _ hk)) (by unfold cj; rw [h.ff]) (by unfold cj; rw [h.ff,h.inv k hk])).mono ?_
 rintro x ⟨u,hu,hou,hx⟩
 by_cases e:u = k
 ·subst e
  exact hx.elim (fun h => .inr (.inl h)) (fun h => .inr (.inr h))
 ·exact .inl ⟨u,by omega,hou,hx⟩
theorem Sj.skip {l:List Nat} {k:Nat} (hl:Half N m (cj f m) (fun x => ∃ u,u < k ∧ Ou u ∧ (x = f u ∨ x = f (m u))) l) (ho:¬ Ou k) :
 Half N m (cj f m) (fun x => ∃ u,u < k + 1 ∧ Ou u ∧ (x = f u ∨ x = f (m u))) l := by
 refine hl.mono ?_
 rintro x ⟨u,hu,hou,hx⟩
 by_cases e:u = k
 ·subst e; exact absurd hou ho
 ·exact ⟨u,by omega,hou,hx⟩
theorem Sj.all (h:Sj N m f Ou In) {l:List Nat} {W:Nat → Prop} (hl:Half N m (cj f m) W l) (hw:∀ u,u < N → Ou u → W (f u) ∧ W (f (m u)) ∧ W u):∀ x,x < N → l.getD x 0 = cj f m x := by
 refine hl.all (fun x hx => ?_)
 by_cases h1:Ou x
 ·exact .inl (hw x hx h1).2.2
 ·by_cases h2:In x
  ·have:=(hw (f x) (h.fl x hx) (h.fI x h2)).1
   rw [h.ff] at this
   exact .inl this
  ·have e:=h.fx x h1 h2
   by_cases h3:Ou (m x)
   ·have:=(hw (m x) (h.lt x hx) h3).2.1
    rw [h.inv x hx,e] at this
    exact .inl this
   ·have h4:¬ In (m x):=fun hi => h2 (by have := h.mI _ hi; rwa [h.inv x hx] at this)
    refine .inr ?_
    unfold cj
    rw [e,h.fx _ h3 h4]
end Go.Proofs.YtghdiolnonejaaaGreatDoor.Pl
end
section
namespace Go.Proofs.YtghdiolnonejaaaGreatDoor
open Go.RowKit
def inR (n:Nat) (m:Mv):Prop :=
 if m.kind = 1 then -1 ≤ m.x ∧ m.x < 4 * n ∧ m.y = 0 ∧ (m.sign = 1 ∨ m.sign = -1)
 else if m.kind = 2 then 0 ≤ m.x ∧ m.x < n ∧ m.y = 0 ∧ m.sign = 0 ∧ m.over = false
 else if m.kind = 4 then 0 ≤ m.x ∧ m.x < m.y ∧ m.y < n ∧ m.sign = 0 ∧ m.over = false
 else if m.kind = 5 then 0 ≤ m.x ∧ m.x < 4 * n ∧ m.y = 0 ∧ m.sign = 0 ∧ m.over = false
 else -2 ≤ m.x ∧ m.x < 4 * n ∧ -2 ≤ m.y ∧ m.y < 4 * n ∧ (if m.x ≠ m.y then m.sign = 0 else if m.x < 0 then m.sign = 0 ∨ m.sign = 1 else m.sign = 1 ∨ m.sign = -1)
def InPost (n:Nat) (m:Mv) (w:World) (e:Ending) (w':World):Prop := e = .returned (.bool (Pl.vb (inR n m))) ∧ Below w.heap.size w w'
theorem in_ret {p:Prop} {b:Bool} (h:b = true ↔ p):Ending.returned (.bool b) = .returned (.bool (Pl.vb p)) := by
 refine ret_bool ?_
 rw [Bool.eq_iff_iff,Pl.vb_iff,h]
set_option maxRecDepth 100000 in
set_option maxHeartbeats 1000000 in
theorem inRange_2 (n:Nat) (x y s:Int) (o:Bool) (w:World) (hn:n ≤ 1000) :
 Calls Tryz.prog 45 #[.int .i64 (n:Int),(Mv.mk 2 x y s o).v] w (InPost n ⟨2,x,y,s,o⟩ w) := by
 unfold Mv.v
 by_cases hs:s = 0
 ·subst hs
  cases o
  all_goals
   go_enter Tryz.func45,Tryz.ntmps45
   go_wp2
   all_goals
    go_ret
    refine ⟨in_ret ?_,(Below.refl _ _).alloc (Nat.le_refl _) _⟩
    unfold inR
    (try simp only [beq_iff_eq,beq_eq_false_iff_ne,ne_eq,bne_iff_ne,decide_eq_true_eq,decide_eq_false_iff_not] at *); (first | (simp; done) | (simp; omega) | omega | (simp_all; done) | (simp_all; omega))
 ·have t0:(s == 0) = false:=by simpa using hs
  go_enter Tryz.func45,Tryz.ntmps45
  go_wp2
  all_goals
   go_ret
   refine ⟨in_ret ?_,(Below.refl _ _).alloc (Nat.le_refl _) _⟩
   unfold inR
   (try simp only [beq_iff_eq,beq_eq_false_iff_ne,ne_eq,bne_iff_ne,decide_eq_true_eq,decide_eq_false_iff_not] at *); (first | (simp; done) | (simp; omega) | omega | (simp_all; done) | (simp_all; omega))
set_option maxRecDepth 100000 in
set_option maxHeartbeats 1000000 in
theorem inRange_4 (n:Nat) (x y s:Int) (o:Bool) (w:World) (hn:n ≤ 1000) :
 Calls Tryz.prog 45 #[.int .i64 (n:Int),(Mv.mk 4 x y s o).v] w (InPost n ⟨4,x,y,s,o⟩ w) := by
 unfold Mv.v
 by_cases hs:s = 0
 ·subst hs
  cases o
  all_goals
   go_enter Tryz.func45,Tryz.ntmps45
   go_wp2
   all_goals
    go_ret
    refine ⟨in_ret ?_,(Below.refl _ _).alloc (Nat.le_refl _) _⟩
    unfold inR
    (try simp only [beq_iff_eq,beq_eq_false_iff_ne,ne_eq,bne_iff_ne,decide_eq_true_eq,decide_eq_false_iff_not] at *); (first | (simp; done) | (simp; omega) | omega | (simp_all; done) | (simp_all; omega))
 ·have t0:(s == 0) = false:=by simpa using hs
  go_enter Tryz.func45,Tryz.ntmps45
  go_wp2
  all_goals
   go_ret
   refine ⟨in_ret ?_,(Below.refl _ _).alloc (Nat.le_refl _) _⟩
   unfold inR
   (try simp only [beq_iff_eq,beq_eq_false_iff_ne,ne_eq,bne_iff_ne,decide_eq_true_eq,decide_eq_false_iff_not] at *); (first | (simp; done) | (simp; omega) | omega | (simp_all; done) | (simp_all; omega))
set_option maxRecDepth 100000 in
set_option maxHeartbeats 1000000 in
theorem inRange_5 (n:Nat) (x y s:Int) (o:Bool) (w:World) (hn:n ≤ 1000) :
 Calls Tryz.prog 45 #[.int .i64 (n:Int),(Mv.mk 5 x y s o).v] w (InPost n ⟨5,x,y,s,o⟩ w) := by
 unfold Mv.v
 by_cases hs:s = 0
 ·subst hs
  cases o
  all_goals
   go_enter Tryz.func45,Tryz.ntmps45
   go_wp2
   all_goals
    go_ret
    refine ⟨in_ret ?_,(Below.refl _ _).alloc (Nat.le_refl _) _⟩
    unfold inR
    (try simp only [beq_iff_eq,beq_eq_false_iff_ne,ne_eq,bne_iff_ne,decide_eq_true_eq,decide_eq_false_iff_not] at *); (first | (simp; done) | (simp; omega) | omega | (simp_all; done) | (simp_all; omega))
 ·have t0:(s == 0) = false:=by simpa using hs
  go_enter Tryz.func45,Tryz.ntmps45
  go_wp2
  all_goals
   go_ret
   refine ⟨in_ret ?_,(Below.refl _ _).alloc (Nat.le_refl _) _⟩
   unfold inR
   (try simp only [beq_iff_eq,beq_eq_false_iff_ne,ne_eq,bne_iff_ne,decide_eq_true_eq,decide_eq_false_iff_not] at *); (first | (simp; done) | (simp; omega) | omega | (simp_all; done) | (simp_all; omega))
end Go.Proofs.YtghdiolnonejaaaGreatDoor
end
