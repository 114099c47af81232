/-
 The texts Cmq, Cmk, Mem, Wa, Q, Row, Grow, Wd, We, Wf, Wg, Wh, Wb, Wc, Wk, Wo.
-/
import Derived.Test.YtghdiolnonejaaaGreatDoorS01
import Derived.Deep.DrawnRows
import Derived.Deep.Light
import Derived.Deep.LoopGhost
import Derived.Deep.RegionHeld3
import Derived.Deep.RegionWith
import Derived.Laws.AppendOwn
import Derived.Laws.MakeOwn
import Derived.Laws.OwnMore
import Derived.Laws.Rows
import Derived.Shelf.Spec.SlicesGrow
import Derived.StillTailTactics
import Derived.Test.YtghdiolnonejaaaGreatDoorRows
set_option linter.unusedVariables false
set_option linter.unusedSimpArgs false
section
namespace Go.Proofs.YtghdiolnonejaaaGreatDoor.Pl
variable {d d':Dg}
theorem Kq.opp {n i0 o0 i1 o1:Nat} (k:Kq n i0 o0 i1 o1):tn o0 2 = i0 ∧ tn i1 2 = o1 ∧ o0 / 4 = n ∧ i1 / 4 = n := by
 have:=k.bd
 unfold Kq at k
 unfold tn
 omega
theorem kd_stay (n:d'.n = d.n + 1) (z:Nat):stay d' [d.n] z ↔ z < 4 * d.n := by
 unfold stay
 rw [List.mem_singleton,n]
 omega
theorem Kd.same0 (hd:Valid d) (hd':Valid d') {i0 o0 i1 o1:Nat} (K:Kd d d' i0 o0 i1 o1) (mo:∀ h,h < 4 * d.n → d'.m h = d.m h) (m4:d'.m i0 = o1) (hlp:d.lp = d'.lp + 1):Same d d' := by
 intro s s' h h'
 have hw:=(Valid.iff.1 hd).1
 have hw':=(Valid.iff.1 hd').1
 obtain ⟨q1,q2,q3,q4⟩:=K.k.opp
 obtain ⟨a1,a2,a3,a4,n1,n2,n3,n4,n5,n6⟩:=K.k.bd
 have ho:o0 < 4 * d'.n:=by rw [K.n]; exact a2.2
 have hk:d'.m o0 / 4 = o0 / 4:=by rw [K.m1,q4,q3]
 have hn:d'.m (tn o0 2) = tn (d'.m o0) 2:=by rw [q1,m4,K.m1,q2]
 have R:=kink_rs0 hd' ho hk hn (lp := 0) (by omega)
 have hg:=kink_cls0 hd' ho hk hn
 rw [q3] at R hg
 have:=in_same hw hw' R (kd_stay K.n) mo (h'.all hw') hg h
 omega
theorem Kd.same (hd:Valid d) (hd':Valid d') {i0 o0 i1 o1 x:Nat} (K:Kd d d' i0 o0 i1 o1) (hx:x < 4 * d.n) (mo:∀ h,h < 4 * d.n → h ≠ x → h ≠ d.m x → d'.m h = d.m h)
 (m3:d'.m o1 = d.m x) (m4:d'.m (d.m x) = o1) (m5:d'.m x = i0) (m6:d'.m i0 = x) (hlp:d.lp = d'.lp):Same d d' := by
 intro s s' h h'
 have hw:=(Valid.iff.1 hd).1
 have hw':=(Valid.iff.1 hd').1
 obtain ⟨q1,q2,q3,q4⟩:=K.k.opp
 obtain ⟨a1,a2,a3,a4,n1,n2,n3,n4,n5,n6⟩:=K.k.bd
 have ho:o0 < 4 * d'.n:=by rw [K.n]; exact a2.2
 have hi0:i0 < 4 * d'.n:=by rw [K.n]; exact a1.2
 have ho1:o1 < 4 * d'.n:=by rw [K.n]; exact a4.2
 have hk:d'.m o0 / 4 = o0 / 4:=by rw [K.m1,q4,q3]
 have hn:d'.m (tn o0 2) ≠ tn (d'.m o0) 2:=by rw [q1,m6,K.m1,q2]; omega
 obtain ⟨c1,c2⟩:=kink_cls hd' ho hk hn (h'.all hw')
 have R:=kink_rs hd' ho hk hn (lp := 0) (by omega) (mt := List.ofFn (n := 4 * d'.n) (fun h => if h.1 = d'.m (tn o0 2) then d'.m (tn (d'.m o0) 2) else if h.1 = d'.m (tn (d'.m o0) 2) then d'.m (tn o0 2) else d'.m h.1)) (fun h hh => by
  rw [List.getD_eq_getElem?_getD,List.getElem?_ofFn,dif_pos hh]; rfl)
 have hnb:d'.m o1 ≠ i0:=by rw [m3]; have := hw.lt x hx; omega
 obtain ⟨b1,b2,b3,b4,b5⟩:=byp_at hw'.hm ho1 hi0 (Ne.symm n3) (hw'.ne _ ho1) (hw'.ne _ hi0) hnb
 rw [K.m1,q1,q2] at c1
 rw [K.m1,q1,q2,q3] at c2 R
 have:=in_same hw hw' R (kd_stay K.n) (fun z hz => ?_) c1 c2 h
 ·omega
 ·by_cases z1:z = x
  ·rw [z1]; rw [m6] at b4; rw [b4,m3]
  ·by_cases z2:z = d.m x
   ·rw [z2]; rw [m3] at b3; rw [b3,m6,hw.inv x hx]
   ·rw [b5 z (by omega) (by omega) (by rw [m3]; exact z2) (by rw [m6]; exact z1),mo z hz z1 z2]
theorem slide_cls {n:Nat} {a t:Nat → Nat} (hm:Hm (4 * n) (fun h => h < 4 * n) rot a) (hm':Hm (4 * n) (fun h => h < 4 * n) rot (cj t a)) (D:Nat → Prop) (Q:Nat → Nat → Nat → Nat → Prop)
 (q:∀ u h p v,Q u h p v → op u = h ∧ op p = v ∧ a h = p ∧ t u = p ∧ t h = v ∧ t p = u ∧ t v = h ∧ D u ∧ D v ∧ ¬ D h ∧ ¬ D p ∧ h < 4 * n ∧ p < 4 * n)
 (dS:∀ x,D x → x < 4 * n) (da:∀ x,D x → D (a x)) (din:∀ x,x < 4 * n → ¬ D x → ∃ u h p v,Q u h p v ∧ (x = h ∨ x = p))
 (dout:∀ x,D x → (∃ u h p v,Q u h p v ∧ (x = u ∨ x = v)) ∨ (t x = x ∧ D (op x))) {k:Nat} (hk:Cls (fun h => h < 4 * n) (Orb (phi op a)) k):Cls (fun h => h < 4 * n) (Orb (phi op (cj t a))) k := by
 have hR:∀ w,D w → D (op (t w)):=by
  intro w hw
  rcases dout w hw with ⟨u,h,p,v,hq,rfl | rfl⟩ | ⟨e,hd⟩
  ·obtain ⟨e1,e2,e3,e4,e5,e6,e7,d1,d2,d3,d4,l1,l2⟩:=q _ _ _ _ hq
   rw [e4,e2]; exact d2
  ·obtain ⟨e1,e2,e3,e4,e5,e6,e7,d1,d2,d3,d4,l1,l2⟩:=q _ _ _ _ hq
   rw [e7,← e1,op_op]; exact d1
  ·rw [e]; exact hd
 -- both come back to the outer half-edges at the same one
 have fR:∀ x,D x → (phi op a x = op (t (a x))) ∨ (¬ D (phi op a x) ∧ phi op a (phi op a x) = op (t (a x))):=by
  intro x hx
  rcases dout (a x) (da x hx) with ⟨u,h,p,v,hq,e | e⟩ | ⟨e,hd⟩
  ·obtain ⟨e1,e2,e3,e4,e5,e6,e7,d1,d2,d3,d4,l1,l2⟩:=q _ _ _ _ hq
   right
   have s1:phi op a x = h:=by show op (a x) = h; rw [e,e1]
   rw [s1]
   exact ⟨d3,by show op (a h) = _; rw [e3,e2,e,e4,e2]⟩
  ·obtain ⟨e1,e2,e3,e4,e5,e6,e7,d1,d2,d3,d4,l1,l2⟩:=q _ _ _ _ hq
   right
   have s1:phi op a x = p:=by show op (a x) = p; rw [e,← e2,op_op]
   have s2:a p = h:=by rw [← e3,hm.inv _ l1]
   rw [s1]
   exact ⟨d4,by show op (a p) = _; rw [s2,e,e7]⟩
  ·left; show op (a x) = _; rw [e]
 have gR:∀ x,D x → (phi op (cj t a) x = op (t (a x))) ∨ (¬ D (phi op (cj t a) x) ∧ phi op (cj t a) (phi op (cj t a) x) = op (t (a x))):=by
  intro x hx
  rcases dout x hx with ⟨u,h,p,v,hq,rfl | rfl⟩ | ⟨e,hd⟩
  ·obtain ⟨e1,e2,e3,e4,e5,e6,e7,d1,d2,d3,d4,l1,l2⟩:=q _ _ _ _ hq
   right
   have s2:a p = h:=by rw [← e3,hm.inv _ l1]
   have s1:phi op (cj t a) x = p:=by show op (t (a (t x))) = p; rw [e4,s2,e5,← e2,op_op]
   rw [s1]
   exact ⟨d4,by show op (t (a (t p))) = _; rw [e6]⟩
  ·obtain ⟨e1,e2,e3,e4,e5,e6,e7,d1,d2,d3,d4,l1,l2⟩:=q _ _ _ _ hq
   right
   have s1:phi op (cj t a) x = h:=by show op (t (a (t x))) = h; rw [e7,e3,e6,e1]
   rw [s1]
   exact ⟨d3,by show op (t (a (t h))) = _; rw [e5]⟩
  ·left; show op (t (a (t x))) = _; rw [e]
 have fo:∀ x,D x → Orb (phi op a) x (op (t (a x))):=fun x hx => by
  rcases fR x hx with e | ⟨_,e⟩
  ·exact ⟨1,e⟩
  ·exact ⟨2,e⟩
 have go:∀ x,D x → Orb (phi op (cj t a)) x (op (t (a x))):=fun x hx => by
  rcases gR x hx with e | ⟨_,e⟩
  ·exact ⟨1,e⟩
  ·exact ⟨2,e⟩
 have fE:=hm.op.pb.eqv
 have gE:=hm'.op.pb.eqv
 have fin:∀ x,x < 4 * n → ∃ y,D y ∧ Orb (phi op a) x y:=by
  intro x hx
  by_cases hD:D x
  ·exact ⟨x,hD,Orb.refl _ _⟩
  ·obtain ⟨u,h,p,v,hq,rfl | rfl⟩:=din x hx hD
   ·obtain ⟨e1,e2,e3,e4,e5,e6,e7,d1,d2,d3,d4,l1,l2⟩:=q _ _ _ _ hq
    exact ⟨v,d2,⟨1,by show op (a x) = v; rw [e3,e2]⟩⟩
   ·obtain ⟨e1,e2,e3,e4,e5,e6,e7,d1,d2,d3,d4,l1,l2⟩:=q _ _ _ _ hq
    have s2:a x = h:=by rw [← e3,hm.inv _ l1]
    exact ⟨u,d1,⟨1,by show op (a x) = u; rw [s2,← e1,op_op]⟩⟩
 have gin:∀ x,x < 4 * n → ∃ y,D y ∧ Orb (phi op (cj t a)) x y:=by
  intro x hx
  by_cases hD:D x
  ·exact ⟨x,hD,Orb.refl _ _⟩
  ·obtain ⟨u,h,p,v,hq,rfl | rfl⟩:=din x hx hD
   ·obtain ⟨e1,e2,e3,e4,e5,e6,e7,d1,d2,d3,d4,l1,l2⟩:=q _ _ _ _ hq
    exact ⟨_,hR _ (da _ d2),⟨1,by show op (t (a (t x))) = _; rw [e5]⟩⟩
   ·obtain ⟨e1,e2,e3,e4,e5,e6,e7,d1,d2,d3,d4,l1,l2⟩:=q _ _ _ _ hq
    exact ⟨_,hR _ (da _ d1),⟨1,by show op (t (a (t x))) = _; rw [e6]⟩⟩
 have h1:=hk.sub (D := D) dS fin
 have h2:Cls D (Orb (phi op (cj t a))) k:=Cls.congr h1 (fun _ => Iff.rfl) fun x y hx hy => by
  constructor
  ·refine orb_ret (D := D) (fun x hx => ?_) hx hy
   rcases fR x hx with e | ⟨n1,e⟩
   ·left; rw [e]; exact ⟨hR _ (da x hx),go x hx⟩
   ·right; rw [e]; exact ⟨hR _ (da x hx),n1,go x hx⟩
  ·refine orb_ret (D := D) (fun x hx => ?_) hx hy
   rcases gR x hx with e | ⟨n1,e⟩
   ·left; rw [e]; exact ⟨hR _ (da x hx),fo x hx⟩
   ·right; rw [e]; exact ⟨hR _ (da x hx),n1,fo x hx⟩
 exact h2.sup gE dS gin
theorem Tr.same (hd:Valid d) {h0 h1 h2:Nat} (t:Tr d h0 h1 h2) (sg:d'.sg = d.sg) (lp:d'.lp = d.lp) (len:d'.mt.length = 4 * d.n) (hm:∀ x,x < 4 * d.n → d'.m x = cj (tu h0 h1 h2) d.m x):Same d d' := by
 intro s s' h h'
 have hv:=Valid.iff.1 hd
 have hw:=hv.1
 have hw':=(Valid.iff.1 (t.valid hd sg lp len hm)).1
 have T:=t.tri hw
 have hn:d'.n = d.n:=by unfold Dg.n; rw [sg]
 have hj:=hw.hm.cj (t := tu h0 h1 h2) T.tS (fun x _ => T.tt x)
 have hm':Hm (4 * d.n) (fun h => h < 4 * d.n) rot (cj (tu h0 h1 h2) d.m):=⟨hw.hm.rb,hj.ab,hj.inv⟩
 have o1:∀ x y z,rot x = y → rot y = z → op x = z:=fun x y z e1 e2 => by show tn x 2 = z; rw [← rot_rot,e1,e2]
 have key:=slide_cls (k := 2 * s) hw.hm hm' (Dout (dart d) h0 h1 h2 (tn h0 1) (tn h1 1) (tn h2 1))
  (fun u h p v => (u = tn h0 2 ∧ h = h0 ∧ p = tn h1 1 ∧ v = tn h1 3) ∨ (u = tn h1 2 ∧ h = h1 ∧ p = tn h2 1 ∧ v = tn h2 3) ∨ (u = tn h2 2 ∧ h = h2 ∧ p = tn h0 1 ∧ v = tn h0 3))
  (fun u h p v hq => by
    rcases hq with ⟨rfl,rfl,rfl,rfl⟩ | ⟨rfl,rfl,rfl,rfl⟩ | ⟨rfl,rfl,rfl,rfl⟩
    ·exact ⟨o1 _ _ _ T.ru0 T.rp0,o1 _ _ _ T.rp1 T.rh1,T.ah0,T.tu0,T.th0,T.tp1,T.tv1,T.du0,T.dv1,T.nh0,T.np1,T.mem _ (by simp),T.mem _ (by simp)⟩
    ·exact ⟨o1 _ _ _ T.ru1 T.rp1,o1 _ _ _ T.rp2 T.rh2,T.ah1,T.tu1,T.th1,T.tp2,T.tv2,T.du1,T.dv2,T.nh1,T.np2,T.mem _ (by simp),T.mem _ (by simp)⟩
    ·exact ⟨o1 _ _ _ T.ru2 T.rp2,o1 _ _ _ T.rp0 T.rh0,T.ah2,T.tu2,T.th2,T.tp0,T.tv0,T.du2,T.dv0,T.nh2,T.np0,T.mem _ (by simp),T.mem _ (by simp)⟩)
  (fun x hx => hx.1) (fun x hx => T.da hw.hm hx)
  (fun x hx hD => by
    have hD2:x = h0 ∨ x = h1 ∨ x = h2 ∨ x = tn h0 1 ∨ x = tn h1 1 ∨ x = tn h2 1:=by
     rw [T.out hx] at hD
     exact Classical.byContradiction fun e => hD e
    rcases hD2 with e | e | e | e | e | e
    ·exact ⟨_,_,_,_,.inl ⟨rfl,rfl,rfl,rfl⟩,.inl e⟩
    ·exact ⟨_,_,_,_,.inr (.inl ⟨rfl,rfl,rfl,rfl⟩),.inl e⟩
    ·exact ⟨_,_,_,_,.inr (.inr ⟨rfl,rfl,rfl,rfl⟩),.inl e⟩
    ·exact ⟨_,_,_,_,.inr (.inr ⟨rfl,rfl,rfl,rfl⟩),.inr e⟩
    ·exact ⟨_,_,_,_,.inl ⟨rfl,rfl,rfl,rfl⟩,.inr e⟩
    ·exact ⟨_,_,_,_,.inr (.inl ⟨rfl,rfl,rfl,rfl⟩),.inr e⟩)
  (fun x hx => by
    by_cases e:x ∈ [tn h0 2,tn h1 2,tn h2 2,tn h0 3,tn h1 3,tn h2 3]
    ·left
     simp only [List.mem_cons,List.not_mem_nil,or_false] at e
     rcases e with e | e | e | e | e | e
     ·exact ⟨_,_,_,_,.inl ⟨rfl,rfl,rfl,rfl⟩,.inl e⟩
     ·exact ⟨_,_,_,_,.inr (.inl ⟨rfl,rfl,rfl,rfl⟩),.inl e⟩
     ·exact ⟨_,_,_,_,.inr (.inr ⟨rfl,rfl,rfl,rfl⟩),.inl e⟩
     ·exact ⟨_,_,_,_,.inr (.inr ⟨rfl,rfl,rfl,rfl⟩),.inr e⟩
     ·exact ⟨_,_,_,_,.inl ⟨rfl,rfl,rfl,rfl⟩,.inr e⟩
     ·exact ⟨_,_,_,_,.inr (.inl ⟨rfl,rfl,rfl,rfl⟩),.inr e⟩
    ·right
     have hx0:=(T.out hx.1).1 hx
     have hno:x ∉ [h0,h1,h2,tn h0 1,tn h1 1,tn h2 1,tn h0 2,tn h1 2,tn h2 2,tn h0 3,tn h1 3,tn h2 3]:=fun hm => by
      simp only [List.mem_cons,List.not_mem_nil,or_false] at hm e
      rcases hm with h | h | h | h | h | h | h
      ·exact hx0 (.inl h)
      ·exact hx0 (.inr (.inl h))
      ·exact hx0 (.inr (.inr (.inl h)))
      ·exact hx0 (.inr (.inr (.inr (.inl h))))
      ·exact hx0 (.inr (.inr (.inr (.inr (.inl h)))))
      ·exact hx0 (.inr (.inr (.inr (.inr (.inr h)))))
      ·exact e h
     refine ⟨T.tx x hno,?_⟩
     have c1:=(T.cx hw.hm hx.1 hno).1
     have c2:=(T.cx hw.hm (rot_lt hx.1) c1).1
     rw [T.out (show dart d (op x) from tn_lt hx.1)]
     intro hm
     apply c2
     rw [rot_rot]
     simp only [List.mem_cons,List.not_mem_nil,or_false]
     rcases hm with h | h | h | h | h | h
     ·exact .inl h
     ·exact .inr (.inl h)
     ·exact .inr (.inr (.inl h))
     ·exact .inr (.inr (.inr (.inl h)))
     ·exact .inr (.inr (.inr (.inr (.inl h))))
     ·exact .inr (.inr (.inr (.inr (.inr (.inl h))))))
  (h.all hw)
 have e2:Cls (dart d') (Orb (st d')) (2 * s):=Cls.congr key (fun x => by unfold dart; rw [hn]) fun x y hx hy => by
  refine Orb.congr (S := fun z => z < 4 * d.n) (fun z hz => tn_lt (hm'.ab.maps z hz)) (fun z hz => ?_) hx
  show tn _ 2 = tn (d'.m z) 2
  rw [hm z hz]
 have:=h'.iff hw' e2
 omega
end Go.Proofs.YtghdiolnonejaaaGreatDoor.Pl
end
section
namespace Go.Proofs.YtghdiolnonejaaaGreatDoor.Pl
section
variable {d:Dg} {h u:Nat}
theorem Lens.lA_c (E:d.m (tn h 2) = tn u 2):lA d h u = d.m := by unfold lA Pl.cls; rw [if_pos E]
theorem Lens.lA_e (hw:Wf d) (L:Lens d h u) (E:d.m (tn h 2) ≠ tn u 2):lA d h u (d.m (tn h 2)) = d.m (tn u 2) ∧ lA d h u (d.m (tn u 2)) = d.m (tn h 2) ∧ ∀ z,z ≠ tn h 2 → z ≠ tn u 2 → z ≠ d.m (tn h 2) → z ≠ d.m (tn u 2) → lA d h u z = d.m z := by
 have hh:=L.hh
 have hu:=L.hu hw
 obtain ⟨b1,b2,b3,b4,b5⟩:=byp_at hw.hm (tn_lt hh) (tn_lt hu) (pm L.ne) (hw.ne _ (tn_lt (k := 2) hh)) (hw.ne _ (tn_lt (k := 2) hu)) E
 unfold lA Pl.cls
 rw [if_neg E]
 exact ⟨b3,b4,b5⟩
theorem Lens.lB_c (E:lA d h u (tn h 3) = tn u 1):lB d h u = lA d h u := by unfold lB; unfold Pl.cls; rw [if_pos E]
theorem Lens.lB_e (hd:Valid d) (L:Lens d h u) (E:lA d h u (tn h 3) ≠ tn u 1):lB d h u (lA d h u (tn h 3)) = lA d h u (tn u 1) ∧ lB d h u (lA d h u (tn u 1)) = lA d h u (tn h 3) ∧
 ∀ z,z ≠ tn h 3 → z ≠ tn u 1 → z ≠ lA d h u (tn h 3) → z ≠ lA d h u (tn u 1) → lB d h u z = lA d h u z := by
 have hw:=(Valid.iff.1 hd).1
 have hh:=L.hh
 have hu:=L.hu hw
 have A:=L.la hd
 obtain ⟨b1,b2,b3,b4,b5⟩:=byp_at A.hm (tn_lt hh) (tn_lt hu) (pm L.ne) (A.nf _ (tn_lt (k := 3) hh) (tn_ne (by omega)) (pm L.ne)) (A.nf _ (tn_lt (k := 1) hu) (Ne.symm (pm L.ne)) (tn_ne (by omega))) E
 unfold lB
 unfold Pl.cls
 rw [if_neg E]
 exact ⟨b3,b4,b5⟩
end
theorem tn_pp (n f t k:Nat):tn (pp n f t) k = pp n f (t + k) := by unfold tn pp; omega
structure Out (d d':Dg) (f g c1 c2:Nat):Prop where
 n:d'.n = d.n + 2
 L:Lens d' (pp d.n f 0) (pp (d.n + 1) g 2)
 b:∀ z,z < 4 * d.n → lB d' (pp d.n f 0) (pp (d.n + 1) g 2) z = d.m z
 e1:c1 = if d'.m (pp d.n f 2) = pp (d.n + 1) g 0 then 1 else 0
 e2:c2 = if lA d' (pp d.n f 0) (pp (d.n + 1) g 2) (pp d.n f 3) = pp (d.n + 1) g 3 then 1 else 0
section
variable {d d':Dg} {f g c1 c2:Nat}
theorem Out.stay (O:Out d d' f g c1 c2) (z:Nat):Pl.stay d' [d.n,d.n + 1] z ↔ z < 4 * d.n := by
 unfold Pl.stay
 rw [O.n,List.mem_cons,List.mem_singleton]
 omega
theorem Out.hx (O:Out d d' f g c1 c2):(d.n = pp d.n f 0 / 4 ∧ d.n + 1 = pp (d.n + 1) g 2 / 4) ∨ (d.n = pp (d.n + 1) g 2 / 4 ∧ d.n + 1 = pp d.n f 0 / 4) := by
 left; unfold pp; omega
theorem Out.same (hd:Valid d) (hd':Valid d') (O:Out d d' f g c1 c2) (hlp:d.lp = d'.lp + c1 + c2):Same d d' := by
 intro s s' h h'
 have hw:=(Valid.iff.1 hd).1
 have hw':=(Valid.iff.1 hd').1
 have R:=(O.L.lb hd').rs hw' O.L (x := d.n) (y := d.n + 1) (by omega) O.hx (lp := 0) (by omega) (mt := List.ofFn (n := 4 * d'.n) (fun z => lB d' (pp d.n f 0) (pp (d.n + 1) g 2) z.1)) (fun z hz => by
  rw [List.getD_eq_getElem?_getD,List.getElem?_ofFn,dif_pos hz.1]; rfl)
 have:=in_same hw hw' R O.stay O.b (O.L.cls hd' (h'.all hw')) (O.L.gone hd' O.hx) h
 have q1:tn (pp d.n f 0) 2 = pp d.n f 2:=tn_pp _ _ _ _
 have q2:tn (pp (d.n + 1) g 2) 2 = pp (d.n + 1) g 0:=by rw [tn_pp,show 2 + 2 = 0 + 4 from rfl,pp_mod]
 have q3:tn (pp d.n f 0) 3 = pp d.n f 3:=tn_pp _ _ _ _
 have q4:tn (pp (d.n + 1) g 2) 1 = pp (d.n + 1) g 3:=tn_pp _ _ _ _
 rw [q1,q2,q3,q4] at this
 have e1:=O.e1
 have e2:=O.e2
 by_cases a1:d'.m (pp d.n f 2) = pp (d.n + 1) g 0 <;> by_cases a2:lA d' (pp d.n f 0) (pp (d.n + 1) g 2) (pp d.n f 3) = pp (d.n + 1) g 3 <;> simp only [a1,a2,if_true,if_false] at this e1 e2 <;> omega
structure In (d d':Dg) (f g:Nat):Prop where
 n:d'.n = d.n + 2
 v:Valid d'
 m0:d'.m (pp d.n f 0) = pp (d.n + 1) g 2
 m1:d'.m (pp d.n f 1) = pp (d.n + 1) g 1
theorem In.lens (I:In d d' f g):Lens d' (pp d.n f 0) (pp (d.n + 1) g 2) :=
 ⟨by rw [I.n]; unfold pp; omega,I.m0,by rw [tn_pp,I.m1,tn_pp,show 2 + 3 = 1 + 4 from rfl,pp_mod],by unfold pp; omega⟩
section
variable (I:In d d' f g)
include I
theorem In.e1 (E:d'.m (pp d.n f 2) ≠ pp (d.n + 1) g 0):lA d' (pp d.n f 0) (pp (d.n + 1) g 2) (d'.m (pp d.n f 2)) = d'.m (pp (d.n + 1) g 0) ∧ lA d' (pp d.n f 0) (pp (d.n + 1) g 2) (d'.m (pp (d.n + 1) g 0)) = d'.m (pp d.n f 2) ∧
 ∀ z,z ≠ pp d.n f 2 → z ≠ pp (d.n + 1) g 0 → z ≠ d'.m (pp d.n f 2) → z ≠ d'.m (pp (d.n + 1) g 0) → lA d' (pp d.n f 0) (pp (d.n + 1) g 2) z = d'.m z := by
 have q1:tn (pp d.n f 0) 2 = pp d.n f 2:=tn_pp _ _ _ _
 have q2:tn (pp (d.n + 1) g 2) 2 = pp (d.n + 1) g 0:=by rw [tn_pp,show 2 + 2 = 0 + 4 from rfl,pp_mod]
 have:=I.lens.lA_e (Valid.iff.1 I.v).1 (by rw [q1,q2]; exact E)
 rwa [q1,q2] at this
theorem In.k1 (E:d'.m (pp d.n f 2) = pp (d.n + 1) g 0):lA d' (pp d.n f 0) (pp (d.n + 1) g 2) = d'.m := by
 have _:=I
 have q1:tn (pp d.n f 0) 2 = pp d.n f 2:=tn_pp _ _ _ _
 have q2:tn (pp (d.n + 1) g 2) 2 = pp (d.n + 1) g 0:=by rw [tn_pp,show 2 + 2 = 0 + 4 from rfl,pp_mod]
 exact Lens.lA_c (by rw [q1,q2]; exact E)
theorem In.e2 (E:lA d' (pp d.n f 0) (pp (d.n + 1) g 2) (pp d.n f 3) ≠ pp (d.n + 1) g 3):lB d' (pp d.n f 0) (pp (d.n + 1) g 2) (lA d' (pp d.n f 0) (pp (d.n + 1) g 2) (pp d.n f 3)) = lA d' (pp d.n f 0) (pp (d.n + 1) g 2) (pp (d.n + 1) g 3) ∧
 lB d' (pp d.n f 0) (pp (d.n + 1) g 2) (lA d' (pp d.n f 0) (pp (d.n + 1) g 2) (pp (d.n + 1) g 3)) = lA d' (pp d.n f 0) (pp (d.n + 1) g 2) (pp d.n f 3) ∧
 ∀ z,z ≠ pp d.n f 3 → z ≠ pp (d.n + 1) g 3 → z ≠ lA d' (pp d.n f 0) (pp (d.n + 1) g 2) (pp d.n f 3) → z ≠ lA d' (pp d.n f 0) (pp (d.n + 1) g 2) (pp (d.n + 1) g 3) → lB d' (pp d.n f 0) (pp (d.n + 1) g 2) z = lA d' (pp d.n f 0) (pp (d.n + 1) g 2) z := by
 have q3:tn (pp d.n f 0) 3 = pp d.n f 3:=tn_pp _ _ _ _
 have q4:tn (pp (d.n + 1) g 2) 1 = pp (d.n + 1) g 3:=tn_pp _ _ _ _
 have:=I.lens.lB_e I.v (by rw [q3,q4]; exact E)
 rwa [q3,q4] at this
theorem In.k2 (E:lA d' (pp d.n f 0) (pp (d.n + 1) g 2) (pp d.n f 3) = pp (d.n + 1) g 3):lB d' (pp d.n f 0) (pp (d.n + 1) g 2) = lA d' (pp d.n f 0) (pp (d.n + 1) g 2) := by
 have _:=I
 have q3:tn (pp d.n f 0) 3 = pp d.n f 3:=tn_pp _ _ _ _
 have q4:tn (pp (d.n + 1) g 2) 1 = pp (d.n + 1) g 3:=tn_pp _ _ _ _
 exact Lens.lB_c (by rw [q3,q4]; exact E)
theorem In.po (t:Nat) {z:Nat} (hz:z < 4 * d.n):z ≠ pp d.n f t := by have _ := I; have := pp_bd d.n f t; omega
theorem In.qo (t:Nat) {z:Nat} (hz:z < 4 * d.n):z ≠ pp (d.n + 1) g t := by have _ := I; have := pp_bd (d.n + 1) g t; omega
theorem In.edges (hw:Wf d) {x y:Nat} (hx:x < 4 * d.n) (hy:y < 4 * d.n) (xy:x ≠ y) (xm:d.m x ≠ y) (v2:d'.m (pp d.n f 2) = d.m y) (v0:d'.m (pp (d.n + 1) g 0) = y) (v3:d'.m (pp d.n f 3) = x) (w3:d'.m (pp (d.n + 1) g 3) = d.m x)
 (old:∀ z,z < 4 * d.n → z ≠ x → z ≠ d.m x → z ≠ y → z ≠ d.m y → d'.m z = d.m z):Out d d' f g 0 0 := by
 have hmx:=hw.lt x hx
 have hmy:=hw.lt y hy
 have n1:d'.m (pp d.n f 2) ≠ pp (d.n + 1) g 0:=by rw [v2]; exact I.qo 0 hmy
 obtain ⟨a1,a2,a3⟩:=I.e1 n1
 rw [v2,v0] at a1 a2 a3
 have k1:=a3 (pp d.n f 3) (pp_ne (by omega)) pp_nq (Ne.symm (I.po 3 hmy)) (Ne.symm (I.po 3 hy))
 have k2:=a3 (pp (d.n + 1) g 3) (Ne.symm pp_nq) (pp_ne (by omega)) (Ne.symm (I.qo 3 hmy)) (Ne.symm (I.qo 3 hy))
 rw [v3] at k1
 rw [w3] at k2
 have n2:lA d' (pp d.n f 0) (pp (d.n + 1) g 2) (pp d.n f 3) ≠ pp (d.n + 1) g 3:=by rw [k1]; exact I.qo 3 hx
 obtain ⟨b1,b2,b3⟩:=I.e2 n2
 rw [k1,k2] at b1 b2 b3
 refine ⟨I.n,I.lens,fun z hz => ?_,by rw [if_neg n1],by rw [if_neg n2]⟩
 by_cases z1:z = x
 ·rw [z1,b1]
 ·by_cases z2:z = d.m x
  ·rw [z2,b2,hw.inv x hx]
  ·rw [b3 z (I.po 3 hz) (I.qo 3 hz) z1 z2]
   by_cases z3:z = y
   ·rw [z3,a2]
   ·by_cases z4:z = d.m y
    ·rw [z4,a1,hw.inv y hy]
    ·rw [a3 z (I.po 2 hz) (I.qo 0 hz) z4 z3,old z hz z1 z2 z3 z4]
theorem In.loops (v2:d'.m (pp d.n f 2) = pp (d.n + 1) g 0) (v3:d'.m (pp d.n f 3) = pp (d.n + 1) g 3) (old:∀ z,z < 4 * d.n → d'.m z = d.m z):Out d d' f g 1 1 := by
 have k:=I.k1 v2
 have n2:lA d' (pp d.n f 0) (pp (d.n + 1) g 2) (pp d.n f 3) = pp (d.n + 1) g 3:=by rw [k,v3]
 exact ⟨I.n,I.lens,fun z hz => by rw [I.k2 n2,k,old z hz],by rw [if_pos v2],by rw [if_pos n2]⟩
theorem In.xedge (hw:Wf d) {x:Nat} (hx:x < 4 * d.n) (v2:d'.m (pp d.n f 2) = pp (d.n + 1) g 0) (v3:d'.m (pp d.n f 3) = x) (w3:d'.m (pp (d.n + 1) g 3) = d.m x)
 (old:∀ z,z < 4 * d.n → z ≠ x → z ≠ d.m x → d'.m z = d.m z):Out d d' f g 1 0 := by
 have k:=I.k1 v2
 have n2:lA d' (pp d.n f 0) (pp (d.n + 1) g 2) (pp d.n f 3) ≠ pp (d.n + 1) g 3:=by rw [k,v3]; exact I.qo 3 hx
 obtain ⟨b1,b2,b3⟩:=I.e2 n2
 rw [k,v3,w3] at b1 b2 b3
 refine ⟨I.n,I.lens,fun z hz => ?_,by rw [if_pos v2],by rw [if_neg n2]⟩
 by_cases z1:z = x
 ·rw [z1,b1]
 ·by_cases z2:z = d.m x
  ·rw [z2,b2,hw.inv x hx]
  ·rw [b3 z (I.po 3 hz) (I.qo 3 hz) z1 z2,old z hz z1 z2]
theorem In.yedge (hw:Wf d) {y:Nat} (hy:y < 4 * d.n) (v2:d'.m (pp d.n f 2) = d.m y) (v0:d'.m (pp (d.n + 1) g 0) = y) (v3:d'.m (pp d.n f 3) = pp (d.n + 1) g 3)
 (old:∀ z,z < 4 * d.n → z ≠ y → z ≠ d.m y → d'.m z = d.m z):Out d d' f g 0 1 := by
 have hmy:=hw.lt y hy
 have n1:d'.m (pp d.n f 2) ≠ pp (d.n + 1) g 0:=by rw [v2]; exact I.qo 0 hmy
 obtain ⟨a1,a2,a3⟩:=I.e1 n1
 rw [v2,v0] at a1 a2 a3
 have n2:lA d' (pp d.n f 0) (pp (d.n + 1) g 2) (pp d.n f 3) = pp (d.n + 1) g 3:=by
  rw [a3 (pp d.n f 3) (pp_ne (by omega)) pp_nq (Ne.symm (I.po 3 hmy)) (Ne.symm (I.po 3 hy)),v3]
 refine ⟨I.n,I.lens,fun z hz => ?_,by rw [if_neg n1],by rw [if_pos n2]⟩
 rw [I.k2 n2]
 by_cases z3:z = y
 ·rw [z3,a2]
 ·by_cases z4:z = d.m y
  ·rw [z4,a1,hw.inv y hy]
  ·rw [a3 z (I.po 2 hz) (I.qo 0 hz) z4 z3,old z hz z3 z4]
theorem In.self0 (v2:d'.m (pp d.n f 2) = pp d.n f 3) (v0:d'.m (pp (d.n + 1) g 0) = pp (d.n + 1) g 3) (old:∀ z,z < 4 * d.n → d'.m z = d.m z):Out d d' f g 0 1 := by
 have n1:d'.m (pp d.n f 2) ≠ pp (d.n + 1) g 0:=by rw [v2]; exact pp_nq
 obtain ⟨a1,a2,a3⟩:=I.e1 n1
 rw [v2,v0] at a1 a2 a3
 refine ⟨I.n,I.lens,fun z hz => ?_,by rw [if_neg n1],by rw [if_pos a1]⟩
 rw [I.k2 a1,a3 z (I.po 2 hz) (I.qo 0 hz) (I.po 3 hz) (I.qo 3 hz),old z hz]
theorem In.self1 (hw:Wf d) {x:Nat} (hx:x < 4 * d.n) (v2:d'.m (pp d.n f 2) = d.m x) (v0:d'.m (pp (d.n + 1) g 0) = pp (d.n + 1) g 3) (v3:d'.m (pp d.n f 3) = x)
 (old:∀ z,z < 4 * d.n → z ≠ x → z ≠ d.m x → d'.m z = d.m z):Out d d' f g 0 0 := by
 have hmx:=hw.lt x hx
 have n1:d'.m (pp d.n f 2) ≠ pp (d.n + 1) g 0:=by rw [v2]; exact I.qo 0 hmx
 obtain ⟨a1,a2,a3⟩:=I.e1 n1
 rw [v2,v0] at a1 a2 a3
 have k1:=a3 (pp d.n f 3) (pp_ne (by omega)) pp_nq (Ne.symm (I.po 3 hmx)) pp_nq
 rw [v3] at k1
 have n2:lA d' (pp d.n f 0) (pp (d.n + 1) g 2) (pp d.n f 3) ≠ pp (d.n + 1) g 3:=by rw [k1]; exact I.qo 3 hx
 obtain ⟨b1,b2,b3⟩:=I.e2 n2
 rw [k1,a2] at b1 b2 b3
 refine ⟨I.n,I.lens,fun z hz => ?_,by rw [if_neg n1],by rw [if_neg n2]⟩
 by_cases z1:z = x
 ·rw [z1,b1]
 ·by_cases z2:z = d.m x
  ·rw [z2,b2,hw.inv x hx]
  ·rw [b3 z (I.po 3 hz) (I.qo 3 hz) z1 z2,a3 z (I.po 2 hz) (I.qo 0 hz) z2 (I.qo 3 hz),old z hz z1 z2]
theorem In.self2 (hw:Wf d) {x:Nat} (hx:x < 4 * d.n) (v2:d'.m (pp d.n f 2) = pp d.n f 3) (v0:d'.m (pp (d.n + 1) g 0) = x) (w3:d'.m (pp (d.n + 1) g 3) = d.m x)
 (old:∀ z,z < 4 * d.n → z ≠ x → z ≠ d.m x → d'.m z = d.m z):Out d d' f g 0 0 := by
 have hmx:=hw.lt x hx
 have n1:d'.m (pp d.n f 2) ≠ pp (d.n + 1) g 0:=by rw [v2]; exact pp_nq
 obtain ⟨a1,a2,a3⟩:=I.e1 n1
 rw [v2,v0] at a1 a2 a3
 have k2:=a3 (pp (d.n + 1) g 3) (Ne.symm pp_nq) (pp_ne (by omega)) (Ne.symm pp_nq) (Ne.symm (I.qo 3 hx))
 rw [w3] at k2
 have n2:lA d' (pp d.n f 0) (pp (d.n + 1) g 2) (pp d.n f 3) ≠ pp (d.n + 1) g 3:=by rw [a1]; exact I.qo 3 hx
 obtain ⟨b1,b2,b3⟩:=I.e2 n2
 rw [a1,k2] at b1 b2 b3
 refine ⟨I.n,I.lens,fun z hz => ?_,by rw [if_neg n1],by rw [if_neg n2]⟩
 by_cases z1:z = x
 ·rw [z1,b1]
 ·by_cases z2:z = d.m x
  ·rw [z2,b2,hw.inv x hx]
  ·rw [b3 z (I.po 3 hz) (I.qo 3 hz) z1 z2,a3 z (I.po 2 hz) (I.qo 0 hz) (I.po 3 hz) z1,old z hz z1 z2]
end
end
end Go.Proofs.YtghdiolnonejaaaGreatDoor.Pl
end
section
namespace Go.Proofs.YtghdiolnonejaaaGreatDoor
open Go.RowKit
theorem hide {p:Prop} (h:p):Hid p := h
theorem ret_bool {a b:Bool} (h:a = b):Ending.returned (.bool a) = Ending.returned (.bool b) := by rw [h]
theorem ret_int {k:IntKind} {a b:Int} (h:a = b):Ending.returned (.int k a) = Ending.returned (.int k b) := by rw [h]
theorem lt_of_cell {w:World} {p:Addr} {v:Value} (h:w.cell? p = some v):p.block < w.heap.size := by
 rcases Nat.lt_or_ge p.block w.heap.size with h1 | h1
 ·exact h1
 ·unfold World.cell? at h
  rw [Array.getElem?_eq_none h1] at h
  cases h
theorem cell_below {w w':World} {p:Addr} {v:Value} (h:w.cell? p = some v) (hb:Below w.heap.size w w'):w'.cell? p = some v :=
 (hb.cell (lt_of_cell h)).trans h
def RowAt (w:World) (A:Option Addr) (n:Nat) (xs:List Value):Prop :=
 xs.length = n ∧ (0 < n → ∃ b o,A = some ⟨b,o,none⟩ ∧ ∀ (j:Nat) u,xs[j]? = some u → w.cell? ⟨b,o + j,none⟩ = some u)
theorem RowAt.nil (w:World):RowAt w none 0 [] := ⟨rfl,fun h => absurd h (by omega)⟩
theorem RowAt.keep {w w':World} {A:Option Addr} {n:Nat} {xs:List Value} (h:RowAt w A n xs) (hb:Below w.heap.size w w'):RowAt w' A n xs :=
 ⟨h.1,fun hn => let ⟨b,o,e,hc⟩:=h.2 hn; ⟨b,o,e,fun j u hu => cell_below (hc j u hu) hb⟩⟩
theorem RowAt.at_ {w:World} {A:Option Addr} {n k:Nat} {xs:List Value} (h:RowAt w A n xs) (hk:k < n) :
 ∃ b o,A = some ⟨b,o,none⟩ ∧ w.cell? ⟨b,o + k,none⟩ = some (xs[k]'(by have := h.1; omega)) := by
 obtain ⟨b,o,e,hc⟩:=h.2 (by omega)
 have:=h.1
 exact ⟨b,o,e,hc k _ (List.getElem?_eq_getElem (by omega))⟩
def RowT (w:World) (t:TypeId) (A:Option Addr) (n:Nat) (xs:List Value):Prop :=
 xs.length = n ∧ (0 < n → ∃ b o cs fr,A = some ⟨b,o,none⟩ ∧ w.heap[b]? = some (.cells cs t fr) ∧ ∀ (j:Nat) u,xs[j]? = some u → cs[o + j]? = some u)
theorem RowT.row {w:World} {t:TypeId} {A:Option Addr} {n:Nat} {xs:List Value} (h:RowT w t A n xs):RowAt w A n xs :=
 ⟨h.1,fun hn => let ⟨b,o,cs,fr,e,hb,hc⟩:=h.2 hn; ⟨b,o,e,fun j u hu => by rw [cell_of_row w b _ cs t fr hb]; exact hc j u hu⟩⟩
theorem RowT.keep {w w':World} {t:TypeId} {A:Option Addr} {n:Nat} {xs:List Value} (h:RowT w t A n xs) (hb:Below w.heap.size w w'):RowT w' t A n xs :=
 ⟨h.1, fun hn => let ⟨b, o, cs, fr, e, hg, hc⟩ := h.2 hn; ⟨b, o, cs, fr, e, (hb.block b (by
   rcases Nat.lt_or_ge b w.heap.size with h1 | h1
   ·exact h1
   ·rw [Array.getElem?_eq_none h1] at hg; cases hg)).trans hg,hc⟩⟩
theorem RowT.grown {w w':World} {t t':TypeId} {A:Option Addr} {n:Nat} {xs:List Value} {row:Option Nat} (h:RowT w t A n xs) (hg:w.grownBy w' row) (hr:∀ g,row = some g → ∃ cs fr,w.heap[g]? = some (.cells cs t' fr)) (hne:t ≠ t'):RowT w' t A n xs :=
 ⟨h.1, fun hn => let ⟨b, o, cs, fr, e, hb, hc⟩ := h.2 hn; ⟨b, o, cs, fr, e, (hg.block b (by
   rcases Nat.lt_or_ge b w.heap.size with h1 | h1
   ·exact h1
   ·rw [Array.getElem?_eq_none h1] at hb; cases hb) (fun he => by
    obtain ⟨cs',fr',h3⟩:=hr b he.symm
    rw [hb] at h3
    injection h3 with h3
    injection h3 with _ h4
    exact hne h4)).trans hb,hc⟩⟩
theorem ownsRow_block {w:World} {base:Nat} {e:TypeId} {size:Nat} {v:Value} {n:Nat} {xs:List Value} (h:w.ownsRow base e size v n xs):∀ g,v.ownBlock = some g → ∃ cs fr,w.heap[g]? = some (.cells cs e fr) := by
 intro g hg
 rcases h.2 with ⟨rfl,_⟩ | ⟨g',cap,cur,rfl,_,h3,_⟩
 ·simp [Value.ownBlock] at hg
 ·simp [Value.ownBlock] at hg
  subst hg
  exact ⟨_,_,h3⟩
def IntsAt (w:World) (A:Option Addr) (n:Nat) (zs:List Int):Prop := RowAt w A n (zs.map (.int .i64))
theorem IntsAt.keep {w w':World} {A:Option Addr} {n:Nat} {zs:List Int} (h:IntsAt w A n zs) (hb:Below w.heap.size w w'):IntsAt w' A n zs := RowAt.keep h hb
theorem IntsAt.len {w:World} {A:Option Addr} {n:Nat} {zs:List Int} (h:IntsAt w A n zs):zs.length = n := by have := h.1; simpa using this
theorem IntsAt.at_ {w:World} {A:Option Addr} {n k:Nat} {zs:List Int} (h:IntsAt w A n zs) (hk:k < n) :
 ∃ b o,A = some ⟨b,o,none⟩ ∧ w.cell? ⟨b,o + k,none⟩ = some (.int .i64 (zs.getD k 0)) := by
 obtain ⟨b,o,e,hc⟩:=RowAt.at_ h hk
 refine ⟨b,o,e,hc.trans ?_⟩
 have:=h.len
 rw [List.getElem_map,List.getD_eq_getElem?_getD,List.getElem?_eq_getElem (by omega)]; rfl
def nats (l:List Nat):List Int := l.map (fun m:Nat => (m:Int))
structure DgAt (w:World) (A:Option Addr) (B:Option Addr) (d:Pl.Dg):Prop where
 s:IntsAt w A d.n d.sg
 m:IntsAt w B (4 * d.n) (nats d.mt)
theorem DgAt.keep {w w':World} {A B:Option Addr} {d:Pl.Dg} (h:DgAt w A B d) (hb:Below w.heap.size w w'):DgAt w' A B d := ⟨h.s.keep hb,h.m.keep hb⟩
theorem DgAt.sign {w:World} {A B:Option Addr} {d:Pl.Dg} (h:DgAt w A B d) {c:Nat} (hc:c < d.n) :
 ∃ b o,A = some ⟨b,o,none⟩ ∧ w.cell? ⟨b,o + c,none⟩ = some (.int .i64 (d.s c)) := h.s.at_ hc
theorem sign_at {w:World} {A:Option Addr} {d:Pl.Dg} (h:IntsAt w A d.n d.sg) {c:Nat} (hc:c < d.n) :
 ∃ b o,A = some ⟨b,o,none⟩ ∧ w.cell? ⟨b,o + c,none⟩ = some (.int .i64 (d.s c)) := h.at_ hc
theorem mate_at {w:World} {B:Option Addr} {d:Pl.Dg} (h:IntsAt w B (4 * d.n) (nats d.mt)) {k:Nat} (hk:k < 4 * d.n) :
 ∃ b o,B = some ⟨b,o,none⟩ ∧ w.cell? ⟨b,o + k,none⟩ = some (.int .i64 (d.m k:Nat)) := by
 obtain ⟨b,o,e,hc⟩:=h.at_ hk
 refine ⟨b,o,e,hc.trans ?_⟩
 have hl:=h.len
 unfold nats at hl
 rw [List.length_map] at hl
 unfold nats Pl.Dg.m
 rw [List.getD_eq_getElem?_getD,List.getD_eq_getElem?_getD,List.getElem?_map,List.getElem?_eq_getElem (by omega)]; rfl
end Go.Proofs.YtghdiolnonejaaaGreatDoor
end
section
namespace Go.Proofs.YtghdiolnonejaaaGreatDoor
open Go.RowKit
theorem turn_back (h:Nat) (w:World) (hh:h ≤ 1000000) :
 Calls Tryz.prog 41 #[.int .i64 (h:Int),.int .i64 (-1)] w fun e w' => e = .returned (.int .i64 (Pl.tn h 3:Nat)) ∧ w = w' := by
 go_enter Tryz.func41,Tryz.ntmps41
 go_wp2
 go_ret
 exact ⟨ret_int (by unfold Pl.tn; omega),rfl⟩
theorem turn_opp (h:Nat) (w:World) (hh:h ≤ 1000000) :
 Calls Tryz.prog 41 #[.int .i64 (h:Int),.int .i64 2] w fun e w' => e = .returned (.int .i64 (Pl.tn h 2:Nat)) ∧ w = w' := by
 go_enter Tryz.func41,Tryz.ntmps41
 go_wp2
 go_ret
 exact ⟨ret_int (by unfold Pl.tn; omega),rfl⟩
theorem opposite_any (h:Nat) (w:World) (hh:h ≤ 1000000) :
 Calls Tryz.prog 60 #[.int .i64 (h:Int)] w fun e w' => e = .returned (.int .i64 (Pl.tn h 2:Nat)) ∧ w = w' := by
 go_enter Tryz.func60,Tryz.ntmps60
 go_wp2_with fail
 refine (turn_opp h _ hh).mono ?_
 rintro e w1 ⟨rfl,rfl⟩
 go_wp2
 go_ret
 exact ⟨rfl,rfl⟩
theorem out_zero {d:Pl.Dg} {h:Nat} (e:h % 4 = 0):Pl.out d h = false := by unfold Pl.out; simp [e]
theorem out_one {d:Pl.Dg} {h:Nat} (e:h % 4 = 1):Pl.out d h = (d.s (h / 4) == 1) := by unfold Pl.out; simp [e]
theorem out_two {d:Pl.Dg} {h:Nat} (e:h % 4 = 2):Pl.out d h = true := by unfold Pl.out; simp [e]
theorem out_three {d:Pl.Dg} {h:Nat} (e:h % 4 = 3):Pl.out d h = (d.s (h / 4) == -1) := by unfold Pl.out; simp [e]
theorem out_any (d:Pl.Dg) (A B:Option Addr) (cp q cq:Nat) (l:Value) (h:Nat) (w:World) (hh:h < 4 * d.n) (hn:d.n ≤ 1000) (hs:IntsAt w A d.n d.sg) :
 Calls Tryz.prog 20 #[.agg #[.slice A d.n cp,.slice B q cq,l],.int .i64 (h:Int)] w fun e w' => e = .returned (.bool (Pl.out d h)) ∧ Below w.heap.size w w' := by
 obtain ⟨b,o,rfl,hc⟩:=sign_at hs (c := h / 4) (by omega)
 have hb:Below w.heap.size w (w.alloc (.cells #[.slice (some ⟨b,o,none⟩) d.n cp,.slice B q cq,l] 24)):=(Below.refl _ _).alloc (Nat.le_refl _) _
 have hc2:=cell_below hc hb
 go_enter Tryz.func20,Tryz.ntmps20
 go_wp2
 all_goals
  go_ret
  refine ⟨ret_bool ?_,hb⟩
  simp only [beq_iff_eq,beq_eq_false_iff_ne,ne_eq] at *
 ·rw [out_one (by omega)]
 ·rw [out_two (by omega)]
 ·rw [out_three (by omega)]
 ·rw [out_zero (by omega)]
theorem out_n (d:Pl.Dg) (A B:Option Addr) (n cp q cq:Nat) (l:Value) (h:Nat) (w:World) (e:n = d.n) (hh:h < 4 * n) (hn:n ≤ 1000) (hs:IntsAt w A n d.sg) :
 Calls Tryz.prog 20 #[.agg #[.slice A n cp,.slice B q cq,l],.int .i64 (h:Int)] w fun e w' => e = .returned (.bool (Pl.out d h)) ∧ Below w.heap.size w w' := by
 subst e; exact out_any d A B cp q cq l h w hh hn hs
theorem out2_any (d:Pl.Dg) (A B:Option Addr) (cp q cq:Nat) (l:Value) (h:Nat) (w:World) (hh:h < 4 * d.n) (hn:d.n ≤ 1000) (hs:IntsAt w A d.n d.sg) :
 Calls Tryz.prog 105 #[.agg #[.slice A d.n cp,.slice B q cq,l],.int .i64 (h:Int)] w fun e w' => e = .returned (.bool (Pl.out d h)) ∧ Below w.heap.size w w' := by
 obtain ⟨b,o,rfl,hc⟩:=sign_at hs (c := h / 4) (by omega)
 have hb:Below w.heap.size w (w.alloc (.cells #[.slice (some ⟨b,o,none⟩) d.n cp,.slice B q cq,l] 24)):=(Below.refl _ _).alloc (Nat.le_refl _) _
 have hc2:=cell_below hc hb
 go_enter Tryz.func105,Tryz.ntmps105
 go_wp2
 all_goals
  go_ret
  refine ⟨ret_bool ?_,hb⟩
 ·rw [out_two (by omega)]
 ·rename_i e1
  rw [out_one (by omega)]; try simp [e1]
 ·rename_i e1
  rw [out_one (by omega)]; try simp [e1]
 ·rw [out_three (by omega)]
 ·rw [out_zero (by omega)]; simp; omega
theorem out2_n (d:Pl.Dg) (A B:Option Addr) (n cp q cq:Nat) (l:Value) (h:Nat) (w:World) (e:n = d.n) (hh:h < 4 * n) (hn:n ≤ 1000) (hs:IntsAt w A n d.sg) :
 Calls Tryz.prog 105 #[.agg #[.slice A n cp,.slice B q cq,l],.int .i64 (h:Int)] w fun e w' => e = .returned (.bool (Pl.out d h)) ∧ Below w.heap.size w w' := by
 subst e; exact out2_any d A B cp q cq l h w hh hn hs
theorem next_any (d:Pl.Dg) (B:Option Addr) (cq:Nat) (h:Nat) (w:World) (hh:h < 4 * d.n) (hn:d.n ≤ 1000) (hm:IntsAt w B (4 * d.n) (nats d.mt)) (hlt:d.m h < 4 * d.n) :
 Calls Tryz.prog 91 #[.slice B (4 * d.n) cq,.int .i64 (h:Int)] w fun e w' => e = .returned (.int .i64 (Pl.nx d h:Nat)) ∧ w = w' := by
 obtain ⟨b,o,rfl,hc⟩:=mate_at hm hh
 go_enter Tryz.func91,Tryz.ntmps91
 go_wp2_with fail
 refine (turn_back _ _ (by omega)).mono ?_
 rintro e w1 ⟨rfl,rfl⟩
 go_wp2
 go_ret
 exact ⟨rfl,rfl⟩
end Go.Proofs.YtghdiolnonejaaaGreatDoor
end
section
namespace Go.Proofs.YtghdiolnonejaaaGreatDoor
open Go Go.RowKit
def OwnT (w:World) (base:Nat) (e:TypeId) (v:Value) (n:Nat) (xs:List Value):Prop :=
 xs.length = n ∧ ∃ g off cap cur,v = .slice (some ⟨g,off,none⟩) n cap ∧ base ≤ g ∧ w.heap[g]? = some (.cells cur e (0,0)) ∧ n ≤ cap ∧ cap ≤ maxLen ∧ off + cap ≤ cur.size ∧ (cur.toList.drop off).take n = xs
theorem lt_of_heap {w:World} {g:Nat} {o:Obj} (h:w.heap[g]? = some o):g < w.heap.size := by
 rcases Nat.lt_or_ge g w.heap.size with h1 | h1
 ·exact h1
 ·rw [Array.getElem?_eq_none h1] at h; cases h
theorem OwnT.keep {w w':World} {base:Nat} {e:TypeId} {v:Value} {n:Nat} {xs:List Value} (h:OwnT w base e v n xs) (hb:∀ g,base ≤ g → g < w.heap.size → v.ownBlock = some g → w'.heap[g]? = w.heap[g]?):OwnT w' base e v n xs := by
 obtain ⟨h0,g,off,cap,cur,rfl,h1,h2,h3⟩:=h
 exact ⟨h0,g,off,cap,cur,rfl,h1,(hb g h1 (lt_of_heap h2) rfl).trans h2,h3⟩
theorem OwnT.below {w w':World} {base:Nat} {e:TypeId} {v:Value} {n:Nat} {xs:List Value} (h:OwnT w base e v n xs) (hb:Below w.heap.size w w'):OwnT w' base e v n xs :=
 h.keep fun g _ h2 _ => hb.block g h2
theorem OwnT.cells {w:World} {base:Nat} {e:TypeId} {v:Value} {n:Nat} {xs:List Value} (h:OwnT w base e v n xs):∃ g off cap,v = .slice (some ⟨g,off,none⟩) n cap ∧ base ≤ g ∧ g < w.heap.size ∧ n ≤ cap ∧ cap ≤ maxLen ∧ ∀ (j:Nat) u,xs[j]? = some u → w.cell? ⟨g,off + j,none⟩ = some u := by
 obtain ⟨h0,g,off,cap,cur,rfl,h1,h2,h3,h4,h5,h6⟩:=h
 refine ⟨g,off,cap,rfl,h1,lt_of_heap h2,h3,h4,fun j u hu => ?_⟩
 rw [cell_of_row w g _ cur e (0,0) h2]
 rw [← h6,List.getElem?_take] at hu
 split at hu
 ·rw [List.getElem?_drop] at hu
  rw [← Array.getElem?_toList]; exact hu
 ·cases hu
theorem OwnT.tail0 {w:World} {base:Nat} {e:TypeId} {g off n cap:Nat} {x:Value} {xs:List Value} (h:OwnT w base e (.slice (some ⟨g,off,none⟩) (n + 1) cap) (n + 1) (x :: xs)) (hc:cap = 1):OwnT w base e (.slice (some ⟨g,off,none⟩) n (cap - 1)) n xs := by
 obtain ⟨h0,g',off',cap',cur,e1,h1,h2,h3,h4,h5,h6⟩:=h
 injection e1 with e1 _ e2
 injection e1 with e1
 injection e1 with e3 e4
 subst e2; subst e3; subst e4
 have hl:xs.length = n:=by simpa using h0
 obtain rfl:n = 0 := by omega
 exact ⟨hl,g,off,cap - 1,cur,rfl,h1,h2,by omega,by omega,by omega,by rw [List.take_zero]; exact (List.eq_nil_of_length_eq_zero hl).symm⟩
theorem OwnT.tail {w:World} {base:Nat} {e:TypeId} {g off n cap:Nat} {x:Value} {xs:List Value} (h:OwnT w base e (.slice (some ⟨g,off,none⟩) (n + 1) cap) (n + 1) (x :: xs)):OwnT w base e (.slice (some ⟨g,off + 1,none⟩) n (cap - 1)) n xs := by
 obtain ⟨h0,g',off',cap',cur,e1,h1,h2,h3,h4,h5,h6⟩:=h
 injection e1 with e1 _ e2
 injection e1 with e1
 injection e1 with e3 e4
 subst e2; subst e3; subst e4
 have hl:xs.length = n:=by simpa using h0
 refine ⟨hl,g,off + 1,cap - 1,cur,rfl,h1,h2,by omega,by omega,by omega,?_⟩
 have e5:cur.toList.drop off = (cur.toList.drop off).head?.getD x :: cur.toList.drop (off + 1):=by
  have:cur.toList.drop off ≠ []:=by
   intro e; rw [e] at h6; simp at h6
  rw [List.drop_eq_getElem_cons (by simp; omega)]
  simp
 rw [e5,List.take_succ_cons] at h6
 injection h6
section
variable {P:Program} (w:World)
theorem run_append_tail (base:Nat) (t ty e:TypeId) (i:TypeInfo) (z:Value) (bytes:Nat) (ht:P.underlying t = some (.slice e)) (hi:P.info? e = some i) (hz:i.zero = some z)
 (hsize:i.size = 1) (hby:i.bytes = bytes) (hzs:z.cells.size = 1)
 (v:Value) (n:Nat) (xs:List Value) (hown:OwnT w base e v n xs)
 (a:Addr) (c:Nat) (x:Value) (hnews:w.cell? (a.add 0) = some x) (h1:x.oneCell' = true)
 (h63:n + 1 ≤ maxLen) (hbytes:(n + 1) * bytes ≤ 140737488355328) (hbase:base ≤ w.heap.size) :
 ∃ v' w',(Builtin.append_ #[t,t] ty #[v,.slice (some a) 1 c]).run P w = .ok v' w' ∧ OwnT w' base e v' (n + 1) (xs ++ [x]) ∧ w.grownBy w' v.ownBlock := by
 subst hby
 have hsmall:n + 1 ≤ 9223372036854775807:=by simp only [maxLen] at h63; omega
 have hlen:(xs ++ [x]).length = n + 1:=by rw [List.length_append,hown.1]; rfl
 have hn1:∀ (j:Nat) u,[x][j]? = some u → w.cell? (a.add j) = some u:=by
  intro j u hu
  match j,hu with
  | 0,hu => simp at hu; subst hu; exact hnews
 obtain ⟨h0,g,off,cap,cur,rfl,hbg,hg,hnc,hcm,hcs,htake⟩:=hown
 by_cases hroom:n + 1 ≤ cap
 ·have hf:=run_firstCells_some (P := P) w i.size 1 a 1 c [x] (by rw [hsize]; rfl) hn1
  have hst:=run_storeCells_at P g (off + n) e [x] 0 cur w hg (by simp; omega) (by simpa using h1)
  simp only [Nat.add_zero] at hst
  rw [hsize] at hf
  have hr:(Builtin.append_ #[t,t] ty #[.slice (some ⟨g,off,none⟩) n cap,.slice (some a) 1 c]).run P w = .ok (.slice (some ⟨g,off,none⟩) (n + 1) cap) (w.setRow g (cur.toList.take (off + n) ++ [x] ++ cur.toList.drop (off + n + [x].length)).toArray):=by
   simp only [List.length_singleton] at hst ⊢
   simp [Builtin.append_,run_underlying ht,sizeOf,typeInfo,hi,hsize,Builtin.lenOf,hroom,hf,Addr.add_lit,hst]
  refine ⟨_,_,hr,⟨hlen,g,off,cap,_,rfl,hbg,setRow_heap w g cur _ e _ hg,hroom,hcm,?_,?_⟩,⟨rfl,rfl,rfl,by simp,fun k _ hk => setRow_other w g k _ (fun e => hk (by simp [Value.ownBlock,e]))⟩⟩
  ·simp only [List.size_toArray,List.length_append,List.length_take,List.length_drop,Array.length_toList,List.length_cons,List.length_nil]
   omega
  ·have e1 : cur.toList.take (off + n) = cur.toList.take off ++ xs := by
    rw [← htake,List.take_add]
   rw [e1]
   simp only [List.append_assoc]
   have e2:(cur.toList.take off).length = off:=by rw [List.length_take,Array.length_toList]; omega
   rw [List.drop_append,e2,Nat.sub_self,List.drop_zero,List.drop_eq_nil_of_le (by omega),List.nil_append,← List.append_assoc,← hlen,List.take_left]
 ·have holds : ∀ (j : Nat) u, xs[j]? = some u → w.cell? ((⟨g, off, none⟩ : Addr).add j) = some u := by
   intro j u hu
   have:(⟨g,off,none⟩:Addr).add j = ⟨g,off + j,none⟩:=by unfold Addr.add; split <;> simp_all
   rw [this,cell_of_row w g _ cur e (0,0) hg]
   rw [← htake,List.getElem?_take] at hu
   split at hu
   ·rw [List.getElem?_drop] at hu
    rw [← Array.getElem?_toList]; exact hu
   ·cases hu
  have hr:=run_append_grow (P := P) w t ty e i z ht hi hz ⟨g,off,none⟩ n cap xs (by rw [hsize,h0]; omega) holds a 1 c [x] (by rw [hsize]; rfl) hn1 (by omega) (by omega) (growslice_fits (by omega) hbytes)
  have hge:=grownCap_ge w (n + 1) cap e
  have hcm':grownCap w (n + 1) cap e ≤ maxLen:=grownCap_le_maxLen w (n + 1) cap e h63
  refine ⟨_,_,hr,⟨hlen,w.heap.size,0,_,_,rfl,hbase,heap_alloc_new w.drew _,hge,hcm',?_,?_⟩,⟨rfl,rfl,rfl,by simp,fun k hk _ => Below.heap_alloc w.drew _ k hk⟩⟩
  ·simp only [Array.size_append,List.size_toArray,size_zeroCells,hzs,h0,List.length_cons,List.length_nil]
   omega
  ·simp only [Array.toList_append,List.drop_zero]
   rw [← hlen]
   exact List.take_left
theorem wp_append_tail {o:Oper} {a:Act} {K:Act → World → Prop} {Q:Exit → Act → World → Prop} (s x:Operand) (t:TypeId)
 (ho:o.op = .call { callee := .builtin .append,args := #[s,x],argTypes := #[t,t] })
 (base:Nat) (e:TypeId) (i:TypeInfo) (z:Value) (bytes:Nat) (ht:P.underlying t = some (.slice e)) (hi:P.info? e = some i) (hz:i.zero = some z)
 (hsize:i.size = 1) (hby:i.bytes = bytes) (hzs:z.cells.size = 1)
 (v:Value) (n:Nat) (xs:List Value) (hs:a.eval s = v) (hown:OwnT w base e v n xs)
 (ad:Addr) (c:Nat) (u:Value) (hx:a.eval x = .slice (some ad) 1 c) (hnews:w.cell? (ad.add 0) = some u) (h1:u.oneCell' = true)
 (h63:n + 1 ≤ maxLen) (hbytes:(n + 1) * bytes ≤ 140737488355328) (hbase:base ≤ w.heap.size)
 (h:∀ v' w',OwnT w' base e v' (n + 1) (xs ++ [u]) → w.grownBy w' v.ownBlock → K (a.put o.dst v') w'):o.wp P a w K Q := by
 obtain ⟨v',w',hr,h2,h3⟩:=run_append_tail (P := P) w base t o.type e i z bytes ht hi hz hsize hby hzs v n xs hown ad c u hnews h1 h63 hbytes hbase
 unfold Oper.wp execOp
 simp only [ho,resolve,invoke,builtin,Sem.run_bind,Sem.run_pure,Result.andThen_ok,List.map_toArray,List.map_cons,List.map_nil,hs,hx,hr]
 exact h v' w' h2 h3
theorem wpList_append_tail {ops:Array Oper} {rest:List Oper} {o:Oper} {a:Act} {Q:Exit → Act → World → Prop} (hgd:o.guard = none) (s x:Operand) (t:TypeId)
 (ho:o.op = .call { callee := .builtin .append,args := #[s,x],argTypes := #[t,t] })
 (base:Nat) (e:TypeId) (i:TypeInfo) (z:Value) (bytes:Nat) (ht:P.underlying t = some (.slice e)) (hi:P.info? e = some i) (hz:i.zero = some z)
 (hsize:i.size = 1) (hby:i.bytes = bytes) (hzs:z.cells.size = 1)
 (v:Value) (n:Nat) (xs:List Value) (hs:a.eval s = v) (hown:OwnT w base e v n xs)
 (ad:Addr) (c:Nat) (u:Value) (hx:a.eval x = .slice (some ad) 1 c) (hnews:w.cell? (ad.add 0) = some u) (h1:u.oneCell' = true)
 (h63:n + 1 ≤ maxLen) (hbytes:(n + 1) * bytes ≤ 140737488355328) (hbase:base ≤ w.heap.size)
 (h:∀ v' w',OwnT w' base e v' (n + 1) (xs ++ [u]) → w.grownBy w' v.ownBlock → wpList P ops Q rest (a.put o.dst v') w'):wpList P ops Q (o :: rest) a w :=
 wpList_plain hgd fun _ hK => wp_append_tail w s x t ho base e i z bytes ht hi hz hsize hby hzs v n xs hs hown ad c u hx hnews h1 h63 hbytes hbase fun v' w' h2 h3 => hK _ _ (h v' w' h2 h3)
end
end Go.Proofs.YtghdiolnonejaaaGreatDoor
end
section
namespace Go.Proofs.YtghdiolnonejaaaGreatDoor
open Go Go.RowKit
def Row (w:World) (g:Nat) (t:TypeId) (vs:List Value):Prop := w.heap[g]? = some (.cells vs.toArray t (0,0))
theorem Row.lt {w:World} {g:Nat} {t:TypeId} {vs:List Value} (h:Row w g t vs):g < w.heap.size := lt_of_heap h
theorem Row.cell {w:World} {g:Nat} {t:TypeId} {vs:List Value} (h:Row w g t vs) {i:Nat} (hi:i < vs.length):w.cell? ⟨g,i,none⟩ = some (vs[i]'hi) := by
 rw [cell_of_row w g i _ t (0,0) h]; simp [hi]
theorem Row.free {w:World} {g:Nat} {t:TypeId} {vs:List Value} (h:Row w g t vs) (i:Nat):w.frozen? ⟨g,i,none⟩ = false := frozen_of_row w g i _ t h
theorem Row.set {w:World} {g:Nat} {t:TypeId} {vs:List Value} (h:Row w g t vs) (i:Nat) (v:Value):Row (w.setCell ⟨g,i,none⟩ v) g t (vs.set i v) := by
 unfold Row
 rw [Go.heap_setCell_same w g i _ t v h]
 simp
theorem Row.other {w:World} {g:Nat} {t:TypeId} {vs:List Value} (h:Row w g t vs) {a:Addr} (ha:g ≠ a.block) (v:Value):Row (w.setCell a v) g t vs := (Below.heap_setCell w a v g ha).trans h
theorem Row.alloc {w:World} {g:Nat} {t:TypeId} {vs:List Value} (h:Row w g t vs) (o:Obj):Row (w.alloc o) g t vs := (Below.heap_alloc w o g h.lt).trans h
theorem Row.drew {w:World} {g:Nat} {t:TypeId} {vs:List Value} (h:Row w g t vs):Row w.drew g t vs := h
theorem Row.below {w w':World} {g:Nat} {t:TypeId} {vs:List Value} (h:Row w g t vs) (hb:Below w.heap.size w w'):Row w' g t vs := (hb.block g h.lt).trans h
theorem Row.grown {w w':World} {g:Nat} {t:TypeId} {vs:List Value} {r:Option Nat} (h:Row w g t vs) (hg:w.grownBy w' r) (hr:some g ≠ r):Row w' g t vs := (hg.block g h.lt hr).trans h
theorem Row.new (w:World) (t:TypeId) (vs:List Value):Row (w.alloc (.cells vs.toArray t)) w.heap.size t vs := heap_alloc_new w _
def IRow (w:World) (g:Nat) (zs:List Int):Prop := Row w g 3 (zs.map (.int .i64))
theorem IRow.cell {w:World} {g:Nat} {zs:List Int} (h:IRow w g zs) {i:Nat} (hi:i < zs.length):w.cell? ⟨g,i,none⟩ = some (.int .i64 (Pl.pv zs i)) := by
 refine (Row.cell h (i := i) (by simpa using hi)).trans ?_
 unfold Pl.pv
 rw [List.getElem_map,List.getD_eq_getElem?_getD,List.getElem?_eq_getElem hi]; rfl
theorem IRow.set {w:World} {g:Nat} {zs:List Int} (h:IRow w g zs) (i:Nat) (v:Int):IRow (w.setCell ⟨g,i,none⟩ (.int .i64 v)) g (zs.set i v) := by
 unfold IRow
 rw [List.map_set]
 exact Row.set h i _
theorem IRow.ints {w:World} {g:Nat} {zs:List Int} (h:IRow w g zs):IntsAt w (some ⟨g,0,none⟩) zs.length zs := by
 refine ⟨by simp,fun _ => ⟨g,0,rfl,fun j u hu => ?_⟩⟩
 rw [Nat.zero_add]
 refine (cell_of_row w g j _ _ (0,0) h).trans ?_
 simpa using hu
def BRow (w:World) (g:Nat) (bs:List Bool):Prop := Row w g 4 (bs.map .bool)
theorem BRow.cell {w:World} {g:Nat} {bs:List Bool} (h:BRow w g bs) {i:Nat} (hi:i < bs.length):w.cell? ⟨g,i,none⟩ = some (.bool (bs.getD i false)) := by
 refine (Row.cell h (i := i) (by simpa using hi)).trans ?_
 rw [List.getElem_map,List.getD_eq_getElem?_getD,List.getElem?_eq_getElem hi]; rfl
theorem BRow.set {w:World} {g:Nat} {bs:List Bool} (h:BRow w g bs) (i:Nat) (v:Bool):BRow (w.setCell ⟨g,i,none⟩ (.bool v)) g (bs.set i v) := by
 unfold BRow
 rw [List.map_set]
 exact Row.set h i _
theorem made_rep (v:Value) (n:Nat):madeCells #[v] n = (List.replicate n v).toArray := by
 apply Array.ext'
 simp only [madeCells,Array.toList_map,Array.toList_range]
 refine List.ext_getElem (by simp) (fun i h1 h2 => ?_)
 have:i % 1 = 0:=Nat.mod_one i
 simp [this]
theorem IRow.made (w:World) (n:Nat):IRow (w.alloc (.cells (Array.replicate n (Value.int .i64 0)) 3)) w.heap.size (List.replicate n 0) := by
 unfold IRow Row
 rw [List.map_replicate]
 exact heap_alloc_new w _
theorem BRow.made (w:World) (n:Nat):BRow (w.alloc (.cells (Array.replicate n (Value.bool false)) 4)) w.heap.size (List.replicate n false) := by
 unfold BRow Row
 rw [List.map_replicate]
 exact heap_alloc_new w _
theorem intInfo:(Tryz.prog.info? 3).map (fun i => (i.zero,i.size,i.bytes)) = some (some (.int .i64 0),1,8) := by kernel_rfl
theorem boolInfo:(Tryz.prog.info? 4).map (fun i => (i.zero,i.size,i.bytes)) = some (some (.bool false),1,1) := by kernel_rfl
theorem run_ints (n:Nat) (hn:n ≤ 100000) (w:World):(Instr.makeSlice 22 (.int .i64 (n:Int)) (.int .i64 (n:Int))).run Tryz.prog w = .ok (.slice (some ⟨w.heap.size,0,none⟩) n n) (w.alloc (.cells (Array.replicate n (Value.int .i64 0)) 3)) := by
 obtain ⟨i0,hi,hz0,hz1,hz2⟩:=info_parts intInfo
 have:=run_make (P := Tryz.prog) w 22 3 i0 (.int .i64 0) Tryz.underlying22 hi hz0 .i64 .i64 n n (by omega) (Int.le_refl _) (by rw [hz2]; omega) (by omega)
 rw [hz1,Nat.mul_one,Int.toNat_natCast,show madeCells (Value.cells (.int .i64 0)) n = (List.replicate n (.int .i64 0)).toArray from made_rep _ _] at this
 exact this
theorem run_bools (n:Nat) (hn:n ≤ 100000) (w:World):(Instr.makeSlice 72 (.int .i64 (n:Int)) (.int .i64 (n:Int))).run Tryz.prog w = .ok (.slice (some ⟨w.heap.size,0,none⟩) n n) (w.alloc (.cells (Array.replicate n (Value.bool false)) 4)) := by
 obtain ⟨i0,hi,hz0,hz1,hz2⟩:=info_parts boolInfo
 have:=run_make (P := Tryz.prog) w 72 4 i0 (.bool false) Tryz.underlying72 hi hz0 .i64 .i64 n n (by omega) (Int.le_refl _) (by rw [hz2]; omega) (by omega)
 rw [hz1,Nat.mul_one,Int.toNat_natCast,show madeCells (Value.cells (.bool false)) n = (List.replicate n (.bool false)).toArray from made_rep _ _] at this
 exact this
end Go.Proofs.YtghdiolnonejaaaGreatDoor
end
section
namespace Go.Proofs.YtghdiolnonejaaaGreatDoor
open Go Go.RowKit
section
variable {P:Program} (w:World)
theorem run_append_ints (base:Nat) (t ty e:TypeId) (i:TypeInfo) (z:Value) (bytes:Nat) (ht:P.underlying t = some (.slice e)) (hi:P.info? e = some i) (hz:i.zero = some z)
 (hsize:i.size = 1) (hby:i.bytes = bytes) (hzs:z.cells.size = 1)
 (v:Value) (n:Nat) (xs:List Value) (hown:w.ownsRow base e 1 v n xs)
 (A:Option Addr) (m c:Nat) (zs:List Int) (hin:IntsAt w A m zs)
 (h63:n + m ≤ maxLen) (hbytes:(n + m) * bytes ≤ 140737488355328) (hbase:base ≤ w.heap.size) :
 ∃ v' w',(Builtin.append_ #[t,t] ty #[v,.slice A m c]).run P w = .ok v' w' ∧ w'.ownsRow base e 1 v' (n + m) (xs ++ zs.map (.int .i64)) ∧ w.grownBy w' v.ownBlock := by
 have hl:=hin.len
 rcases Nat.eq_zero_or_pos m with h0 | h0
 ·subst h0
  obtain rfl:zs = [] := List.eq_nil_of_length_eq_zero hl
  have hr:(Builtin.append_ #[t,t] ty #[v,.slice A 0 c]).run P w = .ok v w:=by
   rcases hown.2 with ⟨rfl,rfl⟩ | ⟨g,cap,cur,rfl,_,_,hnc,_⟩
   ·cases A <;> simp [Builtin.append_,run_underlying ht,sizeOf,typeInfo,hi,Builtin.lenOf,Builtin.firstCells,loadCells,loadCellsFrom]
   ·cases A <;> simp [Builtin.append_,run_underlying ht,sizeOf,typeInfo,hi,Builtin.lenOf,Builtin.firstCells,hnc,storeCells,loadCells,loadCellsFrom]
  refine ⟨v,w,hr,by simpa using hown,⟨rfl,rfl,rfl,Nat.le_refl _,fun _ _ _ => rfl⟩⟩
 ·obtain ⟨b,o,rfl,hc⟩:=hin.2 h0
  obtain ⟨v',w',hr,h2,h3,_⟩:=run_append_own (P := P) w base t ty e i z 1 bytes ht hi hz hsize hby hzs (by omega) v n xs hown ⟨b,o,none⟩ m c (zs.map (.int .i64)) (by rw [List.length_map,hl,Nat.mul_one]) (fun j u hu => by
   have:(⟨b,o,none⟩:Addr).add j = ⟨b,o + j,none⟩:=by unfold Addr.add; split <;> simp_all
   rw [this]; exact hc j u hu) (fun u hu => by
   obtain ⟨x,_,rfl⟩:=List.mem_map.1 hu; rfl) h63 hbytes hbase
  exact ⟨v',w',hr,h2,h3⟩
theorem wp_append_ints {o:Oper} {a:Act} {K:Act → World → Prop} {Q:Exit → Act → World → Prop} (s x:Operand) (t:TypeId)
 (ho:o.op = .call { callee := .builtin .append,args := #[s,x],argTypes := #[t,t] })
 (base:Nat) (e:TypeId) (i:TypeInfo) (z:Value) (bytes:Nat) (ht:P.underlying t = some (.slice e)) (hi:P.info? e = some i) (hz:i.zero = some z)
 (hsize:i.size = 1) (hby:i.bytes = bytes) (hzs:z.cells.size = 1)
 (v:Value) (n:Nat) (xs:List Value) (hs:a.eval s = v) (hown:w.ownsRow base e 1 v n xs)
 (A:Option Addr) (m c:Nat) (zs:List Int) (hx:a.eval x = .slice A m c) (hin:IntsAt w A m zs)
 (h63:n + m ≤ maxLen) (hbytes:(n + m) * bytes ≤ 140737488355328) (hbase:base ≤ w.heap.size)
 (h:∀ v' w',w'.ownsRow base e 1 v' (n + m) (xs ++ zs.map (.int .i64)) → w.grownBy w' v.ownBlock → K (a.put o.dst v') w'):o.wp P a w K Q := by
 obtain ⟨v',w',hr,h2,h3⟩:=run_append_ints (P := P) w base t o.type e i z bytes ht hi hz hsize hby hzs v n xs hown A m c zs hin h63 hbytes hbase
 unfold Oper.wp execOp
 simp only [ho,resolve,invoke,builtin,Sem.run_bind,Sem.run_pure,Result.andThen_ok,List.map_toArray,List.map_cons,List.map_nil,hs,hx,hr]
 exact h v' w' h2 h3
theorem wpList_append_ints {ops:Array Oper} {rest:List Oper} {o:Oper} {a:Act} {Q:Exit → Act → World → Prop} (hgd:o.guard = none) (s x:Operand) (t:TypeId)
 (ho:o.op = .call { callee := .builtin .append,args := #[s,x],argTypes := #[t,t] })
 (base:Nat) (e:TypeId) (i:TypeInfo) (z:Value) (bytes:Nat) (ht:P.underlying t = some (.slice e)) (hi:P.info? e = some i) (hz:i.zero = some z)
 (hsize:i.size = 1) (hby:i.bytes = bytes) (hzs:z.cells.size = 1)
 (v:Value) (n:Nat) (xs:List Value) (hs:a.eval s = v) (hown:w.ownsRow base e 1 v n xs)
 (A:Option Addr) (m c:Nat) (zs:List Int) (hx:a.eval x = .slice A m c) (hin:IntsAt w A m zs)
 (h63:n + m ≤ maxLen) (hbytes:(n + m) * bytes ≤ 140737488355328) (hbase:base ≤ w.heap.size)
 (h:∀ v' w',w'.ownsRow base e 1 v' (n + m) (xs ++ zs.map (.int .i64)) → w.grownBy w' v.ownBlock → wpList P ops Q rest (a.put o.dst v') w'):wpList P ops Q (o :: rest) a w :=
 wpList_plain hgd fun _ hK => wp_append_ints w s x t ho base e i z bytes ht hi hz hsize hby hzs v n xs hs hown A m c zs hx hin h63 hbytes hbase fun v' w' h2 h3 => hK _ _ (h v' w' h2 h3)
end
def growRen:Go.Shelf.Ren := ⟨fun | 4 => 123 | n => n,fun | 22 => 22 | 25 => 3 | 3 => 3 | 4 => 4 | 9 => 9 | 20 => 20 | 0 => 0 | n => n,fun | n => n⟩
theorem growLays:Go.Proofs.Lays8.n4 Tryz.prog growRen := {
 mixed := by kernel_rfl
 f4 := ⟨Tryz.f123.name,by decide,Tryz.func123.trans (congrArg some (by kernel_rfl))⟩
 t0 := Tryz.underlying0
 a0 := Tryz.isAgg0
 z0 := Tryz.sizeOf0
 v0 := Tryz.zeroValue0
 t3 := Tryz.underlying3
 a3 := Tryz.isAgg3
 z3 := Tryz.sizeOf3
 v3 := Tryz.zeroValue3
 t4 := Tryz.underlying4
 a4 := Tryz.isAgg4
 z4 := Tryz.sizeOf4
 v4 := Tryz.zeroValue4
 t9 := Tryz.underlying9
 a9 := Tryz.isAgg9
 z9 := Tryz.sizeOf9
 v9 := Tryz.zeroValue9
 t20 := Tryz.underlying20
 a20 := Tryz.isAgg20
 z20 := Tryz.sizeOf20
 v20 := Tryz.zeroValue20
 t22 := Tryz.underlying22
 a22 := Tryz.isAgg22
 z22 := Tryz.sizeOf22
 v22 := Tryz.zeroValue22 }
theorem grow_nil (n:Nat) (w:World) (hn:n ≤ 100000) :
 Calls Tryz.prog 123 #[.slice none 0 0,.int .i64 (n:Int)] w fun e w' => ∃ v,e = .returned v ∧ w'.ownsRow w.heap.size 3 1 v 0 [] ∧ Below w.heap.size w w' := by
 rcases Nat.eq_zero_or_pos n with h0 | h0
 ·subst h0
  refine (Any8.slices_Grow_room growLays none 0 0 0 w (by omega) (by omega) (by omega) (by omega)).mono ?_
  rintro e w' ⟨rfl,rfl⟩
  exact ⟨_,rfl,World.ownsRow_nil _ _ _ _,Below.refl _ _⟩
 ·obtain ⟨i0,hi0,hz0,hz1,hz2⟩:=info_parts intInfo
  refine (Any8.slices_Grow_grow growLays i0 (.int .i64 0) hi0 hz0 (by omega) none 0 0 n [] w (by omega) (by omega) (by rw [hz2]; omega) (by omega) (by simp) (fun _ => rfl) (fun a h => by cases h)).mono ?_
  rintro e w' ⟨rfl,rfl⟩
  have hge:=grownCap_ge w (0 + n) 0 3
  have hle:=grownCap_le_maxLen w (0 + n) 0 3 (by unfold maxLen; omega)
  refine ⟨_,rfl,?_,((Below.refl _ _).drew).alloc (by simp) _⟩
  refine ⟨rfl,.inr ⟨w.heap.size,_,_,rfl,Nat.le_refl _,heap_alloc_new w.drew _,Nat.zero_le _,hle,?_,by simp⟩⟩
  show _ = grownCap w (0 + n) 0 3 * 1
  simp only [Array.size_append,List.size_toArray,size_zeroCells,List.length_nil]
  show 0 + (0 + n - 0) * 1 + (grownCap w (0 + n) 0 3 - (0 + n)) * 1 = _
  omega
end Go.Proofs.YtghdiolnonejaaaGreatDoor
end
section
namespace Go.Proofs.YtghdiolnonejaaaGreatDoor
open Go.RowKit
def pre (xs ys:List Int) (k:Nat):List Int := if k = 0 then [] else if k = 1 then xs else xs ++ ys
set_option maxRecDepth 100000 in
set_option maxHeartbeats 2000000 in
theorem concat_two (A B:Option Addr) (n m c d h:Nat) (xs ys:List Int) (w:World) (hx:IntsAt w A n xs) (hy:IntsAt w B m ys) (hn:n + m ≤ 100000)
 (c0:w.cell? ⟨h,0,none⟩ = some (.slice A n c)) (c1:w.cell? ⟨h,1,none⟩ = some (.slice B m d)) :
 Calls Tryz.prog 106 #[.slice (some ⟨h,0,none⟩) 2 2] w fun e w' => ∃ v,e = .returned v ∧ w'.ownsRow w.heap.size 3 1 v (n + m) ((xs ++ ys).map (.int .i64)) ∧ Below w.heap.size w w' := by
 have HX:=hide hx
 have HY:=hide hy
 clear hx hy
 go_enter Tryz.func106,Tryz.ntmps106
 go_wp2
 go_loop [3,11] (fun s i => ∃ k:Nat,k ≤ 2 ∧ i = .int .i64 k ∧ s = .int .i64 ((if k = 0 then 0 else if k = 1 then n else n + m:Nat):Int)) (fun _ i => 2 - (intOf i).toNat)
 case atStart => exact ⟨0,by omega,rfl,rfl⟩
 case round =>
  obtain ⟨k,hk,rfl,rfl⟩:=hrel
  have h3:k = 0 ∨ k = 1 ∨ k = 2:=by omega
  rcases h3 with rfl | rfl | rfl
  ·simp only [if_true]
   go_wp2
   go_round
   case rel => exact ⟨1,by omega,by go_num,by simp⟩
   case measure => simp [intOf]
  ·simp only [Nat.one_ne_zero,if_true,if_false]
   go_wp2
   go_round
   case rel => exact ⟨2,by omega,by go_num,by simp⟩
   case measure => simp [intOf]
  ·simp only [show (2:Nat) ≠ 0 by omega,show (2:Nat) ≠ 1 by omega,if_false]
   obtain ⟨s,hs⟩:∃ s,s = n + m := ⟨_,rfl⟩
   rw [← hs]
   have HS:=hide hs
   have hs2:s ≤ 100000:=by omega
   clear hs
   go_wp2_with fail
   refine (grow_nil s _ hs2).mono ?_
   rintro e w1 ⟨v0,rfl,hown,hb1⟩
   have HO:=hide hown
   have HB1:=hide hb1
   clear hown hb1
   go_wp2
   have hxl:=HX.out.len
   have hyl:=HY.out.len
   go_loopg [6,27] 2 (fun g v i wx => ∃ k:Nat,k + g = 2 ∧ i = .int .i64 k ∧ wx.ownsRow w.heap.size 3 1 v (pre xs ys k).length ((pre xs ys k).map (.int .i64)) ∧ Below w.heap.size w wx)
   case atStart => exact ⟨0,rfl,rfl,HO.out,HB1.out⟩
   case round =>
    obtain ⟨k,hkg,rfl,hown,hb⟩:=hrel
    have hcell:=hide hb
    have d0':=cell_below c0 hb
    have d1':=cell_below c1 hb
    have HX':=hide (HX.out.keep hb)
    have HY':=hide (HY.out.keep hb)
    obtain ⟨i0,hi0,hz0,hz1,hz2⟩:=info_parts intInfo
    have hwz:=hb.size
    obtain ⟨g1,rfl⟩:∃ g1,g1 = gk := ⟨_,rfl⟩
    have HK:=hide hkg
    have HO':=hide hown
    clear hb hown
    have h3:k = 0 ∨ k = 1 ∨ k = 2:=by omega
    clear hkg
    rcases h3 with rfl | rfl | rfl
    ·go_wp2_with (at_builtin; refine wpList_append_ints _ rfl _ _ 22 rfl w.heap.size 3 i0 (.int .i64 0) 8 Tryz.underlying22 hi0 hz0 hz1 hz2 rfl _ 0 [] (by rfl) HO'.out A n c xs (by rfl) HX'.out (by unfold maxLen; omega) (by omega) hwz ?_; intro v2 w2 own2 grow2)
     go_roundg 1
     case measure => have := HK.out; omega
     case rel =>
      refine ⟨1,rfl,rfl,?_,hcell.out.grown grow2 hwz (fun k hk => (HO'.out.lt k hk).1)⟩
      have e:pre xs ys 1 = xs:=rfl
      rw [e,hxl]
      simpa using own2
    ·have e1:(pre xs ys 1).length = n:=hxl
     have HO2:=hide (show wr.ownsRow w.heap.size 3 1 u6 n (xs.map (.int .i64)) by have := HO'.out; rw [e1] at this; exact this)
     go_wp2_with (at_builtin; refine wpList_append_ints _ rfl _ _ 22 rfl w.heap.size 3 i0 (.int .i64 0) 8 Tryz.underlying22 hi0 hz0 hz1 hz2 rfl _ n (xs.map (.int .i64)) (by rfl) HO2.out B m d ys (by rfl) HY'.out (by unfold maxLen; omega) (by omega) hwz ?_; intro v2 w2 own2 grow2)
     go_roundg 0
     case measure => have := HK.out; omega
     case rel =>
      refine ⟨2,rfl,rfl,?_,hcell.out.grown grow2 hwz (fun k hk => (HO'.out.lt k hk).1)⟩
      have e:pre xs ys 2 = xs ++ ys:=rfl
      rw [e,List.length_append,hxl,hyl,List.map_append]
      exact own2
    ·go_wp2
     go_ret
     refine ⟨_,rfl,?_,hcell.out⟩
     have h7:=HO'.out
     have e:pre xs ys 2 = xs ++ ys:=rfl
     rw [e,List.length_append,hxl,hyl] at h7
     exact h7
theorem owns_slice {w:World} {base:Nat} {e:TypeId} {size:Nat} {v:Value} {n:Nat} {xs:List Value} (h:w.ownsRow base e size v n xs):∃ A c,v = .slice A n c := by
 rcases h.2 with ⟨rfl,rfl⟩ | ⟨g,cap,cur,rfl,_⟩
 ·exact ⟨_,_,rfl⟩
 ·exact ⟨_,_,rfl⟩
theorem concat_ex (n m h:Nat) (xs ys:List Int) (w:World) (hn:n + m ≤ 100000) (h0:∃ A c,w.cell? ⟨h,0,none⟩ = some (.slice A n c) ∧ IntsAt w A n xs) (h1:∃ B d,w.cell? ⟨h,1,none⟩ = some (.slice B m d) ∧ IntsAt w B m ys) :
 Calls Tryz.prog 106 #[.slice (some ⟨h,0,none⟩) 2 2] w fun e w' => ∃ (A:Option Addr) (c:Nat),e = .returned (.slice A (n + m) c) ∧ w'.ownsRow w.heap.size 3 1 (.slice A (n + m) c) (n + m) ((xs ++ ys).map (.int .i64)) ∧ Below w.heap.size w w' := by
 obtain ⟨A,c,c0,hx⟩:=h0
 obtain ⟨B,d,c1,hy⟩:=h1
 refine (concat_two A B n m c d h xs ys w hx hy hn c0 c1).mono ?_
 rintro e w' ⟨v,rfl,hown,hb⟩
 obtain ⟨A',c',rfl⟩:=owns_slice hown
 exact ⟨A',c',rfl,hown,hb⟩
def OwnN (w:World) (base g n cap:Nat) (l:List Nat):Prop := w.ownsRow base 3 1 (.slice (some ⟨g,0,none⟩) n cap) n (l.map (fun k:Nat => Value.int .i64 k))
theorem OwnN.len {w:World} {base g n cap:Nat} {l:List Nat} (h:OwnN w base g n cap l):l.length = n := by have := h.1; simpa using this
theorem OwnN.cell {w:World} {base g n cap:Nat} {l:List Nat} (h:OwnN w base g n cap l) {k:Nat} (hk:k < n):w.cell? ⟨g,k,none⟩ = some (.int .i64 (l.getD k 0:Nat)) := by
 have hl:=h.len
 rw [World.ownsRow.cellAt h k (by omega),List.getElem?_map,List.getElem?_eq_getElem (by omega),List.getD_eq_getElem?_getD,List.getElem?_eq_getElem (by omega)]; rfl
theorem OwnN.free {w:World} {base g n cap:Nat} {l:List Nat} (h:OwnN w base g n cap l) (k:Nat):w.frozen? ⟨g,k,none⟩ = false := World.ownsRow.frozenAt h k
theorem OwnN.set {w:World} {base g n cap:Nat} {l:List Nat} (h:OwnN w base g n cap l) (k v:Nat):OwnN (w.setCell ⟨g,k,none⟩ (.int .i64 (v:Nat))) base g n cap (l.set k v) ∧ w.grownBy (w.setCell ⟨g,k,none⟩ (.int .i64 (v:Nat))) (some g) := by
 have:=World.ownsRow.stored h k (.int .i64 (v:Nat))
 refine ⟨?_,this.2⟩
 unfold OwnN
 rw [List.map_set]
 exact this.1
theorem grownBy_trans {w w1 w2:World} {r:Option Nat} (h:w.grownBy w1 r) (h2:w1.grownBy w2 r):w.grownBy w2 r :=
 ⟨h2.os.trans h.os,h2.tape.trans h.tape,h2.output.trans h.output,Nat.le_trans h.size h2.size,fun k hk hr => (h2.block k (Nat.lt_of_lt_of_le hk h.size) hr).trans (h.block k hk hr)⟩
def jn (l:List Nat) (a b:Nat):List Nat := (l.set a b).set b a
theorem join_any (base g n cap a b:Nat) (l:List Nat) (w:World) (h:OwnN w base g n cap l) (ha:a < n) (hb:b < n) (hn:n ≤ 100000) :
 Calls Tryz.prog 75 #[.slice (some ⟨g,0,none⟩) n cap,.int .i64 (a:Int),.int .i64 (b:Int)] w fun e w' => e = .returned (.tuple #[]) ∧ OwnN w' base g n cap (jn l a b) ∧ w.grownBy w' (some g) := by
 have c1:=h.cell ha
 have f1:=h.free a
 obtain ⟨h2,g2⟩:=h.set a b
 have c2:=h2.cell hb
 have f2:=h2.free b
 obtain ⟨h3,g3⟩:=h2.set b a
 have H3:=hide h3
 have G3:=hide (grownBy_trans g2 g3)
 clear h h2 h3 g2 g3
 go_enter Tryz.func75,Tryz.ntmps75
 go_wp2
 go_end0
 exact ⟨rfl,H3.out,G3.out⟩
theorem join_int (base g n cap:Nat) (a b:Int) (l:List Nat) (w:World) (h:OwnN w base g n cap l) (ha:0 ≤ a ∧ a < n) (hb:0 ≤ b ∧ b < n) (hn:n ≤ 100000) :
 Calls Tryz.prog 75 #[.slice (some ⟨g,0,none⟩) n cap,.int .i64 a,.int .i64 b] w fun e w' => e = .returned (.tuple #[]) ∧ OwnN w' base g n cap (jn l a.toNat b.toNat) ∧ w.grownBy w' (some g) := by
 obtain ⟨x,rfl⟩:=Int.eq_ofNat_of_zero_le ha.1
 obtain ⟨y,rfl⟩:=Int.eq_ofNat_of_zero_le hb.1
 rw [Int.toNat_natCast,Int.toNat_natCast]
 exact join_any base g n cap x y l w h (by omega) (by omega) hn
end Go.Proofs.YtghdiolnonejaaaGreatDoor
end
section
namespace Go.Proofs.YtghdiolnonejaaaGreatDoor
open Go.RowKit
attribute [local go_sem ↓] Go.wp_at_zero Go.wp_at_succ
structure GS (w:World) (g:Nat) (x0 x1 x2:Value) (W:World):Prop where
 row:∃ vs,Row W g 24 [x0,x1,x2] ∧ Row W (g + 1) 24 vs ∧ vs.length = 3
 bel:Below w.heap.size w W
 lo:w.heap.size ≤ g
theorem GS.drew {w:World} {g:Nat} {x0 x1 x2:Value} {W:World} (h:GS w g x0 x1 x2 W):GS w g x0 x1 x2 W.drew := ⟨h.row,h.bel.drew,h.lo⟩
def cv (W:World) (a:Addr):Value := (W.cell? a).getD (.bool false)
theorem cv_some {W:World} {a:Addr} {v:Value} (h:W.cell? a = some v):W.cell? a = some (cv W a) := by unfold cv; rw [h]; rfl
theorem GS.alloc {w:World} {g:Nat} {x0 x1 x2:Value} {W:World} (h:GS w g x0 x1 x2 W) (o:Obj):GS w g x0 x1 x2 (W.alloc o) :=
 let ⟨vs,r1,r2,r3⟩:=h.row
 ⟨⟨vs,r1.alloc o,r2.alloc o,r3⟩,h.bel.alloc h.bel.size o,h.lo⟩
theorem GS.below {w:World} {g:Nat} {x0 x1 x2:Value} {W W':World} (h:GS w g x0 x1 x2 W) (hb:Below W.heap.size W W'):GS w g x0 x1 x2 W' :=
 let ⟨vs,r1,r2,r3⟩:=h.row
 ⟨⟨vs,r1.below hb,r2.below hb,r3⟩,h.bel.trans (hb.mono h.bel.size),h.lo⟩
theorem GS.set {w:World} {g:Nat} {x0 x1 x2:Value} {W:World} (h:GS w g x0 x1 x2 W) (o:Nat) (v:Value):GS w g x0 x1 x2 (W.setCell ⟨g + 1,o,none⟩ v) :=
 let ⟨vs,r1,r2,r3⟩:=h.row
 ⟨⟨vs.set o v,r1.other (by simp) v,r2.set o v,by rw [List.length_set,r3]⟩,h.bel.setCell (by have := h.lo; simp; omega) v,h.lo⟩
theorem GS.all {w:World} {g:Nat} {x0 x1 x2:Value} {W:World} (h:GS w g x0 x1 x2 W):W.cell? ⟨g,0,none⟩ = some x0 ∧ W.cell? ⟨g,1,none⟩ = some x1 ∧ W.cell? ⟨g,2,none⟩ = some x2 ∧ W.cell? ⟨g + 1,0,none⟩ = some (cv W ⟨g + 1,0,none⟩) ∧ W.cell? ⟨g + 1,1,none⟩ = some (cv W ⟨g + 1,1,none⟩) ∧ W.cell? ⟨g + 1,2,none⟩ = some (cv W ⟨g + 1,2,none⟩) ∧ (∀ o,W.frozen? ⟨g + 1,o,none⟩ = false) ∧ GS w g x0 x1 x2 W := by
 obtain ⟨vs,r1,r2,r3⟩:=h.row
 exact ⟨r1.cell (i := 0) (by show 0 < 3; omega),r1.cell (i := 1) (by show 1 < 3; omega),r1.cell (i := 2) (by show 2 < 3; omega),cv_some (r2.cell (i := 0) (by omega)),cv_some (r2.cell (i := 1) (by omega)),cv_some (r2.cell (i := 2) (by omega)),fun o => r2.free o,h⟩
theorem GS.fin {w:World} {g:Nat} {x0 x1 x2:Value} {W:World} (h:GS w g x0 x1 x2 W) (y0 y1 y2:Value) :
 (((W.setCell ⟨g + 1,0,none⟩ y0).setCell ⟨g + 1,1,none⟩ y1).setCell ⟨g + 1,2,none⟩ y2).cell? ⟨g + 1,0,none⟩ = some y0 ∧ (((W.setCell ⟨g + 1,0,none⟩ y0).setCell ⟨g + 1,1,none⟩ y1).setCell ⟨g + 1,2,none⟩ y2).cell? ⟨g + 1,1,none⟩ = some y1 ∧ (((W.setCell ⟨g + 1,0,none⟩ y0).setCell ⟨g + 1,1,none⟩ y1).setCell ⟨g + 1,2,none⟩ y2).cell? ⟨g + 1,2,none⟩ = some y2 := by
 obtain ⟨vs,_,r2,r3⟩:=h.row
 have r:=((r2.set 0 y0).set 1 y1).set 2 y2
 obtain ⟨a,b,c,rfl⟩:∃ a b c,vs = [a,b,c] := by
  match vs,r3 with
  | [a,b,c],_ => exact ⟨a,b,c,rfl⟩
 exact ⟨r.cell (i := 0) (by simp),r.cell (i := 1) (by simp),r.cell (i := 2) (by simp)⟩
theorem GS.start (w:World) (x0 x1 x2 y0 y1 y2:Value):GS w w.heap.size x0 x1 x2 ((w.alloc (.cells #[x0,x1,x2] 24)).alloc (.cells #[y0,y1,y2] 24)) := by
 refine ⟨⟨[y0,y1,y2],Row.alloc (Row.new w _ [x0,x1,x2]) _,?_,rfl⟩,((Below.refl _ _).alloc (Nat.le_refl _) _).alloc (by simp) _,Nat.le_refl _⟩
 have:=Row.new (w.alloc (.cells #[x0,x1,x2] 24)) 24 [y0,y1,y2]
 simpa using this
theorem IntsAt.alloc {w:World} {A:Option Addr} {n:Nat} {zs:List Int} (h:IntsAt w A n zs) (o:Obj):IntsAt (w.alloc o) A n zs := h.keep ((Below.refl _ _).alloc (Nat.le_refl _) o)
theorem IntsAt.drew {w:World} {A:Option Addr} {n:Nat} {zs:List Int} (h:IntsAt w A n zs):IntsAt w.drew A n zs := h
theorem made_at {w:World} {g:Nat} (h:g = w.heap.size) (n:Nat):IntsAt (w.alloc (.cells (Array.replicate n (Value.int .i64 0)) 3)) (some ⟨g,0,none⟩) n (List.replicate n 0) := by
 subst h
 have:=(IRow.made w n).ints
 rw [List.length_replicate] at this
 exact this
theorem owns_pos {w:World} {base:Nat} {e:TypeId} {A:Option Addr} {n c:Nat} {xs:List Value} (hn:0 < n) (h:w.ownsRow base e 1 (.slice A n c) n xs):∃ g,A = some ⟨g,0,none⟩ ∧ base ≤ g ∧ g < w.heap.size := by
 rcases h.2 with ⟨_,h0⟩ | ⟨g,cap,cur,h1,h2,h3,_⟩
 ·omega
 ·injection h1 with h1
  exact ⟨g,h1,h2,lt_of_heap h3⟩
theorem own_keep {w w':World} {base base':Nat} {e:TypeId} {v:Value} {n:Nat} {xs:List Value} (h:w.ownsRow base e 1 v n xs) (hb:Below w.heap.size w w') (hle:base' ≤ base):w'.ownsRow base' e 1 v n xs := by
 refine ⟨h.1,?_⟩
 rcases h.2 with hz | ⟨g,cap,cur,r1,r2,r3,r4⟩
 ·exact .inl hz
 ·exact .inr ⟨g,cap,cur,r1,Nat.le_trans hle r2,(hb.block g (lt_of_heap r3)).trans r3,r4⟩
theorem own_set {w:World} {base:Nat} {e:TypeId} {g n c b o:Nat} {v:Value} {xs:List Value} (h:w.ownsRow base e 1 (.slice (some ⟨g,0,none⟩) n c) n xs) (hne:g ≠ b):(w.setCell ⟨b,o,none⟩ v).ownsRow base e 1 (.slice (some ⟨g,0,none⟩) n c) n xs := by
 refine ⟨h.1,?_⟩
 rcases h.2 with hz | ⟨g',cap,cur,r1,r2,r3,r4⟩
 ·exact .inl hz
 ·injection r1 with e1 e2 e3
  injection e1 with e1
  injection e1 with e1
  subst e1
  exact .inr ⟨g,cap,cur,by rw [e3],r2,(Below.heap_setCell w _ v g hne).trans r3,r4⟩
theorem nats_rep (l:List Nat) (k:Nat):(nats l ++ List.replicate k 0).map (Value.int .i64) = (l ++ List.replicate k 0).map (fun j:Nat => Value.int .i64 j) := by
 unfold nats
 simp
set_option maxRecDepth 100000 in
set_option maxHeartbeats 8000000 in
theorem grown_any (d:Pl.Dg) (A B:Option Addr) (cp cq s cs h m m4:Nat) (ss:List Int) (w:World) (hm:m = 4 * d.n) (hm4:m4 = 4 * s) (hg:DgAt w A B d) (hs:IntsAt w (some ⟨h,0,none⟩) s ss) (hn:d.n ≤ 1000) (hs1:1 ≤ s) (hs2:s ≤ 10) :
 Calls Tryz.prog 74 #[.agg #[.slice A d.n cp,.slice B m cq,.int .i64 d.lp],.slice (some ⟨h,0,none⟩) s cs] w fun e w' => ∃ g1 c1 g2 c2:Nat,e = .returned (.agg #[.slice (some ⟨g1,0,none⟩) (d.n + s) c1,.slice (some ⟨g2,0,none⟩) (m + m4) c2,.int .i64 d.lp]) ∧
  w'.ownsRow w.heap.size 3 1 (.slice (some ⟨g1,0,none⟩) (d.n + s) c1) (d.n + s) ((d.sg ++ ss).map (.int .i64)) ∧ OwnN w' w.heap.size g2 (m + m4) c2 (d.mt ++ List.replicate m4 0) ∧ g1 ≠ g2 ∧ Below w.heap.size w w' := by
 have HS:=hide hg.s
 have HMT:=hide (show IntsAt w B m (nats d.mt) by rw [hm]; exact hg.m)
 have HSS:=hide hs
 have HM:=hide hm
 have hmm:m ≤ 4000:=by omega
 have hm44:m4 ≤ 40:=by omega
 have hmk:=fun W:World => run_ints m4 (by omega) W
 have h44:4 * (s:Int) = (m4:Int):=by omega
 clear hm hm4 hg hs
 have HGS:=hide (GS.start w (.slice A d.n cp) (.slice B m cq) (.int .i64 d.lp) (.slice none 0 0) (.slice none 0 0) (.int .i64 0))
 go_enter Tryz.func74,Tryz.ntmps74
 go_wp2
 have hwr:IntKind.i64.wrap (m4:Int) = (m4:Int):=IntWalk.i64_in _ (by omega)
 go_region_held3 (fun w' => w'.cell? ⟨w.heap.size,0,none⟩ = some (.slice A d.n cp) ∧ w'.cell? ⟨w.heap.size,1,none⟩ = some (.slice B m cq) ∧ w'.cell? ⟨w.heap.size,2,none⟩ = some (.int .i64 d.lp) ∧ w'.cell? ⟨w.heap.size + 1,0,none⟩ = some (cv w' ⟨w.heap.size + 1,0,none⟩) ∧ w'.cell? ⟨w.heap.size + 1,1,none⟩ = some (cv w' ⟨w.heap.size + 1,1,none⟩) ∧ w'.cell? ⟨w.heap.size + 1,2,none⟩ = some (cv w' ⟨w.heap.size + 1,2,none⟩) ∧ (∀ o,w'.frozen? ⟨w.heap.size + 1,o,none⟩ = false) ∧ GS w w.heap.size (.slice A d.n cp) (.slice B m cq) (.int .i64 d.lp) w')
  ((go_split_ands; refine GS.all ?_; (repeat (first | assumption | (with_reducible exact HGS.out) | (with_reducible refine GS.set ?_ _ _) | (with_reducible refine GS.alloc ?_ _) | (with_reducible refine GS.drew ?_) | (with_reducible refine GS.below ?_ hba) | (with_reducible refine GS.below ?_ hbb)))))
  (first
    | (go_at_call 106
       refine Calls.mono (concat_ex d.n s _ d.sg ss _ (by omega) ?_ ?_) ?_
       ·refine ⟨A,cp,?_,HS.out.keep (GS.bel (g := w.heap.size) (x0 := .slice A d.n cp) (x1 := .slice B m cq) (x2 := .int .i64 d.lp) ?_)⟩
        ·first | (go_simp; done) | ((with_reducible refine cell_below ?_ hbb); go_simp; done)
        ·repeat (first | assumption | (with_reducible exact HGS.out) | (with_reducible refine GS.set ?_ _ _) | (with_reducible refine GS.alloc ?_ _) | (with_reducible refine GS.drew ?_) | (with_reducible refine GS.below ?_ hba) | (with_reducible refine GS.below ?_ hbb))
       ·refine ⟨some ⟨h,0,none⟩,cs,?_,HSS.out.keep (GS.bel (g := w.heap.size) (x0 := .slice A d.n cp) (x1 := .slice B m cq) (x2 := .int .i64 d.lp) ?_)⟩
        ·first | (go_simp; done) | ((with_reducible refine cell_below ?_ hbb); go_simp; done)
        ·repeat (first | assumption | (with_reducible exact HGS.out) | (with_reducible refine GS.set ?_ _ _) | (with_reducible refine GS.alloc ?_ _) | (with_reducible refine GS.drew ?_) | (with_reducible refine GS.below ?_ hba) | (with_reducible refine GS.below ?_ hbb))
       rintro e wa ⟨Aa,ca,rfl,owna,hba⟩)
    | (go_at_call 106
       refine Calls.mono (concat_ex m m4 _ (nats d.mt) (List.replicate m4 0) _ (by omega) ?_ ?_) ?_
       ·refine ⟨B,cq,?_,HMT.out.keep (GS.bel (g := w.heap.size) (x0 := .slice A d.n cp) (x1 := .slice B m cq) (x2 := .int .i64 d.lp) ?_)⟩
        ·first | (go_simp; done) | ((with_reducible refine cell_below ?_ hba); go_simp; done)
        ·repeat (first | assumption | (with_reducible exact HGS.out) | (with_reducible refine GS.set ?_ _ _) | (with_reducible refine GS.alloc ?_ _) | (with_reducible refine GS.drew ?_) | (with_reducible refine GS.below ?_ hba) | (with_reducible refine GS.below ?_ hbb))
       ·refine ⟨?_,m4,?_,?_⟩
        rotate_left 1
        ·first | (go_simp; rfl) | ((with_reducible refine cell_below ?_ hba); go_simp; rfl)
        ·repeat (first | ((with_reducible refine made_at ?_ _); (simp; done)) | (with_reducible refine made_at rfl _) | (with_reducible refine IntsAt.drew ?_) | (with_reducible refine IntsAt.alloc ?_ _) | (with_reducible refine IntsAt.keep ?_ hba))
       rintro e wb ⟨Ab,cb,rfl,ownb,hbb⟩))
 all_goals
  obtain ⟨g1,rfl,b1,l1⟩:=owns_pos (by omega) owna
  obtain ⟨g2,rfl,b2,l2⟩:=owns_pos (by omega) ownb
  go_wp2
  refine bodyPost_ret (v := .agg #[.slice (some ⟨g1,0,none⟩) (d.n + s) ca,.slice (some ⟨g2,0,none⟩) (m + m4) cb,.int .i64 d.lp]) ?_ rfl ⟨g1,ca,g2,cb,rfl,?_,?_,?_,?_⟩
  ·first
    | (have hx : GS w w.heap.size (.slice A d.n cp) (.slice B m cq) (.int .i64 d.lp) wb := by
        repeat (first | assumption | (with_reducible exact HGS.out) | (with_reducible refine GS.set ?_ _ _) | (with_reducible refine GS.alloc ?_ _) | (with_reducible refine GS.drew ?_) | (with_reducible refine GS.below ?_ hba) | (with_reducible refine GS.below ?_ hbb))
       obtain ⟨e0,e1,e2⟩:=hx.fin (.slice (some ⟨g1,0,none⟩) (d.n + s) ca) (.slice (some ⟨g2,0,none⟩) (m + m4) cb) (.int .i64 d.lp)
       simp [results,Tryz.results74,go_sem,e0,e1,e2]
       done)
    | (have hx : GS w w.heap.size (.slice A d.n cp) (.slice B m cq) (.int .i64 d.lp) wa := by
        repeat (first | assumption | (with_reducible exact HGS.out) | (with_reducible refine GS.set ?_ _ _) | (with_reducible refine GS.alloc ?_ _) | (with_reducible refine GS.drew ?_) | (with_reducible refine GS.below ?_ hba) | (with_reducible refine GS.below ?_ hbb))
       obtain ⟨e0,e1,e2⟩:=hx.fin (.slice (some ⟨g1,0,none⟩) (d.n + s) ca) (.slice (some ⟨g2,0,none⟩) (m + m4) cb) (.int .i64 d.lp)
       simp [results,Tryz.results74,go_sem,e0,e1,e2]
       done)
  ·simp at b1 b2
   refine own_set (own_set (own_set ?_ (by omega)) (by omega)) (by omega)
   first
    | (refine own_keep owna (Below.refl _ _) ?_; first | omega | (simp; done) | (simp; omega))
    | (refine own_keep owna (Below.trans ?_ (hbb.mono ?_)) ?_; all_goals (repeat (first | exact Below.refl _ _ | (with_reducible refine Below.drew ?_) | (with_reducible refine Below.alloc ?_ ?_ _) | omega | (simp; done) | (simp; omega))))
  ·simp at b1 b2
   unfold OwnN
   rw [← nats_rep]
   refine own_set (own_set (own_set ?_ (by omega)) (by omega)) (by omega)
   first
    | (refine own_keep ownb (Below.refl _ _) ?_; first | omega | (simp; done) | (simp; omega))
    | (refine own_keep ownb (Below.trans ?_ (hba.mono ?_)) ?_; all_goals (repeat (first | exact Below.refl _ _ | (with_reducible refine Below.drew ?_) | (with_reducible refine Below.alloc ?_ ?_ _) | omega | (simp; done) | (simp; omega))))
  ·simp at b1 b2
   omega
  ·refine GS.bel (g := w.heap.size) (x0 := .slice A d.n cp) (x1 := .slice B m cq) (x2 := .int .i64 d.lp) ?_
   repeat (first | assumption | (with_reducible exact HGS.out) | (with_reducible refine GS.set ?_ _ _) | (with_reducible refine GS.alloc ?_ _) | (with_reducible refine GS.drew ?_) | (with_reducible refine GS.below ?_ hba) | (with_reducible refine GS.below ?_ hbb))
end Go.Proofs.YtghdiolnonejaaaGreatDoor
end
section
namespace Go.Proofs.YtghdiolnonejaaaGreatDoor
open Go.RowKit
theorem bcell {W w1:World} (hb:Below W.heap.size W w1):(∀ b o,b < W.heap.size → w1.cell? ⟨b,o,none⟩ = W.cell? ⟨b,o,none⟩) ∧ (∀ b o,b < W.heap.size → w1.frozen? ⟨b,o,none⟩ = W.frozen? ⟨b,o,none⟩) :=
 ⟨fun b o h => hb.cell (p := ⟨b,o,none⟩) h,fun b o h => hb.frozen (p := ⟨b,o,none⟩) h⟩
structure Mv where
 kind:Int
 x:Int
 y:Int
 sign:Int
 over:Bool
def Mv.v (m:Mv):Value := .agg #[.int .i64 m.kind,.int .i64 m.x,.int .i64 m.y,.int .i64 m.sign,.bool m.over]
def fullC (n k:Nat):Int := if 64 < n + k then 5 else 0
def curlableC (d:Pl.Dg) (x:Int):Int := if x < 0 then (if d.lp = 0 then 6 else fullC d.n 1) else if Pl.out d x.toNat = true then fullC d.n 1 else 6
set_option maxRecDepth 100000 in
set_option maxHeartbeats 2000000 in
theorem curlable_any (d:Pl.Dg) (A B:Option Addr) (cp cq:Nat) (k x y sg:Int) (ov:Bool) (w:World) (hg:DgAt w A B d) (hn:d.n ≤ 64) (hlp:d.lp ≤ 64) (hx:-1 ≤ x ∧ x < 4 * d.n) :
 Calls Tryz.prog 73 #[.agg #[.slice A d.n cp,.slice B (4 * d.n) cq,.int .i64 d.lp],.agg #[.int .i64 k,.int .i64 x,.int .i64 y,.int .i64 sg,.bool ov]] w fun e w' => e = .returned (.int .i64 (curlableC d x)) ∧ Below w.heap.size w w' := by
 obtain ⟨m,hm⟩:∃ m,m = 4 * d.n := ⟨_,rfl⟩
 rw [← hm]
 have HM:=hide hm
 clear hm
 have b0:Below w.heap.size w ((w.alloc (.cells #[.slice A d.n cp,.slice B m cq,.int .i64 d.lp] 24)).alloc (.cells #[.int .i64 k,.int .i64 x,.int .i64 y,.int .i64 sg,.bool ov] 43)):=((Below.refl _ _).alloc (Nat.le_refl _) _).alloc (by simp) _
 have HS:=hide (hg.s.keep b0)
 clear hg
 by_cases hx0:0 ≤ x
 ·obtain ⟨q,rfl⟩:=Int.eq_ofNat_of_zero_le hx0
  have hq:q < 4 * d.n:=by omega
  have t1:decide (0 ≤ (q:Int)) = true:=by simp
  go_enter Tryz.func73,Tryz.ntmps73
  go_wp2_with fail
  refine (out2_n d A B d.n cp m cq (.int .i64 d.lp) q _ rfl hq (by omega) HS.out).mono ?_
  rintro e w1 ⟨rfl,hb1⟩
  have b1:=b0.trans (hb1.mono b0.size)
  obtain ⟨hc,hf⟩:=bcell hb1
  have hsz:w.heap.size + 1 < w1.heap.size:=by have := hb1.size; simp at this; omega
  have e0:curlableC d (q:Int) = if Pl.out d q = true then fullC d.n 1 else 6:=by unfold curlableC; rw [if_neg (by omega),Int.toNat_natCast]
  have E0:=hide e0
  clear e0
  clear t1
  go_wp2
  all_goals
   go_ret
   refine ⟨ret_int ?_,b1⟩
   rw [E0.out]
   unfold fullC
   repeat' split
   all_goals first | omega | (exfalso; first | omega | (simp_all; done))
 ·go_enter Tryz.func73,Tryz.ntmps73
  go_wp2
  all_goals
   go_ret
   refine ⟨ret_int ?_,b0⟩
   unfold curlableC fullC
   rw [if_pos (by omega)]
   simp only [beq_iff_eq,beq_eq_false_iff_ne,ne_eq] at *
   repeat' split
   all_goals omega
theorem curlable_m (d:Pl.Dg) (A B:Option Addr) (cp cq m:Nat) (k x y sg:Int) (ov:Bool) (w:World) (hm:m = 4 * d.n) (hg:DgAt w A B d) (hn:d.n ≤ 64) (hlp:d.lp ≤ 64) (hx:-1 ≤ x ∧ x < 4 * d.n) :
 Calls Tryz.prog 73 #[.agg #[.slice A d.n cp,.slice B m cq,.int .i64 d.lp],.agg #[.int .i64 k,.int .i64 x,.int .i64 y,.int .i64 sg,.bool ov]] w fun e w' => e = .returned (.int .i64 (curlableC d x)) ∧ Below w.heap.size w w' := by
 subst hm; exact curlable_any d A B cp cq k x y sg ov w hg hn hlp hx
end Go.Proofs.YtghdiolnonejaaaGreatDoor
end
section
namespace Go.Proofs.YtghdiolnonejaaaGreatDoor
open Go.RowKit
def nilD:Value := .agg #[.slice none 0 0,.slice none 0 0,.int .i64 0]
def nilM:Value := .agg #[.int .i64 0,.int .i64 0,.int .i64 0,.int .i64 0,.bool false]
def ResErr (k:Int) (e:Ending):Prop := e = .returned (.tuple #[nilD,nilM,.int .i64 k])
structure DgT (w:World) (A:Option Addr) (B:Option Addr) (d:Pl.Dg):Prop where
 s:RowT w 3 A d.n (d.sg.map (.int .i64))
 m:RowT w 3 B (4 * d.n) ((nats d.mt).map (.int .i64))
theorem DgT.at {w:World} {A B:Option Addr} {d:Pl.Dg} (h:DgT w A B d):DgAt w A B d := ⟨h.s.row,h.m.row⟩
theorem DgT.keep {w w':World} {A B:Option Addr} {d:Pl.Dg} (h:DgT w A B d) (hb:Below w.heap.size w w'):DgT w' A B d := ⟨h.s.keep hb,h.m.keep hb⟩
theorem own_intsT {w:World} {base:Nat} {e:TypeId} {A:Option Addr} {n c:Nat} {zs:List Int} (h:w.ownsRow base e 1 (.slice A n c) n (zs.map (.int .i64))):RowT w e A n (zs.map (.int .i64)) := by
 have hl:=h.1
 refine ⟨by simpa using hl,fun hn => ?_⟩
 rcases h.2 with ⟨_,h2⟩ | ⟨g,cap,cur,h1,_,h3,_,_,_,h7⟩
 ·omega
 ·injection h1 with h1 _ _
  refine ⟨g,0,cur,(0,0),h1,h3,fun j u hu => ?_⟩
  rw [Nat.zero_add,← Array.getElem?_toList]
  have h9:=hu
  rw [← h7,List.getElem?_take] at h9
  split at h9
  ·exact h9
  ·exact absurd h9 (by simp)
theorem OwnN.intsT {w:World} {base g n c:Nat} {l:List Nat} (h:OwnN w base g n c l):RowT w 3 (some ⟨g,0,none⟩) n ((nats l).map (.int .i64)) := by
 refine own_intsT (base := base) (e := 3) (c := c) ?_
 unfold OwnN at h
 unfold nats
 rw [List.map_map]
 exact h
def ResOk (r:Pl.Dg) (mv:Mv) (e:Ending) (w':World):Prop :=
 ∃ (A B:Option Addr) (c1 c2:Nat),e = .returned (.tuple #[.agg #[.slice A r.n c1,.slice B (4 * r.n) c2,.int .i64 r.lp],mv.v,.int .i64 0]) ∧ DgT w' A B r
theorem fin8 {W:World} {gd gm:Nat} {vs us:List Value} (h1:Row W gd 24 vs) (h2:Row W gm 43 us) (l1:vs.length = 3) (l2:us.length = 5) (hne:gd ≠ gm) (y0 y1 y2 z0 z1 z2 z3 z4:Value) :
 ((((((((W.setCell ⟨gd,0,none⟩ y0).setCell ⟨gd,1,none⟩ y1).setCell ⟨gd,2,none⟩ y2).setCell ⟨gm,0,none⟩ z0).setCell ⟨gm,1,none⟩ z1).setCell ⟨gm,2,none⟩ z2).setCell ⟨gm,3,none⟩ z3).setCell ⟨gm,4,none⟩ z4).cell? ⟨gd,0,none⟩ = some y0 ∧ ((((((((W.setCell ⟨gd,0,none⟩ y0).setCell ⟨gd,1,none⟩ y1).setCell ⟨gd,2,none⟩ y2).setCell ⟨gm,0,none⟩ z0).setCell ⟨gm,1,none⟩ z1).setCell ⟨gm,2,none⟩ z2).setCell ⟨gm,3,none⟩ z3).setCell ⟨gm,4,none⟩ z4).cell? ⟨gd,1,none⟩ = some y1 ∧ ((((((((W.setCell ⟨gd,0,none⟩ y0).setCell ⟨gd,1,none⟩ y1).setCell ⟨gd,2,none⟩ y2).setCell ⟨gm,0,none⟩ z0).setCell ⟨gm,1,none⟩ z1).setCell ⟨gm,2,none⟩ z2).setCell ⟨gm,3,none⟩ z3).setCell ⟨gm,4,none⟩ z4).cell? ⟨gd,2,none⟩ = some y2 ∧ ((((((((W.setCell ⟨gd,0,none⟩ y0).setCell ⟨gd,1,none⟩ y1).setCell ⟨gd,2,none⟩ y2).setCell ⟨gm,0,none⟩ z0).setCell ⟨gm,1,none⟩ z1).setCell ⟨gm,2,none⟩ z2).setCell ⟨gm,3,none⟩ z3).setCell ⟨gm,4,none⟩ z4).cell? ⟨gm,0,none⟩ = some z0 ∧ ((((((((W.setCell ⟨gd,0,none⟩ y0).setCell ⟨gd,1,none⟩ y1).setCell ⟨gd,2,none⟩ y2).setCell ⟨gm,0,none⟩ z0).setCell ⟨gm,1,none⟩ z1).setCell ⟨gm,2,none⟩ z2).setCell ⟨gm,3,none⟩ z3).setCell ⟨gm,4,none⟩ z4).cell? ⟨gm,1,none⟩ = some z1 ∧ ((((((((W.setCell ⟨gd,0,none⟩ y0).setCell ⟨gd,1,none⟩ y1).setCell ⟨gd,2,none⟩ y2).setCell ⟨gm,0,none⟩ z0).setCell ⟨gm,1,none⟩ z1).setCell ⟨gm,2,none⟩ z2).setCell ⟨gm,3,none⟩ z3).setCell ⟨gm,4,none⟩ z4).cell? ⟨gm,2,none⟩ = some z2 ∧ ((((((((W.setCell ⟨gd,0,none⟩ y0).setCell ⟨gd,1,none⟩ y1).setCell ⟨gd,2,none⟩ y2).setCell ⟨gm,0,none⟩ z0).setCell ⟨gm,1,none⟩ z1).setCell ⟨gm,2,none⟩ z2).setCell ⟨gm,3,none⟩ z3).setCell ⟨gm,4,none⟩ z4).cell? ⟨gm,3,none⟩ = some z3 ∧ ((((((((W.setCell ⟨gd,0,none⟩ y0).setCell ⟨gd,1,none⟩ y1).setCell ⟨gd,2,none⟩ y2).setCell ⟨gm,0,none⟩ z0).setCell ⟨gm,1,none⟩ z1).setCell ⟨gm,2,none⟩ z2).setCell ⟨gm,3,none⟩ z3).setCell ⟨gm,4,none⟩ z4).cell? ⟨gm,4,none⟩ = some z4 := by
 obtain ⟨a,b,c,rfl⟩:∃ a b c,vs = [a,b,c] := by
  match vs,l1 with
  | [a,b,c],_ => exact ⟨a,b,c,rfl⟩
 obtain ⟨a',b',c',d',e',rfl⟩:∃ a b c d e,us = [a,b,c,d,e] := by
  match us,l2 with
  | [a,b,c,d,e],_ => exact ⟨a,b,c,d,e,rfl⟩
 have r1:=((((((((h1.set 0 y0).set 1 y1).set 2 y2).other (a := ⟨gm,0,none⟩) hne z0).other (a := ⟨gm,1,none⟩) hne z1).other (a := ⟨gm,2,none⟩) hne z2).other (a := ⟨gm,3,none⟩) hne z3).other (a := ⟨gm,4,none⟩) hne z4)
 have r2:=((((((((h2.other (a := ⟨gd,0,none⟩) (Ne.symm hne) y0).other (a := ⟨gd,1,none⟩) (Ne.symm hne) y1).other (a := ⟨gd,2,none⟩) (Ne.symm hne) y2).set 0 z0).set 1 z1).set 2 z2).set 3 z3).set 4 z4)
 exact ⟨r1.cell (i := 0) (by simp),r1.cell (i := 1) (by simp),r1.cell (i := 2) (by simp),r2.cell (i := 0) (by simp),r2.cell (i := 1) (by simp),r2.cell (i := 2) (by simp),r2.cell (i := 3) (by simp),r2.cell (i := 4) (by simp)⟩
theorem box3 {W:World} {g:Nat} {t:TypeId} {a b c:Value} (h:Row W g t [a,b,c]):W.cell? ⟨g,0,none⟩ = some a ∧ W.cell? ⟨g,1,none⟩ = some b ∧ W.cell? ⟨g,2,none⟩ = some c ∧ ∀ o,W.frozen? ⟨g,o,none⟩ = false :=
 ⟨h.cell (i := 0) (by simp),h.cell (i := 1) (by simp),h.cell (i := 2) (by simp),h.free⟩
theorem box5 {W:World} {g:Nat} {t:TypeId} {a b c d e:Value} (h:Row W g t [a,b,c,d,e]):W.cell? ⟨g,0,none⟩ = some a ∧ W.cell? ⟨g,1,none⟩ = some b ∧ W.cell? ⟨g,2,none⟩ = some c ∧ W.cell? ⟨g,3,none⟩ = some d ∧ W.cell? ⟨g,4,none⟩ = some e ∧ ∀ o,W.frozen? ⟨g,o,none⟩ = false :=
 ⟨h.cell (i := 0) (by simp),h.cell (i := 1) (by simp),h.cell (i := 2) (by simp),h.cell (i := 3) (by simp),h.cell (i := 4) (by simp),h.free⟩
theorem own_grown {w w':World} {base:Nat} {e:TypeId} {g g' n c:Nat} {xs:List Value} (h:w.ownsRow base e 1 (.slice (some ⟨g,0,none⟩) n c) n xs) (hg:w.grownBy w' (some g')) (hne:g ≠ g'):w'.ownsRow base e 1 (.slice (some ⟨g,0,none⟩) n c) n xs := by
 refine ⟨h.1,?_⟩
 rcases h.2 with hz | ⟨k,cap,cur,r1,r2,r3,r4⟩
 ·exact .inl hz
 ·injection r1 with e1 e2 e3
  injection e1 with e1
  injection e1 with e1
  subst e1
  subst e3
  exact .inr ⟨g,c,cur,rfl,r2,(hg.block g (lt_of_heap r3) (by intro h; injection h; omega)).trans r3,r4⟩
theorem own_ints {w:World} {base:Nat} {e:TypeId} {g n c:Nat} {zs:List Int} (h:w.ownsRow base e 1 (.slice (some ⟨g,0,none⟩) n c) n (zs.map (.int .i64))):IntsAt w (some ⟨g,0,none⟩) n zs := by
 have hl:=h.1
 refine ⟨by simpa using hl,fun _ => ⟨g,0,rfl,fun j u hu => ?_⟩⟩
 rw [Nat.zero_add]
 have hj:j < n:=by
  have:=(List.getElem?_eq_some_iff.mp hu).1
  simp at this hl
  omega
 rw [World.ownsRow.cellAt h j (by simpa using hj)]
 exact hu
theorem OwnN.ints {w:World} {base g n c:Nat} {l:List Nat} (h:OwnN w base g n c l):IntsAt w (some ⟨g,0,none⟩) n (nats l) := by
 refine own_ints (base := base) (e := 3) (c := c) ?_
 unfold OwnN at h
 unfold nats
 rw [List.map_map]
 exact h
theorem Row.drew' {w W:World} {g:Nat} {t:TypeId} {vs:List Value} (e:W = w.drew) (h:Row w g t vs):Row W g t vs := e ▸ h
theorem own_drew {w W:World} {base:Nat} {t:TypeId} {v:Value} {n:Nat} {xs:List Value} (e:W = w.drew) (h:w.ownsRow base t 1 v n xs):W.ownsRow base t 1 v n xs := by subst e; exact h
theorem OwnN.drew' {w W:World} {base g n c:Nat} {l:List Nat} (e:W = w.drew) (h:OwnN w base g n c l):OwnN W base g n c l := by subst e; exact h
def kI0 (n:Nat) (sg:Int) (ov:Bool):Nat := if ov then (if sg = -1 then 4 * n + 1 else 4 * n + 3) else 4 * n
def kO0 (n:Nat) (sg:Int) (ov:Bool):Nat := if ov then (if sg = -1 then 4 * n + 3 else 4 * n + 1) else 4 * n + 2
def kI1 (n:Nat) (sg:Int) (ov:Bool):Nat := if ov then 4 * n else (if sg = -1 then 4 * n + 1 else 4 * n + 3)
def kO1 (n:Nat) (sg:Int) (ov:Bool):Nat := if ov then 4 * n + 2 else (if sg = -1 then 4 * n + 3 else 4 * n + 1)
def crl (d:Pl.Dg) (x sg:Int) (ov:Bool):Pl.Dg where
 sg := d.sg ++ [sg]
 mt := if x < 0 then jn (jn (d.mt ++ List.replicate 4 0) (kO0 d.n sg ov) (kI1 d.n sg ov)) (kO1 d.n sg ov) (kI0 d.n sg ov) else jn (jn (jn (d.mt ++ List.replicate 4 0) (kO0 d.n sg ov) (kI1 d.n sg ov)) (kO1 d.n sg ov) (d.m x.toNat)) x.toNat (kI0 d.n sg ov)
 lp := if x < 0 then d.lp - 1 else d.lp
theorem crl_n (d:Pl.Dg) (x sg:Int) (ov:Bool):(crl d x sg ov).n = d.n + 1 := by unfold Pl.Dg.n crl; simp
def CurlPost (d:Pl.Dg) (x sg:Int) (ov:Bool) (w:World) (e:Ending) (w':World):Prop := (curlableC d x ≠ 0 → ResErr (curlableC d x) e) ∧ (curlableC d x = 0 → ResOk (crl d x sg ov) ⟨2,d.n,0,0,false⟩ e w') ∧ Below w.heap.size w w'
theorem Row.cast {W W3:World} {g:Nat} {t:TypeId} {vs:List Value} (h:W3 = W) (r:Row W g t vs):Row W3 g t vs := h ▸ r
set_option maxRecDepth 100000 in
set_option maxHeartbeats 4000000 in
theorem curl_any (d:Pl.Dg) (hd:Pl.Wf d) (A B:Option Addr) (cp cq:Nat) (k x y sg:Int) (ov:Bool) (w:World) (hg:DgAt w A B d) (hx:-1 ≤ x ∧ x < 4 * d.n) (hsg:sg = 1 ∨ sg = -1) :
 Calls Tryz.prog 46 #[.agg #[.slice A d.n cp,.slice B (4 * d.n) cq,.int .i64 d.lp],.agg #[.int .i64 k,.int .i64 x,.int .i64 y,.int .i64 sg,.bool ov]] w (CurlPost d x sg ov w) := by
 have hn:=hd.few
 have hlp:=hd.lp
 obtain ⟨m,hm⟩:∃ m,m = 4 * d.n := ⟨_,rfl⟩
 have HG:=hide hg
 clear hg
 rw [← hm]
 have HM:=hide hm
 clear hm
 have b0:Below w.heap.size w ((((w.alloc (.cells #[.slice A d.n cp,.slice B m cq,.int .i64 d.lp] 24)).alloc (.cells #[.int .i64 k,.int .i64 x,.int .i64 y,.int .i64 sg,.bool ov] 43)).alloc (.cells #[.slice none 0 0,.slice none 0 0,.int .i64 0] 24)).alloc (.cells #[.int .i64 0,.int .i64 0,.int .i64 0,.int .i64 0,.bool false] 43)):=((((Below.refl _ _).alloc (Nat.le_refl _) _).alloc (by simp) _).alloc (by simp; omega) _).alloc (by simp; omega) _
 have x2:Row ((((w.alloc (.cells #[.slice A d.n cp,.slice B m cq,.int .i64 d.lp] 24)).alloc (.cells #[.int .i64 k,.int .i64 x,.int .i64 y,.int .i64 sg,.bool ov] 43)).alloc (.cells #[.slice none 0 0,.slice none 0 0,.int .i64 0] 24)).alloc (.cells #[.int .i64 0,.int .i64 0,.int .i64 0,.int .i64 0,.bool false] 43)) (w.heap.size + 1 + 1) 24 [.slice none 0 0,.slice none 0 0,.int .i64 0]:=by
  have:=(Row.new ((w.alloc (.cells #[.slice A d.n cp,.slice B m cq,.int .i64 d.lp] 24)).alloc (.cells #[.int .i64 k,.int .i64 x,.int .i64 y,.int .i64 sg,.bool ov] 43)) 24 [.slice none 0 0,.slice none 0 0,.int .i64 0]).alloc (.cells #[.int .i64 0,.int .i64 0,.int .i64 0,.int .i64 0,.bool false] 43)
  simpa using this
 have x3:Row ((((w.alloc (.cells #[.slice A d.n cp,.slice B m cq,.int .i64 d.lp] 24)).alloc (.cells #[.int .i64 k,.int .i64 x,.int .i64 y,.int .i64 sg,.bool ov] 43)).alloc (.cells #[.slice none 0 0,.slice none 0 0,.int .i64 0] 24)).alloc (.cells #[.int .i64 0,.int .i64 0,.int .i64 0,.int .i64 0,.bool false] 43)) (w.heap.size + 1 + 1 + 1) 43 [.int .i64 0,.int .i64 0,.int .i64 0,.int .i64 0,.bool false]:=by
  have:=Row.new (((w.alloc (.cells #[.slice A d.n cp,.slice B m cq,.int .i64 d.lp] 24)).alloc (.cells #[.int .i64 k,.int .i64 x,.int .i64 y,.int .i64 sg,.bool ov] 43)).alloc (.cells #[.slice none 0 0,.slice none 0 0,.int .i64 0] 24)) 43 [.int .i64 0,.int .i64 0,.int .i64 0,.int .i64 0,.bool false]
  simpa using this
 have X0:=hide (show Row ((((w.alloc (.cells #[.slice A d.n cp,.slice B m cq,.int .i64 d.lp] 24)).alloc (.cells #[.int .i64 k,.int .i64 x,.int .i64 y,.int .i64 sg,.bool ov] 43)).alloc (.cells #[.slice none 0 0,.slice none 0 0,.int .i64 0] 24)).alloc (.cells #[.int .i64 0,.int .i64 0,.int .i64 0,.int .i64 0,.bool false] 43)) w.heap.size 24 [.slice A d.n cp,.slice B m cq,.int .i64 d.lp] from (((Row.new w _ [.slice A d.n cp,.slice B m cq,.int .i64 d.lp]).alloc _).alloc _).alloc _)
 have X1:=hide (show Row ((((w.alloc (.cells #[.slice A d.n cp,.slice B m cq,.int .i64 d.lp] 24)).alloc (.cells #[.int .i64 k,.int .i64 x,.int .i64 y,.int .i64 sg,.bool ov] 43)).alloc (.cells #[.slice none 0 0,.slice none 0 0,.int .i64 0] 24)).alloc (.cells #[.int .i64 0,.int .i64 0,.int .i64 0,.int .i64 0,.bool false] 43)) (w.heap.size + 1) 43 [.int .i64 k,.int .i64 x,.int .i64 y,.int .i64 sg,.bool ov] by
  have:=((Row.new (w.alloc (.cells #[.slice A d.n cp,.slice B m cq,.int .i64 d.lp] 24)) 43 [.int .i64 k,.int .i64 x,.int .i64 y,.int .i64 sg,.bool ov]).alloc (.cells #[.slice none 0 0,.slice none 0 0,.int .i64 0] 24)).alloc (.cells #[.int .i64 0,.int .i64 0,.int .i64 0,.int .i64 0,.bool false] 43)
  simpa using this)
 have X2:=hide x2
 have X3:=hide x3
 clear x2 x3
 go_enter Tryz.func46,Tryz.ntmps46
 go_wp2_with fail
 refine (curlable_m d A B cp cq m k x y sg ov _ HM.out (HG.out.keep b0) hn hlp hx).mono ?_
 rintro e w1 ⟨rfl,hb1⟩
 have b1:=b0.trans (hb1.mono b0.size)
 have Y0:=hide (X0.out.below hb1)
 have Y1:=hide (X1.out.below hb1)
 have Y2:=hide (X2.out.below hb1)
 have Y3:=hide (X3.out.below hb1)
 obtain ⟨hc,hf⟩:=bcell hb1
 have hsz:w.heap.size + 3 < w1.heap.size:=by have := hb1.size; simp at this; omega
 have l1:w.heap.size < w1.heap.size:=by omega
 have l2:w.heap.size + 1 < w1.heap.size:=by omega
 have l3:w.heap.size + 1 + 1 < w1.heap.size:=by omega
 have l4:w.heap.size + 1 + 1 + 1 < w1.heap.size:=by omega
 by_cases hC:curlableC d x = 0
 ·have t1:(curlableC d x != 0) = false:=by rw [bne_eq_false_iff_eq]; exact hC
  have HC:=hide hC
  clear hC
  have b2:Below w.heap.size w (w1.alloc (.cells #[.int .i64 sg] 3)):=b1.alloc (by omega) _
  have HSS:=hide (show IntsAt (w1.alloc (.cells #[.int .i64 sg] 3)) (some ⟨w1.heap.size,0,none⟩) 1 [sg] by
   refine ⟨rfl,fun _ => ⟨_,0,rfl,fun j u hu => ?_⟩⟩
   match j,hu with
   | 0,hu => simp at hu; subst hu; exact (Lib.cell_of_heap (heap_alloc_new w1 _) 0).trans rfl)
  rcases hsg with rfl | rfl <;> cases ov
  all_goals
   go_wp2_with fail
   refine (grown_any d A B cp cq 1 1 w1.heap.size m 4 [_] _ HM.out (by omega) (HG.out.keep b2) HSS.out (by omega) (by omega) (by omega)).mono ?_
   rintro e w2 ⟨g1,c1,g2,c2,rfl,own1,own2,hne,hb2⟩
   have b3:=b2.trans (hb2.mono b2.size)
   have hsz2:w1.heap.size + 1 ≤ w2.heap.size:=by have := hb2.size; simp at this; omega
   have k1:w.heap.size + 1 + 1 + 1 < w2.heap.size:=by omega
   obtain ⟨W3,hW3⟩:∃ W3:World,W3 = w2.alloc (.cells #[.slice (some ⟨g1,0,none⟩) (d.n + 1) c1,.slice (some ⟨g2,0,none⟩) (m + 4) c2,.int .i64 d.lp] 24) := ⟨_,rfl⟩
   have Z0:=hide (show Row W3 w.heap.size 24 [.slice A d.n cp,.slice B m cq,.int .i64 d.lp] by rw [hW3]; exact ((Y0.out.alloc _).below hb2).alloc _)
   have Z1:=hide (Row.cast hW3 (((Y1.out.alloc _).below hb2).alloc _))
   have T2:=hide (show Row W3 (w.heap.size + 1 + 1) 24 [.slice none 0 0,.slice none 0 0,.int .i64 0] by rw [hW3]; exact ((Y2.out.alloc _).below hb2).alloc _)
   have T3:=hide (show Row W3 (w.heap.size + 1 + 1 + 1) 43 [.int .i64 0,.int .i64 0,.int .i64 0,.int .i64 0,.bool false] by rw [hW3]; exact ((Y3.out.alloc _).below hb2).alloc _)
   have Z9:=hide (show Row W3 w2.heap.size 24 [.slice (some ⟨g1,0,none⟩) (d.n + 1) c1,.slice (some ⟨g2,0,none⟩) (m + 4) c2,.int .i64 d.lp] by rw [hW3]; exact Row.new w2 _ _)
   have ZN:=hide (show OwnN W3 w1.heap.size g2 (m + 4) c2 (d.mt ++ List.replicate 4 0) by rw [hW3]; exact own_keep own2 ((Below.refl _ _).alloc (Nat.le_refl _) _) (by simp))
   obtain ⟨e0,e1,e2,e3,e4,e5⟩:=box5 (((Y1.out.alloc (.cells #[.int .i64 _] 3)).below hb2).alloc (.cells #[.slice (some ⟨g1,0,none⟩) (d.n + 1) c1,.slice (some ⟨g2,0,none⟩) (m + 4) c2,.int .i64 d.lp] 24))
   have T1:=hide (own_keep own1 ((Below.refl _ _).alloc (Nat.le_refl _) (.cells #[.slice (some ⟨g1,0,none⟩) (d.n + 1) c1,.slice (some ⟨g2,0,none⟩) (m + 4) c2,.int .i64 d.lp] 24)) (Nat.le_refl _))
   rw [← hW3] at T1
   obtain ⟨g2',eg2,lg2,ug2⟩:=owns_pos (by omega) own2
   injection eg2 with eg2
   injection eg2 with eg2 eg3
   subst eg2
   simp at lg2
   obtain ⟨g1',eg1,lg1,ug1⟩:=owns_pos (by omega) own1
   injection eg1 with eg1
   injection eg1 with eg1 eg4
   subst eg1
   simp at lg1
   clear own1 own2 t1 eg3 eg4
   go_wp2_with fail
   rw [← hW3]
   clear e0 e1 e2 e3 e4 e5
   refine (join_int w1.heap.size g2 (m + 4) c2 _ _ (d.mt ++ List.replicate 4 0) W3 ZN.out (by have := HM.out; omega) (by have := HM.out; omega) (by have := HM.out; omega)).mono ?_
   rintro e w4 ⟨rfl,own4,gr4⟩
   have V0:=hide (Z0.out.grown gr4 (by intro h; injection h; omega))
   have V1:=hide (Z1.out.grown gr4 (by intro h; injection h; omega))
   have V9:=hide (Z9.out.grown gr4 (by intro h; injection h; omega))
   have hs4:w2.heap.size + 1 ≤ w4.heap.size:=by have := gr4.size; rw [hW3] at this; simpa using this
   have b33:Below w.heap.size w W3:=by rw [hW3]; exact b3.alloc (by omega) _
   have b4:Below w.heap.size w w4:=b33.grown gr4 b33.size (fun k hk => by injection hk with hk; omega)
   clear b33
   have HG4:=hide (HG.out.keep b4)
   have v1:w4.cell? ⟨w.heap.size + 1,1,none⟩ = some (.int .i64 x):=V1.out.cell (i := 1) (by show 1 < 5; omega)
   have OWN4:=hide own4
   have v9:w4.cell? ⟨w2.heap.size,1,none⟩ = some (.slice (some ⟨g2,0,none⟩) (m + 4) c2):=V9.out.cell (i := 1) (by show 1 < 3; omega)
   have v0:w4.cell? ⟨w.heap.size,1,none⟩ = some (.slice B m cq):=V0.out.cell (i := 1) (by show 1 < 3; omega)
   clear own4
   by_cases hx0:x < 0
   ·have t2:decide (x < 0) = true:=by simpa using hx0
    go_wp2_with fail
    refine (join_int w1.heap.size g2 (m + 4) c2 _ _ _ w4 OWN4.out (by have := HM.out; omega) (by have := HM.out; omega) (by have := HM.out; omega)).mono ?_
    rintro e w5 ⟨rfl,own5,gr5⟩
    have U9:=hide (V9.out.grown gr5 (by intro h; injection h; omega))
    have hs5:=gr5.size
    have b5:Below w.heap.size w w5:=b4.grown gr5 b4.size (fun k hk => by injection hk with hk; omega)
    have R2:=hide (show Row w5 (w.heap.size + 1 + 1) 24 [.slice none 0 0,.slice none 0 0,.int .i64 0] from (T2.out.grown gr4 (by intro h; injection h; omega)).grown gr5 (by intro h; injection h; omega))
    have R3:=hide (show Row w5 (w.heap.size + 1 + 1 + 1) 43 [.int .i64 0,.int .i64 0,.int .i64 0,.int .i64 0,.bool false] from (T3.out.grown gr4 (by intro h; injection h; omega)).grown gr5 (by intro h; injection h; omega))
    obtain ⟨q0,q1,q2,q3⟩:=box3 R2.out
    obtain ⟨p0,p1,p2,p3,p4,p5⟩:=box5 R3.out
    have u9:w5.cell? ⟨w2.heap.size,2,none⟩ = some (.int .i64 d.lp):=U9.out.cell (i := 2) (by show 2 < 3; omega)
    have u90:w5.cell? ⟨w2.heap.size,0,none⟩ = some (.slice (some ⟨g1,0,none⟩) (d.n + 1) c1):=U9.out.cell (i := 0) (by show 0 < 3; omega)
    have u91:w5.cell? ⟨w2.heap.size,1,none⟩ = some (.slice (some ⟨g2,0,none⟩) (m + 4) c2):=U9.out.cell (i := 1) (by show 1 < 3; omega)
    have uf:w5.frozen? ⟨w2.heap.size,2,none⟩ = false:=U9.out.free 2
    have OWN5:=hide own5
    have S5:=hide (own_grown (own_grown T1.out gr4 hne) gr5 hne)
    clear own5 gr4 gr5 v9 v0 v1
    go_wp2_with fail
    clear q0 q1 q2 q3 p0 p1 p2 p3 p4 p5
    refine bodyPost_ret (v := .tuple #[.agg #[.slice (some ⟨g1,0,none⟩) (d.n + 1) c1,.slice (some ⟨g2,0,none⟩) (m + 4) c2,.int .i64 ((d.lp:Int) - 1)],.agg #[.int .i64 2,.int .i64 d.n,.int .i64 0,.int .i64 0,.bool false],.int .i64 0]) ?_ rfl ?_
    ·obtain ⟨e0,e1,e2,e3,e4,e5,e6,e7⟩:=fin8 (R2.out.other (a := ⟨w2.heap.size,2,none⟩) (by show _ ≠ w2.heap.size; omega) (.int .i64 ((d.lp:Int) - 1))) (R3.out.other (a := ⟨w2.heap.size,2,none⟩) (by show _ ≠ w2.heap.size; omega) (.int .i64 ((d.lp:Int) - 1))) rfl rfl (by omega) (.slice (some ⟨g1,0,none⟩) (d.n + 1) c1) (.slice (some ⟨g2,0,none⟩) (m + 4) c2) (.int .i64 ((d.lp:Int) - 1)) (.int .i64 2) (.int .i64 d.n) (.int .i64 0) (.int .i64 0) (.bool false)
     simp [results,Tryz.results46,go_sem,e0,e1,e2,e3,e4,e5,e6,e7]
    ·have hl1 : 1 ≤ d.lp := by
      have:=HC.out
      unfold curlableC at this
      rw [if_pos hx0] at this
      by_cases h0:d.lp = 0
      ·rw [if_pos h0] at this; omega
      ·omega
     have en:=crl_n d x
     have em:m + 4 = 4 * (d.n + 1):=by have := HM.out; omega
     have el:((d.lp:Int) - 1) = ((d.lp - 1:Nat):Int):=by omega
     have O5:=OWN5.out
     simp only [show (4 * (d.n:Int)).toNat = 4 * d.n by omega,show (4 * (d.n:Int) + 1).toNat = 4 * d.n + 1 by omega,show (4 * (d.n:Int) + 2).toNat = 4 * d.n + 2 by omega,show (4 * (d.n:Int) + 3).toNat = 4 * d.n + 3 by omega] at O5
     refine ⟨fun h => absurd HC.out h,fun _ => ⟨some ⟨g1,0,none⟩,some ⟨g2,0,none⟩,c1,c2,?_,?_,?_⟩,?_⟩
     ·rw [en,el,em]
      unfold crl Mv.v
      simp only [if_pos hx0]
     ·rw [en]
      refine own_intsT (base := w1.heap.size + 1) (e := 3) (c := c1) ?_
      (iterate 9 refine own_set ?_ (by omega))
      have:=S5.out
      simp at this
      simpa [crl] using this
     ·rw [en,← em]
      refine OwnN.intsT (base := w1.heap.size) (c := c2) ?_
      unfold OwnN
      (iterate 9 refine own_set ?_ (by omega))
      unfold OwnN at O5
      unfold crl kI0 kI1 kO0 kO1
      simp only [if_pos hx0]
      first
       | exact O5
       | (simp; exact O5)
       | (simp at O5 ⊢; exact O5)
     ·exact (((((((((b5.setCell (by simp; omega) _).setCell (by simp; omega) _).setCell (by simp; omega) _).setCell (by simp; omega) _).setCell (by simp; omega) _).setCell (by simp; omega) _).setCell (by simp; omega) _).setCell (by simp; omega) _).setCell (by simp; omega) _)
   ·obtain ⟨q,rfl⟩:=Int.eq_ofNat_of_zero_le (show 0 ≤ x by omega)
    have t2:decide ((q:Int) < 0) = false:=by simp
    have hq:q < 4 * d.n:=by omega
    obtain ⟨b,o,rfl,cm⟩:=mate_at HG4.out.m hq
    have hmn:d.m q < 4 * d.n:=hd.lt q hq
    have hqm:q < m:=by have := HM.out; omega
    have hqm2:(q:Int) < (m:Int):=by omega
    have hqm3:(0:Int) ≤ (q:Int):=by omega
    go_upto_region 17 with fail
    go_still_tail 9,(by kernel_rfl)
    change wpList _ _ _ _ _ w4.drew
    obtain ⟨W6,hW6⟩:∃ W6:World,W6 = w4.drew := ⟨_,rfl⟩
    rw [← hW6]
    have OWN6:=hide (OwnN.drew' hW6 OWN4.out)
    have S6:=hide (own_drew hW6 (own_grown T1.out gr4 hne))
    have R26:=hide (Row.drew' hW6 (T2.out.grown gr4 (by intro h; injection h; omega)))
    have R36:=hide (Row.drew' hW6 (T3.out.grown gr4 (by intro h; injection h; omega)))
    have V16:=hide (Row.drew' hW6 V1.out)
    have V96:=hide (Row.drew' hW6 V9.out)
    have b6:Below w.heap.size w W6:=by rw [hW6]; exact b4.drew
    have hs6:w2.heap.size + 1 ≤ W6.heap.size:=by rw [hW6]; exact hs4
    clear hW6
    clear gr4 v9 v0 v1 cm
    go_wp2_with fail
    refine (join_int w1.heap.size g2 (m + 4) c2 _ _ _ W6 OWN6.out (by have := HM.out; omega) (by have := HM.out; omega) (by have := HM.out; omega)).mono ?_
    rintro e w5 ⟨rfl,own5,gr5⟩
    have V15:=hide (V16.out.grown gr5 (by intro h; injection h; omega))
    have V95:=hide (V96.out.grown gr5 (by intro h; injection h; omega))
    have S5:=hide (own_grown S6.out gr5 hne)
    have R25:=hide (R26.out.grown gr5 (by intro h; injection h; omega))
    have R35:=hide (R36.out.grown gr5 (by intro h; injection h; omega))
    have b5:Below w.heap.size w w5:=b6.grown gr5 b6.size (fun k hk => by injection hk with hk; omega)
    have hs5:=gr5.size
    have OWN5:=hide own5
    have v9:w5.cell? ⟨w2.heap.size,1,none⟩ = some (.slice (some ⟨g2,0,none⟩) (m + 4) c2):=V95.out.cell (i := 1) (by show 1 < 3; omega)
    have v1:w5.cell? ⟨w.heap.size + 1,1,none⟩ = some (.int .i64 (q:Int)):=V15.out.cell (i := 1) (by show 1 < 5; omega)
    clear own5 gr5
    go_wp2_with fail
    refine (join_int w1.heap.size g2 (m + 4) c2 _ _ _ w5 OWN5.out (by have := HM.out; omega) (by have := HM.out; omega) (by have := HM.out; omega)).mono ?_
    rintro e w7 ⟨rfl,own7,gr7⟩
    have S7:=hide (own_grown S5.out gr7 hne)
    have R2:=hide (show Row w7 (w.heap.size + 1 + 1) 24 [.slice none 0 0,.slice none 0 0,.int .i64 0] from R25.out.grown gr7 (by intro h; injection h; omega))
    have R3:=hide (show Row w7 (w.heap.size + 1 + 1 + 1) 43 [.int .i64 0,.int .i64 0,.int .i64 0,.int .i64 0,.bool false] from R35.out.grown gr7 (by intro h; injection h; omega))
    have b7:Below w.heap.size w w7:=b5.grown gr7 b5.size (fun k hk => by injection hk with hk; omega)
    obtain ⟨q0,q1,q2,q3⟩:=box3 R2.out
    obtain ⟨p0,p1,p2,p3,p4,p5⟩:=box5 R3.out
    obtain ⟨u0,u1,u2,u3⟩:=box3 (V95.out.grown gr7 (by intro h; injection h; omega))
    have OWN7:=hide own7
    clear own7 gr7 v9 v1
    go_wp2_with fail
    clear q0 q1 q2 q3 p0 p1 p2 p3 p4 p5 u0 u1 u2 u3
    refine bodyPost_ret (v := .tuple #[.agg #[.slice (some ⟨g1,0,none⟩) (d.n + 1) c1,.slice (some ⟨g2,0,none⟩) (m + 4) c2,.int .i64 (d.lp:Int)],.agg #[.int .i64 2,.int .i64 d.n,.int .i64 0,.int .i64 0,.bool false],.int .i64 0]) ?_ rfl ?_
    ·obtain ⟨e0,e1,e2,e3,e4,e5,e6,e7⟩:=fin8 R2.out R3.out rfl rfl (by omega) (.slice (some ⟨g1,0,none⟩) (d.n + 1) c1) (.slice (some ⟨g2,0,none⟩) (m + 4) c2) (.int .i64 (d.lp:Int)) (.int .i64 2) (.int .i64 d.n) (.int .i64 0) (.int .i64 0) (.bool false)
     simp [results,Tryz.results46,go_sem,e0,e1,e2,e3,e4,e5,e6,e7]
    ·have en:=crl_n d (q:Int)
     have em:m + 4 = 4 * (d.n + 1):=by have := HM.out; omega
     have O5:=OWN7.out
     simp only [Int.toNat_natCast,show (4 * (d.n:Int)).toNat = 4 * d.n by omega,show (4 * (d.n:Int) + 1).toNat = 4 * d.n + 1 by omega,show (4 * (d.n:Int) + 2).toNat = 4 * d.n + 2 by omega,show (4 * (d.n:Int) + 3).toNat = 4 * d.n + 3 by omega] at O5
     refine ⟨fun h => absurd HC.out h,fun _ => ⟨some ⟨g1,0,none⟩,some ⟨g2,0,none⟩,c1,c2,?_,?_,?_⟩,?_⟩
     ·rw [en,em]
      unfold crl Mv.v
      simp only [if_neg (show ¬ ((q:Int) < 0) by omega)]
     ·rw [en]
      refine own_intsT (base := w1.heap.size + 1) (e := 3) (c := c1) ?_
      (iterate 8 refine own_set ?_ (by omega))
      have:=S7.out
      simp at this
      simpa [crl] using this
     ·rw [en,← em]
      refine OwnN.intsT (base := w1.heap.size) (c := c2) ?_
      unfold OwnN
      (iterate 8 refine own_set ?_ (by omega))
      unfold OwnN at O5
      unfold crl kI0 kI1 kO0 kO1
      simp only [if_neg (show ¬ ((q:Int) < 0) by omega),Int.toNat_natCast]
      first
       | exact O5
       | (simp; exact O5)
       | (simp at O5 ⊢; exact O5)
     ·exact ((((((((b7.setCell (by simp; omega) _).setCell (by simp; omega) _).setCell (by simp; omega) _).setCell (by simp; omega) _).setCell (by simp; omega) _).setCell (by simp; omega) _).setCell (by simp; omega) _).setCell (by simp; omega) _)
 ·have t1:(curlableC d x != 0) = true:=by rw [bne_iff_ne]; exact hC
  go_wp2
  refine bodyPost_ret (v := .tuple #[nilD,nilM,.int .i64 (curlableC d x)]) ?_ rfl ?_
  rotate_left 1
  ·refine ⟨fun _ => (show ResErr _ _ from rfl),fun h => absurd h hC,?_⟩
   exact (((((((b1.setCell (by simp; omega) _).setCell (by simp; omega) _).setCell (by simp; omega) _).setCell (by simp; omega) _).setCell (by simp; omega) _).setCell (by simp; omega) _).setCell (by simp; omega) _).setCell (by simp; omega) _
  ·obtain ⟨e0,e1,e2,e3,e4,e5,e6,e7⟩:=fin8 Y2.out Y3.out rfl rfl (by omega) (.slice none 0 0) (.slice none 0 0) (.int .i64 0) (.int .i64 0) (.int .i64 0) (.int .i64 0) (.int .i64 0) (.bool false)
   unfold nilD nilM
   simp [results,Tryz.results46,go_sem,e0,e1,e2,e3,e4,e5,e6,e7]
end Go.Proofs.YtghdiolnonejaaaGreatDoor
end
section
namespace Go.Proofs.YtghdiolnonejaaaGreatDoor
open Go.RowKit
def ClosedPost (l:List Nat) (base g n cap a b:Nat) (w:World) (e:Ending) (w':World):Prop :=
 e = .returned (.int .i64 (if l.getD a 0 = b then 1 else 0)) ∧ OwnN w' base g n cap (if l.getD a 0 = b then l else jn l (l.getD a 0) (l.getD b 0)) ∧ w.grownBy w' (some g)
theorem grown_refl (w:World) (r:Option Nat):w.grownBy w r := ⟨rfl,rfl,rfl,Nat.le_refl _,fun _ _ _ => rfl⟩
theorem grown_drew {w W w':World} {r:Option Nat} (e:W = w.drew) (h:W.grownBy w' r):w.grownBy w' r := by subst e; exact ⟨h.os,h.tape,h.output,h.size,h.block⟩
set_option maxRecDepth 100000 in
set_option maxHeartbeats 1000000 in
theorem closed_any (base g n cap a b:Nat) (l:List Nat) (w:World) (h:OwnN w base g n cap l) (ha:a < n) (hb:b < n) (hn:n ≤ 100000) (hl:∀ k,k < n → l.getD k 0 < n) :
 Calls Tryz.prog 77 #[.slice (some ⟨g,0,none⟩) n cap,.int .i64 (a:Int),.int .i64 (b:Int)] w (ClosedPost l base g n cap a b w) := by
 have c1:=h.cell ha
 have c2:=h.cell hb
 have la:=hl a ha
 have lb:=hl b hb
 obtain ⟨x,hx⟩:∃ x,x = l.getD a 0 := ⟨_,rfl⟩
 obtain ⟨y,hy⟩:∃ y,y = l.getD b 0 := ⟨_,rfl⟩
 rw [← hx] at c1 la
 rw [← hy] at c2 lb
 have HH:=hide h
 have HX:=hide hx
 have HY:=hide hy
 clear h hx hy
 go_enter Tryz.func77,Tryz.ntmps77
 by_cases hxb:x = b
 ·subst hxb
  go_wp2
  go_ret
  refine ⟨ret_int ?_,?_,grown_refl _ _⟩
  ·rw [if_pos HX.out.symm]
  ·rw [if_pos HX.out.symm]; exact HH.out
 ·have t1:((x:Int) == (b:Int)) = false:=by rw [beq_eq_false_iff_ne]; omega
  have i1:(a:Int) < (n:Int):=by omega
  have i2:(b:Int) < (n:Int):=by omega
  have i3:(0:Int) ≤ (a:Int):=by omega
  have i4:(0:Int) ≤ (b:Int):=by omega
  go_wp2_with fail
  go_still_tail 9,(by kernel_rfl)
  change wpList _ _ _ _ _ w.drew
  obtain ⟨W6,hW6⟩:∃ W6:World,W6 = w.drew := ⟨_,rfl⟩
  rw [← hW6]
  have O6:=hide (OwnN.drew' hW6 HH.out)
  have HW:=hide hW6
  clear hW6 c1 c2
  go_wp2_with fail
  refine (join_any base g n cap x y l W6 O6.out la lb hn).mono ?_
  rintro e w5 ⟨rfl,own5,gr5⟩
  have OWN5:=hide own5
  have GR5:=hide gr5
  clear own5 gr5
  go_wp2_with fail
  go_ret
  have hne:¬ l.getD a 0 = b:=by rw [← HX.out]; exact hxb
  refine ⟨ret_int ?_,?_,grown_drew HW.out GR5.out⟩
  ·rw [if_neg hne]
  ·rw [if_neg hne,← HX.out,← HY.out]; exact OWN5.out
end Go.Proofs.YtghdiolnonejaaaGreatDoor
end
section
namespace Go.Proofs.YtghdiolnonejaaaGreatDoor
open Go.RowKit
def boxV (A B:Option Addr) (n cp q cq:Nat) (l:Value):List Value := [.slice A n cp,.slice B q cq,l]
set_option maxRecDepth 100000 in
set_option maxHeartbeats 4000000 in
theorem label_any (d:Pl.Dg) (hd:Pl.Wf d) (A B:Option Addr) (cp cq:Nat) (l:Value) (w:World) (hg:DgAt w A B d) :
 Calls Tryz.prog 40 #[.agg #[.slice A d.n cp,.slice B (4 * d.n) cq,l]] w fun e w' =>
  ∃ (ps:List Int) (P g:Nat),e = .returned (.tuple #[.slice (some ⟨g,0,none⟩) d.n d.n,.int .i64 (P:Int)]) ∧ Pl.LB d ps P ∧ (∀ a,a < d.n → 0 ≤ Pl.pv ps a) ∧ w.heap.size ≤ g ∧ IRow w' g ps ∧ Below w.heap.size w w' := by
 have hn:=hd.few
 have HF:=hide hd
 clear hd
 have hmk:=run_ints d.n (by omega) (w.alloc (.cells #[.slice A d.n cp,.slice B (4 * d.n) cq,l] 24))
 go_enter Tryz.func40,Tryz.ntmps40
 go_wp2
 clear hmk
 obtain ⟨W1,hW1⟩:∃ W1:World,W1 = (w.alloc (.cells #[.slice A d.n cp,.slice B (4 * d.n) cq,l] 24)).alloc (.cells (Array.replicate d.n (Value.int .i64 0)) 3) := ⟨_,rfl⟩
 have B1:=hide (show Below w.heap.size w W1 by rw [hW1]; exact ((Below.refl _ _).alloc (Nat.le_refl _) _).alloc (by simp) _)
 have X1:=hide (show Row W1 w.heap.size 24 (boxV A B d.n cp (4 * d.n) cq l) by rw [hW1]; exact (Row.new w _ _).alloc _)
 have R1:=hide (show IRow W1 (w.heap.size + 1) (List.replicate d.n 0) by
  rw [hW1]
  have:=IRow.made (w.alloc (.cells #[.slice A d.n cp,.slice B (4 * d.n) cq,l] 24)) d.n
  simpa using this)
 rw [← hW1]
 clear hW1
 go_loopg [18] d.n (fun g i wx => ∃ k:Nat,k + g = d.n ∧ i = .int .i64 k ∧ Below w.heap.size w wx ∧ Row wx w.heap.size 24 (boxV A B d.n cp (4 * d.n) cq l) ∧ IRow wx (w.heap.size + 1) (List.replicate k (-1) ++ List.replicate (d.n - k) 0))
 case atStart => exact ⟨0,by omega,rfl,B1.out,X1.out,by simpa using R1.out⟩
 case round =>
  obtain ⟨k,hkg,rfl,b2,x2,r2⟩:=hrel
  have HG:=hide hkg
  have hks:k ≤ d.n:=by omega
  clear hkg
  by_cases hlt:k < d.n
  ·have c1:=r2.cell (i := k) (by simp; omega)
   have f1:=Row.free r2 k
   have B2:=hide b2
   have X2:=hide x2
   have R2:=hide r2
   clear b2 x2 r2
   go_wp2
   go_roundg (gk - 1)
   case measure => have := HG.out; omega
   case rel =>
    refine ⟨k + 1,by have := HG.out; omega,by go_num,?_,X2.out.other (by simp) _,?_⟩
    ·exact B2.out.setCell (by simp) _
    ·have:=R2.out.set k (-1)
     rwa [Pl.fill_set hlt] at this
  ·have hkn:k = d.n:=by omega
   have B2:=hide b2
   have X2:=hide x2
   have R2:=hide (show IRow wr (w.heap.size + 1) (List.replicate d.n (-1)) by subst hkn; simpa using r2)
   clear b2 x2 r2 hkn
   go_wp2
   go_loopg [6,27] d.n (fun g p i wx => ∃ (k P:Nat) (ps:List Int),k + g = d.n ∧ i = .int .i64 k ∧ p = .int .i64 P ∧ Pl.LB d ps P ∧ (∀ a,a < k → 0 ≤ Pl.pv ps a) ∧ Below w.heap.size w wx ∧ Row wx w.heap.size 24 (boxV A B d.n cp (4 * d.n) cq l) ∧ IRow wx (w.heap.size + 1) ps)
   case atStart => exact ⟨0,0,_,by omega,rfl,rfl,Pl.LB.start d,fun a ha => absurd ha (by omega),B2.out,X2.out,R2.out⟩
   case round =>
    clear B2 X2 R2 B1 X1 R1 HG hks hlt
    obtain ⟨j,P,ps,hjg,rfl,rfl,hlb,hall,b3,x3,r3⟩:=hrel
    have HG:=hide hjg
    have HL:=hide hlb
    have HA:=hide hall
    have hjs:j ≤ d.n:=by omega
    have hlen:ps.length = d.n:=hlb.len
    have hP:=hlb.le
    have HLen:=hide hlen
    clear hjg hlb hall
    by_cases hjn:j < d.n
    ·have c1:=r3.cell (i := j) (by omega)
     have f1:=Row.free r3 j
     have B3:=hide b3
     have X3:=hide x3
     have R3:=hide r3
     clear b3 x3 r3 hlen
     by_cases hlab:0 ≤ Pl.pv ps j
     ·go_wp2
      go_roundg (gk - 1)
      case measure => have := HG.out; omega
      case rel =>
       refine ⟨j + 1,P,ps,by have := HG.out; omega,by go_num,rfl,HL.out,fun a ha => ?_,B3.out,X3.out,R3.out⟩
       by_cases e:a = j
       ·rw [e]; exact hlab
       ·exact HA.out a (by omega)
     ·have hneg:Pl.pv ps j < 0:=by omega
      have hjl:j < ps.length:=by have := HLen.out; omega
      obtain ⟨wo,rfl⟩:∃ wo:World,wo = wr := ⟨_,rfl⟩
      have hwz:w.heap.size + 2 ≤ wo.heap.size:=by have := R3.out.lt; omega
      go_wp2
      obtain ⟨W2,hW2⟩:∃ W2:World,W2 = (wo.setCell ⟨w.heap.size + 1,j,none⟩ (.int .i64 P)).alloc (.cells #[.int .i64 j] 3) := ⟨_,rfl⟩
      have B4:=hide (show Below w.heap.size w W2 by rw [hW2]; exact (B3.out.setCell (by simp) _).alloc (by simp; omega) _)
      have X4:=hide (show Row W2 w.heap.size 24 (boxV A B d.n cp (4 * d.n) cq l) by rw [hW2]; exact (X3.out.other (by simp) _).alloc _)
      have R4:=hide (show IRow W2 (w.heap.size + 1) (ps.set j P) by rw [hW2]; exact Row.alloc (R3.out.set j P) _)
      have Q4:=hide (show OwnT W2 (w.heap.size + 2) 3 (.slice (some ⟨wo.heap.size,0,none⟩) 1 1) 1 [.int .i64 j] by
       rw [hW2]
       refine ⟨rfl,wo.heap.size,0,1,#[.int .i64 j],rfl,hwz,?_,by omega,by unfold maxLen; omega,by simp,rfl⟩
       have:=heap_alloc_new (wo.setCell ⟨w.heap.size + 1,j,none⟩ (.int .i64 P)) (.cells #[.int .i64 j] 3)
       simpa using this)
      have HQ:=hide (Pl.LQ.start HL.out hjn hneg)
      have HU:=hide (Pl.unl_set hjl hneg (v := (P:Int)) (by omega))
      rw [← hW2]
      clear hW2 B3 X3 R3 c1 f1 hneg hlab
      go_loopg [8] (Pl.unl (ps.set j P) + 1) (fun g v wx => ∃ (p1:List Int) (qs:List Nat),g = Pl.unl p1 + qs.length ∧ Pl.unl p1 + qs.length ≤ d.n ∧ Pl.LQ d j ps P p1 qs d.n 0 ∧ OwnT wx (w.heap.size + 2) 3 v qs.length (qs.map (fun q:Nat => Value.int .i64 q)) ∧ Below w.heap.size w wx ∧ Row wx w.heap.size 24 (boxV A B d.n cp (4 * d.n) cq l) ∧ IRow wx (w.heap.size + 1) p1)
      case atStart => exact ⟨_,[j],rfl,by have h1 := HU.out; have h2:Pl.unl ps ≤ ps.length := List.countP_le_length; have h3 := HLen.out; simp only [List.length_singleton]; omega,HQ.out,Q4.out,B4.out,X4.out,R4.out⟩
      case round =>
       clear B4 X4 R4 Q4 HQ HU
       obtain ⟨p1,qs,hgk,hgn,hlq,hown,b5,x5,r5⟩:=hrel
       have HGN:=hide hgn
       have HGK:=hide hgk
       have HQ:=hide hlq
       have B5:=hide b5
       have X5:=hide x5
       have R5:=hide r5
       clear hgk hgn hlq b5 x5 r5
       cases qs with
       | nil =>
         obtain ⟨g0,off,cap,rfl,_,_,_,_,_⟩:=hown.cells
         have HD:=hide (Pl.LQ.done HF.out HQ.out)
         simp only [List.length_nil]
         go_wp2
         go_roundg (d.n - (j + 1))
         case measure => have := HG.out; omega
         case rel =>
          refine ⟨j + 1,P + 1,p1,by omega,by go_num,by go_num,HD.out.1,fun a ha => ?_,B5.out,X5.out,R5.out⟩
          by_cases e:a = j
          ·rw [e]; exact HD.out.2.2
          ·exact HD.out.2.1 a (by omega) (HA.out a (by omega))
       | cons q qs =>
         have hqn:q < d.n:=(HQ.out.wait q (by simp)).1
         have HQP:=hide ((HQ.out.wait q (by simp)).2)
         have hown':=hown
         obtain ⟨g0,off,cap,rfl,hg0,hg1,hcl,hcm,hcells⟩:=hown'.cells
         have cq0:wr.cell? ⟨g0,off,none⟩ = some (.int .i64 (q:Int)):=by
          have:=hcells 0 (.int .i64 (q:Int)) rfl
          simpa using this
         rw [List.length_cons] at hown hcl
         rw [List.map_cons] at hown
         have HO:=hide hown
         simp only [List.length_cons]
         unfold maxLen at hcm
         clear hown hcells
         obtain ⟨wo,rfl⟩:∃ wo:World,wo = wr := ⟨_,rfl⟩
         have HP:=hide (HQ.out.pop rfl)
         by_cases hcap:cap = 1
         case' pos =>
          have Q6:=hide (HO.out.tail0 hcap)
          have hq0:qs.length = 0:=by omega
          have HQ0:=hide hq0
          go_wp2
          have HC:=hide hcap
          clear hq0 hcap
         case' neg =>
          have Q6:=hide (show OwnT wo (w.heap.size + 2) 3 (.slice (some ⟨g0,off + 1,none⟩) qs.length (cap - 1)) qs.length (qs.map (fun q:Nat => Value.int .i64 q)) from HO.out.tail)
          go_wp2
         all_goals
          clear HO cq0
          go_loopg [8,49] 4 (fun g v i wx => ∃ (p2:List Int) (qs2:List Nat) (s:Nat),s + g = 4 ∧ i = .int .i64 s ∧ Pl.unl p2 + qs2.length = Pl.unl p1 + qs.length ∧ Pl.LQ d j ps P p2 qs2 q s ∧ Pl.pv p2 q = P ∧ OwnT wx (w.heap.size + 2) 3 v qs2.length (qs2.map (fun q:Nat => Value.int .i64 q)) ∧ Below w.heap.size w wx ∧ Row wx w.heap.size 24 (boxV A B d.n cp (4 * d.n) cq l) ∧ IRow wx (w.heap.size + 1) p2)
          case atStart =>
           refine ⟨p1,qs,0,rfl,rfl,rfl,HP.out,HQP.out,?_,B5.out,X5.out,R5.out⟩
           first
            | exact Q6.out
            | (have h6 := Q6.out; rw [HQ0.out,HC.out] at h6; rw [HQ0.out]; exact h6)
          case round =>
           clear B5 X5 R5 HP HQP Q6
           obtain ⟨p2,qs2,s,hsg,rfl,hum,hlq2,hpq,hown2,b6,x6,r6⟩:=hrel
           have HSG:=hide hsg
           have HUM:=hide hum
           have HQ2:=hide hlq2
           have HPQ:=hide hpq
           have HO2:=hide hown2
           have hs4:s ≤ 4:=by omega
           have HL2:=hide hlq2.len
           obtain ⟨g2,off2,cap2,rfl,hg20,hg21,hcl2,hcm2,_⟩:=hown2.cells
           unfold maxLen at hcm2
           clear hsg hum hlq2 hpq hown2
           by_cases hs:s < 4
           ·have hi:4 * q + s < 4 * d.n:=by omega
            obtain ⟨bb,bo,rfl,hmc⟩:=mate_at hg.m hi
            have hmc':=cell_below hmc b6
            have hnb:=Pl.nb_lt HF.out hqn hs
            have hml:=HF.out.lt _ hi
            have hnl:Pl.nb d q s < p2.length:=by have := HL2.out; omega
            have c7:=r6.cell hnl
            have f7:=Row.free r6 (Pl.nb d q s)
            have B6:=hide b6
            have X6:=hide x6
            have R6:=hide r6
            have x7:=x6.cell (i := 1) (by show 1 < 3; omega)
            have x7':wr.cell? ⟨w.heap.size,1,none⟩ = some (.slice (some ⟨bb,bo,none⟩) (4 * d.n) cq):=x7
            unfold Pl.nb at c7 f7
            clear b6 x6 r6 x7 hmc
            by_cases hneg:Pl.pv p2 (d.m (4 * q + s) / 4) < 0
            ·obtain ⟨wq,rfl⟩:∃ wq:World,wq = wr := ⟨_,rfl⟩
             have hq65:qs2.length ≤ 1000:=by
              have h1:=HUM.out
              have h2:=HGN.out
              rw [List.length_cons] at h2
              omega
             obtain ⟨i0,hi0,hz0,hz1,hz2⟩:=info_parts intInfo
             have hwz2:w.heap.size + 2 ≤ wq.heap.size:=by have := R6.out.lt; omega
             have HC1:=hide (show ((wq.setCell ⟨w.heap.size + 1,d.m (4 * q + s) / 4,none⟩ (.int .i64 P)).alloc (.cells #[.int .i64 ((d.m (4 * q + s):Int) / 4)] 3)).cell? ((⟨wq.heap.size,0,none⟩:Addr).add 0) = some (.int .i64 ((d.m (4 * q + s):Int) / 4)) by
              have h8:=Lib.cell_of_heap (heap_alloc_new (wq.setCell ⟨w.heap.size + 1,d.m (4 * q + s) / 4,none⟩ (.int .i64 P)) (.cells #[.int .i64 ((d.m (4 * q + s):Int) / 4)] 3)) 0
              simpa [Addr.add] using h8)
             go_wp2_with (at_builtin; refine wpList_append_tail _ rfl _ _ 22 rfl (w.heap.size + 2) 3 i0 (.int .i64 0) 8 Tryz.underlying22 hi0 hz0 hz1 hz2 rfl (.slice (some ⟨g2,off2,none⟩) qs2.length cap2) qs2.length (qs2.map (fun q:Nat => Value.int .i64 q)) (by rfl) (OwnT.below (OwnT.keep HO2.out (w' := wq.setCell ⟨w.heap.size + 1,d.m (4 * q + s) / 4,none⟩ (.int .i64 P)) (fun g h1 h2 h3 => Below.heap_setCell _ _ _ _ (by simp; omega))) ((Below.refl _ _).alloc (Nat.le_refl _) _)) ⟨wq.heap.size,0,none⟩ 1 (.int .i64 ((d.m (4 * q + s):Int) / 4)) (by rfl) HC1.out rfl (by unfold maxLen; omega) (by omega) (by simp; omega) ?_; intro v7 w7 own7 grow7)
             have hne2:(Value.slice (some ⟨g2,off2,none⟩) qs2.length cap2).ownBlock = some g2:=rfl
             rw [hne2] at grow7
             go_roundg (gk - 1)
             case measure => have := HSG.out; omega
             case rel =>
              have hu:=Pl.unl_set (ps := p2) (i := Pl.nb d q s) (by have := HL2.out; omega) hneg (v := (P:Int)) (by omega)
              refine ⟨p2.set (Pl.nb d q s) P,qs2 ++ [Pl.nb d q s],s + 1,by have := HSG.out; omega,by go_num,?_,HQ2.out.push HF.out hqn HPQ.out hs hneg,?_,?_,?_,?_,?_⟩
              ·have:=HUM.out; rw [List.length_append,List.length_singleton]; omega
              ·rw [Pl.pv_set (by have := HL2.out; omega)]; split; rfl; exact HPQ.out
              ·rw [List.length_append,List.length_singleton,List.map_append]
               have e9:(Value.int .i64 ((Pl.nb d q s:Nat):Int)) = Value.int .i64 ((d.m (4 * q + s):Int) / 4):=by
                congr 1
               rw [List.map_cons,List.map_nil,e9]
               exact own7
              ·exact (Below.alloc (B6.out.setCell (by simp) _) (by simp; omega) _).grown grow7 (by simp; omega) (fun k hk => by injection hk with hk; omega)
              ·exact Row.grown ((X6.out.other (by simp) _).alloc _) grow7 (by intro e; injection e with e; omega)
              ·exact Row.grown (Row.alloc (R6.out.set _ P) _) grow7 (by intro e; injection e with e; omega)
            ·go_wp2
             go_roundg (gk - 1)
             case measure => have := HSG.out; omega
             case rel =>
              exact ⟨p2,qs2,s + 1,by have := HSG.out; omega,by go_num,HUM.out,HQ2.out.skip (by unfold Pl.nb; omega),HPQ.out,HO2.out,B6.out,X6.out,R6.out⟩
           ·have hs4':s = 4:=by omega
            have B6:=hide b6
            have X6:=hide x6
            have R6:=hide r6
            clear b6 x6 r6
            go_wp2
            go_roundg (Pl.unl p1 + qs.length)
            case measure => have := HGK.out; rw [List.length_cons] at this; omega
            case rel =>
             exact ⟨p2,qs2,HUM.out.symm,by have h8 := HUM.out; have h9 := HGN.out; rw [List.length_cons] at h9; omega,by have h7 := HQ2.out; rw [hs4'] at h7; exact h7.rest,HO2.out,B6.out,X6.out,R6.out⟩
    ·have hjn':j = d.n:=by omega
     have B3:=hide b3
     have R3:=hide r3
     have hwz3:w.heap.size + 1 < wr.heap.size:=r3.lt
     clear b3 x3 r3 hlen
     go_wp2
     go_ret2
     exact ⟨ps,P,w.heap.size + 1,rfl,HL.out,fun a ha => HA.out a (by omega),by omega,R3.out,B3.out⟩
theorem label_m (d:Pl.Dg) (hd:Pl.Wf d) (A B:Option Addr) (cp cq m:Nat) (l:Value) (w:World) (hm:m = 4 * d.n) (hg:DgAt w A B d) :
 Calls Tryz.prog 40 #[.agg #[.slice A d.n cp,.slice B m cq,l]] w fun e w' =>
  ∃ (ps:List Int) (P g:Nat),e = .returned (.tuple #[.slice (some ⟨g,0,none⟩) d.n d.n,.int .i64 (P:Int)]) ∧ Pl.LB d ps P ∧ (∀ a,a < d.n → 0 ≤ Pl.pv ps a) ∧ w.heap.size ≤ g ∧ IRow w' g ps ∧ Below w.heap.size w w' := by
 subst hm; exact label_any d hd A B cp cq l w hg
end Go.Proofs.YtghdiolnonejaaaGreatDoor
end
section
namespace Go.Proofs.YtghdiolnonejaaaGreatDoor
open Go.RowKit
set_option maxRecDepth 100000 in
set_option maxHeartbeats 4000000 in
theorem spherical_any (d:Pl.Dg) (hd:Pl.Wf d) (A B:Option Addr) (cp cq:Nat) (l:Value) (w:World) (hl:l = .int .i64 d.lp) (hg:DgAt w A B d) :
 Calls Tryz.prog 21 #[.agg #[.slice A d.n cp,.slice B (4 * d.n) cq,l]] w fun e w' => e = .returned (.bool (Pl.vb (Pl.Rule d))) ∧ Below w.heap.size w w' := by
 subst hl
 have hn:=hd.few
 have HF:=hide hd
 clear hd
 obtain ⟨m,hm⟩:∃ m,m = 4 * d.n := ⟨_,rfl⟩
 rw [← hm]
 have HM:=hide hm
 have hm6:m ≤ 256:=by omega
 clear hm
 go_enter Tryz.func21,Tryz.ntmps21
 go_wp2_with fail
 have b0:Below w.heap.size w (w.alloc (.cells #[.slice A d.n cp,.slice B m cq,.int .i64 d.lp] 24)):=(Below.refl _ _).alloc (Nat.le_refl _) _
 have x0:Row (w.alloc (.cells #[.slice A d.n cp,.slice B m cq,.int .i64 d.lp] 24)) w.heap.size 24 (boxV A B d.n cp m cq (.int .i64 d.lp)):=Row.new w _ _
 refine (label_m d HF.out A B cp cq m _ _ HM.out (hg.keep b0)).mono ?_
 rintro e w1 ⟨ps,P,g,rfl,hlb,hall,hgb,hrow,hb1⟩
 have X1:=hide (x0.below hb1)
 have B1:=hide (b0.trans (hb1.mono (by simp)))
 have hPn:=hlb.le
 have HLB:=hide hlb
 have HALL:=hide hall
 have HLen:=hide hlb.len
 have R1:=hide hrow
 have hg0:w.heap.size + 1 ≤ g:=by simpa using hgb
 have hg1:g < w1.heap.size:=hrow.lt
 clear b0 x0 hb1 hlb hall hrow hgb
 have hmk:=run_ints P (by omega) w1
 go_wp2
 clear hmk
 obtain ⟨W2,hW2⟩:∃ W2:World,W2 = w1.alloc (.cells (Array.replicate P (Value.int .i64 0)) 3) := ⟨_,rfl⟩
 have B2:=hide (show Below w.heap.size w W2 by rw [hW2]; exact B1.out.alloc (by omega) _)
 have X2:=hide (show Row W2 w.heap.size 24 (boxV A B d.n cp m cq (.int .i64 d.lp)) by rw [hW2]; exact X1.out.alloc _)
 have R2:=hide (show IRow W2 g ps by rw [hW2]; exact Row.alloc R1.out _)
 have E2:=hide (show IRow W2 w1.heap.size (List.replicate P 0) by rw [hW2]; exact IRow.made w1 P)
 rw [← hW2]
 clear hW2 B1 X1 R1
 generalize w1.heap.size = eb at hg1 E2 ⊢
 go_loopg [22] d.n (fun g' i wx => ∃ (k:Nat) (es:List Int),k + g' = d.n ∧ i = .int .i64 k ∧ Pl.Ex d ps es P k 0 ∧ Below w.heap.size w wx ∧ Row wx w.heap.size 24 (boxV A B d.n cp m cq (.int .i64 d.lp)) ∧ IRow wx g ps ∧ IRow wx eb es)
 case atStart => exact ⟨0,_,by omega,rfl,Pl.Ex.start d ps P,B2.out,X2.out,R2.out,E2.out⟩
 case round =>
  clear B2 X2 R2 E2
  obtain ⟨k,es,hkg,rfl,hex,b3,x3,r3,e3⟩:=hrel
  have HG:=hide hkg
  have HE:=hide hex
  have hks:k ≤ d.n:=by omega
  have hel:=hex.1
  have HEL:=hide hel
  clear hkg hex
  by_cases hlt:k < d.n
  ·obtain ⟨q,hq⟩:∃ q:Nat,Pl.pv ps k = q := ⟨(Pl.pv ps k).toNat,by have := HALL.out k hlt; omega⟩
   have hqP:q < P:=by have := (HLB.out.lo k hlt).2; omega
   have c1:=r3.cell (i := k) (by have := HLen.out; omega)
   rw [hq] at c1
   have c2:=e3.cell (i := q) (by omega)
   have f2:=Row.free e3 q
   have hlo:-1000 ≤ Pl.pv es q ∧ Pl.pv es q ≤ 1000:=by
    have h1:=HE.out.2 q hqP
    have h2:Pl.nf d ps q 0 = 0:=rfl
    have h3:Pl.nv ps q k ≤ k:=Pl.cnt_top _ k
    omega
   have HQ:=hide hq
   have B3:=hide b3
   have X3:=hide x3
   have R3:=hide r3
   have E3:=hide e3
   clear hq b3 x3 r3 e3 hel
   go_wp2
   go_roundg (gk - 1)
   case measure => have := HG.out; omega
   case rel =>
    refine ⟨k + 1,_,by have := HG.out; omega,by go_num,HE.out.less hqP HQ.out,B3.out.setCell (by simp; omega) _,X3.out.other (by simp; omega) _,Row.other R3.out (by simp; omega) _,E3.out.set q (Pl.pv es q - 1)⟩
  ·have hkn:k = d.n:=by omega
   have HE':=hide (show Pl.Ex d ps es P d.n 0 by have := HE.out; rw [hkn] at this; exact this)
   have hmk2:=run_bools m (by omega) wr
   have B3:=hide b3
   have X3:=hide x3
   have R3:=hide r3
   have E3:=hide e3
   have x3c:wr.cell? ⟨w.heap.size,1,none⟩ = some (.slice B m cq):=x3.cell (i := 1) (by show 1 < 3; omega)
   have ewz:eb < wr.heap.size:=e3.lt
   have x3d:(wr.alloc (.cells (Array.replicate m (Value.bool false)) 4)).cell? ⟨w.heap.size,1,none⟩ = some (.slice B m cq):=(x3.alloc _).cell (i := 1) (by show 1 < 3; omega)
   clear b3 x3 r3 e3 hkn HE hel
   go_wp2
   clear hmk2 x3c x3d
   obtain ⟨W4,hW4⟩:∃ W4:World,W4 = wr.alloc (.cells (Array.replicate m (Value.bool false)) 4) := ⟨_,rfl⟩
   have B4:=hide (show Below w.heap.size w W4 by rw [hW4]; exact B3.out.alloc (by omega) _)
   have X4:=hide (show Row W4 w.heap.size 24 (boxV A B d.n cp m cq (.int .i64 d.lp)) by rw [hW4]; exact X3.out.alloc _)
   have R4:=hide (show IRow W4 g ps by rw [hW4]; exact Row.alloc R3.out _)
   have E4:=hide (show IRow W4 eb es by rw [hW4]; exact Row.alloc E3.out _)
   have S4:=hide (show BRow W4 wr.heap.size (List.replicate (4 * d.n) false) by rw [hW4,← HM.out]; exact BRow.made wr m)
   rw [← hW4]
   clear hW4 B3 X3 R3 E3
   generalize wr.heap.size = sb at ewz S4 ⊢
   go_loopg [40] m (fun g' i wx => ∃ (k:Nat) (es:List Int) (bs:List Bool),k + g' = m ∧ i = .int .i64 k ∧ Pl.Ex d ps es P d.n k ∧ Pl.SQ d k bs ∧ Below w.heap.size w wx ∧ Row wx w.heap.size 24 (boxV A B d.n cp m cq (.int .i64 d.lp)) ∧ IRow wx g ps ∧ IRow wx eb es ∧ BRow wx sb bs)
   case atStart => exact ⟨0,es,_,by omega,rfl,HE'.out,Pl.SQ.start d,B4.out,X4.out,R4.out,E4.out,S4.out⟩
   case round =>
    clear B4 X4 R4 E4 S4 HG HEL HE'
    obtain ⟨j,e5,bs,hjg,rfl,hex,hsq,b6,x6,r6,e6,s6⟩:=hrel
    have HG:=hide hjg
    have HE:=hide hex
    have HS:=hide hsq
    have hjs:j ≤ m:=by omega
    have HEL:=hide hex.1
    have HSL:=hide hsq.len
    clear hjg hex hsq
    by_cases hjm:j < m
    ·have hj4:j < 4 * d.n:=by have := HM.out; omega
     have c1:=s6.cell (i := j) (by have := HSL.out; omega)
     by_cases hseen:Pl.gb bs j = true
     ·have c1':wr.cell? ⟨sb,j,none⟩ = some (.bool true):=by rw [c1]; exact congrArg (fun b => some (Value.bool b)) hseen
      have B6:=hide b6
      have X6:=hide x6
      have R6:=hide r6
      have E6:=hide e6
      have S6:=hide s6
      have HSE:=hide (HS.out.seen HF.out hj4 hseen)
      clear c1 b6 x6 r6 e6 s6 hseen
      go_wp2
      go_roundg (gk - 1)
      case measure => have := HG.out; omega
      case rel => exact ⟨j + 1,e5,bs,by have := HG.out; omega,by go_num,HE.out.same HSE.out.2,HSE.out.1,B6.out,X6.out,R6.out,E6.out,S6.out⟩
     ·have hseen':Pl.gb bs j = false:=by simpa using hseen
      have c1':wr.cell? ⟨sb,j,none⟩ = some (.bool false):=by rw [c1]; exact congrArg (fun b => some (Value.bool b)) hseen'
      have HSE:=hide (HS.out.enter HF.out hj4 hseen')
      have hj4':j / 4 < d.n:=by omega
      obtain ⟨q,hq⟩:∃ q:Nat,Pl.pv ps (j / 4) = q := ⟨(Pl.pv ps (j / 4)).toNat,by have := HALL.out (j / 4) hj4'; omega⟩
      have hqP:q < P:=by have := (HLB.out.lo (j / 4) hj4').2; omega
      have c2:=r6.cell (i := j / 4) (by have := HLen.out; omega)
      rw [hq] at c2
      have c3:=e6.cell (i := q) (by have := HEL.out; omega)
      have f3:=Row.free e6 q
      have hlo:-1000 ≤ Pl.pv e5 q ∧ Pl.pv e5 q ≤ 1000:=by
       have h1:=HE.out.2 q hqP
       have h2:Pl.nf d ps q j ≤ j:=Pl.cnt_top _ j
       have h3:Pl.nv ps q d.n ≤ d.n:=Pl.cnt_top _ d.n
       omega
      have HQ:=hide hq
      have B6:=hide b6
      have X6:=hide x6
      have R6:=hide r6
      have E6:=hide e6
      have S6:=hide s6
      obtain ⟨wo,rfl⟩:∃ wo:World,wo = wr := ⟨_,rfl⟩
      clear c1 b6 x6 r6 e6 s6 hseen hseen' hq
      go_wp2
      obtain ⟨W5,hW5⟩:∃ W5:World,W5 = wo.setCell ⟨eb,q,none⟩ (.int .i64 (Pl.pv e5 q + 1)) := ⟨_,rfl⟩
      have B7:=hide (show Below w.heap.size w W5 by rw [hW5]; exact B6.out.setCell (by simp; omega) _)
      have X7:=hide (show Row W5 w.heap.size 24 (boxV A B d.n cp m cq (.int .i64 d.lp)) by rw [hW5]; exact X6.out.other (by simp; omega) _)
      have R7:=hide (show IRow W5 g ps by rw [hW5]; exact Row.other R6.out (by simp; omega) _)
      have E7:=hide (show IRow W5 eb (e5.set q (Pl.pv e5 q + 1)) by rw [hW5]; exact E6.out.set q _)
      have S7:=hide (show BRow W5 sb bs by rw [hW5]; exact Row.other S6.out (by simp; omega) _)
      rw [← hW5]
      clear hW5 B6 X6 R6 E6 S6 c1' c2 c3 f3
      go_loopg [10] (Pl.uns bs) (fun g' v wx => ∃ (i:Nat) (b8:List Bool),g' = Pl.uns b8 ∧ v = .int .i64 (Pl.it (Pl.nx d) i j:Nat) ∧ Pl.SI d j i b8 ∧ Below w.heap.size w wx ∧ Row wx w.heap.size 24 (boxV A B d.n cp m cq (.int .i64 d.lp)) ∧ IRow wx g ps ∧ IRow wx eb (e5.set q (Pl.pv e5 q + 1)) ∧ BRow wx sb b8)
      case atStart => exact ⟨0,bs,rfl,rfl,HSE.out.1,B7.out,X7.out,R7.out,E7.out,S7.out⟩
      case round =>
       clear B7 X7 R7 E7 S7
       obtain ⟨i,b8,hgk,rfl,hsi,b9,x9,r9,e9,s9⟩:=hrel
       have HGK:=hide hgk
       have HSI:=hide hsi
       have HSZ:=hide hsi.len
       have hcur4:=hsi.lt HF.out
       clear hgk hsi
       obtain ⟨cur,hcur⟩:∃ cur,cur = Pl.it (Pl.nx d) i j := ⟨_,rfl⟩
       rw [← hcur] at hcur4 ⊢
       have HC:=hide hcur
       clear hcur
       have hcm:cur < m:=by have := HM.out; omega
       have c1:=s9.cell (i := cur) (by have := HSZ.out; omega)
       have f1:=Row.free s9 cur
       by_cases hseen:Pl.gb b8 cur = true
       ·have c1':wr.cell? ⟨sb,cur,none⟩ = some (.bool true):=by rw [c1]; exact congrArg (fun b => some (Value.bool b)) hseen
        have HD:=hide (HSI.out.done HF.out (by rw [← HC.out]; exact hseen))
        have B9:=hide b9
        have X9:=hide x9
        have R9:=hide r9
        have E9:=hide e9
        have S9:=hide s9
        clear c1 f1 b9 x9 r9 e9 s9 hseen
        go_wp2
        go_roundg (m - (j + 1))
        case measure => have := HG.out; omega
        case rel => exact ⟨j + 1,_,b8,by omega,by go_num,HE.out.more hqP HQ.out HSE.out.2,HD.out,B9.out,X9.out,R9.out,E9.out,S9.out⟩
       ·have hseen':Pl.gb b8 cur = false:=by simpa using hseen
        have c1':wr.cell? ⟨sb,cur,none⟩ = some (.bool false):=by rw [c1]; exact congrArg (fun b => some (Value.bool b)) hseen'
        obtain ⟨bb,bo,rfl,hmc⟩:=mate_at hg.m hcur4
        have hml:=HF.out.lt _ hcur4
        have b10:Below w.heap.size w (wr.setCell ⟨sb,cur,none⟩ (.bool true)):=b9.setCell (by simp; omega) _
        have c2:=cell_below hmc b10
        have x10:Row (wr.setCell ⟨sb,cur,none⟩ (.bool true)) w.heap.size 24 (boxV A (some ⟨bb,bo,none⟩) d.n cp m cq (.int .i64 d.lp)):=x9.other (by simp; omega) _
        have c3:(wr.setCell ⟨sb,cur,none⟩ (.bool true)).cell? ⟨w.heap.size,1,none⟩ = some (.slice (some ⟨bb,bo,none⟩) m cq):=x10.cell (i := 1) (by show 1 < 3; omega)
        have B9:=hide b10
        have X9:=hide x10
        have R9:=hide (show IRow (wr.setCell ⟨sb,cur,none⟩ (.bool true)) g ps from Row.other r9 (by simp; omega) _)
        have E9:=hide (show IRow (wr.setCell ⟨sb,cur,none⟩ (.bool true)) eb (e5.set q (Pl.pv e5 q + 1)) from Row.other e9 (by simp; omega) _)
        have S9:=hide (s9.set cur true)
        have HU:=hide (Pl.uns_set (by have := HSZ.out; omega) hseen')
        clear c1 b10 x10 b9 x9 r9 e9 s9 hseen hseen' hmc
        go_wp2_with fail
        refine (turn_back _ _ (by omega)).mono ?_
        rintro e w9 ⟨rfl,rfl⟩
        go_wp2
        go_roundg (gk - 1)
        case measure => have h1 := HGK.out; have h2 := HU.out; omega
        case rel => exact ⟨i + 1,b8.set cur true,by have h1 := HGK.out; have h2 := HU.out; omega,by rw [HC.out]; rfl,by have := HSI.out.step HF.out; rw [← HC.out] at this; exact this,B9.out,X9.out,R9.out,E9.out,S9.out⟩
    ·have hjm':j = 4 * d.n:=by have := HM.out; omega
     have HE':=hide (show Pl.Ex d ps e5 P d.n (4 * d.n) by have := HE.out; rw [hjm'] at this; exact this)
     have HR:=hide (HE'.out.rule HF.out HLB.out HALL.out)
     have B6:=hide b6
     have E6:=hide e6
     clear b6 x6 r6 e6 s6 hjm' HE
     go_wp2
     go_loopg [75] P (fun g' i wx => ∃ k:Nat,k + g' = P ∧ i = .int .i64 k ∧ (∀ p,p < k → Pl.pv e5 p = 2) ∧ Below w.heap.size w wx ∧ IRow wx eb e5)
     case atStart => exact ⟨0,by omega,rfl,fun p hp => absurd hp (by omega),B6.out,E6.out⟩
     case round =>
      clear B6 E6
      obtain ⟨k,hkg,rfl,hall2,b7,e7⟩:=hrel
      have HGG:=hide hkg
      have HA2:=hide hall2
      have hkP:k ≤ P:=by omega
      clear hkg hall2
      by_cases hlt:k < P
      ·have c1:=e7.cell (i := k) (by have := HEL.out; omega)
       have B7:=hide b7
       have E7:=hide e7
       clear b7 e7
       by_cases h2:Pl.pv e5 k = 2
       ·have H2:=hide h2
        rw [h2] at c1
        clear h2
        go_wp2
        go_roundg (gk - 1)
        case measure => have := HGG.out; omega
        case rel =>
         refine ⟨k + 1,by have := HGG.out; omega,by go_num,fun p hp => ?_,B7.out,E7.out⟩
         by_cases e:p = k
         ·rw [e]; exact H2.out
         ·exact HA2.out p (by omega)
       ·have hb2:(Pl.pv e5 k != 2) = true:=by rw [bne_iff_ne]; exact h2
        have H2:=hide h2
        clear h2
        go_wp2
        go_ret
        exact ⟨ret_bool (Pl.vb_false (fun hr => H2.out (HR.out.2 hr k hlt))).symm,B7.out⟩
      ·have hkP':k = P:=by omega
       have B7:=hide b7
       clear b7 e7
       go_wp2
       go_ret
       exact ⟨ret_bool (Pl.vb_true (HR.out.1 (fun p hp => HA2.out p (by omega)))).symm,B7.out⟩
theorem spherical_n (d:Pl.Dg) (hd:Pl.Wf d) (A B:Option Addr) (n q cp cq:Nat) (l:Value) (w:World) (e1:n = d.n) (e2:q = 4 * d.n) (hl:l = .int .i64 d.lp) (hg:DgAt w A B d) :
 Calls Tryz.prog 21 #[.agg #[.slice A n cp,.slice B q cq,l]] w fun e w' => e = .returned (.bool (Pl.vb (Pl.Rule d))) ∧ Below w.heap.size w w' := by
 subst e1; subst e2; exact spherical_any d hd A B cp cq l w hl hg
end Go.Proofs.YtghdiolnonejaaaGreatDoor
end
section
namespace Go.Proofs.YtghdiolnonejaaaGreatDoor
open Go.RowKit
def ahd (gs:List Nat) (h k:Nat):Nat := ((gs.take k).filter (fun c => decide (c < h / 4))).length
theorem ahd_le (gs:List Nat) (h k:Nat):ahd gs h k ≤ k := by
 unfold ahd
 have:=List.length_filter_le (fun c => decide (c < h / 4)) (gs.take k)
 have:=List.length_take_le k gs
 omega
theorem ahd_succ {gs:List Nat} {k:Nat} (hk:k < gs.length) (h:Nat):ahd gs h (k + 1) = ahd gs h k + if gs.getD k 0 < h / 4 then 1 else 0 := by
 unfold ahd
 rw [List.take_succ_eq_append_getElem hk,List.filter_append,List.length_append,List.getD_eq_getElem?_getD,List.getElem?_eq_getElem hk]
 by_cases e:gs[k] < h / 4 <;> simp [List.filter_cons,e]
theorem ahd_all {gs:List Nat} {k:Nat} (hk:gs.length ≤ k) (h:Nat):ahd gs h k = (gs.filter (fun c => decide (c < h / 4))).length := by
 unfold ahd
 rw [List.take_of_length_le hk]
theorem nats_at {w:World} {A:Option Addr} {n k:Nat} {gs:List Nat} (h:IntsAt w A n (nats gs)) (hk:k < n) :
 ∃ b o,A = some ⟨b,o,none⟩ ∧ w.cell? ⟨b,o + k,none⟩ = some (.int .i64 (gs.getD k 0:Nat)) := by
 obtain ⟨b,o,e,hc⟩:=h.at_ hk
 refine ⟨b,o,e,hc.trans ?_⟩
 have hl:=h.len
 unfold nats at hl ⊢
 rw [List.length_map] at hl
 rw [List.getD_eq_getElem?_getD,List.getD_eq_getElem?_getD,List.getElem?_map,List.getElem?_eq_getElem (by omega)]; rfl
set_option maxRecDepth 100000 in
set_option maxHeartbeats 1000000 in
theorem shifted_any (gs:List Nat) (A:Option Addr) (n c h:Nat) (w:World) (hg:IntsAt w A n (nats gs)) (hn:n ≤ 100) (hh:h ≤ 100000) (hf:Pl.Few gs) :
 Calls Tryz.prog 78 #[.int .i64 (h:Int),.slice A n c] w fun e w' => e = .returned (.int .i64 (Pl.shf gs h:Nat)) ∧ w' = w := by
 have hl:=hg.len
 unfold nats at hl
 rw [List.length_map] at hl
 have HL:=hide hl
 have HG:=hide hg
 clear hl hg
 go_enter Tryz.func78,Tryz.ntmps78
 go_wp2
 go_loop [5,10] (fun b i => ∃ k:Nat,k ≤ n ∧ i = .int .i64 k ∧ b = .int .i64 (4 * (ahd gs h k:Nat))) (fun _ i => n - (intOf i).toNat)
 case atStart => exact ⟨0,by omega,rfl,rfl⟩
 case round =>
  obtain ⟨k,hk,rfl,rfl⟩:=hrel
  have hle:=ahd_le gs h k
  by_cases hlt:k < n
  ·obtain ⟨b,o,rfl,hc⟩:=nats_at HG.out hlt
   have HS:=hide (ahd_succ (gs := gs) (k := k) (by have := HL.out; omega) h)
   obtain ⟨x,hx⟩:∃ x,x = gs.getD k 0 := ⟨_,rfl⟩
   rw [← hx] at hc HS
   clear hx
   by_cases ht:x < h / 4
   ·have HT:=hide ht
    have t1:decide ((x:Int) < (h:Int) / 4) = true:=by simp; omega
    clear ht
    go_wp2
    go_round
    case rel => exact ⟨k + 1,by omega,by go_num,by rw [HS.out,if_pos HT.out]; go_num⟩
    case measure => simp [intOf]; omega
   ·have HT:=hide ht
    have t1:decide ((x:Int) < (h:Int) / 4) = false:=by simp; omega
    clear ht
    go_wp2
    go_round
    case rel => exact ⟨k + 1,by omega,by go_num,by rw [HS.out,if_neg HT.out]; go_num⟩
    case measure => simp [intOf]; omega
  ·go_wp2
   go_ret
   refine ⟨ret_int ?_,rfl⟩
   have h1:=ahd_all (gs := gs) (k := k) (by have := HL.out; omega) h
   have h2:=Pl.shf_le hf h
   unfold Pl.shf
   rw [h1]
   omega
end Go.Proofs.YtghdiolnonejaaaGreatDoor
end
section
namespace Go.Proofs.YtghdiolnonejaaaGreatDoor
open Go Go.RowKit
def plc (c f s:Nat):Nat := 4 * c + (s + 4 - f) % 4
def fwd (d:Pl.Dg) (x:Int):Bool := if x = -1 then true else if 0 ≤ x then Pl.out d x.toNat else false
end Go.Proofs.YtghdiolnonejaaaGreatDoor
end
