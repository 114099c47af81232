/-
  The texts Unk, Pkv, Str, Cmp, Cmq, Cmk, Wc, Pke.
-/
import Derived.Test.YtdgliimmnnhhjaaGreatDoorU04
import Derived.Test.YtdgliimmnnhhjaaGreatDoorU06
set_option linter.unusedVariables false
set_option linter.unusedSimpArgs false
section
namespace Go.Proofs.YtdgliimmnnhhjaaGreatDoor.Pl
variable {d:Dg}
def Wy (d:Dg)(b:Nat→Nat):Prop:=∀z,z<4 * d.n→b z≠z→out d (b z) = !out d z
theorem wy_m (hd:Wf d):Wy d d.m:=fun z hz _=>out_way hd hz
theorem byp_wy {b:Nat→Nat}(h:Hm (4 * d.n) (dart d) rot b)(hw:Wy d b){u v:Nat}(hu:u<4 * d.n)(hv:v<4 * d.n)(huv:u≠v)(nu:b u≠u)(nv:b v≠v)(nuv:b u≠v)(ho:out d v = !out d u):Wy d (byp b u v):=by
 obtain ⟨b1,b2,b3,b4,b5⟩:=byp_at h hu hv huv nu nv nuv
 intro z hz hne
 by_cases z1:z=u
 ·subst z1;exact absurd b1 hne
 ·by_cases z2:z=v
  ·subst z2;exact absurd b2 hne
  ·by_cases z3:z=b u
   ·rw [z3,b3,hw u hu nu,hw v hv nv,ho]
   ·by_cases z4:z=b v
    ·rw [z4,b4,hw u hu nu,hw v hv nv,ho,Bool.not_not]
    ·rw [b5 z z1 z2 z3 z4] at hne ⊢
     exact hw z hz hne
structure Lens (d:Dg) (h u:Nat):Prop where
 hh:h<4 * d.n
 m0:d.m h=u
 m1:d.m (tn h 1)=tn u 3
 ne:h / 4≠u / 4
def cls (b:Nat→Nat)(u v:Nat):Nat→Nat:=if b u=v then b else byp b u v
section
variable {h u:Nat}
theorem Lens.hu (hd:Wf d)(L:Lens d h u):u<4 * d.n:=by rw [←L.m0];exact hd.lt h L.hh
theorem Lens.m2 (hd:Wf d)(L:Lens d h u):d.m u=h:=by rw [←L.m0];exact hd.inv h L.hh
theorem Lens.m3 (hd:Wf d)(L:Lens d h u):d.m (tn u 3)=tn h 1:=by rw [←L.m1];exact hd.inv _ (tn_lt L.hh)
def lA (d:Dg)(h u:Nat):Nat→Nat:=cls d.m (tn h 2) (tn u 2)
def lB (d:Dg)(h u:Nat):Nat→Nat:=cls (lA d h u) (tn h 3) (tn u 1)
theorem ap {x y:Nat}(e:x / 4≠y / 4):x≠y:=fun h=>e (by rw [h])
theorem pm {j k h u:Nat}(e:h / 4≠u / 4):tn h j≠tn u k:=ap (by rw [tn_div,tn_div];exact e)
theorem pm0 {j h u:Nat}(e:h / 4≠u / 4):tn h j≠u:=ap (by rw [tn_div];exact e)
theorem pm1 {k h u:Nat}(e:h / 4≠u / 4):h≠tn u k:=ap (by rw [tn_div];exact e)
theorem pmz {h k:Nat}(e:k % 4≠0):h≠tn h k:=by unfold tn;omega
structure LA (d:Dg) (h u:Nat) (b:Nat→Nat):Prop where
 hm:Hm (4 * d.n) (dart d) rot b
 fl:Flat (dart d) rot b
 wy:Wy d b
 e0:b h=u
 e1:b (tn h 1)=tn u 3
 e2:b u=h
 e3:b (tn u 3)=tn h 1
 c:(b (tn h 2)=tn u 2∧b (tn u 2)=tn h 2)∨(b (tn h 2)=tn h 2∧b (tn u 2)=tn u 2)
 nf:∀z,z<4 * d.n→z≠tn h 2→z≠tn u 2→b z≠z
theorem Lens.la (hd:Valid d)(L:Lens d h u):LA d h u (lA d h u):=by
 have hv:=Valid.iff.1 hd
 have hw:=hv.1
 have hu:=L.hu hw
 have hh:=L.hh
 have E:=L.ne
 have hA:tn h 2<4 * d.n:=tn_lt hh
 have hB:tn u 2<4 * d.n:=tn_lt hu
 have m0:=L.m0
 have m1:=L.m1
 have m2:=L.m2 hw
 have m3:=L.m3 hw
 unfold lA cls
 by_cases hc:d.m (tn h 2)=tn u 2
 ·rw [if_pos hc]
  exact ⟨hw.hm,hv.2,wy_m hw,m0,m1,m2,m3,.inl ⟨hc,by rw [←hc,hw.inv _ hA]⟩,fun z hz _ _=>hw.ne z hz⟩
 ·rw [if_neg hc]
  have hAB:tn h 2≠tn u 2:=pm E
  have nA:=hw.ne _ hA
  have nB:=hw.ne _ hB
  obtain ⟨b1,b2,b3,b4,b5⟩:=byp_at hw.hm hA hB hAB nA nB hc
  obtain ⟨c0,c1,c2,c3,c4,c5,c6,c7⟩:=cut2_hm hw.hm hA hB hAB nA nB hc
  -- the four inner half-edges are none of the outer ones' mates
  have ni:∀z,z<4 * d.n→d.m z≠tn h 2→d.m z≠tn u 2→z≠d.m (tn h 2)∧z≠d.m (tn u 2):=fun z hz n1 n2 =>
   ⟨fun e=>n1 (by rw [e,hw.inv _ hA]),fun e=>n2 (by rw [e,hw.inv _ hB])⟩
  have n0:=ni h hh (by rw [m0];exact Ne.symm (pm0 E)) (by rw [m0];exact pmz (by omega))
  have n1:=ni (tn h 1) (tn_lt hh) (by rw [m1];exact Ne.symm (pm E)) (by rw [m1];exact tn_ne (by omega))
  have n2:=ni u hu (by rw [m2];exact pmz (by omega)) (by rw [m2];exact pm1 E)
  have n3:=ni (tn u 3) (tn_lt hu) (by rw [m3];exact tn_ne (by omega)) (by rw [m3];exact pm E)
  have ho:Orb (phi rot (cut2 d.m (tn h 2) (tn u 2))) (tn h 2) (tn u 2):=by
   refine ⟨2,?_⟩
   show phi rot _ (phi rot _ (tn h 2))=tn u 2
   have s1:phi rot (cut2 d.m (tn h 2) (tn u 2)) (tn h 2)=tn h 1:=by unfold phi;rw [c1];unfold rot;rw [tn_tn];unfold tn;omega
   have s2:phi rot (cut2 d.m (tn h 2) (tn u 2)) (tn h 1)=tn u 2:=by
    unfold phi;rw [cut2_at _ _ (tn_ne (by omega)) (pm E) n1.1 n1.2,m1];unfold rot;rw [tn_tn];unfold tn;omega
   rw [s1,s2]
  obtain ⟨g1,g2⟩:=byp_flat hw.hm hA hB hAB nA nB hc ho hv.2
  refine ⟨g1,g2,byp_wy hw.hm (wy_m hw) hA hB hAB nA nB hc ?_,?_,?_,?_,?_,.inr ⟨b1,b2⟩,?_⟩
  ·rw [out_opp hw hu,out_opp hw hh,←m0,out_way hw hh]
  ·rw [b5 h (pmz (by omega)) (pm1 E) n0.1 n0.2,m0]
  ·rw [b5 _ (tn_ne (by omega)) (pm E) n1.1 n1.2,m1]
  ·rw [b5 u (Ne.symm (pm0 E)) (pmz (by omega)) n2.1 n2.2,m2]
  ·rw [b5 _ (Ne.symm (pm E)) (tn_ne (by omega)) n3.1 n3.2,m3]
  ·intro z hz z1 z2
   by_cases z3:z=d.m (tn h 2)
   ·rw [z3,b3];exact Ne.symm c6
   ·by_cases z4:z=d.m (tn u 2)
    ·rw [z4,b4];exact c6
    ·rw [b5 z z1 z2 z3 z4];exact hw.ne z hz
structure LB2 (d:Dg) (h u:Nat) (b:Nat→Nat):Prop where
 hm:Hm (4 * d.n) (dart d) rot b
 fl:Flat (dart d) rot b
 wy:Wy d b
 e0:b h=u
 e1:b (tn h 1)=tn u 3
 e2:b u=h
 e3:b (tn u 3)=tn h 1
 c:(b (tn h 2)=tn u 2∧b (tn u 2)=tn h 2)∨(b (tn h 2)=tn h 2∧b (tn u 2)=tn u 2)
 c':(b (tn h 3)=tn u 1∧b (tn u 1)=tn h 3)∨(b (tn h 3)=tn h 3∧b (tn u 1)=tn u 1)
 nf:∀z,z<4 * d.n→z≠tn h 2→z≠tn u 2→z≠tn h 3→z≠tn u 1→b z≠z
theorem LA.lb (hw:Wf d)(L:Lens d h u){a:Nat→Nat}(A:LA d h u a):LB2 d h u (cls a (tn h 3) (tn u 1)):=by
 have hu:=L.hu hw
 have hh:=L.hh
 have E:=L.ne
 have h3:tn h 3<4 * d.n:=tn_lt hh
 have u1:tn u 1<4 * d.n:=tn_lt hu
 have n3:=A.nf _ h3 (tn_ne (by omega)) (pm E)
 have n1:=A.nf _ u1 (Ne.symm (pm E)) (tn_ne (by omega))
 unfold cls
 by_cases hc:a (tn h 3)=tn u 1
 ·rw [if_pos hc]
  exact ⟨A.hm,A.fl,A.wy,A.e0,A.e1,A.e2,A.e3,A.c,.inl ⟨hc,by rw [←hc,A.hm.inv _ h3]⟩,fun z hz z1 z2 _ _=>A.nf z hz z1 z2⟩
 ·rw [if_neg hc]
  have hAB:tn h 3≠tn u 1:=pm E
  obtain ⟨b1,b2,b3,b4,b5⟩:=byp_at A.hm h3 u1 hAB n3 n1 hc
  obtain ⟨c0,c1,c2,c3,c4,c5,c6,c7⟩:=cut2_hm A.hm h3 u1 hAB n3 n1 hc
  have ni:∀z,z<4 * d.n→a z≠tn h 3→a z≠tn u 1→z≠a (tn h 3)∧z≠a (tn u 1):=fun z hz n1 n2 =>
   ⟨fun e=>n1 (by rw [e,A.hm.inv _ h3]),fun e=>n2 (by rw [e,A.hm.inv _ u1])⟩
  have k0:=ni h hh (by rw [A.e0];exact Ne.symm (pm0 E)) (by rw [A.e0];exact pmz (by omega))
  have k1:=ni (tn h 1) (tn_lt hh) (by rw [A.e1];exact Ne.symm (pm E)) (by rw [A.e1];exact tn_ne (by omega))
  have k2:=ni u hu (by rw [A.e2];exact pmz (by omega)) (by rw [A.e2];exact pm1 E)
  have k3:=ni (tn u 3) (tn_lt hu) (by rw [A.e3];exact tn_ne (by omega)) (by rw [A.e3];exact pm E)
  have k4:tn h 2≠a (tn h 3)∧tn h 2≠a (tn u 1):=ni (tn h 2) (tn_lt hh) (by rcases A.c with ⟨e,_⟩ | ⟨e,_⟩ <;> rw [e];exact Ne.symm (pm E);exact tn_ne (by omega)) (by rcases A.c with ⟨e,_⟩ | ⟨e,_⟩ <;> rw [e];exact tn_ne (by omega);exact pm E)
  have k5:tn u 2≠a (tn h 3)∧tn u 2≠a (tn u 1):=ni (tn u 2) (tn_lt hu) (by rcases A.c with ⟨_,e⟩ | ⟨_,e⟩ <;> rw [e];exact tn_ne (by omega);exact Ne.symm (pm E)) (by rcases A.c with ⟨_,e⟩ | ⟨_,e⟩ <;> rw [e];exact pm E;exact tn_ne (by omega))
  have r2:cut2 a (tn h 3) (tn u 1) (tn h 2)=a (tn h 2):=cut2_at _ _ (tn_ne (by omega)) (pm E) k4.1 k4.2
  have r5:cut2 a (tn h 3) (tn u 1) (tn u 2)=a (tn u 2):=cut2_at _ _ (Ne.symm (pm E)) (tn_ne (by omega)) k5.1 k5.2
  have r1:cut2 a (tn h 3) (tn u 1) (tn h 1)=tn u 3:=by rw [cut2_at _ _ (tn_ne (by omega)) (pm E) k1.1 k1.2,A.e1]
  have s1:phi rot (cut2 a (tn h 3) (tn u 1)) (tn h 3)=tn h 2:=by unfold phi;rw [c1];unfold rot;rw [tn_tn];unfold tn;omega
  have ho:Orb (phi rot (cut2 a (tn h 3) (tn u 1))) (tn h 3) (tn u 1):=by
   rcases A.c with ⟨e,_⟩ | ⟨e,e'⟩
   ·have s2:phi rot (cut2 a (tn h 3) (tn u 1)) (tn h 2)=tn u 1:=by unfold phi;rw [r2,e];unfold rot;rw [tn_tn];unfold tn;omega
    refine ⟨2,?_⟩
    show phi rot _ (phi rot _ (tn h 3))=tn u 1
    rw [s1,s2]
   ·have s2:phi rot (cut2 a (tn h 3) (tn u 1)) (tn h 2)=tn h 1:=by unfold phi;rw [r2,e];unfold rot;rw [tn_tn];unfold tn;omega
    have s3:phi rot (cut2 a (tn h 3) (tn u 1)) (tn h 1)=tn u 2:=by unfold phi;rw [r1];unfold rot;rw [tn_tn];unfold tn;omega
    have s4:phi rot (cut2 a (tn h 3) (tn u 1)) (tn u 2)=tn u 1:=by unfold phi;rw [r5,e'];unfold rot;rw [tn_tn];unfold tn;omega
    refine ⟨4,?_⟩
    show phi rot _ (phi rot _ (phi rot _ (phi rot _ (tn h 3))))=tn u 1
    rw [s1,s2,s3,s4]
  obtain ⟨g1,g2⟩:=byp_flat A.hm h3 u1 hAB n3 n1 hc ho A.fl
  have w1:out d (tn u 1) = !out d (tn h 3):=by
   have a1:out d (tn (tn h 1) 2) = !out d (tn h 1):=out_opp hw (tn_lt hh)
   have a2:out d (tn (tn u 3) 2) = !out d (tn u 3):=out_opp hw (tn_lt hu)
   rw [tn_tn] at a1 a2
   rw [show tn u (3+2)=tn u 1 by unfold tn;omega] at a2
   have a3:=out_way hw (tn_lt (k:=1) hh)
   rw [L.m1] at a3
   rw [a2,a3,←a1]
  refine ⟨g1,g2,byp_wy A.hm A.wy h3 u1 hAB n3 n1 hc w1,?_,?_,?_,?_,?_,.inr ⟨b1,b2⟩,?_⟩
  ·rw [b5 h (pmz (by omega)) (pm1 E) k0.1 k0.2,A.e0]
  ·rw [b5 _ (tn_ne (by omega)) (pm E) k1.1 k1.2,A.e1]
  ·rw [b5 u (Ne.symm (pm0 E)) (pmz (by omega)) k2.1 k2.2,A.e2]
  ·rw [b5 _ (Ne.symm (pm E)) (tn_ne (by omega)) k3.1 k3.2,A.e3]
  ·rw [b5 _ (tn_ne (by omega)) (pm E) k4.1 k4.2,b5 _ (Ne.symm (pm E)) (tn_ne (by omega)) k5.1 k5.2];exact A.c
  ·intro z hz z1 z2 z5 z6
   by_cases z3:z=a (tn h 3)
   ·rw [z3,b3];exact Ne.symm c6
   ·by_cases z4:z=a (tn u 1)
    ·rw [z4,b4];exact c6
    ·rw [b5 z z5 z6 z3 z4];exact A.nf z hz z1 z2
theorem Lens.lb (hd:Valid d)(L:Lens d h u):LB2 d h u (lB d h u):=(L.la hd).lb (Valid.iff.1 hd).1 L
theorem LB2.rs (hw:Wf d)(L:Lens d h u){b:Nat→Nat}(B:LB2 d h u b){x y:Nat}(hxy:x<y)(hx:(x=h / 4∧y=u / 4)∨(x=u / 4∧y=h / 4)){mt:List Nat}{lp:Nat}(hl:lp≤64)
 (hmt:∀z,stay d [x,y] z→mt.getD z 0=b z):Rs d [x,y] mt lp b:=by
 have hin:∀z,z / 4 ∈ [x,y]↔z / 4=h / 4∨z / 4=u / 4:=fun z=>by
  rw [List.mem_cons,List.mem_singleton]
  rcases hx with ⟨rfl,rfl⟩ | ⟨rfl,rfl⟩
  ·exact Iff.rfl
  ·exact Or.comm
 have s0:∀k,tn h k / 4=h / 4∨tn h k / 4=u / 4:=fun k => .inl (tn_div h k)
 have s1:∀k,tn u k / 4=h / 4∨tn u k / 4=u / 4:=fun k => .inr (tn_div u k)
 refine ⟨by simp;omega,few_two hxy,B.hm,fun z hz=>?_,hmt,fun z hz e=>?_,hl⟩
 ·rw [hin]
  rcases (hin z).1 hz.2 with hz2 | hz2
  ·have:z=h∨z=tn h 1∨z=tn h 2∨z=tn h 3:=by unfold tn;omega
   rcases this with rfl | rfl | rfl | rfl
   ·rw [B.e0];exact .inr rfl
   ·rw [B.e1];exact s1 _
   ·rcases B.c with ⟨e,_⟩ | ⟨e,_⟩ <;> rw [e];exact s1 _;exact s0 _
   ·rcases B.c' with ⟨e,_⟩ | ⟨e,_⟩ <;> rw [e];exact s1 _;exact s0 _
  ·have:z=u∨z=tn u 1∨z=tn u 2∨z=tn u 3:=by unfold tn;omega
   rcases this with rfl | rfl | rfl | rfl
   ·rw [B.e2];exact .inl rfl
   ·rcases B.c' with ⟨_,e⟩ | ⟨_,e⟩ <;> rw [e];exact s0 _;exact s1 _
   ·rcases B.c with ⟨_,e⟩ | ⟨_,e⟩ <;> rw [e];exact s0 _;exact s1 _
   ·rw [B.e3];exact s0 _
 ·have hno:¬(z / 4=h / 4∨z / 4=u / 4):=fun e=>hz.2 ((hin z).2 e)
  have hq:∀k,z≠tn h k∧z≠tn u k:=fun k=>⟨fun e=>hno (by rw [e];exact s0 k),fun e=>hno (by rw [e];exact s1 k)⟩
  have:=B.wy z hz.1 (B.nf z hz.1 (hq 2).1 (hq 2).2 (hq 3).1 (hq 1).2)
  rw [this] at e
  cases h:out d z <;> rw [h] at e <;> exact absurd e (by decide)
theorem Lens.valid (hd:Valid d)(L:Lens d h u){x y:Nat}(hxy:x<y)(hx:(x=h / 4∧y=u / 4)∨(x=u / 4∧y=h / 4)){mt:List Nat}{lp:Nat}(hl:lp≤64)
 (hmt:∀z,stay d [x,y] z→mt.getD z 0=lB d h u z):Valid (rsD d [x,y] mt lp) :=
 ((L.lb hd).rs (Valid.iff.1 hd).1 L hxy hx hl hmt).valid (Valid.iff.1 hd).1 (L.lb hd).fl
end
end Go.Proofs.YtdgliimmnnhhjaaGreatDoor.Pl
end
section
namespace Go.Proofs.YtdgliimmnnhhjaaGreatDoor.Pl
theorem jl_comm {l:List Nat}{a b c e:Nat}(ac:a≠c)(ae:a≠e)(bc:b≠c)(be:b≠e):jl (jl l a b) c e=jl (jl l c e) a b:=by
 unfold jl
 rw [List.set_comm a e bc,List.set_comm b e ac,List.set_comm a c be,List.set_comm b c ae]
section
variable {M:Nat} {o:Nat→Bool} {l:List Nat} {a:Nat→Nat}
theorem two_at (m:MS M o l a){x u v:Nat}(hx:x<4 * M)(huv:u≠v)(nx:a x≠x)(fu:a u=u)(fv:a v=v) :
 tr (tr (tr a x (a x)) x u) v (a x) x=u∧tr (tr (tr a x (a x)) x u) v (a x) u=x∧tr (tr (tr a x (a x)) x u) v (a x) v=a x∧tr (tr (tr a x (a x)) x u) v (a x) (a x)=v ∧
 ∀z,z≠x→z≠u→z≠v→z≠a x→tr (tr (tr a x (a x)) x u) v (a x) z=a z:=by
 obtain ⟨c1,c2,c3⟩:=Hm.cut m.hm hx nx
 have xu:x≠u:=fun e=>nx (by rw [e];exact fu)
 have xv:x≠v:=fun e=>nx (by rw [e];exact fv)
 have yu:a x≠u:=fun e=>by have:=m.hm.inv x hx;rw [e,fu] at this;exact xu this.symm
 have yv:a x≠v:=fun e=>by have:=m.hm.inv x hx;rw [e,fv] at this;exact xv this.symm
 have fu1:tr a x (a x) u=u:=by rw [tr_ne (Ne.symm xu) (Ne.symm yu),fu]
 have fv1:tr a x (a x) v=v:=by rw [tr_ne (Ne.symm xv) (Ne.symm yv),fv]
 have fv2:tr (tr a x (a x)) x u v=v:=by rw [tr_ne (Ne.symm xv) (Ne.symm huv),fv1]
 have fy2:tr (tr a x (a x)) x u (a x)=a x:=by rw [tr_ne nx yu,c3]
 exact ⟨by rw [tr_ne xv (Ne.symm nx),tr_a,fu1],by rw [tr_ne huv (Ne.symm yu),tr_b,c2],by rw [tr_a,fy2],by rw [tr_b,fv2],fun z z1 z2 z3 z4=>by rw [tr_ne z3 z4,tr_ne z1 z2,tr_ne z1 z4]⟩
end
def pp (n f t:Nat):Nat:=4 * n+(t+f) % 4
theorem rot_pp (n f t:Nat):rot (pp n f t)=pp n f (t+3):=by unfold rot tn pp;omega
theorem pp_mod (n f t:Nat):pp n f (t+4)=pp n f t:=by unfold pp;omega
theorem pp_bd (n f t:Nat):4 * n≤pp n f t∧pp n f t<4 * n+4:=by unfold pp;omega
theorem pp_ne {n f s t:Nat}(h:s % 4≠t % 4):pp n f s≠pp n f t:=by unfold pp;omega
theorem pp_nq {n f g s t:Nat}:pp n f s≠pp (n+1) g t:=by unfold pp;omega
theorem pp_cover {n f z:Nat}(h:4 * n≤z∧z<4 * n+4):z=pp n f 0∨z=pp n f 1∨z=pp n f 2∨z=pp n f 3:=by unfold pp;omega
structure Pd (d d':Dg) (f g:Nat) (fx fy:Bool):Prop where
 few:d.n+2≤64
 n:d'.n=d.n+2
 lp:d'.lp≤64
 old:∀c,c<d.n→d'.s c=d.s c
 s0:d'.s d.n=1∨d'.s d.n = -1
 s1:d'.s (d.n+1)=1∨d'.s (d.n+1) = -1
 p0:out d' (pp d.n f 0) = !fy
 p1:out d' (pp d.n f 1)=fx
 p2:out d' (pp d.n f 2)=fy
 p3:out d' (pp d.n f 3) = !fx
 q0:out d' (pp (d.n+1) g 0) = !fy
 q1:out d' (pp (d.n+1) g 1) = !fx
 q2:out d' (pp (d.n+1) g 2)=fy
 q3:out d' (pp (d.n+1) g 3)=fx
section
variable {d d':Dg} {f g:Nat} {fx fy:Bool}
def pkL0 (d:Dg)(f g:Nat):List Nat:=jl (jl (d.mt++List.replicate 8 0) (pp d.n f 1) (pp (d.n+1) g 1)) (pp (d.n+1) g 2) (pp d.n f 0)
def pkB (d:Dg)(f g:Nat):Nat→Nat:=tr (tr (ex d.n d.m) (pp d.n f 1) (pp (d.n+1) g 1)) (pp (d.n+1) g 2) (pp d.n f 0)
theorem Pd.ext (hd:Valid d)(K:Pd d d' f g fx fy):MS (d.n+2) (out d') (d.mt++List.replicate 8 0) (ex d.n d.m):=by
 have hv:=Valid.iff.1 hd
 have hw:=hv.1
 refine ⟨ext_hm (by omega) hw.hm,ext_gen (by omega) hw.hm hv.2,fun z hz e=>?_,by rw [List.length_append,hw.len];simp;omega,fun z hz e=>?_⟩
 ·have hz2:z<4 * d.n:=Nat.lt_of_not_le fun h=>e (ex_new h)
  have hm:=hw.lt z hz2
  rw [ex_old hz2,out_old (d:=d) (K.old _ (by omega)),out_old (d:=d) (K.old _ (by omega)),out_way hw hz2]
 ·have hz2:z<4 * d.n:=Nat.lt_of_not_le fun h=>e (ex_new h)
  rw [ex_old hz2,←dg_m hw hz2,List.getD_eq_getElem?_getD,List.getD_eq_getElem?_getD,List.getElem?_append_left (by rw [hw.len];exact hz2)]
structure Bs (d d':Dg) (f g:Nat) (b:Nat→Nat):Prop where
 ms:MS (d.n+2) (out d') (pkL0 d f g) b
 old:∀z,z<4 * d.n→b z=d.m z
 b1:b (pp d.n f 1)=pp (d.n+1) g 1
 b2:b (pp (d.n+1) g 1)=pp d.n f 1
 b3:b (pp (d.n+1) g 2)=pp d.n f 0
 b4:b (pp d.n f 0)=pp (d.n+1) g 2
 f1:b (pp d.n f 2)=pp d.n f 2
 f2:b (pp d.n f 3)=pp d.n f 3
 f3:b (pp (d.n+1) g 0)=pp (d.n+1) g 0
 f4:b (pp (d.n+1) g 3)=pp (d.n+1) g 3
theorem Pd.base (hd:Valid d)(K:Pd d d' f g fx fy):Bs d d' f g (pkB d f g):=by
 have m0:=K.ext hd
 have P:∀t,4 * d.n≤pp d.n f t∧pp d.n f t<4 * d.n+4:=pp_bd d.n f
 have Q:∀t,4 * (d.n+1)≤pp (d.n+1) g t∧pp (d.n+1) g t<4 * (d.n+1)+4:=pp_bd (d.n+1) g
 have fP:∀t,ex d.n d.m (pp d.n f t)=pp d.n f t:=fun t=>ex_new (P t).1
 have fQ:∀t,ex d.n d.m (pp (d.n+1) g t)=pp (d.n+1) g t:=fun t=>ex_new (by have:=(Q t).1;omega)
 have pl:∀t,pp d.n f t<4 * (d.n+2):=fun t=>by have:=(P t).2;omega
 have ql:∀t,pp (d.n+1) g t<4 * (d.n+2):=fun t=>by have:=(Q t).2;omega
 have m1:=m0.join (pl 1) (ql 1) pp_nq (fP 1) (fQ 1) (by rw [K.q1,K.p1]) (.inr (.inr fun e=>by
  have:∀w,Con rot (ex d.n d.m) (pp d.n f 1) w→w / 4=d.n:=by
   intro w e
   induction e with
   | refl=>have:=P 1;omega
   | left _ ih=>show tn _ 3 / 4=d.n;rw [tn_div];exact ih
   | right _ ih=>rw [ex_new (by omega)];exact ih
  have h1:=this _ e
  have:=Q 1
  omega))
 have g1:∀z,z≠pp d.n f 1→z≠pp (d.n+1) g 1→tr (ex d.n d.m) (pp d.n f 1) (pp (d.n+1) g 1) z=ex d.n d.m z:=fun z z1 z2=>tr_ne z1 z2
 have m2:=m1.join (ql 2) (pl 0) (Ne.symm pp_nq) (by rw [g1 _ (Ne.symm pp_nq) (pp_ne (by omega)),fQ]) (by rw [g1 _ (pp_ne (by omega)) pp_nq,fP]) (by rw [K.q2,K.p0]) (.inl ⟨2,by
  show phi rot _ (phi rot _ (pp (d.n+1) g 2))=_
  have s1:phi rot (tr (ex d.n d.m) (pp d.n f 1) (pp (d.n+1) g 1)) (pp (d.n+1) g 2)=pp (d.n+1) g 1:=by
   unfold phi;rw [g1 _ (Ne.symm pp_nq) (pp_ne (by omega)),fQ,rot_pp,show 2+3=1+4 from rfl,pp_mod]
  have s2:phi rot (tr (ex d.n d.m) (pp d.n f 1) (pp (d.n+1) g 1)) (pp (d.n+1) g 1)=pp d.n f 0:=by
   unfold phi;rw [tr_b,fP,rot_pp,show 1+3=0+4 from rfl,pp_mod]
  rw [s1,s2]⟩)
 have g2:∀z,z≠pp (d.n+1) g 2→z≠pp d.n f 0→z≠pp d.n f 1→z≠pp (d.n+1) g 1→pkB d f g z=ex d.n d.m z:=fun z z1 z2 z3 z4=>by unfold pkB;rw [tr_ne z1 z2,tr_ne z3 z4]
 refine ⟨m2,fun z hz=>?_,?_,?_,?_,?_,?_,?_,?_,?_⟩
 ·have:=P 0;have:=P 1;have:=Q 1;have:=Q 2
  rw [g2 z (by omega) (by omega) (by omega) (by omega),ex_old hz]
 ·unfold pkB;rw [tr_ne pp_nq (pp_ne (by omega)),tr_a,fQ]
 ·unfold pkB;rw [tr_ne (pp_ne (by omega)) (Ne.symm pp_nq),tr_b,fP]
 ·unfold pkB;rw [tr_a,tr_ne (pp_ne (by omega)) pp_nq,fP]
 ·unfold pkB;rw [tr_b,tr_ne (Ne.symm pp_nq) (pp_ne (by omega)),fQ]
 ·rw [g2 _ pp_nq (pp_ne (by omega)) (pp_ne (by omega)) pp_nq,fP]
 ·rw [g2 _ pp_nq (pp_ne (by omega)) (pp_ne (by omega)) pp_nq,fP]
 ·rw [g2 _ (pp_ne (by omega)) (Ne.symm pp_nq) (Ne.symm pp_nq) (pp_ne (by omega)),fQ]
 ·rw [g2 _ (pp_ne (by omega)) (Ne.symm pp_nq) (Ne.symm pp_nq) (pp_ne (by omega)),fQ]
theorem Bs.far {b:Nat→Nat}(hd:Valid d)(B:Bs d d' f g b){x w:Nat}(hx:x<4 * d.n)(hw:4 * d.n≤w):¬Con rot b x w:=fun e=>by
 have:=con_old (n:=d.n) (b:=b) (fun z hz=>by rw [B.old z hz];exact (Valid.iff.1 hd).1.lt z hz) hx e
 omega
theorem Bs.fix {b:Nat→Nat}(hd:Valid d)(B:Bs d d' f g b){z:Nat}(hz:z<4 * (d.n+2))(e:b z=z):z=pp d.n f 2∨z=pp d.n f 3∨z=pp (d.n+1) g 0∨z=pp (d.n+1) g 3:=by
 rcases Nat.lt_or_ge z (4 * d.n) with h | h
 ·rw [B.old z h] at e;exact absurd e ((Valid.iff.1 hd).1.ne z h)
 ·rcases Nat.lt_or_ge z (4 * d.n+4) with h2 | h2
  ·rcases pp_cover (f:=f) ⟨h,h2⟩ with rfl | rfl | rfl | rfl
   ·rw [B.b4] at e;exact absurd e (Ne.symm pp_nq)
   ·rw [B.b1] at e;exact absurd e (Ne.symm pp_nq)
   ·exact .inl rfl
   ·exact .inr (.inl rfl)
  ·rcases pp_cover (n:=d.n+1) (f:=g) (z:=z) ⟨by omega,by omega⟩ with rfl | rfl | rfl | rfl
   ·exact .inr (.inr (.inl rfl))
   ·rw [B.b2] at e;exact absurd e pp_nq
   ·rw [B.b3] at e;exact absurd e pp_nq
   ·exact .inr (.inr (.inr rfl))
variable {b:Nat→Nat}
theorem stp {r b:Nat→Nat}{x y z:Nat}(e:b x=y)(h:r y=z):phi r b x=z:=by unfold phi;rw [e,h]
theorem Bs.pq (hd:Valid d)(B:Bs d d' f g b):(∀t,pp d.n f t<4 * (d.n+2))∧(∀t,pp (d.n+1) g t<4 * (d.n+2))∧(∀t z,z<4 * d.n→pp d.n f t≠z)∧(∀t z,z<4 * d.n→pp (d.n+1) g t≠z) :=
 ⟨fun t=>by have:=pp_bd d.n f t;omega,fun t=>by have:=pp_bd (d.n+1) g t;omega,fun t z hz=>by have:=pp_bd d.n f t;omega,fun t z hz=>by have:=pp_bd (d.n+1) g t;omega⟩
theorem rp (n f:Nat):rot (pp n f 0)=pp n f 3∧rot (pp n f 1)=pp n f 0∧rot (pp n f 2)=pp n f 1∧rot (pp n f 3)=pp n f 2 :=
 ⟨rot_pp n f 0,by rw [rot_pp,show 1+3=0+4 from rfl,pp_mod],by rw [rot_pp,show 2+3=1+4 from rfl,pp_mod],by rw [rot_pp,show 3+3=2+4 from rfl,pp_mod]⟩
theorem Pd.fin (hd:Valid d)(K:Pd d d' f g fx fy){l:List Nat}(m:MS (d.n+2) (out d') l b)(hl:d'.mt=l)(nf:∀z,z<4 * (d.n+2)→b z≠z):Valid d':=by
 have hw:=(Valid.iff.1 hd).1
 refine MS.valid (a:=b) (by rw [K.n,hl];exact m) (by rw [K.n];exact K.few) K.lp (fun c hc=>?_) (by rw [K.n];exact nf)
 rw [K.n] at hc
 rcases Nat.lt_or_ge c d.n with h | h
 ·rw [K.old c h];exact hw.sign c h
 ·rcases Nat.lt_or_ge d.n c with h2 | h2
  ·rw [show c=d.n+1 by omega];exact K.s1
  ·rw [show c=d.n by omega];exact K.s0
theorem Pd.self0 (hd:Valid d)(K:Pd d d' f g fx fx)(hl:d'.mt=jl (jl (pkL0 d f g) (pp (d.n+1) g 3) (pp (d.n+1) g 0)) (pp d.n f 2) (pp d.n f 3)):Valid d':=by
 have B:=K.base hd
 obtain ⟨pl,ql,po,qo⟩:=B.pq hd
 obtain ⟨r0,r1,r2,r3⟩:=rp d.n f
 obtain ⟨t0,t1,t2,t3⟩:=rp (d.n+1) g
 have m1:=B.ms.join (ql 3) (ql 0) (pp_ne (by omega)) B.f4 B.f3 (by rw [K.q0,K.q3]) (.inr (.inl ⟨1,stp B.f3 t0⟩))
 have e1:∀z,z≠pp (d.n+1) g 3→z≠pp (d.n+1) g 0→tr (pkB d f g) (pp (d.n+1) g 3) (pp (d.n+1) g 0) z=pkB d f g z:=fun z z1 z2=>tr_ne z1 z2
 have f2:=(e1 _ pp_nq pp_nq).trans B.f1
 have f3:=(e1 _ pp_nq pp_nq).trans B.f2
 have m2:=m1.join (pl 2) (pl 3) (pp_ne (by omega)) f2 f3 (by rw [K.p2,K.p3]) (.inr (.inl ⟨1,stp f3 r3⟩))
 refine K.fin hd m2 hl fun z hz e=>?_
 obtain ⟨g1,g2,g3⟩:=tr_fix (pp_ne (by omega)) f2 f3 e
 obtain ⟨g4,g5,g6⟩:=tr_fix (pp_ne (by omega)) B.f4 B.f3 g1
 rcases B.fix hd hz g4 with h | h | h | h
 ·exact g2 h
 ·exact g3 h
 ·exact g6 h
 ·exact g5 h
theorem Pd.self1 (hd:Valid d)(K:Pd d d' f g fx fx){x:Nat}(hx:x<4 * d.n)(ho:out d x=fx)(hl:d'.mt=jl (jl (jl (pkL0 d f g) x (pp d.n f 3)) (pp (d.n+1) g 3) (pp (d.n+1) g 0)) (pp d.n f 2) (d.m x)):Valid d':=by
 have hw:=(Valid.iff.1 hd).1
 have B:=K.base hd
 obtain ⟨pl,ql,po,qo⟩:=B.pq hd
 obtain ⟨r0,r1,r2,r3⟩:=rp d.n f
 obtain ⟨t0,t1,t2,t3⟩:=rp (d.n+1) g
 have hmx:=hw.lt x hx
 have m1:=B.ms.join (ql 3) (ql 0) (pp_ne (by omega)) B.f4 B.f3 (by rw [K.q0,K.q3]) (.inr (.inl ⟨1,stp B.f3 t0⟩))
 obtain ⟨b1,hb1⟩:∃b1,b1=tr (pkB d f g) (pp (d.n+1) g 3) (pp (d.n+1) g 0):=⟨_,rfl⟩
 rw [←hb1] at m1
 have e1:∀z,z≠pp (d.n+1) g 3→z≠pp (d.n+1) g 0→b1 z=pkB d f g z:=fun z z1 z2=>by rw [hb1];exact tr_ne z1 z2
 have f2:b1 (pp d.n f 2)=pp d.n f 2:=(e1 _ pp_nq pp_nq).trans B.f1
 have f3:b1 (pp d.n f 3)=pp d.n f 3:=(e1 _ pp_nq pp_nq).trans B.f2
 have v0:b1 (pp (d.n+1) g 0)=pp (d.n+1) g 3:=by rw [hb1,tr_b,B.f4]
 have v1:b1 (pp d.n f 1)=pp (d.n+1) g 1:=(e1 _ pp_nq pp_nq).trans B.b1
 have v2:b1 (pp (d.n+1) g 2)=pp d.n f 0:=(e1 _ (pp_ne (by omega)) (pp_ne (by omega))).trans B.b3
 have old:∀z,z<4 * d.n→b1 z=d.m z:=fun z hz=>(e1 z (Ne.symm (qo 3 z hz)) (Ne.symm (qo 0 z hz))).trans (B.old z hz)
 have hx2:x<4 * (d.n+2):=by omega
 have wx:out d' x=fx:=by rw [out_old (d:=d) (K.old _ (by omega)),ho]
 have nx:b1 x≠x:=by rw [old x hx];exact hw.ne x hx
 have m2:=m1.detour hx2 (pl 3) (pl 2) (pp_ne (by omega)) nx f3 f2 (by rw [K.p3,wx]) (by rw [K.p2,wx])
  (fun e=>by have:=con_old (n:=d.n) (b:=b1) (fun z hz=>by rw [old z hz];exact hw.lt z hz) hx e;exact po 3 _ this rfl)
  ⟨4, by
    show phi rot b1 (phi rot b1 (phi rot b1 (phi rot b1 (pp d.n f 2))))=_
    rw [stp f2 r2,stp v1 t1,stp v0 t3,stp v2 r0]⟩
 refine K.fin hd m2 ?_ fun z hz e=>?_
 ·rw [hl,old x hx,jl_comm (a:=x) (b:=pp d.n f 3) (Ne.symm (qo 3 x hx)) (Ne.symm (qo 0 x hx)) pp_nq pp_nq]
 ·obtain ⟨g1,g2,g3⟩:=two_fix m1 hx2 (pl 3) (pl 2) (pp_ne (by omega)) nx f3 f2 e
  rw [hb1] at g1
  obtain ⟨g4,g5,g6⟩:=tr_fix (pp_ne (by omega)) B.f4 B.f3 g1
  rcases B.fix hd hz g4 with h | h | h | h
  ·exact g3 h
  ·exact g2 h
  ·exact g6 h
  ·exact g5 h
theorem Pd.self2 (hd:Valid d)(K:Pd d d' f g fx fx){x:Nat}(hx:x<4 * d.n)(ho:out d x=fx)(hl:d'.mt=jl (jl (jl (pkL0 d f g) x (pp (d.n+1) g 0)) (pp d.n f 2) (pp d.n f 3)) (pp (d.n+1) g 3) (d.m x)):Valid d':=by
 have hw:=(Valid.iff.1 hd).1
 have B:=K.base hd
 obtain ⟨pl,ql,po,qo⟩:=B.pq hd
 obtain ⟨r0,r1,r2,r3⟩:=rp d.n f
 obtain ⟨t0,t1,t2,t3⟩:=rp (d.n+1) g
 have hmx:=hw.lt x hx
 have m1:=B.ms.join (pl 2) (pl 3) (pp_ne (by omega)) B.f1 B.f2 (by rw [K.p2,K.p3]) (.inr (.inl ⟨1,stp B.f2 r3⟩))
 obtain ⟨b1,hb1⟩:∃b1,b1=tr (pkB d f g) (pp d.n f 2) (pp d.n f 3):=⟨_,rfl⟩
 rw [←hb1] at m1
 have e1:∀z,z≠pp d.n f 2→z≠pp d.n f 3→b1 z=pkB d f g z:=fun z z1 z2=>by rw [hb1];exact tr_ne z1 z2
 have f0:b1 (pp (d.n+1) g 0)=pp (d.n+1) g 0:=(e1 _ (Ne.symm pp_nq) (Ne.symm pp_nq)).trans B.f3
 have f3:b1 (pp (d.n+1) g 3)=pp (d.n+1) g 3:=(e1 _ (Ne.symm pp_nq) (Ne.symm pp_nq)).trans B.f4
 have v1:b1 (pp d.n f 1)=pp (d.n+1) g 1:=(e1 _ (pp_ne (by omega)) (pp_ne (by omega))).trans B.b1
 have v2:b1 (pp (d.n+1) g 2)=pp d.n f 0:=(e1 _ (Ne.symm pp_nq) (Ne.symm pp_nq)).trans B.b3
 have v3:b1 (pp d.n f 3)=pp d.n f 2:=by rw [hb1,tr_b,B.f1]
 have old:∀z,z<4 * d.n→b1 z=d.m z:=fun z hz=>(e1 z (Ne.symm (po 2 z hz)) (Ne.symm (po 3 z hz))).trans (B.old z hz)
 have hx2:x<4 * (d.n+2):=by omega
 have wx:out d' x=fx:=by rw [out_old (d:=d) (K.old _ (by omega)),ho]
 have nx:b1 x≠x:=by rw [old x hx];exact hw.ne x hx
 have m2:=m1.detour hx2 (ql 0) (ql 3) (pp_ne (by omega)) nx f0 f3 (by rw [K.q0,wx]) (by rw [K.q3,wx])
  (fun e=>by have:=con_old (n:=d.n) (b:=b1) (fun z hz=>by rw [old z hz];exact hw.lt z hz) hx e;exact qo 0 _ this rfl)
  ⟨4, by
    show phi rot b1 (phi rot b1 (phi rot b1 (phi rot b1 (pp (d.n+1) g 3))))=_
    rw [stp f3 t3,stp v2 r0,stp v3 r2,stp v1 t1]⟩
 refine K.fin hd m2 ?_ fun z hz e=>?_
 ·rw [hl,old x hx,jl_comm (a:=x) (b:=pp (d.n+1) g 0) (Ne.symm (po 2 x hx)) (Ne.symm (po 3 x hx)) (Ne.symm pp_nq) (Ne.symm pp_nq)]
 ·obtain ⟨g1,g2,g3⟩:=two_fix m1 hx2 (ql 0) (ql 3) (pp_ne (by omega)) nx f0 f3 e
  rw [hb1] at g1
  obtain ⟨g4,g5,g6⟩:=tr_fix (pp_ne (by omega)) B.f1 B.f2 g1
  rcases B.fix hd hz g4 with h | h | h | h
  ·exact g5 h
  ·exact g6 h
  ·exact g2 h
  ·exact g3 h
structure Ys (d d':Dg) (f g:Nat) (l:List Nat) (b:Nat→Nat):Prop where
 ms:MS (d.n+2) (out d') l b
 v0:b (pp d.n f 1)=pp (d.n+1) g 1
 v2:b (pp (d.n+1) g 2)=pp d.n f 0
 f3:b (pp d.n f 3)=pp d.n f 3
 f4:b (pp (d.n+1) g 3)=pp (d.n+1) g 3
 fix:∀z,z<4 * (d.n+2)→b z=z→z=pp d.n f 3∨z=pp (d.n+1) g 3
theorem Ys.orb {l:List Nat}(Y:Ys d d' f g l b):Orb (phi rot b) (pp (d.n+1) g 3) (pp d.n f 3):=by
 obtain ⟨r0,r1,r2,r3⟩:=rp d.n f
 obtain ⟨t0,t1,t2,t3⟩:=rp (d.n+1) g
 refine ⟨2,?_⟩
 show phi rot b (phi rot b (pp (d.n+1) g 3))=_
 rw [stp Y.f4 t3,stp Y.v2 r0]
theorem Pd.yloop (hd:Valid d)(K:Pd d d' f g fx fy):Ys d d' f g (jl (pkL0 d f g) (pp (d.n+1) g 0) (pp d.n f 2)) (tr (pkB d f g) (pp (d.n+1) g 0) (pp d.n f 2))∧∀z,z<4 * d.n→tr (pkB d f g) (pp (d.n+1) g 0) (pp d.n f 2) z=d.m z:=by
 have B:=K.base hd
 obtain ⟨pl,ql,po,qo⟩:=B.pq hd
 obtain ⟨r0,r1,r2,r3⟩:=rp d.n f
 obtain ⟨t0,t1,t2,t3⟩:=rp (d.n+1) g
 have e1:∀z,z≠pp (d.n+1) g 0→z≠pp d.n f 2→tr (pkB d f g) (pp (d.n+1) g 0) (pp d.n f 2) z=pkB d f g z:=fun z z1 z2=>tr_ne z1 z2
 refine ⟨⟨B.ms.join (ql 0) (pl 2) (Ne.symm pp_nq) B.f3 B.f1 (by rw [K.p2,K.q0,Bool.not_not]) (.inr (.inl ⟨2,by
  show phi rot _ (phi rot _ (pp d.n f 2))=_
  rw [stp B.f1 r2,stp B.b1 t1]⟩)),?_,?_,?_,?_,fun z hz e=>?_⟩,fun z hz=>?_⟩
 ·rw [e1 _ pp_nq (pp_ne (by omega)),B.b1]
 ·rw [e1 _ (pp_ne (by omega)) (Ne.symm pp_nq),B.b3]
 ·rw [e1 _ pp_nq (pp_ne (by omega)),B.f2]
 ·rw [e1 _ (pp_ne (by omega)) (Ne.symm pp_nq),B.f4]
 ·obtain ⟨g1,g2,g3⟩:=tr_fix (Ne.symm pp_nq) B.f3 B.f1 e
  rcases B.fix hd hz g1 with h | h | h | h
  ·exact absurd h g3
  ·exact .inl h
  ·exact absurd h g2
  ·exact .inr h
 ·rw [e1 z (Ne.symm (qo 0 z hz)) (Ne.symm (po 2 z hz)),B.old z hz]
theorem Pd.yedge (hd:Valid d)(K:Pd d d' f g fx fy){y:Nat}(hy:y<4 * d.n)(ho:out d y=fy) :
 ∃ b, Ys d d' f g (jl (jl (pkL0 d f g) y (pp (d.n + 1) g 0)) (pp d.n f 2) (d.m y)) b ∧ (∀ z, z < 4 * d.n → z ≠ y → z ≠ d.m y → b z = d.m z) ∧ b y = pp (d.n + 1) g 0 ∧ b (pp (d.n + 1) g 0) = y ∧ b (pp d.n f 2) = d.m y ∧ b (d.m y) = pp d.n f 2 ∧
   b (pp (d.n+1) g 1)=pp d.n f 1∧b (pp d.n f 0)=pp (d.n+1) g 2:=by
 have hw:=(Valid.iff.1 hd).1
 have B:=K.base hd
 obtain ⟨pl,ql,po,qo⟩:=B.pq hd
 obtain ⟨r0,r1,r2,r3⟩:=rp d.n f
 obtain ⟨t0,t1,t2,t3⟩:=rp (d.n+1) g
 have hmy:=hw.lt y hy
 have hy2:y<4 * (d.n+2):=by omega
 have wy:out d' y=fy:=by rw [out_old (d:=d) (K.old _ (by omega)),ho]
 have ny:pkB d f g y≠y:=by rw [B.old y hy];exact hw.ne y hy
 have m2:=B.ms.detour hy2 (ql 0) (pl 2) (Ne.symm pp_nq) ny B.f3 B.f1 (by rw [K.q0,wy]) (by rw [K.p2,wy]) (B.far hd hy (by have:=pp_bd (d.n+1) g 0;omega)) ⟨2,by
  show phi rot _ (phi rot _ (pp d.n f 2))=_
  rw [stp B.f1 r2,stp B.b1 t1]⟩
 obtain ⟨a1,a2,a3,a4,a5⟩:=two_at B.ms hy2 (u:=pp (d.n+1) g 0) (v:=pp d.n f 2) (Ne.symm pp_nq) ny B.f3 B.f1
 have fx:=fun z=>two_fix (z:=z) B.ms hy2 (ql 0) (pl 2) (Ne.symm pp_nq) ny B.f3 B.f1
 rw [B.old y hy] at m2 a1 a2 a3 a4 a5 fx
 refine ⟨_,⟨m2,?_,?_,?_,?_,fun z hz e=>?_⟩,fun z hz z1 z2=>?_,a1,a2,a3,a4,?_,?_⟩
 ·rw [a5 _ (po 1 y hy) pp_nq (pp_ne (by omega)) (po 1 _ hmy),B.b1]
 ·rw [a5 _ (qo 2 y hy) (pp_ne (by omega)) (Ne.symm pp_nq) (qo 2 _ hmy),B.b3]
 ·rw [a5 _ (po 3 y hy) pp_nq (pp_ne (by omega)) (po 3 _ hmy),B.f2]
 ·rw [a5 _ (qo 3 y hy) (pp_ne (by omega)) (Ne.symm pp_nq) (qo 3 _ hmy),B.f4]
 ·obtain ⟨g1,g2,g3⟩:=fx z e
  rcases B.fix hd hz g1 with h | h | h | h
  ·exact absurd h g3
  ·exact .inl h
  ·exact absurd h g2
  ·exact .inr h
 ·rw [a5 z z1 (Ne.symm (qo 0 z hz)) (Ne.symm (po 2 z hz)) z2,B.old z hz]
 ·rw [a5 _ (qo 1 y hy) (pp_ne (by omega)) (Ne.symm pp_nq) (qo 1 _ hmy),B.b2]
 ·rw [a5 _ (po 0 y hy) pp_nq (pp_ne (by omega)) (po 0 _ hmy),B.b4]
theorem Ys.xloop (hd:Valid d)(K:Pd d d' f g fx fy){l:List Nat}(Y:Ys d d' f g l b)(hl:d'.mt=jl l (pp d.n f 3) (pp (d.n+1) g 3)):Valid d':=by
 have B:=K.base hd
 obtain ⟨pl,ql,po,qo⟩:=B.pq hd
 have m2:=Y.ms.join (pl 3) (ql 3) pp_nq Y.f3 Y.f4 (by rw [K.q3,K.p3,Bool.not_not]) (.inr (.inl Y.orb))
 refine K.fin hd m2 hl fun z hz e=>?_
 obtain ⟨g1,g2,g3⟩:=tr_fix pp_nq Y.f3 Y.f4 e
 rcases Y.fix z hz g1 with h | h
 ·exact g2 h
 ·exact g3 h
theorem Ys.end_ (hd:Valid d)(K:Pd d d' f g fx fy){l:List Nat}(Y:Ys d d' f g l b){x:Nat}(hx:x<4 * d.n)(hb:b x=d.m x)(m2:MS (d.n+2) (out d') (jl (jl l x (pp d.n f 3)) (pp (d.n+1) g 3) (b x)) (tr (tr (tr b x (b x)) x (pp d.n f 3)) (pp (d.n+1) g 3) (b x)))(hl:d'.mt=jl (jl l x (pp d.n f 3)) (pp (d.n+1) g 3) (d.m x)):Valid d':=by
 have B:=K.base hd
 obtain ⟨pl,ql,po,qo⟩:=B.pq hd
 have nx:b x≠x:=by rw [hb];exact (Valid.iff.1 hd).1.ne x hx
 refine K.fin hd m2 (by rw [hb];exact hl) fun z hz e=>?_
 obtain ⟨g1,g2,g3⟩:=two_fix Y.ms (by omega) (pl 3) (ql 3) pp_nq nx Y.f3 Y.f4 e
 rcases Y.fix z hz g1 with h | h
 ·exact g2 h
 ·exact g3 h
theorem Ys.xedge0 (hd:Valid d)(K:Pd d d' f g fx fy){l:List Nat}(Y:Ys d d' f g l b)(old:∀z,z<4 * d.n→b z=d.m z){x:Nat}(hx:x<4 * d.n)(ho:out d x=fx)(hl:d'.mt=jl (jl l x (pp d.n f 3)) (pp (d.n+1) g 3) (d.m x)):Valid d':=by
 have hw:=(Valid.iff.1 hd).1
 have B:=K.base hd
 obtain ⟨pl,ql,po,qo⟩:=B.pq hd
 have nx:b x≠x:=by rw [old x hx];exact hw.ne x hx
 have wx:out d' x=fx:=by rw [out_old (d:=d) (K.old _ (by omega)),ho]
 exact Y.end_ hd K hx (old x hx) (Y.ms.detour (by omega) (pl 3) (ql 3) pp_nq nx Y.f3 Y.f4 (by rw [K.p3,wx]) (by rw [K.q3,wx]) (fun e=>by
  have:=con_old (n:=d.n) (b:=b) (fun z hz=>by rw [old z hz];exact hw.lt z hz) hx e
  exact po 3 _ this rfl) Y.orb) hl
theorem Pd.edges (hd:Valid d)(K:Pd d d' f g fx fy){x y:Nat}(hx:x<4 * d.n)(hy:y<4 * d.n)(ox:out d x=fx)(oy:out d y=fy)(hxy:x≠y)(hm:d.m x≠y)(hn:Orb (nx d) x y∨¬Comp d (x / 4) (y / 4))
 (hl:d'.mt=jl (jl (jl (jl (pkL0 d f g) y (pp (d.n+1) g 0)) (pp d.n f 2) (d.m y)) x (pp d.n f 3)) (pp (d.n+1) g 3) (d.m x)):Valid d':=by
 have hw:=(Valid.iff.1 hd).1
 have B:=K.base hd
 obtain ⟨pl,ql,po,qo⟩:=B.pq hd
 obtain ⟨r0,r1,r2,r3⟩:=rp d.n f
 obtain ⟨t0,t1,t2,t3⟩:=rp (d.n+1) g
 obtain ⟨b,Y,old,e1,e2,e3,e4,e5,e6⟩:=K.yedge hd hy oy
 have hmy:=hw.lt y hy
 have hmx:=hw.lt x hx
 have xmy:x≠d.m y:=fun e=>hm (by rw [e,hw.inv y hy])
 have hb:b x=d.m x:=old x hx hxy xmy
 have nx':b x≠x:=by rw [hb];exact hw.ne x hx
 have wx:out d' x=fx:=by rw [out_old (d:=d) (K.old _ (by omega)),ox]
 refine Y.end_ hd K hx hb (Y.ms.push (y:=x) (c:=pp d.n f 3) (e:=pp (d.n+1) g 3) (p:=pp (d.n+1) g 2) (by omega) (pl 3) (ql 3) pp_nq nx' Y.f3 Y.f4 (by rw [K.p3,wx]) (by rw [K.q3,wx]) (stp Y.f4 t3) (stp Y.v2 r0) (qo 2 x hx) (Ne.symm pp_nq) (by rw [hb];exact qo 2 _ hmx) ?_) hl
 -- the faces of the old diagram,in the new one
 have sim:∀z,z<4 * d.n→Orb (phi rot b) z (nx d z):=fun z hz=>by
  by_cases z1:z=y
  ·subst z1
   refine ⟨5,?_⟩
   show phi rot b (phi rot b (phi rot b (phi rot b (phi rot b z))))=_
   rw [stp e1 t0,stp Y.f4 t3,stp Y.v2 r0,stp Y.f3 r3,stp e3 rfl]
   rfl
  ·by_cases z2:z=d.m y
   ·subst z2
    refine ⟨3,?_⟩
    show phi rot b (phi rot b (phi rot b (d.m y)))=_
    rw [stp e4 r2,stp Y.v0 t1,stp e2 rfl]
    show _=rot (d.m (d.m y))
    rw [hw.inv y hy]
   ·exact ⟨1,by show rot (b z)=rot (d.m z);rw [old z hz z1 z2]⟩
 have yp:Orb (phi rot b) y (pp d.n f 3):=⟨3,by
  show phi rot b (phi rot b (phi rot b y))=_
  rw [stp e1 t0,stp Y.f4 t3,stp Y.v2 r0]⟩
 have hM:∀{z},z<4 * d.n→z<4 * (d.n+2):=fun h=>by omega
 have sym:∀{u v},u<4 * (d.n+2)→Orb (phi rot b) u v→Orb (phi rot b) v u:=fun hu e=>Y.ms.hm.pb.symm hu e
 rcases hn with h | h
 ·left
  have hyx:Orb (nx d) y x:=hw.hm.pb.symm (x:=x) (y:=y) hx h
  have:Orb (phi rot b) y x:=by
   obtain ⟨k,hk⟩:=hyx
   have run:∀j,Orb (phi rot b) y (it (nx d) j y)∧it (nx d) j y<4 * d.n:=by
    intro j
    induction j with
    | zero=>exact ⟨Orb.refl _ _,hy⟩
    | succ j ih=>exact ⟨ih.1.trans (sim _ ih.2),tn_lt (hw.lt _ ih.2)⟩
   rw [←hk]
   exact (run k).1
  exact (sym (hM hy) yp).trans this
 ·right
  intro e
  have:∀w,Con rot b (pp d.n f 3) w→w<4 * d.n→Con rot d.m y w:=by
   have key:∀w,Con rot b (pp d.n f 3) w→w<4 * (d.n+2)∧(4 * d.n≤w∨(w<4 * d.n∧Con rot d.m y w)):=by
    intro w e
    induction e with
    | refl=>exact ⟨pl 3,.inl (pp_bd _ _ _).1⟩
    | left _ ih =>
      refine ⟨rot_lt ih.1,?_⟩
      rcases ih.2 with h | ⟨h1,h2⟩
      ·exact .inl (rot_ge h)
      ·exact .inr ⟨rot_lt h1,h2.left⟩
    | @right w _ ih =>
      have hbw:=Y.ms.hm.ab.maps w ih.1
      refine ⟨hbw,?_⟩
      rcases Nat.lt_or_ge (b w) (4 * d.n) with h3 | h3
      ·refine .inr ⟨h3,?_⟩
       have hinv:=Y.ms.hm.inv w ih.1
       by_cases z1:b w=y
       ·rw [z1];exact .refl
       ·by_cases z2:b w=d.m y
        ·rw [z2];exact Con.refl.right
        ·rw [old _ h3 z1 z2] at hinv
         have hw2:w<4 * d.n:=by rw [←hinv];exact hw.lt _ h3
         rcases ih.2 with h | ⟨_,h2⟩
         ·omega
         ·have:b w=d.m w:=by have h5:=hw.inv _ h3;rw [hinv] at h5;exact h5.symm
          rw [this];exact h2.right
      ·exact .inl h3
   intro w e hwl
   rcases (key w e).2 with h | h
   ·omega
   ·exact h.2
  have:=this x e hx
  exact h ((con_comp hw hx hy).1 (hw.hm.con_symm hy this))
end
end Go.Proofs.YtdgliimmnnhhjaaGreatDoor.Pl
end
section
namespace Go.Proofs.YtdgliimmnnhhjaaGreatDoor.Pl
def op (h:Nat):Nat:=tn h 2
theorem op_op (h:Nat):op (op h)=h:=by unfold op;rw [tn_tn];exact tn_four h
theorem op_bij (k:Nat):Bij (4 * k) (fun h=>h<4 * k) op:=⟨fun _ h=>h,fun _ h=>tn_lt h,fun _ _ _ _ e=>tn_inj e⟩
theorem Hm.op {n:Nat}{b:Nat→Nat}(h:Hm (4 * n) (fun h=>h<4 * n) rot b):Hm (4 * n) (fun h=>h<4 * n) Pl.op b:=⟨op_bij n,h.ab,h.inv⟩
theorem Cls.one {S:Nat→Prop}{R:Nat→Nat→Prop}{a:Nat}(hE:Eqv S R)(ha:S a)(h:∀x,S x→R a x):Cls S R 1 :=
 ⟨fun _=>0,fun _ _=>Nat.zero_lt_one,fun x y hx hy=>⟨fun _=>hE.trans _ _ _ hx ha hy (hE.symm _ _ ha hx (h x hx)) (h y hy),fun _=>rfl⟩,fun i hi=>⟨a,ha,(by omega:(0:Nat)=i)⟩⟩
def grp (h u z:Nat):Prop:=z=h∨z=u∨z=tn h 2∨z=tn u 2
structure Gp (n:Nat) (b:Nat→Nat) (h u:Nat):Prop where
 hm:Hm (4 * n) (fun h=>h<4 * n) rot b
 hh:h<4 * n
 hu:u<4 * n
 e0:b h=u
 n1:h≠u
 n2:h≠tn u 2
 n3:u≠tn h 2
section
variable {n:Nat} {b:Nat→Nat} {h u:Nat}
theorem Gp.e2 (G:Gp n b h u):b u=h:=by rw [←G.e0,G.hm.inv _ G.hh]
theorem Gp.mem (G:Gp n b h u){z:Nat}(hz:grp h u z):z<4 * n:=by
 rcases hz with rfl | rfl | rfl | rfl
 ·exact G.hh
 ·exact G.hu
 ·exact tn_lt G.hh
 ·exact tn_lt G.hu
theorem Gp.nAB (G:Gp n b h u):tn h 2≠tn u 2:=fun e=>G.n1 (tn_inj e)
theorem tt2 (h:Nat):tn (tn h 2) 2=h:=op_op h
theorem Gp.free (G:Gp n b h u)(fA:b (tn h 2)=tn h 2)(fB:b (tn u 2)=tn u 2) :
 Cls (grp h u) (Orb (phi op b)) 1∧(∀z,grp h u z→grp h u (phi op b z))∧Orb (phi op b) (tn h 2) (tn u 2):=by
 have p1:phi op b h=tn u 2:=by show tn (b h) 2=_;rw [G.e0]
 have p2:phi op b u=tn h 2:=by show tn (b u) 2=_;rw [G.e2]
 have p3:phi op b (tn h 2)=h:=by show tn (b (tn h 2)) 2=_;rw [fA,tt2]
 have p4:phi op b (tn u 2)=u:=by show tn (b (tn u 2)) 2=_;rw [fB,tt2]
 have cl:∀z,grp h u z→grp h u (phi op b z):=by
  rintro z (rfl | rfl | rfl | rfl)
  ·rw [p1];exact .inr (.inr (.inr rfl))
  ·rw [p2];exact .inr (.inr (.inl rfl))
  ·rw [p3];exact .inl rfl
  ·rw [p4];exact .inr (.inl rfl)
 have hE:=(G.hm.op).pb.eqv
 have s1:Orb (phi op b) h (tn u 2):=⟨1,p1⟩
 have s2:Orb (phi op b) h u:=s1.trans ⟨1,p4⟩
 have s3:Orb (phi op b) h (tn h 2):=s2.trans ⟨1,p2⟩
 refine ⟨Cls.one ⟨fun x hx=>hE.refl x (G.mem hx),fun x y hx hy=>hE.symm x y (G.mem hx) (G.mem hy),fun x y z hx hy hz=>hE.trans x y z (G.mem hx) (G.mem hy) (G.mem hz)⟩ (a:=h) (.inl rfl) ?_,cl,(show Orb (phi op b) (tn h 2) h from ⟨1,p3⟩).trans s1⟩
 rintro x (rfl | rfl | rfl | rfl)
 ·exact Orb.refl _ _
 ·exact s2
 ·exact s3
 ·exact s1
theorem Gp.closed (G:Gp n b h u)(fA:b (tn h 2)=tn u 2):Cls (grp h u) (Orb (phi op b)) 2∧∀z,grp h u z→grp h u (phi op b z):=by
 have fB:b (tn u 2)=tn h 2:=by rw [←fA,G.hm.inv _ (tn_lt G.hh)]
 have p1:phi op b h=tn u 2:=by show tn (b h) 2=_;rw [G.e0]
 have p2:phi op b u=tn h 2:=by show tn (b u) 2=_;rw [G.e2]
 have p3:phi op b (tn h 2)=u:=by show tn (b (tn h 2)) 2=_;rw [fA,tt2]
 have p4:phi op b (tn u 2)=h:=by show tn (b (tn u 2)) 2=_;rw [fB,tt2]
 have hE:=(G.hm.op).pb.eqv
 have cl:∀z,grp h u z→grp h u (phi op b z):=by
  rintro z (rfl | rfl | rfl | rfl)
  ·rw [p1];exact .inr (.inr (.inr rfl))
  ·rw [p2];exact .inr (.inr (.inl rfl))
  ·rw [p3];exact .inr (.inl rfl)
  ·rw [p4];exact .inl rfl
 refine ⟨?_,cl⟩
 have c1:Cls (fun z=>z=h∨z=tn u 2) (Orb (phi op b)) 1:=by
  refine Cls.one ⟨fun x hx=>Orb.refl _ _,fun x y hx hy e=>hE.symm x y ?_ ?_ e,fun x y z _ _ _ e e'=>e.trans e'⟩ (a:=h) (.inl rfl) ?_
  ·rcases hx with rfl | rfl;exact G.hh;exact tn_lt G.hu
  ·rcases hy with rfl | rfl;exact G.hh;exact tn_lt G.hu
  ·rintro x (rfl | rfl);exact Orb.refl _ _;exact ⟨1,p1⟩
 have c2:Cls (fun z=>z=u∨z=tn h 2) (Orb (phi op b)) 1:=by
  refine Cls.one ⟨fun x hx=>Orb.refl _ _,fun x y hx hy e=>hE.symm x y ?_ ?_ e,fun x y z _ _ _ e e'=>e.trans e'⟩ (a:=u) (.inl rfl) ?_
  ·rcases hx with rfl | rfl;exact G.hu;exact tn_lt G.hh
  ·rcases hy with rfl | rfl;exact G.hu;exact tn_lt G.hh
  ·rintro x (rfl | rfl);exact Orb.refl _ _;exact ⟨1,p2⟩
 have k1:∀z,(z=h∨z=tn u 2)→(phi op b z=h∨phi op b z=tn u 2):=by rintro z (rfl | rfl);exact .inr p1;exact .inl p4
 have k2:∀z,(z=u∨z=tn h 2)→(phi op b z=u∨phi op b z=tn h 2):=by rintro z (rfl | rfl);exact .inr p2;exact .inl p3
 have dis:∀x,(x=h∨x=tn u 2)→¬(x=u∨x=tn h 2):=by
  rintro x (rfl | rfl) (e | e)
  ·exact G.n1 e
  ·unfold tn at e;omega
  ·unfold tn at e;omega
  ·exact G.nAB e.symm
 have:=Cls.add c1 c2 (fun x y hx hy e=>dis _ (orb_closed (P:=fun z=>z=h∨z=tn u 2) k1 hx e) hy) (fun x y hx hy e=>dis _ hx (orb_closed (P:=fun z=>z=u∨z=tn h 2) k2 hy e)) dis
 refine Cls.congr this (fun x=>?_) (fun _ _ _ _=>Iff.rfl)
 unfold grp
 constructor
 ·rintro ((e | e) | (e | e))
  ·exact .inl e
  ·exact .inr (.inr (.inr e))
  ·exact .inr (.inl e)
  ·exact .inr (.inr (.inl e))
 ·rintro (e | e | e | e)
  ·exact .inl (.inl e)
  ·exact .inr (.inl e)
  ·exact .inr (.inr e)
  ·exact .inl (.inr e)
end
section
variable {N:Nat} {S:Nat→Prop} {r a:Nat→Nat}
theorem byp_cls (h:Hm N S r a){u v:Nat}(hu:S u)(hv:S v)(huv:u≠v)(nu:a u≠u)(nv:a v≠v)(nuv:a u≠v)(ho:Orb (phi r (cut2 a u v)) u v)(nx:¬Orb (phi r (cut2 a u v)) u (a u))(ny:¬Orb (phi r (cut2 a u v)) u (a v)){k:Nat}(hk:Cls S (Orb (phi r a)) k) :
 Cls S (Orb (phi r (byp a u v))) (k+1):=by
 obtain ⟨c0,c1,c2,c3,c4,c5,c6,c7⟩:=cut2_hm h hu hv huv nu nv nuv
 have hx:=h.ab.maps u hu
 have hy:=h.ab.maps v hv
 obtain ⟨c,hc⟩:∃c,c=cut2 a u v:=⟨_,rfl⟩
 unfold byp
 rw [←hc] at ho nx ny c0 c1 c2 c3 c4 c5
 rw [←hc]
 obtain ⟨k0,hk0⟩:=Cls.exists_ N S _ c0.pb.lt c0.pb.eqv
 have hpos:=hk0.pos hu
 obtain ⟨k1,rfl⟩:∃k1,k0=k1+1:=⟨k0 - 1,by omega⟩
 have e1:=Cls.merge c0.pb hu hx nx hk0
 have hb1:=c0.pb.tr hu hx
 have sym:=fun {x y} (hx:S x) (e:Orb (phi r c) x y)=>c0.pb.symm hx e
 have mg:=fun {x y} (hx':S x)=>c0.pb.merge hu hx nx (x:=x) (y:=y) hx'
 have nvu:=sym hu ho
 rw [phi_tr]
 have hphi:phi r a=tr (tr (phi r c) u (a u)) v (a v):=by
  have:phi r a=phi r (tr (tr c u (a u)) v (a v)):=by rw [←c5]
  rw [this,phi_tr,phi_tr]
 rw [hphi] at hk
 by_cases hxy:Orb (phi r c) (a u) (a v)
 ·-- parted,twice
  have hvy:Orb (tr (phi r c) u (a u)) v (a v):=(mg hv).2 (.inr (.inl ⟨nvu,hxy⟩))
  have e2:=Cls.part hb1 hv hy (Ne.symm nv) hvy e1
  have e3:=Cls.part c0.pb hx hy c6 hxy hk0
  rw [hk.unique e2]
  exact e3
 ·have nvy : ¬ Orb (tr (phi r c) u (a u)) v (a v) := fun e => by
   rcases (mg hv).1 e with e | ⟨_,e⟩ | ⟨e,_⟩
   ·exact ny (ho.trans e)
   ·exact hxy e
   ·exact nx (ho.trans e)
  have hp1:=e1.pos hv
  obtain ⟨k2,rfl⟩:∃k2,k1=k2+1:=⟨k1 - 1,by omega⟩
  have e2:=Cls.merge hb1 hv hy nvy e1
  have e3:=Cls.merge c0.pb hx hy hxy hk0
  rw [hk.unique e2]
  exact e3
end
section
variable {n:Nat} {b:Nat→Nat} {h u:Nat}
theorem Gp.cls (G:Gp n b h u)(nA:b (tn h 2)≠tn h 2)(nB:b (tn u 2)≠tn u 2){k:Nat}(hk:Cls (fun h=>h<4 * n) (Orb (phi op b)) k) :
 Cls (fun h=>h<4 * n) (Orb (phi op (Pl.cls b (tn h 2) (tn u 2)))) (k+if b (tn h 2)=tn u 2 then 0 else 1):=by
 unfold Pl.cls
 by_cases hc:b (tn h 2)=tn u 2
 ·rw [if_pos hc,if_pos hc];exact hk
 rw [if_neg hc,if_neg hc]
 have hA:tn h 2<4 * n:=tn_lt G.hh
 have hB:tn u 2<4 * n:=tn_lt G.hu
 have m:=G.hm.op
 have e2:=G.e2
 have c0:Hm (4 * n) (fun h=>h<4 * n) rot (cut2 b (tn h 2) (tn u 2))∧_:=cut2_hm G.hm hA hB G.nAB nA nB hc
 obtain ⟨c0,c1,c2,c3,c4,c5,c6,c7⟩:=c0
 have hhA:h≠b (tn h 2):=fun e=>by have:=G.hm.inv _ hA;rw [←e,G.e0] at this;exact G.n3 this
 have hhB:h≠b (tn u 2):=fun e=>by have:=G.hm.inv _ hB;rw [←e,G.e0] at this;unfold tn at this;omega
 have huA:u≠b (tn h 2):=fun e=>by have:=G.hm.inv _ hA;rw [←e,e2] at this;unfold tn at this;omega
 have huB:u≠b (tn u 2):=fun e=>by have:=G.hm.inv _ hB;rw [←e,e2] at this;exact G.n2 this
 have hA0:h≠tn h 2:=by unfold tn;omega
 have hu0:u≠tn u 2:=by unfold tn;omega
 have G':Gp n (cut2 b (tn h 2) (tn u 2)) h u:=⟨c0,G.hh,G.hu,by rw [cut2_at _ _ hA0 G.n2 hhA hhB,G.e0],G.n1,G.n2,G.n3⟩
 obtain ⟨g1,g2,g3⟩:=G'.free c1 c2
 have no:∀z,Orb (phi op (cut2 b (tn h 2) (tn u 2))) (tn h 2) z→grp h u z:=fun z e=>orb_closed (P:=grp h u) g2 (.inr (.inr (.inl rfl))) e
 refine byp_cls m hA hB G.nAB nA nB hc g3 (fun e=>?_) (fun e=>?_) hk
 ·rcases no _ e with e | e | e | e
  ·exact hhA e.symm
  ·exact huA e.symm
  ·exact nA e
  ·exact hc e
 ·rcases no _ e with e | e | e | e
  ·exact hhB e.symm
  ·exact huB e.symm
  ·exact c7 e
  ·exact nB e
end
def Str (d:Dg)(s:Nat):Prop:=Cls (fun h=>h<4 * d.n∧out d h=true) (Orb (st d)) s
section
variable {d:Dg}
theorem st_phi (d:Dg):st d=phi op d.m:=rfl
theorem out_orb (hd:Wf d){x y:Nat}(hx:x<4 * d.n)(e:Orb (st d) x y):out d y=out d x:=by
 obtain ⟨k,rfl⟩:=e
 exact out_it hd hx k
theorem st_back (hd:Wf d){x y:Nat}(hx:x<4 * d.n)(e:Orb (st d) x y):Orb (st d) (d.m y) (d.m x):=by
 obtain ⟨k,rfl⟩:=e
 induction k with
 | zero=>exact Orb.refl _ _
 | succ k ih =>
   have hz:=(st_bij hd).it k x hx
   refine Orb.trans ⟨1,?_⟩ ih
   show st d (d.m (st d (it (st d) k x)))=d.m (it (st d) k x)
   unfold st at hz ⊢
   rw [hd.inv _ (tn_lt (hd.lt _ hz)),tt2]
theorem Str.all (hd:Wf d){s:Nat}(h:Str d s):Cls (dart d) (Orb (st d)) (2 * s):=by
 have h2:Cls (fun h=>h<4 * d.n∧out d h=false) (Orb (st d)) s:=by
  refine Cls.map h d.m (fun x hx=>⟨hd.lt x hx.1,by rw [out_way hd hx.1,hx.2];rfl⟩) (fun y hy=>⟨d.m y,⟨hd.lt y hy.1,by rw [out_way hd hy.1,hy.2];rfl⟩,hd.inv y hy.1⟩) (fun x y hx hy=>⟨fun e=>(st_bij hd).symm (hd.lt _ hy.1) (st_back hd hx.1 e),fun e=>?_⟩)
  have:=st_back hd (hd.lt _ hx.1) e
  rw [hd.inv _ hx.1,hd.inv _ hy.1] at this
  exact (st_bij hd).symm hy.1 this
 have:=Cls.add h h2 (fun x y hx hy e=>by have:=out_orb hd hx.1 e;rw [hx.2,hy.2] at this;exact absurd this (by decide)) (fun x y hx hy e=>by have:=out_orb hd hy.1 e;rw [hx.2,hy.2] at this;exact absurd this (by decide)) (fun x hx hy=>by rw [hx.2] at hy;exact absurd hy.2 (by decide))
 rw [show 2 * s=s+s by omega]
 refine Cls.congr this (fun x=>?_) (fun _ _ _ _=>Iff.rfl)
 unfold dart
 constructor
 ·rintro (e | e) <;> exact e.1
 ·intro e
  cases ho:out d x with
  | true=>exact .inl ⟨e,rfl⟩
  | false=>exact .inr ⟨e,rfl⟩
theorem Str.iff (hd:Wf d){s k:Nat}(h:Str d s)(hk:Cls (dart d) (Orb (st d)) k):k=2 * s:=hk.unique (h.all hd)
theorem Rs.cls {gs:List Nat}{mt:List Nat}{lp:Nat}{b:Nat→Nat}(R:Rs d gs mt lp b){k g:Nat}(hk:Cls (dart d) (Orb (phi op b)) k)(hg:Cls (gone d gs) (Orb (phi op b)) g) :
 ∃ks,k=ks+g∧Cls (Pl.stay d gs) (Orb (phi op b)) ks∧Cls (dart (rsD d gs mt lp)) (Orb (st (rsD d gs mt lp))) ks:=by
 have hE:=R.hm.op.pb.eqv
 have s1:∀x,Pl.stay d gs x→Pl.stay d gs (phi op b x):=fun x hx=>tn_stay (R.stay hx)
 have g1:∀x,gone d gs x→gone d gs (phi op b x):=fun x hx=>⟨tn_lt (R.hm.ab.maps x hx.1),by show tn (b x) 2 / 4 ∈ gs;rw [tn_div];exact R.cl x hx⟩
 obtain ⟨ks,hks⟩:=Cls.exists_ (4 * d.n) (Pl.stay d gs) (Orb (phi op b)) (fun x hx=>hx.1) ⟨fun x hx=>Orb.refl _ _,fun x y hx hy e=>hE.symm x y hx.1 hy.1 e,fun x y z _ _ _ e e'=>e.trans e'⟩
 have ha:=Cls.add hks hg (fun x y hx hy e=>(orb_closed (P:=Pl.stay d gs) s1 hx e).2 hy.2) (fun x y hx hy e=>hx.2 (orb_closed (P:=gone d gs) g1 hy e).2) (fun x hx hy=>hx.2 hy.2)
 have ha2:Cls (dart d) (Orb (phi op b)) (ks+g):=Cls.congr ha (fun x=>⟨fun h=>h.elim (·.1) (·.1),fun h=>(Classical.em (x / 4 ∈ gs)).elim (fun e => .inr ⟨h,e⟩) (fun e => .inl ⟨h,e⟩)⟩) (fun _ _ _ _=>Iff.rfl)
 refine ⟨ks,hk.unique ha2,hks,?_⟩
 refine Cls.map hks (shf gs) (fun x hx=>shf_lt R.nd R.few mt lp hx) (fun y hy=>shf_onto R.nd R.few mt lp hy) (fun x y hx hy=>orb_map (S:=Pl.stay d gs) (t:=shf gs) s1 (fun x hx=>?_) (fun x y hx hy e=>shf_inj R.nd R.few hx.2 hy.2 e) hx hy)
 show tn ((rsD d gs mt lp).m (shf gs x)) 2=shf gs (tn (b x) 2)
 rw [R.m hx,shf_tn R.few]
end
end Go.Proofs.YtdgliimmnnhhjaaGreatDoor.Pl
end
section
namespace Go.Proofs.YtdgliimmnnhhjaaGreatDoor.Pl
variable {d:Dg}
def Same (d d':Dg):Prop:=∀s s',Str d s→Str d' s'→s+d.lp=s'+d'.lp
theorem kink_gp (hd:Valid d){o:Nat}(ho:o<4 * d.n)(hk:d.m o / 4=o / 4):Gp d.n d.m o (d.m o):=by
 have hw:=(Valid.iff.1 hd).1
 have hi:=hw.lt o ho
 have four:=kink_four hd ho hk
 exact ⟨hw.hm,ho,hi,rfl,fun e=>hw.ne o ho e.symm,fun e=>by rcases four with h | h <;> rw [h] at e <;> (unfold tn at e;omega),fun e=>no_opp hd ho e⟩
theorem kink_gone (hd:Valid d){o:Nat}(ho:o<4 * d.n)(hk:d.m o / 4=o / 4)(z:Nat):grp o (d.m o) z↔gone d [o / 4] z:=by
 have four:=kink_four hd ho hk
 unfold grp gone
 rw [List.mem_singleton]
 constructor
 ·rintro (rfl | rfl | rfl | rfl)
  ·exact ⟨ho,rfl⟩
  ·exact ⟨(Valid.iff.1 hd).1.lt _ ho,hk⟩
  ·exact ⟨tn_lt ho,tn_div _ _⟩
  ·exact ⟨tn_lt ((Valid.iff.1 hd).1.lt _ ho),by rw [tn_div,hk]⟩
 ·rintro ⟨_,hc⟩
  rcases four with h | h <;> rw [h] <;> unfold tn at * <;> omega
theorem kink_cls (hd:Valid d){o:Nat}(ho:o<4 * d.n)(hk:d.m o / 4=o / 4)(hn:d.m (tn o 2)≠tn (d.m o) 2){k:Nat}(hk2:Cls (dart d) (Orb (st d)) k) :
 Cls (dart d) (Orb (phi op (byp d.m (tn (d.m o) 2) (tn o 2)))) (k+1)∧Cls (gone d [o / 4]) (Orb (phi op (byp d.m (tn (d.m o) 2) (tn o 2)))) 1:=by
 have hw:=(Valid.iff.1 hd).1
 have hi:=hw.lt o ho
 have hA:tn o 2<4 * d.n:=tn_lt ho
 have hB:tn (d.m o) 2<4 * d.n:=tn_lt hi
 have hBA:tn (d.m o) 2≠tn o 2:=fun e=>hw.ne o ho (tn_inj e)
 have hmBA:d.m (tn (d.m o) 2)≠tn o 2:=fun e=>hn (by rw [←e,hw.inv _ hB])
 have inv:=hw.inv o ho
 have hmi:d.m (d.m o) / 4=d.m o / 4:=by rw [inv,hk]
 have G:Gp d.n d.m (d.m o) o:=by have:=kink_gp hd hi hmi;rwa [inv] at this
 have h1:=G.cls (hw.ne _ hB) (hw.ne _ hA) hk2
 unfold cls at h1
 rw [if_neg hmBA,if_neg hmBA] at h1
 obtain ⟨b1,b2,b3,b4,b5⟩:=byp_at hw.hm hB hA hBA (hw.ne _ hB) (hw.ne _ hA) hmBA
 obtain ⟨q1,q2⟩:=kink_byp hd ho hk hn
 have R:=kink_rs hd ho hk hn (lp:=0) (by omega) (mt:=List.ofFn (n:=4 * d.n) (fun h=>if h.1=d.m (tn o 2) then d.m (tn (d.m o) 2) else if h.1=d.m (tn (d.m o) 2) then d.m (tn o 2) else d.m h.1)) (fun h hh=>by
  rw [List.getD_eq_getElem?_getD,List.getElem?_ofFn,dif_pos hh];rfl)
 have e0:byp d.m (tn (d.m o) 2) (tn o 2) (d.m o)=o:=by
  have n1:d.m o≠tn (d.m o) 2:=by unfold tn;omega
  have n2:d.m o≠tn o 2:=no_opp hd ho
  have n3:d.m o≠d.m (tn (d.m o) 2):=fun e=>by have:=hw.bij.inj _ _ ho hB e;rcases kink_four hd ho hk with h | h <;> rw [h] at this <;> (unfold tn at this;omega)
  have n4:d.m o≠d.m (tn o 2):=fun e=>by have:=hw.bij.inj _ _ ho hA e;unfold tn at this;omega
  rw [b5 _ n1 n2 n3 n4,inv]
 have G2:Gp d.n (byp d.m (tn (d.m o) 2) (tn o 2)) (d.m o) o:=⟨q1,hi,ho,e0,G.n1,G.n2,G.n3⟩
 refine ⟨h1,Cls.congr (G2.free b1 b2).1 (fun z=>?_) (fun _ _ _ _=>Iff.rfl)⟩
 rw [←kink_gone hd ho hk z]
 unfold grp
 constructor
 ·rintro (h | h | h | h)
  ·exact .inr (.inl h)
  ·exact .inl h
  ·exact .inr (.inr (.inr h))
  ·exact .inr (.inr (.inl h))
 ·rintro (h | h | h | h)
  ·exact .inr (.inl h)
  ·exact .inl h
  ·exact .inr (.inr (.inr h))
  ·exact .inr (.inr (.inl h))
theorem kink_cls0 (hd:Valid d){o:Nat}(ho:o<4 * d.n)(hk:d.m o / 4=o / 4)(hn:d.m (tn o 2)=tn (d.m o) 2):Cls (gone d [o / 4]) (Orb (phi op d.m)) 2 :=
 Cls.congr ((kink_gp hd ho hk).closed hn).1 (kink_gone hd ho hk) (fun _ _ _ _=>Iff.rfl)
theorem kink_same (hd:Valid d){o:Nat}(ho:o<4 * d.n)(hk:d.m o / 4=o / 4)(hn:d.m (tn o 2)≠tn (d.m o) 2){mt:List Nat}{lp:Nat}(hl:lp≤64)(hlp:lp=d.lp)
 (hmt:∀h,h<4 * d.n→mt.getD h 0=if h=d.m (tn o 2) then d.m (tn (d.m o) 2) else if h=d.m (tn (d.m o) 2) then d.m (tn o 2) else d.m h):Same d (rsD d [o / 4] mt lp):=by
 intro s s' h h'
 have hw:=(Valid.iff.1 hd).1
 have R:=kink_rs hd ho hk hn hl hmt
 obtain ⟨c1,c2⟩:=kink_cls hd ho hk hn (h.all hw)
 obtain ⟨ks,e1,_,e2⟩:=R.cls c1 c2
 have:=h'.iff (R.wf hw) e2
 show s+d.lp=s'+lp
 omega
theorem kink_same0 (hd:Valid d){o:Nat}(ho:o<4 * d.n)(hk:d.m o / 4=o / 4)(hn:d.m (tn o 2)=tn (d.m o) 2){lp:Nat}(hl:lp≤64)(hlp:lp=d.lp+1):Same d (rsD d [o / 4] d.mt lp):=by
 intro s s' h h'
 have hw:=(Valid.iff.1 hd).1
 have R:=kink_rs0 hd ho hk hn hl
 obtain ⟨ks,e1,_,e2⟩:=R.cls (h.all hw) (kink_cls0 hd ho hk hn)
 have:=h'.iff (R.wf hw) e2
 show s+d.lp=s'+lp
 omega
theorem in_same {d':Dg}(hd:Wf d)(hd':Wf d'){gs mt:List Nat}{lp:Nat}{b:Nat→Nat}(R:Rs d' gs mt lp b)(hs:∀z,stay d' gs z↔z<4 * d.n)(hb:∀z,z<4 * d.n→b z=d.m z){k g s:Nat}
 (hk:Cls (dart d') (Orb (phi op b)) k) (hg:Cls (gone d' gs) (Orb (phi op b)) g) (h:Str d s):k=2 * s+g:=by
 obtain ⟨ks,e1,e2,_⟩:=R.cls hk hg
 have:Cls (dart d) (Orb (st d)) ks:=Cls.congr e2 hs fun x y hx hy=>by
  rw [st_phi]
  refine Orb.congr (S:=fun z=>z<4 * d.n) (fun z hz=>?_) (fun z hz=>?_) ((hs x).1 hx)
  ·show tn (b z) 2<4 * d.n;rw [hb z hz];exact tn_lt (hd.lt z hz)
  ·show tn (b z) 2=tn (d.m z) 2;rw [hb z hz]
 have:=h.iff hd this
 omega
section
variable {h u:Nat}
theorem Lens.g1 {b:Nat→Nat}(hw:Wf d)(L:Lens d h u)(hm:Hm (4 * d.n) (dart d) rot b)(e0:b h=u):Gp d.n b h u :=
 ⟨hm,L.hh,L.hu hw,e0,ap L.ne,pm1 L.ne,Ne.symm (pm0 L.ne)⟩
theorem Lens.g2 {b:Nat→Nat}(hw:Wf d)(L:Lens d h u)(hm:Hm (4 * d.n) (dart d) rot b)(e1:b (tn h 1)=tn u 3):Gp d.n b (tn h 1) (tn u 3) :=
 ⟨hm,tn_lt L.hh,tn_lt (L.hu hw),e1,pm L.ne,by rw [tn_tn];exact pm L.ne,by rw [tn_tn];exact Ne.symm (pm L.ne)⟩
theorem tn12 (h:Nat):tn (tn h 1) 2=tn h 3:=tn_tn h 1 2
theorem tn32 (u:Nat):tn (tn u 3) 2=tn u 1:=by rw [tn_tn];unfold tn;omega
theorem Lens.cls (hd:Valid d)(L:Lens d h u){k:Nat}(hk:Cls (dart d) (Orb (st d)) k) :
 Cls (dart d) (Orb (phi op (lB d h u))) (k+(if d.m (tn h 2)=tn u 2 then 0 else 1)+(if lA d h u (tn h 3)=tn u 1 then 0 else 1)):=by
 have hw:=(Valid.iff.1 hd).1
 have hu:=L.hu hw
 have A:=L.la hd
 have h1:=(L.g1 hw hw.hm L.m0).cls (hw.ne _ (tn_lt L.hh)) (hw.ne _ (tn_lt hu)) hk
 have h2:=(L.g2 hw A.hm A.e1).cls (by rw [tn12];exact A.nf _ (tn_lt L.hh) (tn_ne (by omega)) (pm L.ne)) (by rw [tn32];exact A.nf _ (tn_lt hu) (Ne.symm (pm L.ne)) (tn_ne (by omega))) h1
 rw [tn12,tn32] at h2
 exact h2
theorem Lens.gone (hd:Valid d)(L:Lens d h u){x y:Nat}(hx:(x=h / 4∧y=u / 4)∨(x=u / 4∧y=h / 4)) :
 Cls (Pl.gone d [x,y]) (Orb (phi op (lB d h u))) ((if d.m (tn h 2)=tn u 2 then 2 else 1)+(if lA d h u (tn h 3)=tn u 1 then 2 else 1)):=by
 have hw:=(Valid.iff.1 hd).1
 have hu:=L.hu hw
 have hh:=L.hh
 have E:=L.ne
 have A:=L.la hd
 have B:=L.lb hd
 have G1:=L.g1 hw B.hm B.e0
 have G2:=L.g2 hw B.hm B.e1
 -- which ends are joined
 have j1:(d.m (tn h 2)=tn u 2→lB d h u (tn h 2)=tn u 2)∧(d.m (tn h 2)≠tn u 2→lB d h u (tn h 2)=tn h 2∧lB d h u (tn u 2)=tn u 2):=by
  have k1:(d.m (tn h 2)=tn u 2→lA d h u (tn h 2)=tn u 2)∧(d.m (tn h 2)≠tn u 2→lA d h u (tn h 2)=tn h 2∧lA d h u (tn u 2)=tn u 2):=by
   unfold lA Pl.cls
   constructor
   ·intro e;rw [if_pos e];exact e
   ·intro e;rw [if_neg e]
    obtain ⟨b1,b2,_⟩:=byp_at hw.hm (tn_lt hh) (tn_lt hu) (pm E) (hw.ne _ (tn_lt (k:=2) hh)) (hw.ne _ (tn_lt (k:=2) hu)) e
    exact ⟨b1,b2⟩
  have e2:∀z,(z=tn h 2∨z=tn u 2)→lB d h u z=lA d h u z:=by
   intro z hz
   unfold lB Pl.cls
   by_cases hc:lA d h u (tn h 3)=tn u 1
   ·rw [if_pos hc]
   ·rw [if_neg hc]
    have n3:=A.nf _ (tn_lt (k:=3) hh) (tn_ne (by omega)) (pm E)
    have n1:=A.nf _ (tn_lt (k:=1) hu) (Ne.symm (pm E)) (tn_ne (by omega))
    obtain ⟨b1,b2,b3,b4,b5⟩:=byp_at A.hm (tn_lt hh) (tn_lt hu) (pm E) n3 n1 hc
    have az:lA d h u z=tn h 2∨lA d h u z=tn u 2:=by
     rcases hz with rfl | rfl <;> rcases A.c with ⟨a1,a2⟩ | ⟨a1,a2⟩
     ·exact .inr a1
     ·exact .inl a1
     ·exact .inl a2
     ·exact .inr a2
    have zl:z<4 * d.n:=by rcases hz with rfl | rfl;exact tn_lt hh;exact tn_lt hu
    refine b5 z ?_ ?_ (fun e=>?_) (fun e=>?_)
    ·rcases hz with rfl | rfl;exact tn_ne (by omega);exact Ne.symm (pm E)
    ·rcases hz with rfl | rfl;exact pm E;exact tn_ne (by omega)
    ·have:=A.hm.inv _ (tn_lt (k:=3) hh);rw [←e] at this
     rcases az with e2 | e2 <;> rw [e2] at this
     ·exact tn_ne (by omega) this
     ·exact pm E this.symm
    ·have:=A.hm.inv _ (tn_lt (k:=1) hu);rw [←e] at this
     rcases az with e2 | e2 <;> rw [e2] at this
     ·exact pm E this
     ·exact tn_ne (by omega) this
  rw [e2 _ (.inl rfl),e2 _ (.inr rfl)]
  exact k1
 have j2:(lA d h u (tn h 3)=tn u 1→lB d h u (tn h 3)=tn u 1)∧(lA d h u (tn h 3)≠tn u 1→lB d h u (tn h 3)=tn h 3∧lB d h u (tn u 1)=tn u 1):=by
  unfold lB Pl.cls
  constructor
  ·intro e;rw [if_pos e];exact e
  ·intro e;rw [if_neg e]
   obtain ⟨b1,b2,_⟩:=byp_at A.hm (tn_lt hh) (tn_lt hu) (pm E) (A.nf _ (tn_lt (k:=3) hh) (tn_ne (by omega)) (pm E)) (A.nf _ (tn_lt (k:=1) hu) (Ne.symm (pm E)) (tn_ne (by omega))) e
   exact ⟨b1,b2⟩
 have c1:Cls (grp h u) (Orb (phi op (lB d h u))) (if d.m (tn h 2)=tn u 2 then 2 else 1)∧∀z,grp h u z→grp h u (phi op (lB d h u) z):=by
  by_cases e:d.m (tn h 2)=tn u 2
  ·rw [if_pos e];exact G1.closed (j1.1 e)
  ·rw [if_neg e];have:=G1.free (j1.2 e).1 (j1.2 e).2;exact ⟨this.1,this.2.1⟩
 have c2:Cls (grp (tn h 1) (tn u 3)) (Orb (phi op (lB d h u))) (if lA d h u (tn h 3)=tn u 1 then 2 else 1)∧∀z,grp (tn h 1) (tn u 3) z→grp (tn h 1) (tn u 3) (phi op (lB d h u) z):=by
  by_cases e:lA d h u (tn h 3)=tn u 1
  ·rw [if_pos e];exact G2.closed (by rw [tn12,tn32];exact j2.1 e)
  ·rw [if_neg e];have:=G2.free (by rw [tn12];exact (j2.2 e).1) (by rw [tn32];exact (j2.2 e).2);exact ⟨this.1,this.2.1⟩
 have dis:∀z,grp h u z→¬grp (tn h 1) (tn u 3) z:=by
  unfold grp
  rw [tn12,tn32]
  rintro z (rfl | rfl | rfl | rfl) (e | e | e | e)
  ·exact pmz (by omega) e
  ·exact pm1 E e
  ·exact pmz (by omega) e
  ·exact pm1 E e
  ·exact pm0 E e.symm
  ·exact pmz (by omega) e
  ·exact pm0 E e.symm
  ·exact pmz (by omega) e
  ·exact tn_ne (by omega) e
  ·exact pm E e
  ·exact tn_ne (by omega) e
  ·exact pm E e
  ·exact pm E e.symm
  ·exact tn_ne (by omega) e
  ·exact pm E e.symm
  ·exact tn_ne (by omega) e
 have ha:=Cls.add c1.1 c2.1 (fun x y hx hy e=>dis _ (orb_closed (P:=grp h u) c1.2 hx e) hy) (fun x y hx hy e=>dis _ hx (orb_closed (P:=grp (tn h 1) (tn u 3)) c2.2 hy e)) dis
 refine Cls.congr ha (fun z=>?_) (fun _ _ _ _=>Iff.rfl)
 unfold grp Pl.gone
 rw [tn12,tn32,List.mem_cons,List.mem_singleton]
 have hin:(z / 4=x∨z / 4=y)↔z / 4=h / 4∨z / 4=u / 4:=by
  rcases hx with ⟨rfl,rfl⟩ | ⟨rfl,rfl⟩
  ·exact Iff.rfl
  ·exact Or.comm
 rw [hin]
 have d0:∀k,tn h k / 4=h / 4:=tn_div h
 have d1:∀k,tn u k / 4=u / 4:=tn_div u
 constructor
 ·rintro ((rfl | rfl | rfl | rfl) | (rfl | rfl | rfl | rfl))
  ·exact ⟨hh,.inl rfl⟩
  ·exact ⟨hu,.inr rfl⟩
  ·exact ⟨tn_lt hh,.inl (d0 _)⟩
  ·exact ⟨tn_lt hu,.inr (d1 _)⟩
  ·exact ⟨tn_lt hh,.inl (d0 _)⟩
  ·exact ⟨tn_lt hu,.inr (d1 _)⟩
  ·exact ⟨tn_lt hh,.inl (d0 _)⟩
  ·exact ⟨tn_lt hu,.inr (d1 _)⟩
 ·rintro ⟨_,h2 | h2⟩
  ·have:z=h∨z=tn h 1∨z=tn h 2∨z=tn h 3:=by unfold tn;omega
   rcases this with e | e | e | e
   ·exact .inl (.inl e)
   ·exact .inr (.inl e)
   ·exact .inl (.inr (.inr (.inl e)))
   ·exact .inr (.inr (.inr (.inl e)))
  ·have:z=u∨z=tn u 1∨z=tn u 2∨z=tn u 3:=by unfold tn;omega
   rcases this with e | e | e | e
   ·exact .inl (.inr (.inl e))
   ·exact .inr (.inr (.inr (.inr e)))
   ·exact .inl (.inr (.inr (.inr e)))
   ·exact .inr (.inr (.inl e))
theorem Lens.same (hd:Valid d)(L:Lens d h u){x y:Nat}(hxy:x<y)(hx:(x=h / 4∧y=u / 4)∨(x=u / 4∧y=h / 4)){mt:List Nat}{lp:Nat}(hl:lp≤64)
 (hlp:lp=d.lp+(if d.m (tn h 2)=tn u 2 then 1 else 0)+(if lA d h u (tn h 3)=tn u 1 then 1 else 0)) (hmt:∀z,Pl.stay d [x,y] z→mt.getD z 0=lB d h u z):Same d (rsD d [x,y] mt lp):=by
 intro s s' h1 h2
 have hw:=(Valid.iff.1 hd).1
 have R:=(L.lb hd).rs hw L hxy hx hl hmt
 obtain ⟨ks,e1,_,e2⟩:=R.cls (L.cls hd (h1.all hw)) (L.gone hd hx)
 have:=h2.iff (R.wf hw) e2
 show s+d.lp=s'+lp
 by_cases a1:d.m (tn h 2)=tn u 2 <;> by_cases a2:lA d h u (tn h 3)=tn u 1 <;> simp only [a1,a2,if_true,if_false] at e1 hlp <;> omega
end
end Go.Proofs.YtdgliimmnnhhjaaGreatDoor.Pl
end
section
namespace Go.Proofs.YtdgliimmnnhhjaaGreatDoor.Pl
variable {d d':Dg}
theorem Kq.opp {n i0 o0 i1 o1:Nat}(k:Kq n i0 o0 i1 o1):tn o0 2=i0∧tn i1 2=o1∧o0 / 4=n∧i1 / 4=n:=by
 have:=k.bd
 unfold Kq at k
 unfold tn
 omega
theorem kd_stay (n:d'.n=d.n+1)(z:Nat):stay d' [d.n] z↔z<4 * d.n:=by
 unfold stay
 rw [List.mem_singleton,n]
 omega
theorem Kd.same0 (hd:Valid d)(hd':Valid d'){i0 o0 i1 o1:Nat}(K:Kd d d' i0 o0 i1 o1)(mo:∀h,h<4 * d.n→d'.m h=d.m h)(m4:d'.m i0=o1)(hlp:d.lp=d'.lp+1):Same d d':=by
 intro s s' h h'
 have hw:=(Valid.iff.1 hd).1
 have hw':=(Valid.iff.1 hd').1
 obtain ⟨q1,q2,q3,q4⟩:=K.k.opp
 obtain ⟨a1,a2,a3,a4,n1,n2,n3,n4,n5,n6⟩:=K.k.bd
 have ho:o0<4 * d'.n:=by rw [K.n];exact a2.2
 have hk:d'.m o0 / 4=o0 / 4:=by rw [K.m1,q4,q3]
 have hn:d'.m (tn o0 2)=tn (d'.m o0) 2:=by rw [q1,m4,K.m1,q2]
 have R:=kink_rs0 hd' ho hk hn (lp:=0) (by omega)
 have hg:=kink_cls0 hd' ho hk hn
 rw [q3] at R hg
 have:=in_same hw hw' R (kd_stay K.n) mo (h'.all hw') hg h
 omega
theorem Kd.same (hd:Valid d)(hd':Valid d'){i0 o0 i1 o1 x:Nat}(K:Kd d d' i0 o0 i1 o1)(hx:x<4 * d.n)(mo:∀h,h<4 * d.n→h≠x→h≠d.m x→d'.m h=d.m h)
 (m3:d'.m o1=d.m x) (m4:d'.m (d.m x)=o1) (m5:d'.m x=i0) (m6:d'.m i0=x) (hlp:d.lp=d'.lp):Same d d':=by
 intro s s' h h'
 have hw:=(Valid.iff.1 hd).1
 have hw':=(Valid.iff.1 hd').1
 obtain ⟨q1,q2,q3,q4⟩:=K.k.opp
 obtain ⟨a1,a2,a3,a4,n1,n2,n3,n4,n5,n6⟩:=K.k.bd
 have ho:o0<4 * d'.n:=by rw [K.n];exact a2.2
 have hi0:i0<4 * d'.n:=by rw [K.n];exact a1.2
 have ho1:o1<4 * d'.n:=by rw [K.n];exact a4.2
 have hk:d'.m o0 / 4=o0 / 4:=by rw [K.m1,q4,q3]
 have hn:d'.m (tn o0 2)≠tn (d'.m o0) 2:=by rw [q1,m6,K.m1,q2];omega
 obtain ⟨c1,c2⟩:=kink_cls hd' ho hk hn (h'.all hw')
 have R:=kink_rs hd' ho hk hn (lp:=0) (by omega) (mt:=List.ofFn (n:=4 * d'.n) (fun h=>if h.1=d'.m (tn o0 2) then d'.m (tn (d'.m o0) 2) else if h.1=d'.m (tn (d'.m o0) 2) then d'.m (tn o0 2) else d'.m h.1)) (fun h hh=>by
  rw [List.getD_eq_getElem?_getD,List.getElem?_ofFn,dif_pos hh];rfl)
 have hnb:d'.m o1≠i0:=by rw [m3];have:=hw.lt x hx;omega
 obtain ⟨b1,b2,b3,b4,b5⟩:=byp_at hw'.hm ho1 hi0 (Ne.symm n3) (hw'.ne _ ho1) (hw'.ne _ hi0) hnb
 rw [K.m1,q1,q2] at c1
 rw [K.m1,q1,q2,q3] at c2 R
 have:=in_same hw hw' R (kd_stay K.n) (fun z hz=>?_) c1 c2 h
 ·omega
 ·by_cases z1:z=x
  ·rw [z1];rw [m6] at b4;rw [b4,m3]
  ·by_cases z2:z=d.m x
   ·rw [z2];rw [m3] at b3;rw [b3,m6,hw.inv x hx]
   ·rw [b5 z (by omega) (by omega) (by rw [m3];exact z2) (by rw [m6];exact z1),mo z hz z1 z2]
end Go.Proofs.YtdgliimmnnhhjaaGreatDoor.Pl
end
section
namespace Go.Proofs.YtdgliimmnnhhjaaGreatDoor.Pl
section
variable {d:Dg} {h u:Nat}
theorem Lens.lA_c (E:d.m (tn h 2)=tn u 2):lA d h u=d.m:=by unfold lA Pl.cls;rw [if_pos E]
theorem Lens.lA_e (hw:Wf d)(L:Lens d h u)(E:d.m (tn h 2)≠tn u 2):lA d h u (d.m (tn h 2))=d.m (tn u 2)∧lA d h u (d.m (tn u 2))=d.m (tn h 2)∧∀z,z≠tn h 2→z≠tn u 2→z≠d.m (tn h 2)→z≠d.m (tn u 2)→lA d h u z=d.m z:=by
 have hh:=L.hh
 have hu:=L.hu hw
 obtain ⟨b1,b2,b3,b4,b5⟩:=byp_at hw.hm (tn_lt hh) (tn_lt hu) (pm L.ne) (hw.ne _ (tn_lt (k:=2) hh)) (hw.ne _ (tn_lt (k:=2) hu)) E
 unfold lA Pl.cls
 rw [if_neg E]
 exact ⟨b3,b4,b5⟩
theorem Lens.lB_c (E:lA d h u (tn h 3)=tn u 1):lB d h u=lA d h u:=by unfold lB;unfold Pl.cls;rw [if_pos E]
theorem Lens.lB_e (hd:Valid d)(L:Lens d h u)(E:lA d h u (tn h 3)≠tn u 1):lB d h u (lA d h u (tn h 3))=lA d h u (tn u 1)∧lB d h u (lA d h u (tn u 1))=lA d h u (tn h 3) ∧
 ∀z,z≠tn h 3→z≠tn u 1→z≠lA d h u (tn h 3)→z≠lA d h u (tn u 1)→lB d h u z=lA d h u z:=by
 have hw:=(Valid.iff.1 hd).1
 have hh:=L.hh
 have hu:=L.hu hw
 have A:=L.la hd
 obtain ⟨b1,b2,b3,b4,b5⟩:=byp_at A.hm (tn_lt hh) (tn_lt hu) (pm L.ne) (A.nf _ (tn_lt (k:=3) hh) (tn_ne (by omega)) (pm L.ne)) (A.nf _ (tn_lt (k:=1) hu) (Ne.symm (pm L.ne)) (tn_ne (by omega))) E
 unfold lB
 unfold Pl.cls
 rw [if_neg E]
 exact ⟨b3,b4,b5⟩
end
theorem tn_pp (n f t k:Nat):tn (pp n f t) k=pp n f (t+k):=by unfold tn pp;omega
structure Out (d d':Dg) (f g c1 c2:Nat):Prop where
 n:d'.n=d.n+2
 L:Lens d' (pp d.n f 0) (pp (d.n+1) g 2)
 b:∀z,z<4 * d.n→lB d' (pp d.n f 0) (pp (d.n+1) g 2) z=d.m z
 e1:c1=if d'.m (pp d.n f 2)=pp (d.n+1) g 0 then 1 else 0
 e2:c2=if lA d' (pp d.n f 0) (pp (d.n+1) g 2) (pp d.n f 3)=pp (d.n+1) g 3 then 1 else 0
section
variable {d d':Dg} {f g c1 c2:Nat}
theorem Out.stay (O:Out d d' f g c1 c2)(z:Nat):Pl.stay d' [d.n,d.n+1] z↔z<4 * d.n:=by
 unfold Pl.stay
 rw [O.n,List.mem_cons,List.mem_singleton]
 omega
theorem Out.hx (O:Out d d' f g c1 c2):(d.n=pp d.n f 0 / 4∧d.n+1=pp (d.n+1) g 2 / 4)∨(d.n=pp (d.n+1) g 2 / 4∧d.n+1=pp d.n f 0 / 4):=by
 left;unfold pp;omega
theorem Out.same (hd:Valid d)(hd':Valid d')(O:Out d d' f g c1 c2)(hlp:d.lp=d'.lp+c1+c2):Same d d':=by
 intro s s' h h'
 have hw:=(Valid.iff.1 hd).1
 have hw':=(Valid.iff.1 hd').1
 have R:=(O.L.lb hd').rs hw' O.L (x:=d.n) (y:=d.n+1) (by omega) O.hx (lp:=0) (by omega) (mt:=List.ofFn (n:=4 * d'.n) (fun z=>lB d' (pp d.n f 0) (pp (d.n+1) g 2) z.1)) (fun z hz=>by
  rw [List.getD_eq_getElem?_getD,List.getElem?_ofFn,dif_pos hz.1];rfl)
 have:=in_same hw hw' R O.stay O.b (O.L.cls hd' (h'.all hw')) (O.L.gone hd' O.hx) h
 have q1:tn (pp d.n f 0) 2=pp d.n f 2:=tn_pp _ _ _ _
 have q2:tn (pp (d.n+1) g 2) 2=pp (d.n+1) g 0:=by rw [tn_pp,show 2+2=0+4 from rfl,pp_mod]
 have q3:tn (pp d.n f 0) 3=pp d.n f 3:=tn_pp _ _ _ _
 have q4:tn (pp (d.n+1) g 2) 1=pp (d.n+1) g 3:=tn_pp _ _ _ _
 rw [q1,q2,q3,q4] at this
 have e1:=O.e1
 have e2:=O.e2
 by_cases a1:d'.m (pp d.n f 2)=pp (d.n+1) g 0 <;> by_cases a2:lA d' (pp d.n f 0) (pp (d.n+1) g 2) (pp d.n f 3)=pp (d.n+1) g 3 <;> simp only [a1,a2,if_true,if_false] at this e1 e2 <;> omega
structure In (d d':Dg) (f g:Nat):Prop where
 n:d'.n=d.n+2
 v:Valid d'
 m0:d'.m (pp d.n f 0)=pp (d.n+1) g 2
 m1:d'.m (pp d.n f 1)=pp (d.n+1) g 1
theorem In.lens (I:In d d' f g):Lens d' (pp d.n f 0) (pp (d.n+1) g 2) :=
 ⟨by rw [I.n];unfold pp;omega,I.m0,by rw [tn_pp,I.m1,tn_pp,show 2+3=1+4 from rfl,pp_mod],by unfold pp;omega⟩
section
variable (I:In d d' f g)
include I
theorem In.e1 (E:d'.m (pp d.n f 2)≠pp (d.n+1) g 0):lA d' (pp d.n f 0) (pp (d.n+1) g 2) (d'.m (pp d.n f 2))=d'.m (pp (d.n+1) g 0)∧lA d' (pp d.n f 0) (pp (d.n+1) g 2) (d'.m (pp (d.n+1) g 0))=d'.m (pp d.n f 2) ∧
 ∀z,z≠pp d.n f 2→z≠pp (d.n+1) g 0→z≠d'.m (pp d.n f 2)→z≠d'.m (pp (d.n+1) g 0)→lA d' (pp d.n f 0) (pp (d.n+1) g 2) z=d'.m z:=by
 have q1:tn (pp d.n f 0) 2=pp d.n f 2:=tn_pp _ _ _ _
 have q2:tn (pp (d.n+1) g 2) 2=pp (d.n+1) g 0:=by rw [tn_pp,show 2+2=0+4 from rfl,pp_mod]
 have:=I.lens.lA_e (Valid.iff.1 I.v).1 (by rw [q1,q2];exact E)
 rwa [q1,q2] at this
theorem In.k1 (E:d'.m (pp d.n f 2)=pp (d.n+1) g 0):lA d' (pp d.n f 0) (pp (d.n+1) g 2)=d'.m:=by
 have _:=I
 have q1:tn (pp d.n f 0) 2=pp d.n f 2:=tn_pp _ _ _ _
 have q2:tn (pp (d.n+1) g 2) 2=pp (d.n+1) g 0:=by rw [tn_pp,show 2+2=0+4 from rfl,pp_mod]
 exact Lens.lA_c (by rw [q1,q2];exact E)
theorem In.e2 (E:lA d' (pp d.n f 0) (pp (d.n+1) g 2) (pp d.n f 3)≠pp (d.n+1) g 3):lB d' (pp d.n f 0) (pp (d.n+1) g 2) (lA d' (pp d.n f 0) (pp (d.n+1) g 2) (pp d.n f 3))=lA d' (pp d.n f 0) (pp (d.n+1) g 2) (pp (d.n+1) g 3) ∧
 lB d' (pp d.n f 0) (pp (d.n+1) g 2) (lA d' (pp d.n f 0) (pp (d.n+1) g 2) (pp (d.n+1) g 3))=lA d' (pp d.n f 0) (pp (d.n+1) g 2) (pp d.n f 3) ∧
 ∀z,z≠pp d.n f 3→z≠pp (d.n+1) g 3→z≠lA d' (pp d.n f 0) (pp (d.n+1) g 2) (pp d.n f 3)→z≠lA d' (pp d.n f 0) (pp (d.n+1) g 2) (pp (d.n+1) g 3)→lB d' (pp d.n f 0) (pp (d.n+1) g 2) z=lA d' (pp d.n f 0) (pp (d.n+1) g 2) z:=by
 have q3:tn (pp d.n f 0) 3=pp d.n f 3:=tn_pp _ _ _ _
 have q4:tn (pp (d.n+1) g 2) 1=pp (d.n+1) g 3:=tn_pp _ _ _ _
 have:=I.lens.lB_e I.v (by rw [q3,q4];exact E)
 rwa [q3,q4] at this
theorem In.k2 (E:lA d' (pp d.n f 0) (pp (d.n+1) g 2) (pp d.n f 3)=pp (d.n+1) g 3):lB d' (pp d.n f 0) (pp (d.n+1) g 2)=lA d' (pp d.n f 0) (pp (d.n+1) g 2):=by
 have _:=I
 have q3:tn (pp d.n f 0) 3=pp d.n f 3:=tn_pp _ _ _ _
 have q4:tn (pp (d.n+1) g 2) 1=pp (d.n+1) g 3:=tn_pp _ _ _ _
 exact Lens.lB_c (by rw [q3,q4];exact E)
theorem In.po (t:Nat){z:Nat}(hz:z<4 * d.n):z≠pp d.n f t:=by have _:=I;have:=pp_bd d.n f t;omega
theorem In.qo (t:Nat){z:Nat}(hz:z<4 * d.n):z≠pp (d.n+1) g t:=by have _:=I;have:=pp_bd (d.n+1) g t;omega
theorem In.edges (hw:Wf d){x y:Nat}(hx:x<4 * d.n)(hy:y<4 * d.n)(xy:x≠y)(xm:d.m x≠y)(v2:d'.m (pp d.n f 2)=d.m y)(v0:d'.m (pp (d.n+1) g 0)=y)(v3:d'.m (pp d.n f 3)=x)(w3:d'.m (pp (d.n+1) g 3)=d.m x)
 (old:∀z,z<4 * d.n→z≠x→z≠d.m x→z≠y→z≠d.m y→d'.m z=d.m z):Out d d' f g 0 0:=by
 have hmx:=hw.lt x hx
 have hmy:=hw.lt y hy
 have n1:d'.m (pp d.n f 2)≠pp (d.n+1) g 0:=by rw [v2];exact I.qo 0 hmy
 obtain ⟨a1,a2,a3⟩:=I.e1 n1
 rw [v2,v0] at a1 a2 a3
 have k1:=a3 (pp d.n f 3) (pp_ne (by omega)) pp_nq (Ne.symm (I.po 3 hmy)) (Ne.symm (I.po 3 hy))
 have k2:=a3 (pp (d.n+1) g 3) (Ne.symm pp_nq) (pp_ne (by omega)) (Ne.symm (I.qo 3 hmy)) (Ne.symm (I.qo 3 hy))
 rw [v3] at k1
 rw [w3] at k2
 have n2:lA d' (pp d.n f 0) (pp (d.n+1) g 2) (pp d.n f 3)≠pp (d.n+1) g 3:=by rw [k1];exact I.qo 3 hx
 obtain ⟨b1,b2,b3⟩:=I.e2 n2
 rw [k1,k2] at b1 b2 b3
 refine ⟨I.n,I.lens,fun z hz=>?_,by rw [if_neg n1],by rw [if_neg n2]⟩
 by_cases z1:z=x
 ·rw [z1,b1]
 ·by_cases z2:z=d.m x
  ·rw [z2,b2,hw.inv x hx]
  ·rw [b3 z (I.po 3 hz) (I.qo 3 hz) z1 z2]
   by_cases z3:z=y
   ·rw [z3,a2]
   ·by_cases z4:z=d.m y
    ·rw [z4,a1,hw.inv y hy]
    ·rw [a3 z (I.po 2 hz) (I.qo 0 hz) z4 z3,old z hz z1 z2 z3 z4]
theorem In.loops (v2:d'.m (pp d.n f 2)=pp (d.n+1) g 0)(v3:d'.m (pp d.n f 3)=pp (d.n+1) g 3)(old:∀z,z<4 * d.n→d'.m z=d.m z):Out d d' f g 1 1:=by
 have k:=I.k1 v2
 have n2:lA d' (pp d.n f 0) (pp (d.n+1) g 2) (pp d.n f 3)=pp (d.n+1) g 3:=by rw [k,v3]
 exact ⟨I.n,I.lens,fun z hz=>by rw [I.k2 n2,k,old z hz],by rw [if_pos v2],by rw [if_pos n2]⟩
theorem In.xedge (hw:Wf d){x:Nat}(hx:x<4 * d.n)(v2:d'.m (pp d.n f 2)=pp (d.n+1) g 0)(v3:d'.m (pp d.n f 3)=x)(w3:d'.m (pp (d.n+1) g 3)=d.m x)
 (old:∀z,z<4 * d.n→z≠x→z≠d.m x→d'.m z=d.m z):Out d d' f g 1 0:=by
 have k:=I.k1 v2
 have n2:lA d' (pp d.n f 0) (pp (d.n+1) g 2) (pp d.n f 3)≠pp (d.n+1) g 3:=by rw [k,v3];exact I.qo 3 hx
 obtain ⟨b1,b2,b3⟩:=I.e2 n2
 rw [k,v3,w3] at b1 b2 b3
 refine ⟨I.n,I.lens,fun z hz=>?_,by rw [if_pos v2],by rw [if_neg n2]⟩
 by_cases z1:z=x
 ·rw [z1,b1]
 ·by_cases z2:z=d.m x
  ·rw [z2,b2,hw.inv x hx]
  ·rw [b3 z (I.po 3 hz) (I.qo 3 hz) z1 z2,old z hz z1 z2]
theorem In.yedge (hw:Wf d){y:Nat}(hy:y<4 * d.n)(v2:d'.m (pp d.n f 2)=d.m y)(v0:d'.m (pp (d.n+1) g 0)=y)(v3:d'.m (pp d.n f 3)=pp (d.n+1) g 3)
 (old:∀z,z<4 * d.n→z≠y→z≠d.m y→d'.m z=d.m z):Out d d' f g 0 1:=by
 have hmy:=hw.lt y hy
 have n1:d'.m (pp d.n f 2)≠pp (d.n+1) g 0:=by rw [v2];exact I.qo 0 hmy
 obtain ⟨a1,a2,a3⟩:=I.e1 n1
 rw [v2,v0] at a1 a2 a3
 have n2:lA d' (pp d.n f 0) (pp (d.n+1) g 2) (pp d.n f 3)=pp (d.n+1) g 3:=by
  rw [a3 (pp d.n f 3) (pp_ne (by omega)) pp_nq (Ne.symm (I.po 3 hmy)) (Ne.symm (I.po 3 hy)),v3]
 refine ⟨I.n,I.lens,fun z hz=>?_,by rw [if_neg n1],by rw [if_pos n2]⟩
 rw [I.k2 n2]
 by_cases z3:z=y
 ·rw [z3,a2]
 ·by_cases z4:z=d.m y
  ·rw [z4,a1,hw.inv y hy]
  ·rw [a3 z (I.po 2 hz) (I.qo 0 hz) z4 z3,old z hz z3 z4]
theorem In.self0 (v2:d'.m (pp d.n f 2)=pp d.n f 3)(v0:d'.m (pp (d.n+1) g 0)=pp (d.n+1) g 3)(old:∀z,z<4 * d.n→d'.m z=d.m z):Out d d' f g 0 1:=by
 have n1:d'.m (pp d.n f 2)≠pp (d.n+1) g 0:=by rw [v2];exact pp_nq
 obtain ⟨a1,a2,a3⟩:=I.e1 n1
 rw [v2,v0] at a1 a2 a3
 refine ⟨I.n,I.lens,fun z hz=>?_,by rw [if_neg n1],by rw [if_pos a1]⟩
 rw [I.k2 a1,a3 z (I.po 2 hz) (I.qo 0 hz) (I.po 3 hz) (I.qo 3 hz),old z hz]
theorem In.self1 (hw:Wf d){x:Nat}(hx:x<4 * d.n)(v2:d'.m (pp d.n f 2)=d.m x)(v0:d'.m (pp (d.n+1) g 0)=pp (d.n+1) g 3)(v3:d'.m (pp d.n f 3)=x)
 (old:∀z,z<4 * d.n→z≠x→z≠d.m x→d'.m z=d.m z):Out d d' f g 0 0:=by
 have hmx:=hw.lt x hx
 have n1:d'.m (pp d.n f 2)≠pp (d.n+1) g 0:=by rw [v2];exact I.qo 0 hmx
 obtain ⟨a1,a2,a3⟩:=I.e1 n1
 rw [v2,v0] at a1 a2 a3
 have k1:=a3 (pp d.n f 3) (pp_ne (by omega)) pp_nq (Ne.symm (I.po 3 hmx)) pp_nq
 rw [v3] at k1
 have n2:lA d' (pp d.n f 0) (pp (d.n+1) g 2) (pp d.n f 3)≠pp (d.n+1) g 3:=by rw [k1];exact I.qo 3 hx
 obtain ⟨b1,b2,b3⟩:=I.e2 n2
 rw [k1,a2] at b1 b2 b3
 refine ⟨I.n,I.lens,fun z hz=>?_,by rw [if_neg n1],by rw [if_neg n2]⟩
 by_cases z1:z=x
 ·rw [z1,b1]
 ·by_cases z2:z=d.m x
  ·rw [z2,b2,hw.inv x hx]
  ·rw [b3 z (I.po 3 hz) (I.qo 3 hz) z1 z2,a3 z (I.po 2 hz) (I.qo 0 hz) z2 (I.qo 3 hz),old z hz z1 z2]
theorem In.self2 (hw:Wf d){x:Nat}(hx:x<4 * d.n)(v2:d'.m (pp d.n f 2)=pp d.n f 3)(v0:d'.m (pp (d.n+1) g 0)=x)(w3:d'.m (pp (d.n+1) g 3)=d.m x)
 (old:∀z,z<4 * d.n→z≠x→z≠d.m x→d'.m z=d.m z):Out d d' f g 0 0:=by
 have hmx:=hw.lt x hx
 have n1:d'.m (pp d.n f 2)≠pp (d.n+1) g 0:=by rw [v2];exact pp_nq
 obtain ⟨a1,a2,a3⟩:=I.e1 n1
 rw [v2,v0] at a1 a2 a3
 have k2:=a3 (pp (d.n+1) g 3) (Ne.symm pp_nq) (pp_ne (by omega)) (Ne.symm pp_nq) (Ne.symm (I.qo 3 hx))
 rw [w3] at k2
 have n2:lA d' (pp d.n f 0) (pp (d.n+1) g 2) (pp d.n f 3)≠pp (d.n+1) g 3:=by rw [a1];exact I.qo 3 hx
 obtain ⟨b1,b2,b3⟩:=I.e2 n2
 rw [a1,k2] at b1 b2 b3
 refine ⟨I.n,I.lens,fun z hz=>?_,by rw [if_neg n1],by rw [if_neg n2]⟩
 by_cases z1:z=x
 ·rw [z1,b1]
 ·by_cases z2:z=d.m x
  ·rw [z2,b2,hw.inv x hx]
  ·rw [b3 z (I.po 3 hz) (I.qo 3 hz) z1 z2,a3 z (I.po 2 hz) (I.qo 0 hz) (I.po 3 hz) z1,old z hz z1 z2]
end
end
end Go.Proofs.YtdgliimmnnhhjaaGreatDoor.Pl
end
section
namespace Go.Proofs.YtdgliimmnnhhjaaGreatDoor
open Go.RowKit
set_option maxRecDepth 100000 in
set_option maxHeartbeats 4000000 in
theorem spherical_any (d:Pl.Dg)(hd:Pl.Wf d)(A B:Option Addr)(cp cq:Nat)(l:Value)(w:World)(hl:l = .int .i64 d.lp)(hg:DgAt w A B d) :
 Calls Tryz.prog 36 #[.agg #[.slice A d.n cp,.slice B (4 * d.n) cq,l]] w fun e w'=>e = .returned (.bool (Pl.vb (Pl.Rule d)))∧Below w.heap.size w w':=by
 subst hl
 have hn:=hd.few
 have HF:=hide hd
 clear hd
 obtain ⟨m,hm⟩:∃m,m=4 * d.n:=⟨_,rfl⟩
 rw [←hm]
 have HM:=hide hm
 have hm6:m≤256:=by omega
 clear hm
 go_enter Tryz.func36,Tryz.ntmps36
 go_wp2_with fail
 have b0:Below w.heap.size w (w.alloc (.cells #[.slice A d.n cp,.slice B m cq,.int .i64 d.lp] 24)):=(Below.refl _ _).alloc (Nat.le_refl _) _
 have x0:Row (w.alloc (.cells #[.slice A d.n cp,.slice B m cq,.int .i64 d.lp] 24)) w.heap.size 24 (boxV A B d.n cp m cq (.int .i64 d.lp)):=Row.new w _ _
 refine (label_m d HF.out A B cp cq m _ _ HM.out (hg.keep b0)).mono ?_
 rintro e w1 ⟨ps,P,g,rfl,hlb,hall,hgb,hrow,hb1⟩
 have X1:=hide (x0.below hb1)
 have B1:=hide (b0.trans (hb1.mono (by simp)))
 have hPn:=hlb.le
 have HLB:=hide hlb
 have HALL:=hide hall
 have HLen:=hide hlb.len
 have R1:=hide hrow
 have hg0:w.heap.size+1≤g:=by simpa using hgb
 have hg1:g<w1.heap.size:=hrow.lt
 clear b0 x0 hb1 hlb hall hrow hgb
 have hmk:=run_ints P (by omega) w1
 go_wp2
 clear hmk
 obtain ⟨W2,hW2⟩:∃W2:World,W2=w1.alloc (.cells (Array.replicate P (Value.int .i64 0)) 3):=⟨_,rfl⟩
 have B2:=hide (show Below w.heap.size w W2 by rw [hW2];exact B1.out.alloc (by omega) _)
 have X2:=hide (show Row W2 w.heap.size 24 (boxV A B d.n cp m cq (.int .i64 d.lp)) by rw [hW2];exact X1.out.alloc _)
 have R2:=hide (show IRow W2 g ps by rw [hW2];exact Row.alloc R1.out _)
 have E2:=hide (show IRow W2 w1.heap.size (List.replicate P 0) by rw [hW2];exact IRow.made w1 P)
 rw [←hW2]
 clear hW2 B1 X1 R1
 generalize w1.heap.size=eb at hg1 E2 ⊢
 go_loopg [22] d.n (fun g' i wx=>∃(k:Nat) (es:List Int),k+g'=d.n∧i = .int .i64 k∧Pl.Ex d ps es P k 0∧Below w.heap.size w wx∧Row wx w.heap.size 24 (boxV A B d.n cp m cq (.int .i64 d.lp))∧IRow wx g ps∧IRow wx eb es)
 case atStart=>exact ⟨0,_,by omega,rfl,Pl.Ex.start d ps P,B2.out,X2.out,R2.out,E2.out⟩
 case round =>
  clear B2 X2 R2 E2
  obtain ⟨k,es,hkg,rfl,hex,b3,x3,r3,e3⟩:=hrel
  have HG:=hide hkg
  have HE:=hide hex
  have hks:k≤d.n:=by omega
  have hel:=hex.1
  have HEL:=hide hel
  clear hkg hex
  by_cases hlt:k<d.n
  ·obtain ⟨q,hq⟩:∃q:Nat,Pl.pv ps k=q:=⟨(Pl.pv ps k).toNat,by have:=HALL.out k hlt;omega⟩
   have hqP:q<P:=by have:=(HLB.out.lo k hlt).2;omega
   have c1:=r3.cell (i:=k) (by have:=HLen.out;omega)
   rw [hq] at c1
   have c2:=e3.cell (i:=q) (by omega)
   have f2:=Row.free e3 q
   have hlo:-1000≤Pl.pv es q∧Pl.pv es q≤1000:=by
    have h1:=HE.out.2 q hqP
    have h2:Pl.nf d ps q 0=0:=rfl
    have h3:Pl.nv ps q k≤k:=Pl.cnt_top _ k
    omega
   have HQ:=hide hq
   have B3:=hide b3
   have X3:=hide x3
   have R3:=hide r3
   have E3:=hide e3
   clear hq b3 x3 r3 e3 hel
   go_wp2
   go_roundg (gk - 1)
   case measure=>have:=HG.out;omega
   case rel =>
    refine ⟨k+1,_,by have:=HG.out;omega,by go_num,HE.out.less hqP HQ.out,B3.out.setCell (by simp;omega) _,X3.out.other (by simp;omega) _,Row.other R3.out (by simp;omega) _,E3.out.set q (Pl.pv es q - 1)⟩
  ·have hkn:k=d.n:=by omega
   have HE':=hide (show Pl.Ex d ps es P d.n 0 by have:=HE.out;rw [hkn] at this;exact this)
   have hmk2:=run_bools m (by omega) wr
   have B3:=hide b3
   have X3:=hide x3
   have R3:=hide r3
   have E3:=hide e3
   have x3c:wr.cell? ⟨w.heap.size,1,none⟩=some (.slice B m cq):=x3.cell (i:=1) (by show 1<3;omega)
   have ewz:eb<wr.heap.size:=e3.lt
   have x3d:(wr.alloc (.cells (Array.replicate m (Value.bool false)) 4)).cell? ⟨w.heap.size,1,none⟩=some (.slice B m cq):=(x3.alloc _).cell (i:=1) (by show 1<3;omega)
   clear b3 x3 r3 e3 hkn HE hel
   go_wp2
   clear hmk2 x3c x3d
   obtain ⟨W4,hW4⟩:∃W4:World,W4=wr.alloc (.cells (Array.replicate m (Value.bool false)) 4):=⟨_,rfl⟩
   have B4:=hide (show Below w.heap.size w W4 by rw [hW4];exact B3.out.alloc (by omega) _)
   have X4:=hide (show Row W4 w.heap.size 24 (boxV A B d.n cp m cq (.int .i64 d.lp)) by rw [hW4];exact X3.out.alloc _)
   have R4:=hide (show IRow W4 g ps by rw [hW4];exact Row.alloc R3.out _)
   have E4:=hide (show IRow W4 eb es by rw [hW4];exact Row.alloc E3.out _)
   have S4:=hide (show BRow W4 wr.heap.size (List.replicate (4 * d.n) false) by rw [hW4,←HM.out];exact BRow.made wr m)
   rw [←hW4]
   clear hW4 B3 X3 R3 E3
   generalize wr.heap.size=sb at ewz S4 ⊢
   go_loopg [40] m (fun g' i wx=>∃(k:Nat) (es:List Int) (bs:List Bool),k+g'=m∧i = .int .i64 k∧Pl.Ex d ps es P d.n k∧Pl.SQ d k bs∧Below w.heap.size w wx∧Row wx w.heap.size 24 (boxV A B d.n cp m cq (.int .i64 d.lp))∧IRow wx g ps∧IRow wx eb es∧BRow wx sb bs)
   case atStart=>exact ⟨0,es,_,by omega,rfl,HE'.out,Pl.SQ.start d,B4.out,X4.out,R4.out,E4.out,S4.out⟩
   case round =>
    clear B4 X4 R4 E4 S4 HG HEL HE'
    obtain ⟨j,e5,bs,hjg,rfl,hex,hsq,b6,x6,r6,e6,s6⟩:=hrel
    have HG:=hide hjg
    have HE:=hide hex
    have HS:=hide hsq
    have hjs:j≤m:=by omega
    have HEL:=hide hex.1
    have HSL:=hide hsq.len
    clear hjg hex hsq
    by_cases hjm:j<m
    ·have hj4:j<4 * d.n:=by have:=HM.out;omega
     have c1:=s6.cell (i:=j) (by have:=HSL.out;omega)
     by_cases hseen:Pl.gb bs j=true
     ·have c1':wr.cell? ⟨sb,j,none⟩=some (.bool true):=by rw [c1];exact congrArg (fun b=>some (Value.bool b)) hseen
      have B6:=hide b6
      have X6:=hide x6
      have R6:=hide r6
      have E6:=hide e6
      have S6:=hide s6
      have HSE:=hide (HS.out.seen HF.out hj4 hseen)
      clear c1 b6 x6 r6 e6 s6 hseen
      go_wp2
      go_roundg (gk - 1)
      case measure=>have:=HG.out;omega
      case rel=>exact ⟨j+1,e5,bs,by have:=HG.out;omega,by go_num,HE.out.same HSE.out.2,HSE.out.1,B6.out,X6.out,R6.out,E6.out,S6.out⟩
     ·have hseen':Pl.gb bs j=false:=by simpa using hseen
      have c1':wr.cell? ⟨sb,j,none⟩=some (.bool false):=by rw [c1];exact congrArg (fun b=>some (Value.bool b)) hseen'
      have HSE:=hide (HS.out.enter HF.out hj4 hseen')
      have hj4':j / 4<d.n:=by omega
      obtain ⟨q,hq⟩:∃q:Nat,Pl.pv ps (j / 4)=q:=⟨(Pl.pv ps (j / 4)).toNat,by have:=HALL.out (j / 4) hj4';omega⟩
      have hqP:q<P:=by have:=(HLB.out.lo (j / 4) hj4').2;omega
      have c2:=r6.cell (i:=j / 4) (by have:=HLen.out;omega)
      rw [hq] at c2
      have c3:=e6.cell (i:=q) (by have:=HEL.out;omega)
      have f3:=Row.free e6 q
      have hlo:-1000≤Pl.pv e5 q∧Pl.pv e5 q≤1000:=by
       have h1:=HE.out.2 q hqP
       have h2:Pl.nf d ps q j≤j:=Pl.cnt_top _ j
       have h3:Pl.nv ps q d.n≤d.n:=Pl.cnt_top _ d.n
       omega
      have HQ:=hide hq
      have B6:=hide b6
      have X6:=hide x6
      have R6:=hide r6
      have E6:=hide e6
      have S6:=hide s6
      obtain ⟨wo,rfl⟩:∃wo:World,wo=wr:=⟨_,rfl⟩
      clear c1 b6 x6 r6 e6 s6 hseen hseen' hq
      go_wp2
      obtain ⟨W5,hW5⟩:∃W5:World,W5=wo.setCell ⟨eb,q,none⟩ (.int .i64 (Pl.pv e5 q+1)):=⟨_,rfl⟩
      have B7:=hide (show Below w.heap.size w W5 by rw [hW5];exact B6.out.setCell (by simp;omega) _)
      have X7:=hide (show Row W5 w.heap.size 24 (boxV A B d.n cp m cq (.int .i64 d.lp)) by rw [hW5];exact X6.out.other (by simp;omega) _)
      have R7:=hide (show IRow W5 g ps by rw [hW5];exact Row.other R6.out (by simp;omega) _)
      have E7:=hide (show IRow W5 eb (e5.set q (Pl.pv e5 q+1)) by rw [hW5];exact E6.out.set q _)
      have S7:=hide (show BRow W5 sb bs by rw [hW5];exact Row.other S6.out (by simp;omega) _)
      rw [←hW5]
      clear hW5 B6 X6 R6 E6 S6 c1' c2 c3 f3
      go_loopg [10] (Pl.uns bs) (fun g' v wx=>∃(i:Nat) (b8:List Bool),g'=Pl.uns b8∧v = .int .i64 (Pl.it (Pl.nx d) i j:Nat)∧Pl.SI d j i b8∧Below w.heap.size w wx∧Row wx w.heap.size 24 (boxV A B d.n cp m cq (.int .i64 d.lp))∧IRow wx g ps∧IRow wx eb (e5.set q (Pl.pv e5 q+1))∧BRow wx sb b8)
      case atStart=>exact ⟨0,bs,rfl,rfl,HSE.out.1,B7.out,X7.out,R7.out,E7.out,S7.out⟩
      case round =>
       clear B7 X7 R7 E7 S7
       obtain ⟨i,b8,hgk,rfl,hsi,b9,x9,r9,e9,s9⟩:=hrel
       have HGK:=hide hgk
       have HSI:=hide hsi
       have HSZ:=hide hsi.len
       have hcur4:=hsi.lt HF.out
       clear hgk hsi
       obtain ⟨cur,hcur⟩:∃cur,cur=Pl.it (Pl.nx d) i j:=⟨_,rfl⟩
       rw [←hcur] at hcur4 ⊢
       have HC:=hide hcur
       clear hcur
       have hcm:cur<m:=by have:=HM.out;omega
       have c1:=s9.cell (i:=cur) (by have:=HSZ.out;omega)
       have f1:=Row.free s9 cur
       by_cases hseen:Pl.gb b8 cur=true
       ·have c1':wr.cell? ⟨sb,cur,none⟩=some (.bool true):=by rw [c1];exact congrArg (fun b=>some (Value.bool b)) hseen
        have HD:=hide (HSI.out.done HF.out (by rw [←HC.out];exact hseen))
        have B9:=hide b9
        have X9:=hide x9
        have R9:=hide r9
        have E9:=hide e9
        have S9:=hide s9
        clear c1 f1 b9 x9 r9 e9 s9 hseen
        go_wp2
        go_roundg (m - (j+1))
        case measure=>have:=HG.out;omega
        case rel=>exact ⟨j+1,_,b8,by omega,by go_num,HE.out.more hqP HQ.out HSE.out.2,HD.out,B9.out,X9.out,R9.out,E9.out,S9.out⟩
       ·have hseen':Pl.gb b8 cur=false:=by simpa using hseen
        have c1':wr.cell? ⟨sb,cur,none⟩=some (.bool false):=by rw [c1];exact congrArg (fun b=>some (Value.bool b)) hseen'
        obtain ⟨bb,bo,rfl,hmc⟩:=mate_at hg.m hcur4
        have hml:=HF.out.lt _ hcur4
        have b10:Below w.heap.size w (wr.setCell ⟨sb,cur,none⟩ (.bool true)):=b9.setCell (by simp;omega) _
        have c2:=cell_below hmc b10
        have x10:Row (wr.setCell ⟨sb,cur,none⟩ (.bool true)) w.heap.size 24 (boxV A (some ⟨bb,bo,none⟩) d.n cp m cq (.int .i64 d.lp)):=x9.other (by simp;omega) _
        have c3:(wr.setCell ⟨sb,cur,none⟩ (.bool true)).cell? ⟨w.heap.size,1,none⟩=some (.slice (some ⟨bb,bo,none⟩) m cq):=x10.cell (i:=1) (by show 1<3;omega)
        have B9:=hide b10
        have X9:=hide x10
        have R9:=hide (show IRow (wr.setCell ⟨sb,cur,none⟩ (.bool true)) g ps from Row.other r9 (by simp;omega) _)
        have E9:=hide (show IRow (wr.setCell ⟨sb,cur,none⟩ (.bool true)) eb (e5.set q (Pl.pv e5 q+1)) from Row.other e9 (by simp;omega) _)
        have S9:=hide (s9.set cur true)
        have HU:=hide (Pl.uns_set (by have:=HSZ.out;omega) hseen')
        clear c1 b10 x10 b9 x9 r9 e9 s9 hseen hseen' hmc
        go_wp2_with fail
        refine (turn_back _ _ (by omega)).mono ?_
        rintro e w9 ⟨rfl,rfl⟩
        go_wp2
        go_roundg (gk - 1)
        case measure=>have h1:=HGK.out;have h2:=HU.out;omega
        case rel=>exact ⟨i+1,b8.set cur true,by have h1:=HGK.out;have h2:=HU.out;omega,by rw [HC.out];rfl,by have:=HSI.out.step HF.out;rw [←HC.out] at this;exact this,B9.out,X9.out,R9.out,E9.out,S9.out⟩
    ·have hjm':j=4 * d.n:=by have:=HM.out;omega
     have HE':=hide (show Pl.Ex d ps e5 P d.n (4 * d.n) by have:=HE.out;rw [hjm'] at this;exact this)
     have HR:=hide (HE'.out.rule HF.out HLB.out HALL.out)
     have B6:=hide b6
     have E6:=hide e6
     clear b6 x6 r6 e6 s6 hjm' HE
     go_wp2
     go_loopg [75] P (fun g' i wx=>∃k:Nat,k+g'=P∧i = .int .i64 k∧(∀p,p<k→Pl.pv e5 p=2)∧Below w.heap.size w wx∧IRow wx eb e5)
     case atStart=>exact ⟨0,by omega,rfl,fun p hp=>absurd hp (by omega),B6.out,E6.out⟩
     case round =>
      clear B6 E6
      obtain ⟨k,hkg,rfl,hall2,b7,e7⟩:=hrel
      have HGG:=hide hkg
      have HA2:=hide hall2
      have hkP:k≤P:=by omega
      clear hkg hall2
      by_cases hlt:k<P
      ·have c1:=e7.cell (i:=k) (by have:=HEL.out;omega)
       have B7:=hide b7
       have E7:=hide e7
       clear b7 e7
       by_cases h2:Pl.pv e5 k=2
       ·have H2:=hide h2
        rw [h2] at c1
        clear h2
        go_wp2
        go_roundg (gk - 1)
        case measure=>have:=HGG.out;omega
        case rel =>
         refine ⟨k+1,by have:=HGG.out;omega,by go_num,fun p hp=>?_,B7.out,E7.out⟩
         by_cases e:p=k
         ·rw [e];exact H2.out
         ·exact HA2.out p (by omega)
       ·have hb2:(Pl.pv e5 k != 2)=true:=by rw [bne_iff_ne];exact h2
        have H2:=hide h2
        clear h2
        go_wp2
        go_ret
        exact ⟨ret_bool (Pl.vb_false (fun hr=>H2.out (HR.out.2 hr k hlt))).symm,B7.out⟩
      ·have hkP':k=P:=by omega
       have B7:=hide b7
       clear b7 e7
       go_wp2
       go_ret
       exact ⟨ret_bool (Pl.vb_true (HR.out.1 (fun p hp=>HA2.out p (by omega)))).symm,B7.out⟩
theorem spherical_n (d:Pl.Dg)(hd:Pl.Wf d)(A B:Option Addr)(n q cp cq:Nat)(l:Value)(w:World)(e1:n=d.n)(e2:q=4 * d.n)(hl:l = .int .i64 d.lp)(hg:DgAt w A B d) :
 Calls Tryz.prog 36 #[.agg #[.slice A n cp,.slice B q cq,l]] w fun e w'=>e = .returned (.bool (Pl.vb (Pl.Rule d)))∧Below w.heap.size w w':=by
 subst e1;subst e2;exact spherical_any d hd A B cp cq l w hl hg
end Go.Proofs.YtdgliimmnnhhjaaGreatDoor
end
section
namespace Go.Proofs.YtdgliimmnnhhjaaGreatDoor.Pl
section
variable {d d':Dg} {f g:Nat} {fx fy:Bool}
theorem Pd.l0 (hd:Valid d)(K:Pd d d' f g fx fy):(pkL0 d f g).length=4 * (d.n+2)∧(pkL0 d f g).getD (pp d.n f 0) 0=pp (d.n+1) g 2∧(pkL0 d f g).getD (pp d.n f 1) 0=pp (d.n+1) g 1∧∀z,z<4 * d.n→(pkL0 d f g).getD z 0=d.m z:=by
 have B:=K.base hd
 have hw:=(Valid.iff.1 hd).1
 refine ⟨B.ms.len,?_,?_,fun z hz=>?_⟩
 ·rw [B.ms.at_ _ (by unfold pp;omega) (by rw [B.b4];unfold pp;omega),B.b4]
 ·rw [B.ms.at_ _ (by unfold pp;omega) (by rw [B.b1];unfold pp;omega),B.b1]
 ·rw [B.ms.at_ z (by omega) (by rw [B.old z hz];exact hw.ne z hz),B.old z hz]
theorem Pd.out_loops (hd:Valid d)(K:Pd d d' f g fx fy)(hv:Valid d')(hl:d'.mt=jl (jl (pkL0 d f g) (pp (d.n+1) g 0) (pp d.n f 2)) (pp d.n f 3) (pp (d.n+1) g 3)):Out d d' f g 1 1:=by
 have hw:=(Valid.iff.1 hd).1
 have hw':=(Valid.iff.1 hv).1
 obtain ⟨ln,l0,l1,lo⟩:=K.l0 hd
 have e:∀z,z<4 * (d.n+2)→d'.m z=if z=(pp (d.n+1) g 3) then (pp d.n f 3) else if z=(pp d.n f 3) then (pp (d.n+1) g 3) else if z=(pp d.n f 2) then (pp (d.n+1) g 0) else if z=(pp (d.n+1) g 0) then (pp d.n f 2) else (pkL0 d f g).getD z 0:=fun z hz=>by
  rw [←dg_m hw' (by rw [K.n];exact hz),hl,jl_at (by simp only [jl_len,ln,pp];omega) (by simp only [jl_len,ln,pp];omega),jl_at (by simp only [jl_len,ln,pp];omega) (by simp only [jl_len,ln,pp];omega)]
 have m0:d'.m (pp d.n f 0)=(pp (d.n+1) g 2):=by rw [e _ (by unfold pp;omega),if_neg (by unfold pp;omega),if_neg (by unfold pp;omega),if_neg (by unfold pp;omega),if_neg (by unfold pp;omega),l0]
 have m1:d'.m (pp d.n f 1)=(pp (d.n+1) g 1):=by rw [e _ (by unfold pp;omega),if_neg (by unfold pp;omega),if_neg (by unfold pp;omega),if_neg (by unfold pp;omega),if_neg (by unfold pp;omega),l1]
 have v2:d'.m (pp d.n f 2)=(pp (d.n+1) g 0):=by rw [e _ (by unfold pp;omega),if_neg (by unfold pp;omega),if_neg (by unfold pp;omega),if_pos rfl]
 have v0:d'.m (pp (d.n+1) g 0)=(pp d.n f 2):=by rw [e _ (by unfold pp;omega),if_neg (by unfold pp;omega),if_neg (by unfold pp;omega),if_neg (by unfold pp;omega),if_pos rfl]
 have v3:d'.m (pp d.n f 3)=(pp (d.n+1) g 3):=by rw [e _ (by unfold pp;omega),if_neg (by unfold pp;omega),if_pos rfl]
 have w3:d'.m (pp (d.n+1) g 3)=(pp d.n f 3):=by rw [e _ (by unfold pp;omega),if_pos rfl]
 have old:∀z,z<4 * d.n→d'.m z=d.m z:=fun z hz=>by rw [e z (by omega),if_neg (by unfold pp;omega),if_neg (by unfold pp;omega),if_neg (by unfold pp;omega),if_neg (by unfold pp;omega),lo z hz]
 exact (show In d d' f g from ⟨K.n,hv,m0,m1⟩).loops v2 v3 old
theorem Pd.out_xedge (hd:Valid d)(K:Pd d d' f g fx fy)(hv:Valid d'){x:Nat}(hx:x<4 * d.n)(hl:d'.mt=jl (jl (jl (pkL0 d f g) (pp (d.n+1) g 0) (pp d.n f 2)) x (pp d.n f 3)) (pp (d.n+1) g 3) (d.m x)):Out d d' f g 1 0:=by
 have hw:=(Valid.iff.1 hd).1
 have hw':=(Valid.iff.1 hv).1
 obtain ⟨ln,l0,l1,lo⟩:=K.l0 hd
 have hmx:=hw.lt x hx
 have hnex:=hw.ne x hx
 have e:∀z,z<4 * (d.n+2)→d'.m z=if z=(d.m x) then (pp (d.n+1) g 3) else if z=(pp (d.n+1) g 3) then (d.m x) else if z=(pp d.n f 3) then x else if z=x then (pp d.n f 3) else if z=(pp d.n f 2) then (pp (d.n+1) g 0) else if z=(pp (d.n+1) g 0) then (pp d.n f 2) else (pkL0 d f g).getD z 0:=fun z hz=>by
  rw [←dg_m hw' (by rw [K.n];exact hz),hl,jl_at (by simp only [jl_len,ln,pp];omega) (by simp only [jl_len,ln,pp];omega),jl_at (by simp only [jl_len,ln,pp];omega) (by simp only [jl_len,ln,pp];omega),jl_at (by simp only [jl_len,ln,pp];omega) (by simp only [jl_len,ln,pp];omega)]
 have m0:d'.m (pp d.n f 0)=(pp (d.n+1) g 2):=by rw [e _ (by unfold pp;omega),if_neg (by unfold pp;omega),if_neg (by unfold pp;omega),if_neg (by unfold pp;omega),if_neg (by unfold pp;omega),if_neg (by unfold pp;omega),if_neg (by unfold pp;omega),l0]
 have m1:d'.m (pp d.n f 1)=(pp (d.n+1) g 1):=by rw [e _ (by unfold pp;omega),if_neg (by unfold pp;omega),if_neg (by unfold pp;omega),if_neg (by unfold pp;omega),if_neg (by unfold pp;omega),if_neg (by unfold pp;omega),if_neg (by unfold pp;omega),l1]
 have v2:d'.m (pp d.n f 2)=(pp (d.n+1) g 0):=by rw [e _ (by unfold pp;omega),if_neg (by unfold pp;omega),if_neg (by unfold pp;omega),if_neg (by unfold pp;omega),if_neg (by unfold pp;omega),if_pos rfl]
 have v0:d'.m (pp (d.n+1) g 0)=(pp d.n f 2):=by rw [e _ (by unfold pp;omega),if_neg (by unfold pp;omega),if_neg (by unfold pp;omega),if_neg (by unfold pp;omega),if_neg (by unfold pp;omega),if_neg (by unfold pp;omega),if_pos rfl]
 have v3:d'.m (pp d.n f 3)=x:=by rw [e _ (by unfold pp;omega),if_neg (by unfold pp;omega),if_neg (by unfold pp;omega),if_pos rfl]
 have w3:d'.m (pp (d.n+1) g 3)=(d.m x):=by rw [e _ (by unfold pp;omega),if_neg (by unfold pp;omega),if_pos rfl]
 have old:∀z,z<4 * d.n→z≠x→z≠d.m x→d'.m z=d.m z:=fun z hz z1 z2=>by rw [e z (by omega),if_neg z2,if_neg (by unfold pp;omega),if_neg (by unfold pp;omega),if_neg z1,if_neg (by unfold pp;omega),if_neg (by unfold pp;omega),lo z hz]
 exact (show In d d' f g from ⟨K.n,hv,m0,m1⟩).xedge hw hx v2 v3 w3 old
theorem Pd.out_yedge (hd:Valid d)(K:Pd d d' f g fx fy)(hv:Valid d'){y:Nat}(hy:y<4 * d.n)(hl:d'.mt=jl (jl (jl (pkL0 d f g) y (pp (d.n+1) g 0)) (pp d.n f 2) (d.m y)) (pp d.n f 3) (pp (d.n+1) g 3)):Out d d' f g 0 1:=by
 have hw:=(Valid.iff.1 hd).1
 have hw':=(Valid.iff.1 hv).1
 obtain ⟨ln,l0,l1,lo⟩:=K.l0 hd
 have hmy:=hw.lt y hy
 have hney:=hw.ne y hy
 have e:∀z,z<4 * (d.n+2)→d'.m z=if z=(pp (d.n+1) g 3) then (pp d.n f 3) else if z=(pp d.n f 3) then (pp (d.n+1) g 3) else if z=(d.m y) then (pp d.n f 2) else if z=(pp d.n f 2) then (d.m y) else if z=(pp (d.n+1) g 0) then y else if z=y then (pp (d.n+1) g 0) else (pkL0 d f g).getD z 0:=fun z hz=>by
  rw [←dg_m hw' (by rw [K.n];exact hz),hl,jl_at (by simp only [jl_len,ln,pp];omega) (by simp only [jl_len,ln,pp];omega),jl_at (by simp only [jl_len,ln,pp];omega) (by simp only [jl_len,ln,pp];omega),jl_at (by simp only [jl_len,ln,pp];omega) (by simp only [jl_len,ln,pp];omega)]
 have m0:d'.m (pp d.n f 0)=(pp (d.n+1) g 2):=by rw [e _ (by unfold pp;omega),if_neg (by unfold pp;omega),if_neg (by unfold pp;omega),if_neg (by unfold pp;omega),if_neg (by unfold pp;omega),if_neg (by unfold pp;omega),if_neg (by unfold pp;omega),l0]
 have m1:d'.m (pp d.n f 1)=(pp (d.n+1) g 1):=by rw [e _ (by unfold pp;omega),if_neg (by unfold pp;omega),if_neg (by unfold pp;omega),if_neg (by unfold pp;omega),if_neg (by unfold pp;omega),if_neg (by unfold pp;omega),if_neg (by unfold pp;omega),l1]
 have v2:d'.m (pp d.n f 2)=(d.m y):=by rw [e _ (by unfold pp;omega),if_neg (by unfold pp;omega),if_neg (by unfold pp;omega),if_neg (by unfold pp;omega),if_pos rfl]
 have v0:d'.m (pp (d.n+1) g 0)=y:=by rw [e _ (by unfold pp;omega),if_neg (by unfold pp;omega),if_neg (by unfold pp;omega),if_neg (by unfold pp;omega),if_neg (by unfold pp;omega),if_pos rfl]
 have v3:d'.m (pp d.n f 3)=(pp (d.n+1) g 3):=by rw [e _ (by unfold pp;omega),if_neg (by unfold pp;omega),if_pos rfl]
 have w3:d'.m (pp (d.n+1) g 3)=(pp d.n f 3):=by rw [e _ (by unfold pp;omega),if_pos rfl]
 have old:∀z,z<4 * d.n→z≠y→z≠d.m y→d'.m z=d.m z:=fun z hz z1 z2=>by rw [e z (by omega),if_neg (by unfold pp;omega),if_neg (by unfold pp;omega),if_neg z2,if_neg (by unfold pp;omega),if_neg (by unfold pp;omega),if_neg z1,lo z hz]
 exact (show In d d' f g from ⟨K.n,hv,m0,m1⟩).yedge hw hy v2 v0 v3 old
theorem Pd.out_edges (hd:Valid d)(K:Pd d d' f g fx fy)(hv:Valid d'){x:Nat}(hx:x<4 * d.n){y:Nat}(hy:y<4 * d.n)(xy:x≠y)(xm:d.m x≠y)(hl:d'.mt=jl (jl (jl (jl (pkL0 d f g) y (pp (d.n+1) g 0)) (pp d.n f 2) (d.m y)) x (pp d.n f 3)) (pp (d.n+1) g 3) (d.m x)):Out d d' f g 0 0:=by
 have hw:=(Valid.iff.1 hd).1
 have hw':=(Valid.iff.1 hv).1
 obtain ⟨ln,l0,l1,lo⟩:=K.l0 hd
 have hmx:=hw.lt x hx
 have hnex:=hw.ne x hx
 have hmy:=hw.lt y hy
 have hney:=hw.ne y hy
 have ym:d.m y≠x:=fun e=>xm (by rw [←e,hw.inv y hy])
 have mm:d.m x≠d.m y:=fun e=>xy (hw.bij.inj _ _ hx hy e)
 have e:∀z,z<4 * (d.n+2)→d'.m z=if z=(d.m x) then (pp (d.n+1) g 3) else if z=(pp (d.n+1) g 3) then (d.m x) else if z=(pp d.n f 3) then x else if z=x then (pp d.n f 3) else if z=(d.m y) then (pp d.n f 2) else if z=(pp d.n f 2) then (d.m y) else if z=(pp (d.n+1) g 0) then y else if z=y then (pp (d.n+1) g 0) else (pkL0 d f g).getD z 0:=fun z hz=>by
  rw [←dg_m hw' (by rw [K.n];exact hz),hl,jl_at (by simp only [jl_len,ln,pp];omega) (by simp only [jl_len,ln,pp];omega),jl_at (by simp only [jl_len,ln,pp];omega) (by simp only [jl_len,ln,pp];omega),jl_at (by simp only [jl_len,ln,pp];omega) (by simp only [jl_len,ln,pp];omega),jl_at (by simp only [jl_len,ln,pp];omega) (by simp only [jl_len,ln,pp];omega)]
 have m0:d'.m (pp d.n f 0)=(pp (d.n+1) g 2):=by rw [e _ (by unfold pp;omega),if_neg (by unfold pp;omega),if_neg (by unfold pp;omega),if_neg (by unfold pp;omega),if_neg (by unfold pp;omega),if_neg (by unfold pp;omega),if_neg (by unfold pp;omega),if_neg (by unfold pp;omega),if_neg (by unfold pp;omega),l0]
 have m1:d'.m (pp d.n f 1)=(pp (d.n+1) g 1):=by rw [e _ (by unfold pp;omega),if_neg (by unfold pp;omega),if_neg (by unfold pp;omega),if_neg (by unfold pp;omega),if_neg (by unfold pp;omega),if_neg (by unfold pp;omega),if_neg (by unfold pp;omega),if_neg (by unfold pp;omega),if_neg (by unfold pp;omega),l1]
 have v2:d'.m (pp d.n f 2)=(d.m y):=by rw [e _ (by unfold pp;omega),if_neg (by unfold pp;omega),if_neg (by unfold pp;omega),if_neg (by unfold pp;omega),if_neg (by unfold pp;omega),if_neg (by unfold pp;omega),if_pos rfl]
 have v0:d'.m (pp (d.n+1) g 0)=y:=by rw [e _ (by unfold pp;omega),if_neg (by unfold pp;omega),if_neg (by unfold pp;omega),if_neg (by unfold pp;omega),if_neg (by unfold pp;omega),if_neg (by unfold pp;omega),if_neg (by unfold pp;omega),if_pos rfl]
 have v3:d'.m (pp d.n f 3)=x:=by rw [e _ (by unfold pp;omega),if_neg (by unfold pp;omega),if_neg (by unfold pp;omega),if_pos rfl]
 have w3:d'.m (pp (d.n+1) g 3)=(d.m x):=by rw [e _ (by unfold pp;omega),if_neg (by unfold pp;omega),if_pos rfl]
 have old:∀z,z<4 * d.n→z≠x→z≠d.m x→z≠y→z≠d.m y→d'.m z=d.m z:=fun z hz z1 z2 z3 z4=>by rw [e z (by omega),if_neg z2,if_neg (by unfold pp;omega),if_neg (by unfold pp;omega),if_neg z1,if_neg z4,if_neg (by unfold pp;omega),if_neg (by unfold pp;omega),if_neg z3,lo z hz]
 exact (show In d d' f g from ⟨K.n,hv,m0,m1⟩).edges hw hx hy xy xm v2 v0 v3 w3 old
theorem Pd.out_self0 (hd:Valid d)(K:Pd d d' f g fx fy)(hv:Valid d')(hl:d'.mt=jl (jl (pkL0 d f g) (pp (d.n+1) g 3) (pp (d.n+1) g 0)) (pp d.n f 2) (pp d.n f 3)):Out d d' f g 0 1:=by
 have hw:=(Valid.iff.1 hd).1
 have hw':=(Valid.iff.1 hv).1
 obtain ⟨ln,l0,l1,lo⟩:=K.l0 hd
 have e:∀z,z<4 * (d.n+2)→d'.m z=if z=(pp d.n f 3) then (pp d.n f 2) else if z=(pp d.n f 2) then (pp d.n f 3) else if z=(pp (d.n+1) g 0) then (pp (d.n+1) g 3) else if z=(pp (d.n+1) g 3) then (pp (d.n+1) g 0) else (pkL0 d f g).getD z 0:=fun z hz=>by
  rw [←dg_m hw' (by rw [K.n];exact hz),hl,jl_at (by simp only [jl_len,ln,pp];omega) (by simp only [jl_len,ln,pp];omega),jl_at (by simp only [jl_len,ln,pp];omega) (by simp only [jl_len,ln,pp];omega)]
 have m0:d'.m (pp d.n f 0)=(pp (d.n+1) g 2):=by rw [e _ (by unfold pp;omega),if_neg (by unfold pp;omega),if_neg (by unfold pp;omega),if_neg (by unfold pp;omega),if_neg (by unfold pp;omega),l0]
 have m1:d'.m (pp d.n f 1)=(pp (d.n+1) g 1):=by rw [e _ (by unfold pp;omega),if_neg (by unfold pp;omega),if_neg (by unfold pp;omega),if_neg (by unfold pp;omega),if_neg (by unfold pp;omega),l1]
 have v2:d'.m (pp d.n f 2)=(pp d.n f 3):=by rw [e _ (by unfold pp;omega),if_neg (by unfold pp;omega),if_pos rfl]
 have v0:d'.m (pp (d.n+1) g 0)=(pp (d.n+1) g 3):=by rw [e _ (by unfold pp;omega),if_neg (by unfold pp;omega),if_neg (by unfold pp;omega),if_pos rfl]
 have v3:d'.m (pp d.n f 3)=(pp d.n f 2):=by rw [e _ (by unfold pp;omega),if_pos rfl]
 have w3:d'.m (pp (d.n+1) g 3)=(pp (d.n+1) g 0):=by rw [e _ (by unfold pp;omega),if_neg (by unfold pp;omega),if_neg (by unfold pp;omega),if_neg (by unfold pp;omega),if_pos rfl]
 have old:∀z,z<4 * d.n→d'.m z=d.m z:=fun z hz=>by rw [e z (by omega),if_neg (by unfold pp;omega),if_neg (by unfold pp;omega),if_neg (by unfold pp;omega),if_neg (by unfold pp;omega),lo z hz]
 exact (show In d d' f g from ⟨K.n,hv,m0,m1⟩).self0 v2 v0 old
theorem Pd.out_self1 (hd:Valid d)(K:Pd d d' f g fx fy)(hv:Valid d'){x:Nat}(hx:x<4 * d.n)(hl:d'.mt=jl (jl (jl (pkL0 d f g) x (pp d.n f 3)) (pp (d.n+1) g 3) (pp (d.n+1) g 0)) (pp d.n f 2) (d.m x)):Out d d' f g 0 0:=by
 have hw:=(Valid.iff.1 hd).1
 have hw':=(Valid.iff.1 hv).1
 obtain ⟨ln,l0,l1,lo⟩:=K.l0 hd
 have hmx:=hw.lt x hx
 have hnex:=hw.ne x hx
 have e:∀z,z<4 * (d.n+2)→d'.m z=if z=(d.m x) then (pp d.n f 2) else if z=(pp d.n f 2) then (d.m x) else if z=(pp (d.n+1) g 0) then (pp (d.n+1) g 3) else if z=(pp (d.n+1) g 3) then (pp (d.n+1) g 0) else if z=(pp d.n f 3) then x else if z=x then (pp d.n f 3) else (pkL0 d f g).getD z 0:=fun z hz=>by
  rw [←dg_m hw' (by rw [K.n];exact hz),hl,jl_at (by simp only [jl_len,ln,pp];omega) (by simp only [jl_len,ln,pp];omega),jl_at (by simp only [jl_len,ln,pp];omega) (by simp only [jl_len,ln,pp];omega),jl_at (by simp only [jl_len,ln,pp];omega) (by simp only [jl_len,ln,pp];omega)]
 have m0:d'.m (pp d.n f 0)=(pp (d.n+1) g 2):=by rw [e _ (by unfold pp;omega),if_neg (by unfold pp;omega),if_neg (by unfold pp;omega),if_neg (by unfold pp;omega),if_neg (by unfold pp;omega),if_neg (by unfold pp;omega),if_neg (by unfold pp;omega),l0]
 have m1:d'.m (pp d.n f 1)=(pp (d.n+1) g 1):=by rw [e _ (by unfold pp;omega),if_neg (by unfold pp;omega),if_neg (by unfold pp;omega),if_neg (by unfold pp;omega),if_neg (by unfold pp;omega),if_neg (by unfold pp;omega),if_neg (by unfold pp;omega),l1]
 have v2:d'.m (pp d.n f 2)=(d.m x):=by rw [e _ (by unfold pp;omega),if_neg (by unfold pp;omega),if_pos rfl]
 have v0:d'.m (pp (d.n+1) g 0)=(pp (d.n+1) g 3):=by rw [e _ (by unfold pp;omega),if_neg (by unfold pp;omega),if_neg (by unfold pp;omega),if_pos rfl]
 have v3:d'.m (pp d.n f 3)=x:=by rw [e _ (by unfold pp;omega),if_neg (by unfold pp;omega),if_neg (by unfold pp;omega),if_neg (by unfold pp;omega),if_neg (by unfold pp;omega),if_pos rfl]
 have w3:d'.m (pp (d.n+1) g 3)=(pp (d.n+1) g 0):=by rw [e _ (by unfold pp;omega),if_neg (by unfold pp;omega),if_neg (by unfold pp;omega),if_neg (by unfold pp;omega),if_pos rfl]
 have old:∀z,z<4 * d.n→z≠x→z≠d.m x→d'.m z=d.m z:=fun z hz z1 z2=>by rw [e z (by omega),if_neg z2,if_neg (by unfold pp;omega),if_neg (by unfold pp;omega),if_neg (by unfold pp;omega),if_neg (by unfold pp;omega),if_neg z1,lo z hz]
 exact (show In d d' f g from ⟨K.n,hv,m0,m1⟩).self1 hw hx v2 v0 v3 old
theorem Pd.out_self2 (hd:Valid d)(K:Pd d d' f g fx fy)(hv:Valid d'){x:Nat}(hx:x<4 * d.n)(hl:d'.mt=jl (jl (jl (pkL0 d f g) x (pp (d.n+1) g 0)) (pp d.n f 2) (pp d.n f 3)) (pp (d.n+1) g 3) (d.m x)):Out d d' f g 0 0:=by
 have hw:=(Valid.iff.1 hd).1
 have hw':=(Valid.iff.1 hv).1
 obtain ⟨ln,l0,l1,lo⟩:=K.l0 hd
 have hmx:=hw.lt x hx
 have hnex:=hw.ne x hx
 have e:∀z,z<4 * (d.n+2)→d'.m z=if z=(d.m x) then (pp (d.n+1) g 3) else if z=(pp (d.n+1) g 3) then (d.m x) else if z=(pp d.n f 3) then (pp d.n f 2) else if z=(pp d.n f 2) then (pp d.n f 3) else if z=(pp (d.n+1) g 0) then x else if z=x then (pp (d.n+1) g 0) else (pkL0 d f g).getD z 0:=fun z hz=>by
  rw [←dg_m hw' (by rw [K.n];exact hz),hl,jl_at (by simp only [jl_len,ln,pp];omega) (by simp only [jl_len,ln,pp];omega),jl_at (by simp only [jl_len,ln,pp];omega) (by simp only [jl_len,ln,pp];omega),jl_at (by simp only [jl_len,ln,pp];omega) (by simp only [jl_len,ln,pp];omega)]
 have m0:d'.m (pp d.n f 0)=(pp (d.n+1) g 2):=by rw [e _ (by unfold pp;omega),if_neg (by unfold pp;omega),if_neg (by unfold pp;omega),if_neg (by unfold pp;omega),if_neg (by unfold pp;omega),if_neg (by unfold pp;omega),if_neg (by unfold pp;omega),l0]
 have m1:d'.m (pp d.n f 1)=(pp (d.n+1) g 1):=by rw [e _ (by unfold pp;omega),if_neg (by unfold pp;omega),if_neg (by unfold pp;omega),if_neg (by unfold pp;omega),if_neg (by unfold pp;omega),if_neg (by unfold pp;omega),if_neg (by unfold pp;omega),l1]
 have v2:d'.m (pp d.n f 2)=(pp d.n f 3):=by rw [e _ (by unfold pp;omega),if_neg (by unfold pp;omega),if_neg (by unfold pp;omega),if_neg (by unfold pp;omega),if_pos rfl]
 have v0:d'.m (pp (d.n+1) g 0)=x:=by rw [e _ (by unfold pp;omega),if_neg (by unfold pp;omega),if_neg (by unfold pp;omega),if_neg (by unfold pp;omega),if_neg (by unfold pp;omega),if_pos rfl]
 have v3:d'.m (pp d.n f 3)=(pp d.n f 2):=by rw [e _ (by unfold pp;omega),if_neg (by unfold pp;omega),if_neg (by unfold pp;omega),if_pos rfl]
 have w3:d'.m (pp (d.n+1) g 3)=(d.m x):=by rw [e _ (by unfold pp;omega),if_neg (by unfold pp;omega),if_pos rfl]
 have old:∀z,z<4 * d.n→z≠x→z≠d.m x→d'.m z=d.m z:=fun z hz z1 z2=>by rw [e z (by omega),if_neg z2,if_neg (by unfold pp;omega),if_neg (by unfold pp;omega),if_neg (by unfold pp;omega),if_neg (by unfold pp;omega),if_neg z1,lo z hz]
 exact (show In d d' f g from ⟨K.n,hv,m0,m1⟩).self2 hw hx v2 v0 w3 old
end
end Go.Proofs.YtdgliimmnnhhjaaGreatDoor.Pl
end
