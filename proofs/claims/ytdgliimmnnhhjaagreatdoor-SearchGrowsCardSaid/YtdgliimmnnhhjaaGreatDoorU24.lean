/-
  The texts Xc.
-/
import Derived.Test.YtdgliimmnnhhjaaGreatDoorU15
import Derived.Test.YtdgliimmnnhhjaaGreatDoorU21
set_option linter.unusedVariables false
set_option linter.unusedSimpArgs false
section
namespace Go.Proofs.YtdgliimmnnhhjaaGreatDoor
open Go Go.RowKit
attribute [local go_sem ↓] Go.wp_at_zero Go.wp_at_succ
structure Ln where
 p0:Nat
 p1:Nat
 p2:Nat
 p3:Nat
 q0:Nat
 q1:Nat
 q2:Nat
 q3:Nat
def Ln.cells (l:Ln):List Value:=[.int .i64 (l.p0:Int),.int .i64 (l.p1:Int),.int .i64 (l.p2:Int),.int .i64 (l.p3:Int),.int .i64 (l.q0:Int),.int .i64 (l.q1:Int),.int .i64 (l.q2:Int),.int .i64 (l.q3:Int)]
def lensOf (d:Pl.Dg)(h:Nat):Ln:=⟨h,d.m (Pl.nx d h),Pl.tn h 2,Pl.tn (d.m (Pl.nx d h)) 2,Pl.tn (d.m h) 2,Pl.nx d h,d.m h,Pl.tn (Pl.nx d h) 2⟩
theorem lensOf_v (d:Pl.Dg)(h:Nat):lensV d h = .agg (lensOf d h).cells.toArray:=rfl
def pusX (d:Pl.Dg)(l:Ln)(x y:Nat):Int :=
 if d.m l.q3=l.q0 then (if d.m l.p2=l.p3 then lpv d l.p3 else oldv d x y l.p3)
 else if d.m l.p2=l.p3 then oldv d x y l.q0 else if d.m l.p3=l.q3 then lpv d l.p3 else oldv d x y l.p3
def pusY (d:Pl.Dg)(l:Ln)(x y:Nat):Int :=
 if d.m l.q3=l.q0 then (if d.m l.p2=l.p3 then lpv d l.p3 else oldv d x y l.p3)
 else if d.m l.p2=l.p3 then oldv d x y l.q0 else if d.m l.q0=l.p2 then lpv d l.q0 else oldv d x y l.q0
def pusS (d:Pl.Dg)(l:Ln):Int:=if d.m l.q3=l.q0 then 1 else if d.m l.p2=l.p3 then -1 else 0
def pusI (d:Pl.Dg)(l:Ln)(x y:Nat):Mv:=⟨3,pusX d l x y,pusY d l x y,pusS d l,decide (l.q1 % 2=1)⟩
structure PV (w:World) (gi:Nat) (dv lv mv iv:List Value) (W:World):Prop where
 d:Row W w.heap.size 24 dv
 l:Row W (w.heap.size+1) 128 lv
 m:Row W (w.heap.size+1+1) 43 mv
 r:∃us,Row W (w.heap.size+1+1+1) 43 us∧us.length=5
 i:Row W gi 43 iv
 bel:Below w.heap.size w W
 lo:w.heap.size+1+1+1<gi
section
variable {w W W':World} {gi:Nat} {dv lv mv iv:List Value}
theorem PV.drew (h:PV w gi dv lv mv iv W):PV w gi dv lv mv iv W.drew:=⟨h.d,h.l,h.m,h.r,h.i,h.bel.drew,h.lo⟩
theorem PV.drewN (h:PV w gi dv lv mv iv W)(n:Nat):PV w gi dv lv mv iv (W.drewN n):=⟨h.d,h.l,h.m,h.r,h.i,below_drewN h.bel n,h.lo⟩
theorem PV.below (h:PV w gi dv lv mv iv W)(hb:Below W.heap.size W W'):PV w gi dv lv mv iv W' :=
 let ⟨us,r2,l2⟩:=h.r
 ⟨h.d.below hb,h.l.below hb,h.m.below hb,⟨us,r2.below hb,l2⟩,h.i.below hb,h.bel.trans (hb.mono h.bel.size),h.lo⟩
theorem PV.set (h:PV w gi dv lv mv iv W)(o:Nat)(v:Value):PV w gi dv lv mv (iv.set o v) (W.setCell ⟨gi,o,none⟩ v) :=
 have a:=h.lo
 let ⟨us,r2,l2⟩:=h.r
 ⟨h.d.other (by show _≠gi;omega) v,h.l.other (by show _≠gi;omega) v,h.m.other (by show _≠gi;omega) v,⟨us,r2.other (by show _≠gi;omega) v,l2⟩,h.i.set o v,h.bel.setCell (by show _≤gi;omega) v,h.lo⟩
end
def PW (w:World)(gi:Nat)(dv lv mv:List Value)(a s e:Value)(W:World):Prop:=∃b c,PV w gi dv lv mv [a,b,c,s,e] W
section
variable {w W W':World} {gi:Nat} {dv lv mv:List Value} {a s e:Value}
theorem PW.drew (h:PW w gi dv lv mv a s e W):PW w gi dv lv mv a s e W.drew:=let ⟨b,c,h⟩:=h;⟨b,c,h.drew⟩
theorem PW.below (h:PW w gi dv lv mv a s e W)(hb:Below W.heap.size W W'):PW w gi dv lv mv a s e W':=let ⟨b,c,h⟩:=h;⟨b,c,h.below hb⟩
theorem PW.set1 (h:PW w gi dv lv mv a s e W)(v:Value):PW w gi dv lv mv a s e (W.setCell ⟨gi,1,none⟩ v):=let ⟨_,c,h⟩:=h;⟨v,c,h.set 1 v⟩
theorem PW.set2 (h:PW w gi dv lv mv a s e W)(v:Value):PW w gi dv lv mv a s e (W.setCell ⟨gi,2,none⟩ v):=let ⟨b,_,h⟩:=h;⟨b,v,h.set 2 v⟩
theorem PW.fin (h:PW w gi dv lv mv a s e W)(v u:Value):PV w gi dv lv mv [a,v,u,s,e] ((W.setCell ⟨gi,1,none⟩ v).setCell ⟨gi,2,none⟩ u):=let ⟨_,_,h⟩:=h;(h.set 1 v).set 2 u
theorem PW.all {l0 l1 l2 l3 l4 l5 l6 l7:Value}(h:PW w gi dv [l0,l1,l2,l3,l4,l5,l6,l7] mv a s e W):W.cell? ⟨w.heap.size+1,3,none⟩=some l3∧W.cell? ⟨w.heap.size+1,4,none⟩=some l4∧W.cell? ⟨gi,1,none⟩=some (cv W ⟨gi,1,none⟩)∧W.cell? ⟨gi,2,none⟩=some (cv W ⟨gi,2,none⟩)∧(∀o,W.frozen? ⟨gi,o,none⟩=false)∧PW w gi dv [l0,l1,l2,l3,l4,l5,l6,l7] mv a s e W:=by
 have h':=h
 obtain ⟨b,c,h⟩:=h
 obtain ⟨_,_,_,e3,e4,_⟩:=box8 h.l
 obtain ⟨_,f1,f2,_,_,ff⟩:=box5 h.i
 exact ⟨e3,e4,cv_some f1,cv_some f2,ff,h'⟩
end
theorem row5 {W:World}{g:Nat}{t:TypeId}{vs:List Value}(h:Row W g t vs)(l:vs.length=5)(y0 y1 y2 y3 y4:Value) :
 Row (((((W.setCell ⟨g,0,none⟩ y0).setCell ⟨g,1,none⟩ y1).setCell ⟨g,2,none⟩ y2).setCell ⟨g,3,none⟩ y3).setCell ⟨g,4,none⟩ y4) g t [y0,y1,y2,y3,y4]:=by
 obtain ⟨a,b,c,d,e,rfl⟩:∃a b c d e,vs=[a,b,c,d,e]:=by
  match vs,l with
  | [a,b,c,d,e],_=>exact ⟨a,b,c,d,e,rfl⟩
 exact ((((h.set 0 y0).set 1 y1).set 2 y2).set 3 y3).set 4 y4
def PusPost (d:Pl.Dg)(l:Ln)(x y:Nat)(w:World)(e:Ending)(w':World):Prop:=e = .returned (pusI d l x y).v∧Below w.heap.size w w'
set_option maxRecDepth 100000 in
set_option maxHeartbeats 4000000 in
theorem pushed_any (d:Pl.Dg)(hd:Pl.Wf d)(A B:Option Addr)(cp cq m x y:Nat)(k sg:Int)(ov:Bool)(l:Ln)(w:World)(hm:m=4 * d.n)(hg:DgAt w A B d)(hxy:x<y)
 (h2:l.p2<4 * d.n) (h3:l.p3<4 * d.n) (k0:l.q0<4 * d.n) (k3:l.q3<4 * d.n) (k1:l.q1<4 * d.n) :
 Calls Tryz.prog 84 #[.agg #[.slice A d.n cp,.slice B m cq,.int .i64 d.lp],.agg l.cells.toArray,.agg #[.int .i64 k,.int .i64 (x:Int),.int .i64 (y:Int),.int .i64 sg,.bool ov]] w (PusPost d l x y w):=by
 obtain ⟨p0,p1,p2,p3,q0,q1,q2,q3⟩:=l
 simp only at h2 h3 k0 k3 k1
 have hn:=hd.few
 have HM:=hide hm
 have HG:=hide hg
 have hm2:m≤256:=by omega
 obtain ⟨g0,hg0⟩:∃g0,g0=w.heap.size+1+1+1+1:=⟨_,rfl⟩
 have V0:=hide (show PV w g0 [.slice A d.n cp,.slice B m cq,.int .i64 (d.lp:Int)] [.int .i64 (p0:Int),.int .i64 (p1:Int),.int .i64 (p2:Int),.int .i64 (p3:Int),.int .i64 (q0:Int),.int .i64 (q1:Int),.int .i64 (q2:Int),.int .i64 (q3:Int)] [.int .i64 k,.int .i64 (x:Int),.int .i64 (y:Int),.int .i64 sg,.bool ov] [.int .i64 3,.int .i64 0,.int .i64 0,.int .i64 0,.bool ((q1:Int) % 2 == 1)]
  (((((w.alloc (.cells #[.slice A d.n cp,.slice B m cq,.int .i64 (d.lp:Int)] 24)).alloc (.cells #[.int .i64 (p0:Int),.int .i64 (p1:Int),.int .i64 (p2:Int),.int .i64 (p3:Int),.int .i64 (q0:Int),.int .i64 (q1:Int),.int .i64 (q2:Int),.int .i64 (q3:Int)] 128)).alloc (.cells #[.int .i64 k,.int .i64 (x:Int),.int .i64 (y:Int),.int .i64 sg,.bool ov] 43)).alloc (.cells #[.int .i64 0,.int .i64 0,.int .i64 0,.int .i64 0,.bool false] 43)).alloc (.cells #[.int .i64 3,.int .i64 0,.int .i64 0,.int .i64 0,.bool ((q1:Int) % 2 == 1)] 43)) by
  refine ⟨((((row_at (vs:=[_,_,_]) rfl).alloc _).alloc _).alloc _).alloc _,(((row_at (vs:=[_,_,_,_,_,_,_,_]) (by simp)).alloc _).alloc _).alloc _,((row_at (vs:=[_,_,_,_,_]) (by simp)).alloc _).alloc _,⟨[_,_,_,_,_],(row_at (vs:=[_,_,_,_,_]) (by simp)).alloc _,rfl⟩,row_at (vs:=[_,_,_,_,_]) (by rw [hg0];simp),?_,by omega⟩
  exact (((((Below.refl _ _).alloc (Nat.le_refl _) _).alloc (by simp) _).alloc (by simp;omega) _).alloc (by simp;omega) _).alloc (by simp;omega) _)
 clear hm hg
 unfold Ln.cells
 go_enter Tryz.func84,Tryz.ntmps84
 go_wp2_with fail
 rw [←hg0]
 clear hg0
 obtain ⟨bb,hbb⟩:∃bb:Bool,bb=((q1:Int) % 2 == 1):=⟨_,rfl⟩
 rw [←hbb] at V0 ⊢
 have HBB:=hide (show bb=decide (q1 % 2=1) by rw [hbb,Bool.eq_iff_iff];simp;omega)
 clear hbb
 obtain ⟨mb,mo,rfl,_⟩:=mate_at (HG.out).m k3
 obtain ⟨W0,hW0⟩:∃W0:World,W0=(((((w.alloc (.cells #[.slice A d.n cp,.slice (some ⟨mb,mo,none⟩) m cq,.int .i64 (d.lp:Int)] 24)).alloc (.cells #[.int .i64 (p0:Int),.int .i64 (p1:Int),.int .i64 (p2:Int),.int .i64 (p3:Int),.int .i64 (q0:Int),.int .i64 (q1:Int),.int .i64 (q2:Int),.int .i64 (q3:Int)] 128)).alloc (.cells #[.int .i64 k,.int .i64 (x:Int),.int .i64 (y:Int),.int .i64 sg,.bool ov] 43)).alloc (.cells #[.int .i64 0,.int .i64 0,.int .i64 0,.int .i64 0,.bool false] 43)).alloc (.cells #[.int .i64 3,.int .i64 0,.int .i64 0,.int .i64 0,.bool bb] 43)):=⟨_,rfl⟩
 rw [←hW0] at V0 ⊢
 clear hW0
 have c3:∀W,Below w.heap.size w W→W.cell? ⟨mb,mo+q3,none⟩=some (.int .i64 (d.m q3:Nat)):=fun W hb=>by
  obtain ⟨b',o',e,c⟩:=mate_at (HG.out.keep hb).m k3
  injection e with e;injection e with e1 e2;subst e1;subst e2;exact c
 have c2:∀W,Below w.heap.size w W→W.cell? ⟨mb,mo+p2,none⟩=some (.int .i64 (d.m p2:Nat)):=fun W hb=>by
  obtain ⟨b',o',e,c⟩:=mate_at (HG.out.keep hb).m h2
  injection e with e;injection e with e1 e2;subst e1;subst e2;exact c
 have c5:∀W,Below w.heap.size w W→W.cell? ⟨mb,mo+p3,none⟩=some (.int .i64 (d.m p3:Nat)):=fun W hb=>by
  obtain ⟨b',o',e,c⟩:=mate_at (HG.out.keep hb).m h3
  injection e with e;injection e with e1 e2;subst e1;subst e2;exact c
 have c0:∀W,Below w.heap.size w W→W.cell? ⟨mb,mo+q0,none⟩=some (.int .i64 (d.m q0:Nat)):=fun W hb=>by
  obtain ⟨b',o',e,c⟩:=mate_at (HG.out.keep hb).m k0
  injection e with e;injection e with e1 e2;subst e1;subst e2;exact c
 have EX:=hide (show pusI d ⟨p0,p1,p2,p3,q0,q1,q2,q3⟩ x y=⟨3,(if d.m q3=q0 then (if d.m p2=p3 then lpv d p3 else oldv d x y p3) else if d.m p2=p3 then oldv d x y q0 else if d.m p3=q3 then lpv d p3 else oldv d x y p3),
  (if d.m q3=q0 then (if d.m p2=p3 then lpv d p3 else oldv d x y p3) else if d.m p2=p3 then oldv d x y q0 else if d.m q0=p2 then lpv d q0 else oldv d x y q0),(if d.m q3=q0 then 1 else if d.m p2=p3 then -1 else 0),bb⟩ by rw [HBB.out];rfl)
 obtain ⟨a3,ha3⟩:∃a,a=d.m q3:=⟨_,rfl⟩
 obtain ⟨a2,ha2⟩:∃a,a=d.m p2:=⟨_,rfl⟩
 obtain ⟨a5,ha5⟩:∃a,a=d.m p3:=⟨_,rfl⟩
 obtain ⟨a0,ha0⟩:∃a,a=d.m q0:=⟨_,rfl⟩
 rw [←ha3] at c3 EX
 rw [←ha2] at c2 EX
 rw [←ha5] at c5 EX
 rw [←ha0] at c0 EX
 clear ha3 ha2 ha5 ha0
 have C3:=hide c3
 have C2:=hide c2
 have C5:=hide c5
 have C0:=hide c0
 clear c3 c2 c5 c0
 obtain ⟨XX,hXX⟩:∃X,X=(if a3=q0 then (if a2=p3 then lpv d p3 else oldv d x y p3) else if a2=p3 then oldv d x y q0 else if a5=q3 then lpv d p3 else oldv d x y p3):=⟨_,rfl⟩
 obtain ⟨YY,hYY⟩:∃Y,Y=(if a3=q0 then (if a2=p3 then lpv d p3 else oldv d x y p3) else if a2=p3 then oldv d x y q0 else if a0=p2 then lpv d q0 else oldv d x y q0):=⟨_,rfl⟩
 obtain ⟨SS,hSS⟩:∃S:Int,S=(if a3=q0 then 1 else if a2=p3 then -1 else 0):=⟨_,rfl⟩
 rw [←hXX,←hYY,←hSS] at EX
 have HXX:=hide hXX
 have HYY:=hide hYY
 have HSS:=hide hSS
 clear hXX hYY hSS
 have i3:(0:Int)≤(p3:Int)∧(p3:Int)<(m:Int):=by have:=HM.out;omega
 have i2:(0:Int)≤(p2:Int)∧(p2:Int)<(m:Int):=by have:=HM.out;omega
 have j0:(0:Int)≤(q0:Int)∧(q0:Int)<(m:Int):=by have:=HM.out;omega
 have j3:(0:Int)≤(q3:Int)∧(q3:Int)<(m:Int):=by have:=HM.out;omega
 obtain ⟨i31,i32⟩:=i3
 obtain ⟨i21,i22⟩:=i2
 obtain ⟨j01,j02⟩:=j0
 obtain ⟨j31,j32⟩:=j3
 obtain ⟨d0,d1,d2,d3⟩:=box3 V0.out.d
 obtain ⟨l0,l1,l2,l3,l4,l5,l6,l7,l8⟩:=box8 V0.out.l
 have c3:=C3.out W0 V0.out.bel
 have c2:=C2.out W0 V0.out.bel
 go_quiet (fail)
 have V1:=hide (V0.out.drewN nq)
 obtain ⟨W1,hW1⟩:∃W1:World,W1=W0.drewN nq:=⟨_,rfl⟩
 rw [←hW1] at V1 ⊢
 clear hW1 d0 d1 d2 d3 l0 l1 l2 l3 l4 l5 l6 l7 l8 c3 c2
 obtain ⟨d0,d1,d2,d3⟩:=box3 V1.out.d
 obtain ⟨l0,l1,l2,l3,l4,l5,l6,l7,l8⟩:=box8 V1.out.l
 have c3:=C3.out W1 V1.out.bel
 have c2:=C2.out W1 V1.out.bel
 go_wp2_with fail
 go_quiet (fail)
 have V2:=hide (V1.out.drewN nq)
 obtain ⟨W2,hW2⟩:∃W2:World,W2=W1.drewN nq:=⟨_,rfl⟩
 rw [←hW2] at V2 ⊢
 clear hW2 d0 d1 d2 d3 l0 l1 l2 l3 l4 l5 l6 l7 l8 c3 c2
 go_upto_block 0 with fail
 go_cut [10,11] (fun _ _ wx=>PV w g0 [.slice A d.n cp,.slice (some ⟨mb,mo,none⟩) m cq,.int .i64 (d.lp:Int)] [.int .i64 (p0:Int),.int .i64 (p1:Int),.int .i64 (p2:Int),.int .i64 (p3:Int),.int .i64 (q0:Int),.int .i64 (q1:Int),.int .i64 (q2:Int),.int .i64 (q3:Int)] [.int .i64 k,.int .i64 (x:Int),.int .i64 (y:Int),.int .i64 sg,.bool ov] [.int .i64 3,.int .i64 XX,.int .i64 YY,.int .i64 SS,.bool bb] wx)
 case first =>
  by_cases e1:a3=q0
  ·have t1:((a3:Int) == (q0:Int))=true:=by rw [beq_iff_eq];omega
   by_cases e2:a2=p3
   ·have t2:((a2:Int) == (p3:Int))=true:=by rw [beq_iff_eq];omega
    have F:=hide (show XX=lpv d p3∧YY=lpv d p3∧SS=1 from ⟨by rw [HXX.out,if_pos e1,if_pos e2],by rw [HYY.out,if_pos e1,if_pos e2],by rw [HSS.out,if_pos e1]⟩)
    clear e1 e2
    obtain ⟨l0,l1,l2,l3,l4,l5,l6,l7,l8⟩:=box8 V2.out.l
    go_wp2_with fail
    refine (loopF_any d hd A (some ⟨mb,mo,none⟩) cp cq m w.heap.size p3 W2 V2.out.d (HG.out.keep V2.out.bel) h3).mono ?_
    rintro e W3 ⟨rfl,hb3⟩
    have V3:=hide (V2.out.below hb3)
    clear hb3 l0 l1 l2 l3 l4 l5 l6 l7 l8
    obtain ⟨v0,v1,v2,v3,v4,v5⟩:=box5 V3.out.i
    go_wp2_with fail
    go_meet
    rw [F.out.1,F.out.2.1,F.out.2.2]
    exact ((V3.out.set 1 _).set 3 _).set 2 _
   ·have t2:((a2:Int) == (p3:Int))=false:=by rw [beq_eq_false_iff_ne];omega
    have F:=hide (show XX=oldv d x y p3∧YY=oldv d x y p3∧SS=1 from ⟨by rw [HXX.out,if_pos e1,if_neg e2],by rw [HYY.out,if_pos e1,if_neg e2],by rw [HSS.out,if_pos e1]⟩)
    clear e1 e2
    obtain ⟨l0,l1,l2,l3,l4,l5,l6,l7,l8⟩:=box8 V2.out.l
    go_wp2_with fail
    refine (oldF_any d hd A (some ⟨mb,mo,none⟩) cp cq m w.heap.size (w.heap.size+1+1) x y p3 k sg ov W2 HM.out V2.out.d V2.out.m (HG.out.keep V2.out.bel) h3 hxy).mono ?_
    rintro e W3 ⟨rfl,hb3⟩
    have V3:=hide (V2.out.below hb3)
    clear hb3 l0 l1 l2 l3 l4 l5 l6 l7 l8
    obtain ⟨v0,v1,v2,v3,v4,v5⟩:=box5 V3.out.i
    go_wp2_with fail
    go_meet
    rw [F.out.1,F.out.2.1,F.out.2.2]
    exact ((V3.out.set 1 _).set 3 _).set 2 _
  ·have t1:((a3:Int) == (q0:Int))=false:=by rw [beq_eq_false_iff_ne];omega
   by_cases e2:a2=p3
   ·have t2:((a2:Int) == (p3:Int))=true:=by rw [beq_iff_eq];omega
    have F:=hide (show XX=oldv d x y q0∧YY=oldv d x y q0∧SS = -1 from ⟨by rw [HXX.out,if_neg e1,if_pos e2],by rw [HYY.out,if_neg e1,if_pos e2],by rw [HSS.out,if_neg e1,if_pos e2]⟩)
    clear e1 e2
    obtain ⟨l0,l1,l2,l3,l4,l5,l6,l7,l8⟩:=box8 V2.out.l
    go_wp2_with fail
    refine (oldF_any d hd A (some ⟨mb,mo,none⟩) cp cq m w.heap.size (w.heap.size+1+1) x y q0 k sg ov W2 HM.out V2.out.d V2.out.m (HG.out.keep V2.out.bel) k0 hxy).mono ?_
    rintro e W3 ⟨rfl,hb3⟩
    have V3:=hide (V2.out.below hb3)
    clear hb3 l0 l1 l2 l3 l4 l5 l6 l7 l8
    obtain ⟨v0,v1,v2,v3,v4,v5⟩:=box5 V3.out.i
    go_wp2_with fail
    go_meet
    rw [F.out.1,F.out.2.1,F.out.2.2]
    exact ((V3.out.set 1 _).set 3 _).set 2 _
   ·have t2:((a2:Int) == (p3:Int))=false:=by rw [beq_eq_false_iff_ne];omega
    have F:=hide (show XX=(if a5=q3 then lpv d p3 else oldv d x y p3)∧YY=(if a0=p2 then lpv d q0 else oldv d x y q0)∧SS=0 from ⟨by rw [HXX.out,if_neg e1,if_neg e2],by rw [HYY.out,if_neg e1,if_neg e2],by rw [HSS.out,if_neg e1,if_neg e2]⟩)
    clear e1 e2
    go_upto_region 6 with fail
    go_cut [] (fun wx=>PV w g0 [.slice A d.n cp,.slice (some ⟨mb,mo,none⟩) m cq,.int .i64 (d.lp:Int)] [.int .i64 (p0:Int),.int .i64 (p1:Int),.int .i64 (p2:Int),.int .i64 (p3:Int),.int .i64 (q0:Int),.int .i64 (q1:Int),.int .i64 (q2:Int),.int .i64 (q3:Int)] [.int .i64 k,.int .i64 (x:Int),.int .i64 (y:Int),.int .i64 sg,.bool ov] [.int .i64 3,.int .i64 (oldv d x y p3),.int .i64 (oldv d x y q0),.int .i64 0,.bool bb] wx)
    case first =>
     have HPW:=hide (show PW w g0 [.slice A d.n cp,.slice (some ⟨mb,mo,none⟩) m cq,.int .i64 (d.lp:Int)] [.int .i64 (p0:Int),.int .i64 (p1:Int),.int .i64 (p2:Int),.int .i64 (p3:Int),.int .i64 (q0:Int),.int .i64 (q1:Int),.int .i64 (q2:Int),.int .i64 (q3:Int)] [.int .i64 k,.int .i64 (x:Int),.int .i64 (y:Int),.int .i64 sg,.bool ov] (.int .i64 3) (.int .i64 0) (.bool bb) W2 from ⟨_,_,V2.out⟩)
     go_region_held3 (fun w'=>w'.cell? ⟨w.heap.size+1,3,none⟩=some (.int .i64 (p3:Int))∧w'.cell? ⟨w.heap.size+1,4,none⟩=some (.int .i64 (q0:Int))∧w'.cell? ⟨g0,1,none⟩=some (cv w' ⟨g0,1,none⟩)∧w'.cell? ⟨g0,2,none⟩=some (cv w' ⟨g0,2,none⟩)∧(∀o,w'.frozen? ⟨g0,o,none⟩=false)∧PW w g0 [.slice A d.n cp,.slice (some ⟨mb,mo,none⟩) m cq,.int .i64 (d.lp:Int)] [.int .i64 (p0:Int),.int .i64 (p1:Int),.int .i64 (p2:Int),.int .i64 (p3:Int),.int .i64 (q0:Int),.int .i64 (q1:Int),.int .i64 (q2:Int),.int .i64 (q3:Int)] [.int .i64 k,.int .i64 (x:Int),.int .i64 (y:Int),.int .i64 sg,.bool ov] (.int .i64 3) (.int .i64 0) (.bool bb) w')
      ((go_split_ands;refine PW.all ?_;(repeat (first | (with_reducible assumption) | (with_reducible exact HPW.out) | (with_reducible refine PW.set1 ?_ _) | (with_reducible refine PW.set2 ?_ _) | (with_reducible refine PW.drew ?_) | (with_reducible refine PW.below ?_ hb5) | (with_reducible refine PW.below ?_ hb4)))))
      (first
        | (have hx5 := hb4
           clear hx5
           go_at_call 108
           refine Calls.mono (oldF_any d hd A (some ⟨mb,mo,none⟩) cp cq m w.heap.size (w.heap.size+1+1) x y q0 k sg ov _ HM.out ?_ ?_ ?_ k0 hxy) ?_
           ·exact (V2.out.drew.below hb4).d
           ·exact (V2.out.drew.below hb4).m
           ·exact HG.out.keep (V2.out.drew.below hb4).bel
           rintro e w5 ⟨rfl,hb5⟩)
        | (go_at_call 108
           refine Calls.mono (oldF_any d hd A (some ⟨mb,mo,none⟩) cp cq m w.heap.size (w.heap.size+1+1) x y p3 k sg ov _ HM.out ?_ ?_ ?_ h3 hxy) ?_
           ·exact V2.out.drew.d
           ·exact V2.out.drew.m
           ·exact HG.out.keep V2.out.drew.bel
           rintro e w4 ⟨rfl,hb4⟩))
     all_goals
      have HP5:=hide (show PW w g0 [.slice A d.n cp,.slice (some ⟨mb,mo,none⟩) m cq,.int .i64 (d.lp:Int)] [.int .i64 (p0:Int),.int .i64 (p1:Int),.int .i64 (p2:Int),.int .i64 (p3:Int),.int .i64 (q0:Int),.int .i64 (q1:Int),.int .i64 (q2:Int),.int .i64 (q3:Int)] [.int .i64 k,.int .i64 (x:Int),.int .i64 (y:Int),.int .i64 sg,.bool ov] (.int .i64 3) (.int .i64 0) (.bool bb) w5 from (HPW.out.drew.below hb4).below hb5)
      go_wp2_with fail
      go_meet
      exact HP5.out.fin _ _
    case rest =>
     have VC:=hide hcut
     clear hcut V0 V1 V2
     obtain ⟨W3,hW⟩:∃W:World,W=wc:=⟨_,rfl⟩
     rw [←hW] at VC ⊢
     clear hW
     have V3:=VC
     clear VC
     obtain ⟨d0,d1,d2,d3⟩:=box3 V3.out.d
     obtain ⟨l0,l1,l2,l3,l4,l5,l6,l7,l8⟩:=box8 V3.out.l
     have c5:=C5.out W3 V3.out.bel
     go_upto_region 7 with fail
     go_quiet (fail)
     have V4:=hide (V3.out.drewN nq)
     obtain ⟨W4,hW⟩:∃W:World,W=W3.drewN nq:=⟨_,rfl⟩
     rw [←hW] at V4 ⊢
     clear hW d0 d1 d2 d3 l0 l1 l2 l3 l4 l5 l6 l7 l8 c5
     by_cases e5:a5=q3
     ·have t5:((a5:Int) == (q3:Int))=true:=by rw [beq_iff_eq];omega
      have G5:=hide (show (if a5=q3 then lpv d p3 else oldv d x y p3)=lpv d p3 from if_pos e5)
      clear e5
      obtain ⟨l0,l1,l2,l3,l4,l5,l6,l7,l8⟩:=box8 V4.out.l
      go_wp2_with fail
      refine (loopF_any d hd A (some ⟨mb,mo,none⟩) cp cq m w.heap.size p3 W4 V4.out.d (HG.out.keep V4.out.bel) h3).mono ?_
      rintro e W5 ⟨rfl,hb5⟩
      have V5:=hide (V4.out.below hb5)
      clear hb5 l0 l1 l2 l3 l4 l5 l6 l7 l8
      obtain ⟨v0,v1,v2,v3,v4,v5⟩:=box5 V5.out.i
      go_upto_region 9 with fail
      obtain ⟨W6,hW⟩:∃W:World,W=W5.setCell ⟨g0,1,none⟩ (.int .i64 (lpv d p3)):=⟨_,rfl⟩
      have V6:=hide (V5.out.set 1 (.int .i64 (lpv d p3)))
      rw [←hW] at V6 ⊢
      clear hW v0 v1 v2 v3 v4 v5
      obtain ⟨d0,d1,d2,d3⟩:=box3 V6.out.d
      obtain ⟨l0,l1,l2,l3,l4,l5,l6,l7,l8⟩:=box8 V6.out.l
      have c0:=C0.out W6 V6.out.bel
      go_upto_region 9 with fail
      go_quiet (fail)
      have V7:=hide (V6.out.drewN nq)
      obtain ⟨W7,hW⟩:∃W:World,W=W6.drewN nq:=⟨_,rfl⟩
      rw [←hW] at V7 ⊢
      clear hW d0 d1 d2 d3 l0 l1 l2 l3 l4 l5 l6 l7 l8 c0
      by_cases e0:a0=p2
      ·have t0:((a0:Int) == (p2:Int))=true:=by rw [beq_iff_eq];omega
       have G0:=hide (show (if a0=p2 then lpv d q0 else oldv d x y q0)=lpv d q0 from if_pos e0)
       clear e0
       obtain ⟨l0,l1,l2,l3,l4,l5,l6,l7,l8⟩:=box8 V7.out.l
       go_wp2_with fail
       refine (loopF_any d hd A (some ⟨mb,mo,none⟩) cp cq m w.heap.size q0 W7 V7.out.d (HG.out.keep V7.out.bel) k0).mono ?_
       rintro e W8 ⟨rfl,hb8⟩
       have V8:=hide (V7.out.below hb8)
       clear hb8 l0 l1 l2 l3 l4 l5 l6 l7 l8
       obtain ⟨v0,v1,v2,v3,v4,v5⟩:=box5 V8.out.i
       go_wp2_with fail
       go_meet
       rw [F.out.1,F.out.2.1,F.out.2.2,G5.out,G0.out]
       exact V8.out.set 2 _
      ·have t0:((a0:Int) == (p2:Int))=false:=by rw [beq_eq_false_iff_ne];omega
       have G0:=hide (show (if a0=p2 then lpv d q0 else oldv d x y q0)=oldv d x y q0 from if_neg e0)
       clear e0
       go_wp2_with fail
       go_meet
       rw [F.out.1,F.out.2.1,F.out.2.2,G5.out,G0.out]
       exact V7.out
     ·have t5:((a5:Int) == (q3:Int))=false:=by rw [beq_eq_false_iff_ne];omega
      have G5:=hide (show (if a5=q3 then lpv d p3 else oldv d x y p3)=oldv d x y p3 from if_neg e5)
      clear e5
      obtain ⟨d0,d1,d2,d3⟩:=box3 V4.out.d
      obtain ⟨l0,l1,l2,l3,l4,l5,l6,l7,l8⟩:=box8 V4.out.l
      have c0:=C0.out W4 V4.out.bel
      go_upto_region 9 with fail
      go_quiet (fail)
      have V5:=hide (V4.out.drewN nq)
      obtain ⟨W5,hW⟩:∃W:World,W=W4.drewN nq:=⟨_,rfl⟩
      rw [←hW] at V5 ⊢
      clear hW d0 d1 d2 d3 l0 l1 l2 l3 l4 l5 l6 l7 l8 c0
      by_cases e0:a0=p2
      ·have t0:((a0:Int) == (p2:Int))=true:=by rw [beq_iff_eq];omega
       have G0:=hide (show (if a0=p2 then lpv d q0 else oldv d x y q0)=lpv d q0 from if_pos e0)
       clear e0
       obtain ⟨l0,l1,l2,l3,l4,l5,l6,l7,l8⟩:=box8 V5.out.l
       go_wp2_with fail
       refine (loopF_any d hd A (some ⟨mb,mo,none⟩) cp cq m w.heap.size q0 W5 V5.out.d (HG.out.keep V5.out.bel) k0).mono ?_
       rintro e W6 ⟨rfl,hb6⟩
       have V6:=hide (V5.out.below hb6)
       clear hb6 l0 l1 l2 l3 l4 l5 l6 l7 l8
       obtain ⟨v0,v1,v2,v3,v4,v5⟩:=box5 V6.out.i
       go_wp2_with fail
       go_meet
       rw [F.out.1,F.out.2.1,F.out.2.2,G5.out,G0.out]
       exact V6.out.set 2 _
      ·have t0:((a0:Int) == (p2:Int))=false:=by rw [beq_eq_false_iff_ne];omega
       have G0:=hide (show (if a0=p2 then lpv d q0 else oldv d x y q0)=oldv d x y q0 from if_neg e0)
       clear e0
       go_wp2_with fail
       go_meet
       rw [F.out.1,F.out.2.1,F.out.2.2,G5.out,G0.out]
       exact V5.out
 case rest =>
  have V3:=hide hcut
  clear hcut V0 V1 V2
  obtain ⟨v0,v1,v2,v3,v4,v5⟩:=box5 V3.out.i
  obtain ⟨us,r2,l2⟩:=V3.out.r
  obtain ⟨b0,b1,b2,b3,b4,b5⟩:wc.cell? ⟨w.heap.size+1+1+1,0,none⟩=some (cv wc ⟨w.heap.size+1+1+1,0,none⟩)∧wc.cell? ⟨w.heap.size+1+1+1,1,none⟩=some (cv wc ⟨w.heap.size+1+1+1,1,none⟩)∧wc.cell? ⟨w.heap.size+1+1+1,2,none⟩=some (cv wc ⟨w.heap.size+1+1+1,2,none⟩)∧wc.cell? ⟨w.heap.size+1+1+1,3,none⟩=some (cv wc ⟨w.heap.size+1+1+1,3,none⟩)∧wc.cell? ⟨w.heap.size+1+1+1,4,none⟩=some (cv wc ⟨w.heap.size+1+1+1,4,none⟩)∧(∀o,wc.frozen? ⟨w.heap.size+1+1+1,o,none⟩=false):=⟨cv_some (r2.cell (i:=0) (by omega)),cv_some (r2.cell (i:=1) (by omega)),cv_some (r2.cell (i:=2) (by omega)),cv_some (r2.cell (i:=3) (by omega)),cv_some (r2.cell (i:=4) (by omega)),r2.free⟩
  go_wp2
  refine bodyPost_ret (v := .agg #[.int .i64 3,.int .i64 XX,.int .i64 YY,.int .i64 SS,.bool bb]) ?_ rfl ?_
  ·obtain ⟨f0,f1,f2,f3,f4,_⟩:=box5 (row5 r2 l2 (.int .i64 3) (.int .i64 XX) (.int .i64 YY) (.int .i64 SS) (.bool bb))
   clear b0 b1 b2 b3 b4 b5 v0 v1 v2 v3 v4 v5
   simp [results,Tryz.results84,go_sem,f0,f1,f2,f3,f4]
  ·refine ⟨?_,((((V3.out.bel.setCell (by show _≤w.heap.size+1+1+1;omega) _).setCell (by show _≤w.heap.size+1+1+1;omega) _).setCell (by show _≤w.heap.size+1+1+1;omega) _).setCell (by show _≤w.heap.size+1+1+1;omega) _).setCell (by show _≤w.heap.size+1+1+1;omega) _⟩
   rw [EX.out]
   rfl
end Go.Proofs.YtdgliimmnnhhjaaGreatDoor
end
