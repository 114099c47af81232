/-
 The texts Xc, Wy, Re, Rl, Rf, Rza.
-/
import Derived.Test.YtobbepmlmbbamaaE03
import Derived.Deep.CutBlock
set_option linter.unusedVariables false
set_option linter.unusedSimpArgs false
section
namespace Go.Proofs.Ytobbepmlmbbamaa
open Go Go.RowKit
attribute [local go_sem ↓] Go.wp_at_zero Go.wp_at_succ
structure Ln where
 p0:Nat
 p1:Nat
 p2:Nat
 p3:Nat
 q0:Nat
 q1:Nat
 q2:Nat
 q3:Nat
def Ln.cells (l:Ln):List Value := [.int .i64 (l.p0:Int),.int .i64 (l.p1:Int),.int .i64 (l.p2:Int),.int .i64 (l.p3:Int),.int .i64 (l.q0:Int),.int .i64 (l.q1:Int),.int .i64 (l.q2:Int),.int .i64 (l.q3:Int)]
def lensOf (d:Pl.Dg) (h:Nat):Ln := ⟨h,d.m (Pl.nx d h),Pl.tn h 2,Pl.tn (d.m (Pl.nx d h)) 2,Pl.tn (d.m h) 2,Pl.nx d h,d.m h,Pl.tn (Pl.nx d h) 2⟩
theorem lensOf_v (d:Pl.Dg) (h:Nat):lensV d h = .agg (lensOf d h).cells.toArray := rfl
def pusX (d:Pl.Dg) (l:Ln) (x y:Nat):Int :=
 if d.m l.q3 = l.q0 then (if d.m l.p2 = l.p3 then lpv d l.p3 else oldv d x y l.p3)
 else if d.m l.p2 = l.p3 then oldv d x y l.q0 else if d.m l.p3 = l.q3 then lpv d l.p3 else oldv d x y l.p3
def pusY (d:Pl.Dg) (l:Ln) (x y:Nat):Int :=
 if d.m l.q3 = l.q0 then (if d.m l.p2 = l.p3 then lpv d l.p3 else oldv d x y l.p3)
 else if d.m l.p2 = l.p3 then oldv d x y l.q0 else if d.m l.q0 = l.p2 then lpv d l.q0 else oldv d x y l.q0
def pusS (d:Pl.Dg) (l:Ln):Int := if d.m l.q3 = l.q0 then 1 else if d.m l.p2 = l.p3 then -1 else 0
def pusI (d:Pl.Dg) (l:Ln) (x y:Nat):Mv := ⟨3,pusX d l x y,pusY d l x y,pusS d l,decide (l.q1 % 2 = 1)⟩
structure PV (w:World) (gi:Nat) (dv lv mv iv:List Value) (W:World):Prop where
 d:Row W w.heap.size 24 dv
 l:Row W (w.heap.size + 1) 93 lv
 m:Row W (w.heap.size + 1 + 1) 28 mv
 r:∃ us,Row W (w.heap.size + 1 + 1 + 1) 28 us ∧ us.length = 5
 i:Row W gi 28 iv
 bel:Below w.heap.size w W
 lo:w.heap.size + 1 + 1 + 1 < gi
section
variable {w W W':World} {gi:Nat} {dv lv mv iv:List Value}
theorem PV.drew (h:PV w gi dv lv mv iv W):PV w gi dv lv mv iv W.drew := ⟨h.d,h.l,h.m,h.r,h.i,h.bel.drew,h.lo⟩
theorem PV.drewN (h:PV w gi dv lv mv iv W) (n:Nat):PV w gi dv lv mv iv (W.drewN n) := ⟨h.d,h.l,h.m,h.r,h.i,below_drewN h.bel n,h.lo⟩
theorem PV.below (h:PV w gi dv lv mv iv W) (hb:Below W.heap.size W W'):PV w gi dv lv mv iv W' :=
 let ⟨us,r2,l2⟩:=h.r
 ⟨h.d.below hb,h.l.below hb,h.m.below hb,⟨us,r2.below hb,l2⟩,h.i.below hb,h.bel.trans (hb.mono h.bel.size),h.lo⟩
theorem PV.set (h:PV w gi dv lv mv iv W) (o:Nat) (v:Value):PV w gi dv lv mv (iv.set o v) (W.setCell ⟨gi,o,none⟩ v) :=
 have a:=h.lo
 let ⟨us,r2,l2⟩:=h.r
 ⟨h.d.other (by show _ ≠ gi; omega) v,h.l.other (by show _ ≠ gi; omega) v,h.m.other (by show _ ≠ gi; omega) v,⟨us,r2.other (by show _ ≠ gi; omega) v,l2⟩,h.i.set o v,h.bel.setCell (by show _ ≤ gi; omega) v,h.lo⟩
end
def PW (w:World) (gi:Nat) (dv lv mv:List Value) (a s e:Value) (W:World):Prop := ∃ b c,PV w gi dv lv mv [a,b,c,s,e] W
section
variable {w W W':World} {gi:Nat} {dv lv mv:List Value} {a s e:Value}
theorem PW.drew (h:PW w gi dv lv mv a s e W):PW w gi dv lv mv a s e W.drew := let ⟨b,c,h⟩:=h; ⟨b,c,h.drew⟩
theorem PW.below (h:PW w gi dv lv mv a s e W) (hb:Below W.heap.size W W'):PW w gi dv lv mv a s e W' := let ⟨b,c,h⟩:=h; ⟨b,c,h.below hb⟩
theorem PW.set1 (h:PW w gi dv lv mv a s e W) (v:Value):PW w gi dv lv mv a s e (W.setCell ⟨gi,1,none⟩ v) := let ⟨_,c,h⟩:=h; ⟨v,c,h.set 1 v⟩
theorem PW.set2 (h:PW w gi dv lv mv a s e W) (v:Value):PW w gi dv lv mv a s e (W.setCell ⟨gi,2,none⟩ v) := let ⟨b,_,h⟩:=h; ⟨b,v,h.set 2 v⟩
theorem PW.fin (h:PW w gi dv lv mv a s e W) (v u:Value):PV w gi dv lv mv [a,v,u,s,e] ((W.setCell ⟨gi,1,none⟩ v).setCell ⟨gi,2,none⟩ u) := let ⟨_,_,h⟩:=h; (h.set 1 v).set 2 u
theorem PW.all {l0 l1 l2 l3 l4 l5 l6 l7:Value} (h:PW w gi dv [l0,l1,l2,l3,l4,l5,l6,l7] mv a s e W):W.cell? ⟨w.heap.size + 1,3,none⟩ = some l3 ∧ W.cell? ⟨w.heap.size + 1,4,none⟩ = some l4 ∧ W.cell? ⟨gi,1,none⟩ = some (cv W ⟨gi,1,none⟩) ∧ W.cell? ⟨gi,2,none⟩ = some (cv W ⟨gi,2,none⟩) ∧ (∀ o,W.frozen? ⟨gi,o,none⟩ = false) ∧ PW w gi dv [l0,l1,l2,l3,l4,l5,l6,l7] mv a s e W := by
 have h':=h
 obtain ⟨b,c,h⟩:=h
 obtain ⟨_,_,_,e3,e4,_⟩:=box8 h.l
 obtain ⟨_,f1,f2,_,_,ff⟩:=box5 h.i
 exact ⟨e3,e4,cv_some f1,cv_some f2,ff,h'⟩
end
theorem row5 {W:World} {g:Nat} {t:TypeId} {vs:List Value} (h:Row W g t vs) (l:vs.length = 5) (y0 y1 y2 y3 y4:Value) :
 Row (((((W.setCell ⟨g,0,none⟩ y0).setCell ⟨g,1,none⟩ y1).setCell ⟨g,2,none⟩ y2).setCell ⟨g,3,none⟩ y3).setCell ⟨g,4,none⟩ y4) g t [y0,y1,y2,y3,y4] := by
 obtain ⟨a,b,c,d,e,rfl⟩:∃ a b c d e,vs = [a,b,c,d,e] := by
  match vs,l with
  | [a,b,c,d,e],_ => exact ⟨a,b,c,d,e,rfl⟩
 exact ((((h.set 0 y0).set 1 y1).set 2 y2).set 3 y3).set 4 y4
def PusPost (d:Pl.Dg) (l:Ln) (x y:Nat) (w:World) (e:Ending) (w':World):Prop := e = .returned (pusI d l x y).v ∧ Below w.heap.size w w'
set_option maxRecDepth 100000 in
set_option maxHeartbeats 4000000 in
theorem pushed_any (d:Pl.Dg) (hd:Pl.Wf d) (A B:Option Addr) (cp cq m x y:Nat) (k sg:Int) (ov:Bool) (l:Ln) (w:World) (hm:m = 4 * d.n) (hg:DgAt w A B d) (hxy:x < y)
 (h2:l.p2 < 4 * d.n) (h3:l.p3 < 4 * d.n) (k0:l.q0 < 4 * d.n) (k3:l.q3 < 4 * d.n) (k1:l.q1 < 4 * d.n) :
 Calls Try.prog 93 #[.agg #[.slice A d.n cp,.slice B m cq,.int .i64 d.lp],.agg l.cells.toArray,.agg #[.int .i64 k,.int .i64 (x:Int),.int .i64 (y:Int),.int .i64 sg,.bool ov]] w (PusPost d l x y w) := by
 obtain ⟨p0,p1,p2,p3,q0,q1,q2,q3⟩:=l
 simp only at h2 h3 k0 k3 k1
 have hn:=hd.few
 have HM:=hide hm
 have HG:=hide hg
 have hm2:m ≤ 256:=by omega
 obtain ⟨g0,hg0⟩:∃ g0,g0 = w.heap.size + 1 + 1 + 1 + 1 := ⟨_,rfl⟩
 have V0:=hide (show PV w g0 [.slice A d.n cp,.slice B m cq,.int .i64 (d.lp:Int)] [.int .i64 (p0:Int),.int .i64 (p1:Int),.int .i64 (p2:Int),.int .i64 (p3:Int),.int .i64 (q0:Int),.int .i64 (q1:Int),.int .i64 (q2:Int),.int .i64 (q3:Int)] [.int .i64 k,.int .i64 (x:Int),.int .i64 (y:Int),.int .i64 sg,.bool ov] [.int .i64 3,.int .i64 0,.int .i64 0,.int .i64 0,.bool ((q1:Int) % 2 == 1)]
  (((((w.alloc (.cells #[.slice A d.n cp,.slice B m cq,.int .i64 (d.lp:Int)] 24)).alloc (.cells #[.int .i64 (p0:Int),.int .i64 (p1:Int),.int .i64 (p2:Int),.int .i64 (p3:Int),.int .i64 (q0:Int),.int .i64 (q1:Int),.int .i64 (q2:Int),.int .i64 (q3:Int)] 93)).alloc (.cells #[.int .i64 k,.int .i64 (x:Int),.int .i64 (y:Int),.int .i64 sg,.bool ov] 28)).alloc (.cells #[.int .i64 0,.int .i64 0,.int .i64 0,.int .i64 0,.bool false] 28)).alloc (.cells #[.int .i64 3,.int .i64 0,.int .i64 0,.int .i64 0,.bool ((q1:Int) % 2 == 1)] 28)) by
  refine ⟨((((row_at (vs := [_,_,_]) rfl).alloc _).alloc _).alloc _).alloc _,(((row_at (vs := [_,_,_,_,_,_,_,_]) (by simp)).alloc _).alloc _).alloc _,((row_at (vs := [_,_,_,_,_]) (by simp)).alloc _).alloc _,⟨[_,_,_,_,_],(row_at (vs := [_,_,_,_,_]) (by simp)).alloc _,rfl⟩,row_at (vs := [_,_,_,_,_]) (by rw [hg0]; simp),?_,by omega⟩
  exact (((((Below.refl _ _).alloc (Nat.le_refl _) _).alloc (by simp) _).alloc (by simp; omega) _).alloc (by simp; omega) _).alloc (by simp; omega) _)
 clear hm hg
 unfold Ln.cells
 go_enter Try.func93,Try.ntmps93
 go_wp2_with fail
 rw [← hg0]
 clear hg0
 obtain ⟨bb,hbb⟩:∃ bb:Bool,bb = ((q1:Int) % 2 == 1) := ⟨_,rfl⟩
 rw [← hbb] at V0 ⊢
 have HBB:=hide (show bb = decide (q1 % 2 = 1) by rw [hbb,Bool.eq_iff_iff]; simp; omega)
 clear hbb
 obtain ⟨mb,mo,rfl,_⟩:=mate_at (HG.out).m k3
 obtain ⟨W0,hW0⟩:∃ W0:World,W0 = (((((w.alloc (.cells #[.slice A d.n cp,.slice (some ⟨mb,mo,none⟩) m cq,.int .i64 (d.lp:Int)] 24)).alloc (.cells #[.int .i64 (p0:Int),.int .i64 (p1:Int),.int .i64 (p2:Int),.int .i64 (p3:Int),.int .i64 (q0:Int),.int .i64 (q1:Int),.int .i64 (q2:Int),.int .i64 (q3:Int)] 93)).alloc (.cells #[.int .i64 k,.int .i64 (x:Int),.int .i64 (y:Int),.int .i64 sg,.bool ov] 28)).alloc (.cells #[.int .i64 0,.int .i64 0,.int .i64 0,.int .i64 0,.bool false] 28)).alloc (.cells #[.int .i64 3,.int .i64 0,.int .i64 0,.int .i64 0,.bool bb] 28)) := ⟨_,rfl⟩
 rw [← hW0] at V0 ⊢
 clear hW0
 have c3:∀ W,Below w.heap.size w W → W.cell? ⟨mb,mo + q3,none⟩ = some (.int .i64 (d.m q3:Nat)):=fun W hb => by
  obtain ⟨b',o',e,c⟩:=mate_at (HG.out.keep hb).m k3
  injection e with e; injection e with e1 e2; subst e1; subst e2; exact c
 have c2:∀ W,Below w.heap.size w W → W.cell? ⟨mb,mo + p2,none⟩ = some (.int .i64 (d.m p2:Nat)):=fun W hb => by
  obtain ⟨b',o',e,c⟩:=mate_at (HG.out.keep hb).m h2
  injection e with e; injection e with e1 e2; subst e1; subst e2; exact c
 have c5:∀ W,Below w.heap.size w W → W.cell? ⟨mb,mo + p3,none⟩ = some (.int .i64 (d.m p3:Nat)):=fun W hb => by
  obtain ⟨b',o',e,c⟩:=mate_at (HG.out.keep hb).m h3
  injection e with e; injection e with e1 e2; subst e1; subst e2; exact c
 have c0:∀ W,Below w.heap.size w W → W.cell? ⟨mb,mo + q0,none⟩ = some (.int .i64 (d.m q0:Nat)):=fun W hb => by
  obtain ⟨b',o',e,c⟩:=mate_at (HG.out.keep hb).m k0
  injection e with e; injection e with e1 e2; subst e1; subst e2; exact c
 have EX:=hide (show pusI d ⟨p0,p1,p2,p3,q0,q1,q2,q3⟩ x y = ⟨3,(if d.m q3 = q0 then (if d.m p2 = p3 then lpv d p3 else oldv d x y p3) else if d.m p2 = p3 then oldv d x y q0 else if d.m p3 = q3 then lpv d p3 else oldv d x y p3),
  (if d.m q3 = q0 then (if d.m p2 = p3 then lpv d p3 else oldv d x y p3) else if d.m p2 = p3 then oldv d x y q0 else if d.m q0 = p2 then lpv d q0 else oldv d x y q0),(if d.m q3 = q0 then 1 else if d.m p2 = p3 then -1 else 0),bb⟩ by rw [HBB.out]; rfl)
 obtain ⟨a3,ha3⟩:∃ a,a = d.m q3 := ⟨_,rfl⟩
 obtain ⟨a2,ha2⟩:∃ a,a = d.m p2 := ⟨_,rfl⟩
 obtain ⟨a5,ha5⟩:∃ a,a = d.m p3 := ⟨_,rfl⟩
 obtain ⟨a0,ha0⟩:∃ a,a = d.m q0 := ⟨_,rfl⟩
 rw [← ha3] at c3 EX
 rw [← ha2] at c2 EX
 rw [← ha5] at c5 EX
 rw [← ha0] at c0 EX
 clear ha3 ha2 ha5 ha0
 have C3:=hide c3
 have C2:=hide c2
 have C5:=hide c5
 have C0:=hide c0
 clear c3 c2 c5 c0
 obtain ⟨XX,hXX⟩:∃ X,X = (if a3 = q0 then (if a2 = p3 then lpv d p3 else oldv d x y p3) else if a2 = p3 then oldv d x y q0 else if a5 = q3 then lpv d p3 else oldv d x y p3) := ⟨_,rfl⟩
 obtain ⟨YY,hYY⟩:∃ Y,Y = (if a3 = q0 then (if a2 = p3 then lpv d p3 else oldv d x y p3) else if a2 = p3 then oldv d x y q0 else if a0 = p2 then lpv d q0 else oldv d x y q0) := ⟨_,rfl⟩
 obtain ⟨SS,hSS⟩:∃ S:Int,S = (if a3 = q0 then 1 else if a2 = p3 then -1 else 0) := ⟨_,rfl⟩
 rw [← hXX,← hYY,← hSS] at EX
 have HXX:=hide hXX
 have HYY:=hide hYY
 have HSS:=hide hSS
 clear hXX hYY hSS
 have i3:(0:Int) ≤ (p3:Int) ∧ (p3:Int) < (m:Int):=by have := HM.out; omega
 have i2:(0:Int) ≤ (p2:Int) ∧ (p2:Int) < (m:Int):=by have := HM.out; omega
 have j0:(0:Int) ≤ (q0:Int) ∧ (q0:Int) < (m:Int):=by have := HM.out; omega
 have j3:(0:Int) ≤ (q3:Int) ∧ (q3:Int) < (m:Int):=by have := HM.out; omega
 obtain ⟨i31,i32⟩:=i3
 obtain ⟨i21,i22⟩:=i2
 obtain ⟨j01,j02⟩:=j0
 obtain ⟨j31,j32⟩:=j3
 obtain ⟨d0,d1,d2,d3⟩:=box3 V0.out.d
 obtain ⟨l0,l1,l2,l3,l4,l5,l6,l7,l8⟩:=box8 V0.out.l
 have c3:=C3.out W0 V0.out.bel
 have c2:=C2.out W0 V0.out.bel
 go_quiet (fail)
 have V1:=hide (V0.out.drewN nq)
 obtain ⟨W1,hW1⟩:∃ W1:World,W1 = W0.drewN nq := ⟨_,rfl⟩
 rw [← hW1] at V1 ⊢
 clear hW1 d0 d1 d2 d3 l0 l1 l2 l3 l4 l5 l6 l7 l8 c3 c2
 obtain ⟨d0,d1,d2,d3⟩:=box3 V1.out.d
 obtain ⟨l0,l1,l2,l3,l4,l5,l6,l7,l8⟩:=box8 V1.out.l
 have c3:=C3.out W1 V1.out.bel
 have c2:=C2.out W1 V1.out.bel
 go_wp2_with fail
 go_quiet (fail)
 have V2:=hide (V1.out.drewN nq)
 obtain ⟨W2,hW2⟩:∃ W2:World,W2 = W1.drewN nq := ⟨_,rfl⟩
 rw [← hW2] at V2 ⊢
 clear hW2 d0 d1 d2 d3 l0 l1 l2 l3 l4 l5 l6 l7 l8 c3 c2
 go_upto_block 0 with fail
 go_cut [10,11] (fun _ _ wx => PV w g0 [.slice A d.n cp,.slice (some ⟨mb,mo,none⟩) m cq,.int .i64 (d.lp:Int)] [.int .i64 (p0:Int),.int .i64 (p1:Int),.int .i64 (p2:Int),.int .i64 (p3:Int),.int .i64 (q0:Int),.int .i64 (q1:Int),.int .i64 (q2:Int),.int .i64 (q3:Int)] [.int .i64 k,.int .i64 (x:Int),.int .i64 (y:Int),.int .i64 sg,.bool ov] [.int .i64 3,.int .i64 XX,.int .i64 YY,.int .i64 SS,.bool bb] wx)
 case first =>
  by_cases e1:a3 = q0
  ·have t1:((a3:Int) == (q0:Int)) = true:=by rw [beq_iff_eq]; omega
   by_cases e2:a2 = p3
   ·have t2:((a2:Int) == (p3:Int)) = true:=by rw [beq_iff_eq]; omega
    have F:=hide (show XX = lpv d p3 ∧ YY = lpv d p3 ∧ SS = 1 from ⟨by rw [HXX.out,if_pos e1,if_pos e2],by rw [HYY.out,if_pos e1,if_pos e2],by rw [HSS.out,if_pos e1]⟩)
    clear e1 e2
    obtain ⟨l0,l1,l2,l3,l4,l5,l6,l7,l8⟩:=box8 V2.out.l
    go_wp2_with fail
    refine (loopF_any d hd A (some ⟨mb,mo,none⟩) cp cq m w.heap.size p3 W2 V2.out.d (HG.out.keep V2.out.bel) h3).mono ?_
    rintro e W3 ⟨rfl,hb3⟩
    have V3:=hide (V2.out.below hb3)
    clear hb3 l0 l1 l2 l3 l4 l5 l6 l7 l8
    obtain ⟨v0,v1,v2,v3,v4,v5⟩:=box5 V3.out.i
    go_wp2_with fail
    go_meet
    rw [F.out.1,F.out.2.1,F.out.2.2]
    exact ((V3.out.set 1 _).set 3 _).set 2 _
   ·have t2:((a2:Int) == (p3:Int)) = false:=by rw [beq_eq_false_iff_ne]; omega
    have F:=hide (show XX = oldv d x y p3 ∧ YY = oldv d x y p3 ∧ SS = 1 from ⟨by rw [HXX.out,if_pos e1,if_neg e2],by rw [HYY.out,if_pos e1,if_neg e2],by rw [HSS.out,if_pos e1]⟩)
    clear e1 e2
    obtain ⟨l0,l1,l2,l3,l4,l5,l6,l7,l8⟩:=box8 V2.out.l
    go_wp2_with fail
    refine (oldF_any d hd A (some ⟨mb,mo,none⟩) cp cq m w.heap.size (w.heap.size + 1 + 1) x y p3 k sg ov W2 HM.out V2.out.d V2.out.m (HG.out.keep V2.out.bel) h3 hxy).mono ?_
    rintro e W3 ⟨rfl,hb3⟩
    have V3:=hide (V2.out.below hb3)
    clear hb3 l0 l1 l2 l3 l4 l5 l6 l7 l8
    obtain ⟨v0,v1,v2,v3,v4,v5⟩:=box5 V3.out.i
    go_wp2_with fail
    go_meet
    rw [F.out.1,F.out.2.1,F.out.2.2]
    exact ((V3.out.set 1 _).set 3 _).set 2 _
  ·have t1:((a3:Int) == (q0:Int)) = false:=by rw [beq_eq_false_iff_ne]; omega
   by_cases e2:a2 = p3
   ·have t2:((a2:Int) == (p3:Int)) = true:=by rw [beq_iff_eq]; omega
    have F:=hide (show XX = oldv d x y q0 ∧ YY = oldv d x y q0 ∧ SS = -1 from ⟨by rw [HXX.out,if_neg e1,if_pos e2],by rw [HYY.out,if_neg e1,if_pos e2],by rw [HSS.out,if_neg e1,if_pos e2]⟩)
    clear e1 e2
    obtain ⟨l0,l1,l2,l3,l4,l5,l6,l7,l8⟩:=box8 V2.out.l
    go_wp2_with fail
    refine (oldF_any d hd A (some ⟨mb,mo,none⟩) cp cq m w.heap.size (w.heap.size + 1 + 1) x y q0 k sg ov W2 HM.out V2.out.d V2.out.m (HG.out.keep V2.out.bel) k0 hxy).mono ?_
    rintro e W3 ⟨rfl,hb3⟩
    have V3:=hide (V2.out.below hb3)
    clear hb3 l0 l1 l2 l3 l4 l5 l6 l7 l8
    obtain ⟨v0,v1,v2,v3,v4,v5⟩:=box5 V3.out.i
    go_wp2_with fail
    go_meet
    rw [F.out.1,F.out.2.1,F.out.2.2]
    exact ((V3.out.set 1 _).set 3 _).set 2 _
   ·have t2:((a2:Int) == (p3:Int)) = false:=by rw [beq_eq_false_iff_ne]; omega
    have F:=hide (show XX = (if a5 = q3 then lpv d p3 else oldv d x y p3) ∧ YY = (if a0 = p2 then lpv d q0 else oldv d x y q0) ∧ SS = 0 from ⟨by rw [HXX.out,if_neg e1,if_neg e2],by rw [HYY.out,if_neg e1,if_neg e2],by rw [HSS.out,if_neg e1,if_neg e2]⟩)
    clear e1 e2
    go_upto_region 6 with fail
    go_cut [] (fun wx => PV w g0 [.slice A d.n cp,.slice (some ⟨mb,mo,none⟩) m cq,.int .i64 (d.lp:Int)] [.int .i64 (p0:Int),.int .i64 (p1:Int),.int .i64 (p2:Int),.int .i64 (p3:Int),.int .i64 (q0:Int),.int .i64 (q1:Int),.int .i64 (q2:Int),.int .i64 (q3:Int)] [.int .i64 k,.int .i64 (x:Int),.int .i64 (y:Int),.int .i64 sg,.bool ov] [.int .i64 3,.int .i64 (oldv d x y p3),.int .i64 (oldv d x y q0),.int .i64 0,.bool bb] wx)
    case first =>
     have HPW:=hide (show PW w g0 [.slice A d.n cp,.slice (some ⟨mb,mo,none⟩) m cq,.int .i64 (d.lp:Int)] [.int .i64 (p0:Int),.int .i64 (p1:Int),.int .i64 (p2:Int),.int .i64 (p3:Int),.int .i64 (q0:Int),.int .i64 (q1:Int),.int .i64 (q2:Int),.int .i64 (q3:Int)] [.int .i64 k,.int .i64 (x:Int),.int .i64 (y:Int),.int .i64 sg,.bool ov] (.int .i64 3) (.int .i64 0) (.bool bb) W2 from ⟨_,_,V2.out⟩)
     go_region_held3 (fun w' => w'.cell? ⟨w.heap.size + 1,3,none⟩ = some (.int .i64 (p3:Int)) ∧ w'.cell? ⟨w.heap.size + 1,4,none⟩ = some (.int .i64 (q0:Int)) ∧ w'.cell? ⟨g0,1,none⟩ = some (cv w' ⟨g0,1,none⟩) ∧ w'.cell? ⟨g0,2,none⟩ = some (cv w' ⟨g0,2,none⟩) ∧ (∀ o,w'.frozen? ⟨g0,o,none⟩ = false) ∧ PW w g0 [.slice A d.n cp,.slice (some ⟨mb,mo,none⟩) m cq,.int .i64 (d.lp:Int)] [.int .i64 (p0:Int),.int .i64 (p1:Int),.int .i64 (p2:Int),.int .i64 (p3:Int),.int .i64 (q0:Int),.int .i64 (q1:Int),.int .i64 (q2:Int),.int .i64 (q3:Int)] [.int .i64 k,.int .i64 (x:Int),.int .i64 (y:Int),.int .i64 sg,.bool ov] (.int .i64 3) (.int .i64 0) (.bool bb) w')
      ((go_split_ands; refine PW.all ?_; (repeat (first | (with_reducible assumption) | (with_reducible exact HPW.out) | (with_reducible refine PW.set1 ?_ _) | (with_reducible refine PW.set2 ?_ _) | (with_reducible refine PW.drew ?_) | (with_reducible refine PW.below ?_ hb5) | (with_reducible refine PW.below ?_ hb4)))))
      (first
        | (have hx5 := hb4
           clear hx5
           go_at_call 128
           refine Calls.mono (oldF_any d hd A (some ⟨mb,mo,none⟩) cp cq m w.heap.size (w.heap.size + 1 + 1) x y q0 k sg ov _ HM.out ?_ ?_ ?_ k0 hxy) ?_
           ·exact (V2.out.drew.below hb4).d
           ·exact (V2.out.drew.below hb4).m
           ·exact HG.out.keep (V2.out.drew.below hb4).bel
           rintro e w5 ⟨rfl,hb5⟩)
        | (go_at_call 128
           refine Calls.mono (oldF_any d hd A (some ⟨mb,mo,none⟩) cp cq m w.heap.size (w.heap.size + 1 + 1) x y p3 k sg ov _ HM.out ?_ ?_ ?_ h3 hxy) ?_
           ·exact V2.out.drew.d
           ·exact V2.out.drew.m
           ·exact HG.out.keep V2.out.drew.bel
           rintro e w4 ⟨rfl,hb4⟩))
     all_goals
      have HP5:=hide (show PW w g0 [.slice A d.n cp,.slice (some ⟨mb,mo,none⟩) m cq,.int .i64 (d.lp:Int)] [.int .i64 (p0:Int),.int .i64 (p1:Int),.int .i64 (p2:Int),.int .i64 (p3:Int),.int .i64 (q0:Int),.int .i64 (q1:Int),.int .i64 (q2:Int),.int .i64 (q3:Int)] [.int .i64 k,.int .i64 (x:Int),.int .i64 (y:Int),.int .i64 sg,.bool ov] (.int .i64 3) (.int .i64 0) (.bool bb) w5 from (HPW.out.drew.below hb4).below hb5)
      go_wp2_with fail
      go_meet
      exact HP5.out.fin _ _
    case rest =>
     have VC:=hide hcut
     clear hcut V0 V1 V2
     obtain ⟨W3,hW⟩:∃ W:World,W = wc := ⟨_,rfl⟩
     rw [← hW] at VC ⊢
     clear hW
     have V3:=VC
     clear VC
     obtain ⟨d0,d1,d2,d3⟩:=box3 V3.out.d
     obtain ⟨l0,l1,l2,l3,l4,l5,l6,l7,l8⟩:=box8 V3.out.l
     have c5:=C5.out W3 V3.out.bel
     go_upto_region 7 with fail
     go_quiet (fail)
     have V4:=hide (V3.out.drewN nq)
     obtain ⟨W4,hW⟩:∃ W:World,W = W3.drewN nq := ⟨_,rfl⟩
     rw [← hW] at V4 ⊢
     clear hW d0 d1 d2 d3 l0 l1 l2 l3 l4 l5 l6 l7 l8 c5
     by_cases e5:a5 = q3
     ·have t5:((a5:Int) == (q3:Int)) = true:=by rw [beq_iff_eq]; omega
      have G5:=hide (show (if a5 = q3 then lpv d p3 else oldv d x y p3) = lpv d p3 from if_pos e5)
      clear e5
      obtain ⟨l0,l1,l2,l3,l4,l5,l6,l7,l8⟩:=box8 V4.out.l
      go_wp2_with fail
      refine (loopF_any d hd A (some ⟨mb,mo,none⟩) cp cq m w.heap.size p3 W4 V4.out.d (HG.out.keep V4.out.bel) h3).mono ?_
      rintro e W5 ⟨rfl,hb5⟩
      have V5:=hide (V4.out.below hb5)
      clear hb5 l0 l1 l2 l3 l4 l5 l6 l7 l8
      obtain ⟨v0,v1,v2,v3,v4,v5⟩:=box5 V5.out.i
      go_upto_region 9 with fail
      obtain ⟨W6,hW⟩:∃ W:World,W = W5.setCell ⟨g0,1,none⟩ (.int .i64 (lpv d p3)) := ⟨_,rfl⟩
      have V6:=hide (V5.out.set 1 (.int .i64 (lpv d p3)))
      rw [← hW] at V6 ⊢
      clear hW v0 v1 v2 v3 v4 v5
      obtain ⟨d0,d1,d2,d3⟩:=box3 V6.out.d
      obtain ⟨l0,l1,l2,l3,l4,l5,l6,l7,l8⟩:=box8 V6.out.l
      have c0:=C0.out W6 V6.out.bel
      go_upto_region 9 with fail
      go_quiet (fail)
      have V7:=hide (V6.out.drewN nq)
      obtain ⟨W7,hW⟩:∃ W:World,W = W6.drewN nq := ⟨_,rfl⟩
      rw [← hW] at V7 ⊢
      clear hW d0 d1 d2 d3 l0 l1 l2 l3 l4 l5 l6 l7 l8 c0
      by_cases e0:a0 = p2
      ·have t0:((a0:Int) == (p2:Int)) = true:=by rw [beq_iff_eq]; omega
       have G0:=hide (show (if a0 = p2 then lpv d q0 else oldv d x y q0) = lpv d q0 from if_pos e0)
       clear e0
       obtain ⟨l0,l1,l2,l3,l4,l5,l6,l7,l8⟩:=box8 V7.out.l
       go_wp2_with fail
       refine (loopF_any d hd A (some ⟨mb,mo,none⟩) cp cq m w.heap.size q0 W7 V7.out.d (HG.out.keep V7.out.bel) k0).mono ?_
       rintro e W8 ⟨rfl,hb8⟩
       have V8:=hide (V7.out.below hb8)
       clear hb8 l0 l1 l2 l3 l4 l5 l6 l7 l8
       obtain ⟨v0,v1,v2,v3,v4,v5⟩:=box5 V8.out.i
       go_wp2_with fail
       go_meet
       rw [F.out.1,F.out.2.1,F.out.2.2,G5.out,G0.out]
       exact V8.out.set 2 _
      ·have t0:((a0:Int) == (p2:Int)) = false:=by rw [beq_eq_false_iff_ne]; omega
       have G0:=hide (show (if a0 = p2 then lpv d q0 else oldv d x y q0) = oldv d x y q0 from if_neg e0)
       clear e0
       go_wp2_with fail
       go_meet
       rw [F.out.1,F.out.2.1,F.out.2.2,G5.out,G0.out]
       exact V7.out
     ·have t5:((a5:Int) == (q3:Int)) = false:=by rw [beq_eq_false_iff_ne]; omega
      have G5:=hide (show (if a5 = q3 then lpv d p3 else oldv d x y p3) = oldv d x y p3 from if_neg e5)
      clear e5
      obtain ⟨d0,d1,d2,d3⟩:=box3 V4.out.d
      obtain ⟨l0,l1,l2,l3,l4,l5,l6,l7,l8⟩:=box8 V4.out.l
      have c0:=C0.out W4 V4.out.bel
      go_upto_region 9 with fail
      go_quiet (fail)
      have V5:=hide (V4.out.drewN nq)
      obtain ⟨W5,hW⟩:∃ W:World,W = W4.drewN nq := ⟨_,rfl⟩
      rw [← hW] at V5 ⊢
      clear hW d0 d1 d2 d3 l0 l1 l2 l3 l4 l5 l6 l7 l8 c0
      by_cases e0:a0 = p2
      ·have t0:((a0:Int) == (p2:Int)) = true:=by rw [beq_iff_eq]; omega
       have G0:=hide (show (if a0 = p2 then lpv d q0 else oldv d x y q0) = lpv d q0 from if_pos e0)
       clear e0
       obtain ⟨l0,l1,l2,l3,l4,l5,l6,l7,l8⟩:=box8 V5.out.l
       go_wp2_with fail
       refine (loopF_any d hd A (some ⟨mb,mo,none⟩) cp cq m w.heap.size q0 W5 V5.out.d (HG.out.keep V5.out.bel) k0).mono ?_
       rintro e W6 ⟨rfl,hb6⟩
       have V6:=hide (V5.out.below hb6)
       clear hb6 l0 l1 l2 l3 l4 l5 l6 l7 l8
       obtain ⟨v0,v1,v2,v3,v4,v5⟩:=box5 V6.out.i
       go_wp2_with fail
       go_meet
       rw [F.out.1,F.out.2.1,F.out.2.2,G5.out,G0.out]
       exact V6.out.set 2 _
      ·have t0:((a0:Int) == (p2:Int)) = false:=by rw [beq_eq_false_iff_ne]; omega
       have G0:=hide (show (if a0 = p2 then lpv d q0 else oldv d x y q0) = oldv d x y q0 from if_neg e0)
       clear e0
       go_wp2_with fail
       go_meet
       rw [F.out.1,F.out.2.1,F.out.2.2,G5.out,G0.out]
       exact V5.out
 case rest =>
  have V3:=hide hcut
  clear hcut V0 V1 V2
  obtain ⟨v0,v1,v2,v3,v4,v5⟩:=box5 V3.out.i
  obtain ⟨us,r2,l2⟩:=V3.out.r
  obtain ⟨b0,b1,b2,b3,b4,b5⟩:wc.cell? ⟨w.heap.size + 1 + 1 + 1,0,none⟩ = some (cv wc ⟨w.heap.size + 1 + 1 + 1,0,none⟩) ∧ wc.cell? ⟨w.heap.size + 1 + 1 + 1,1,none⟩ = some (cv wc ⟨w.heap.size + 1 + 1 + 1,1,none⟩) ∧ wc.cell? ⟨w.heap.size + 1 + 1 + 1,2,none⟩ = some (cv wc ⟨w.heap.size + 1 + 1 + 1,2,none⟩) ∧ wc.cell? ⟨w.heap.size + 1 + 1 + 1,3,none⟩ = some (cv wc ⟨w.heap.size + 1 + 1 + 1,3,none⟩) ∧ wc.cell? ⟨w.heap.size + 1 + 1 + 1,4,none⟩ = some (cv wc ⟨w.heap.size + 1 + 1 + 1,4,none⟩) ∧ (∀ o,wc.frozen? ⟨w.heap.size + 1 + 1 + 1,o,none⟩ = false) := ⟨cv_some (r2.cell (i := 0) (by omega)),cv_some (r2.cell (i := 1) (by omega)),cv_some (r2.cell (i := 2) (by omega)),cv_some (r2.cell (i := 3) (by omega)),cv_some (r2.cell (i := 4) (by omega)),r2.free⟩
  go_wp2
  refine bodyPost_ret (v := .agg #[.int .i64 3,.int .i64 XX,.int .i64 YY,.int .i64 SS,.bool bb]) ?_ rfl ?_
  ·obtain ⟨f0,f1,f2,f3,f4,_⟩:=box5 (row5 r2 l2 (.int .i64 3) (.int .i64 XX) (.int .i64 YY) (.int .i64 SS) (.bool bb))
   clear b0 b1 b2 b3 b4 b5 v0 v1 v2 v3 v4 v5
   simp [results,Try.results93,go_sem,f0,f1,f2,f3,f4]
  ·refine ⟨?_,((((V3.out.bel.setCell (by show _ ≤ w.heap.size + 1 + 1 + 1; omega) _).setCell (by show _ ≤ w.heap.size + 1 + 1 + 1; omega) _).setCell (by show _ ≤ w.heap.size + 1 + 1 + 1; omega) _).setCell (by show _ ≤ w.heap.size + 1 + 1 + 1; omega) _).setCell (by show _ ≤ w.heap.size + 1 + 1 + 1; omega) _⟩
   rw [EX.out]
   rfl
end Go.Proofs.Ytobbepmlmbbamaa
end
section
namespace Go.Proofs.Ytobbepmlmbbamaa
open Go Go.RowKit
theorem pF_any (n u0 u1 gn gf t:Nat) (s:Int) (w:World) (hs:s = t) (ht:t < 4) (hn:n ≤ 64) (hu:u0 < 4) (h1:Row w gn 3 [.int .i64 (n:Int)]) (h2:Row w gf 86 [.int .i64 (u0:Int),.int .i64 (u1:Int)]) :
 Calls Try.prog 86 #[.int .i64 s,.pointer (some ⟨gn,0,none⟩),.pointer (some ⟨gf,0,none⟩)] w fun e w' => e = .returned (.int .i64 (plc n u0 t:Nat)) ∧ w' = w := by
 subst hs
 have c0:=h1.cell (i := 0) (by simp)
 obtain ⟨a0,a1,a2⟩:=box2 h2
 simp only [List.getElem_cons_zero] at c0
 go_enter Try.func86,Try.ntmps86
 go_wp2_with fail
 refine (place_any n u0 t _ (by omega) hu ht).mono ?_
 rintro e w1 ⟨rfl,rfl⟩
 go_wp2
 go_ret
 exact ⟨rfl,rfl⟩
theorem qF_any (n u0 u1 gn gf t:Nat) (s:Int) (w:World) (hs:s = t) (ht:t < 4) (hn:n ≤ 64) (hu:u1 < 4) (h1:Row w gn 3 [.int .i64 (n:Int)]) (h2:Row w gf 86 [.int .i64 (u0:Int),.int .i64 (u1:Int)]) :
 Calls Try.prog 88 #[.int .i64 s,.pointer (some ⟨gn,0,none⟩),.pointer (some ⟨gf,0,none⟩)] w fun e w' => e = .returned (.int .i64 (plc (n + 1) u1 t:Nat)) ∧ w' = w := by
 subst hs
 have c0:=h1.cell (i := 0) (by simp)
 obtain ⟨a0,a1,a2⟩:=box2 h2
 simp only [List.getElem_cons_zero] at c0
 have e1:((n + 1:Nat):Int).toNat = n + 1:=by omega
 go_enter Try.func88,Try.ntmps88
 clear e1
 go_wp2_with fail
 refine (place_i ((n:Int) + 1) (u1:Int) (t:Int) _ (by omega) (by omega) (by omega)).mono ?_
 rintro e w1 ⟨rfl,rfl⟩
 go_wp2
 go_ret
 exact ⟨rfl,rfl⟩
theorem row_far {W:World} {g t:Nat} {vs:List Value} {base:Nat} {v:Value} {n:Nat} {xs:List Value} (h:Row W g t vs) (ht:t ≠ 3) (ho:W.ownsRow base 3 1 v n xs):some g ≠ v.ownBlock := by
 intro e
 obtain ⟨cs,fr,h3⟩:=ownsRow_block ho g e.symm
 rw [h] at h3
 injection h3 with h3
 injection h3 with _ h4
 exact ht h4
def leadM (d:Pl.Dg) (mt:List Nat) (x:Int) (i o:Nat):List Nat := if x < 0 then jn mt i o else jn (jn mt x.toNat i) o (d.m x.toNat)
structure PK (w:World) (gd gn gr gf g1 c1 n1 g2 c2 n2 base n u0 u1:Nat) (s5 m5 dv ss:List Value) (lpr:Int) (mt:List Nat) (W:World):Prop where
 s:Row W w.heap.size 64 s5
 m:Row W (w.heap.size + 1) 28 m5
 rd:∃ vs,Row W (w.heap.size + 1 + 1) 24 vs ∧ vs.length = 3
 rm:∃ us,Row W (w.heap.size + 1 + 1 + 1) 28 us ∧ us.length = 5
 d:Row W gd 24 dv
 nb:Row W gn 3 [.int .i64 (n:Int)]
 f:Row W gf 86 [.int .i64 (u0:Int),.int .i64 (u1:Int)]
 r:Row W gr 24 [.slice (some ⟨g1,0,none⟩) n1 c1,.slice (some ⟨g2,0,none⟩) n2 c2,.int .i64 lpr]
 o1:W.ownsRow base 3 1 (.slice (some ⟨g1,0,none⟩) n1 c1) n1 ss
 o2:OwnN W base g2 n2 c2 mt
 ne:g1 ≠ g2
 bel:Below w.heap.size w W
 a1:w.heap.size + 1 + 1 + 1 < gd
 a2:w.heap.size + 1 + 1 + 1 < gn
 a3:w.heap.size + 1 + 1 + 1 < gr
 a5:gn < base
 a6:gr ≠ gd
section
variable {w:World} {gd gn gr gf g1 c1 n1 g2 c2 n2 base n u0 u1:Nat} {s5 m5 dv ss:List Value} {lpr:Int} {mt:List Nat} {W W2:World}
theorem PK.drew (h:PK w gd gn gr gf g1 c1 n1 g2 c2 n2 base n u0 u1 s5 m5 dv ss lpr mt W):PK w gd gn gr gf g1 c1 n1 g2 c2 n2 base n u0 u1 s5 m5 dv ss lpr mt W.drew :=
 ⟨h.s,h.m,h.rd,h.rm,h.d,h.nb,h.f,h.r,h.o1,h.o2,h.ne,h.bel.drew,h.a1,h.a2,h.a3,h.a5,h.a6⟩
theorem PK.cast (h:PK w gd gn gr gf g1 c1 n1 g2 c2 n2 base n u0 u1 s5 m5 dv ss lpr mt W) (e:W2 = W):PK w gd gn gr gf g1 c1 n1 g2 c2 n2 base n u0 u1 s5 m5 dv ss lpr mt W2 := e ▸ h
theorem PK.lob (h:PK w gd gn gr gf g1 c1 n1 g2 c2 n2 base n u0 u1 s5 m5 dv ss lpr mt W) (hn2:0 < n2):base ≤ g2 ∧ g2 < W.heap.size := by
 obtain ⟨g,e,h1,h2⟩:=owns_pos hn2 h.o2
 injection e with e
 injection e with e
 subst e
 exact ⟨h1,h2⟩
theorem PK.join {mt':List Nat} (h:PK w gd gn gr gf g1 c1 n1 g2 c2 n2 base n u0 u1 s5 m5 dv ss lpr mt W) (own:OwnN W2 base g2 n2 c2 mt') (gw:W.grownBy W2 (some g2)):PK w gd gn gr gf g1 c1 n1 g2 c2 n2 base n u0 u1 s5 m5 dv ss lpr mt' W2 := by
 have f1:∀ {g:Nat} {t:TypeId} {vs:List Value},t ≠ 3 → Row W g t vs → Row W2 g t vs:=fun ht hr => hr.grown gw (row_far hr ht h.o2)
 have hb:∀ k,some g2 = some k → w.heap.size ≤ k:=fun k hk => by
  injection hk with hk
  have h1:=h.a5
  have h2:=h.a2
  have h3:=World.ownsRow.lt h.o2 g2 rfl
  omega
 obtain ⟨vs,r1,l1⟩:=h.rd
 obtain ⟨us,r2,l2⟩:=h.rm
 refine ⟨f1 (by decide) h.s,f1 (by decide) h.m,⟨vs,f1 (by decide) r1,l1⟩,⟨us,f1 (by decide) r2,l2⟩,f1 (by decide) h.d,h.nb.grown gw ?_,f1 (by decide) h.f,f1 (by decide) h.r,own_grown h.o1 gw h.ne,own,h.ne,h.bel.grown gw h.bel.size hb,h.a1,h.a2,h.a3,h.a5,h.a6⟩
 intro e
 injection e with e
 have h1:=h.a5
 have h3:=World.ownsRow.lt h.o2 g2 rfl
 omega
theorem PK.loops (h:PK w gd gn gr gf g1 c1 n1 g2 c2 n2 base n u0 u1 s5 m5 dv ss lpr mt W) (v:Int):PK w gd gn gr gf g1 c1 n1 g2 c2 n2 base n u0 u1 s5 m5 dv ss v mt (W.setCell ⟨gr,2,none⟩ (.int .i64 v)) := by
 have h3:=h.a3
 have e1:=row_far h.r (by decide) h.o1
 have e2:=row_far h.r (by decide) h.o2
 have e3:gn ≠ gr:=fun e => by
  have h5:=h.nb
  rw [e] at h5
  have h6:=h.r
  unfold Row at h5 h6
  rw [h5] at h6
  injection h6 with h6
  injection h6 with _ h7
  exact absurd h7 (by decide)
 have e4:gf ≠ gr:=fun e => by
  have h5:=h.f
  rw [e] at h5
  have h6:=h.r
  unfold Row at h5 h6
  rw [h5] at h6
  injection h6 with h6
  injection h6 with _ h7
  exact absurd h7 (by decide)
 obtain ⟨vs,r1,l1⟩:=h.rd
 obtain ⟨us,r2,l2⟩:=h.rm
 refine ⟨h.s.other (by show _ ≠ gr; omega) _,h.m.other (by show _ ≠ gr; omega) _,⟨vs,r1.other (by show _ ≠ gr; omega) _,l1⟩,⟨us,r2.other (by show _ ≠ gr; omega) _,l2⟩,h.d.other (by show _ ≠ gr; exact Ne.symm h.a6) _,h.nb.other e3 _,h.f.other e4 _,h.r.set 2 _,own_set h.o1 (fun e => e1 (by rw [e]; rfl)),own_set h.o2 (fun e => e2 (by rw [e]; rfl)),h.ne,h.bel.setCell (by show _ ≤ gr; omega) _,h.a1,h.a2,h.a3,h.a5,h.a6⟩
end
set_option maxRecDepth 100000 in
set_option maxHeartbeats 2000000 in
theorem lead_any (d:Pl.Dg) (hd:Pl.Wf d) (A B:Option Addr) (cp cq m i o:Nat) (gd gn gr gf g1 c1 n1 g2 c2 n2 base n u0 u1:Nat) (s5 m5 ss:List Value) (x lp:Int) (mt:List Nat) (w W:World) (hm:m = 4 * d.n) (hg:DgAt w A B d) (hx:x < 4 * (d.n:Int)) (hlp:-10 ≤ lp ∧ lp ≤ 1000)
 (hp:PK w gd gn gr gf g1 c1 n1 g2 c2 n2 base n u0 u1 s5 m5 [.slice A d.n cp,.slice B m cq,.int .i64 (d.lp:Int)] ss lp mt W) (hi:i < n2) (hoo:o < n2) (hmn:m ≤ n2) (hn:n2 ≤ 1000) :
 Calls Try.prog 89 #[.int .i64 x,.int .i64 (i:Int),.int .i64 (o:Int),.pointer (some ⟨gr,0,none⟩),.pointer (some ⟨gd,0,none⟩)] W fun e w' => e = .returned (.tuple #[]) ∧ PK w gd gn gr gf g1 c1 n1 g2 c2 n2 base n u0 u1 s5 m5 [.slice A d.n cp,.slice B m cq,.int .i64 (d.lp:Int)] ss (if x < 0 then lp - 1 else lp) (leadM d mt x i o) w' := by
 have HM:=hide hm
 have HG:=hide hg
 have HP:=hide hp
 clear hm hg hp
 obtain ⟨r0,r1,r2,r3⟩:=box3 HP.out.r
 obtain ⟨d0,d1,d2,d3⟩:=box3 HP.out.d
 by_cases hx0:x < 0
 ·have HE:=hide (show leadM d mt x i o = jn mt i o by unfold leadM; rw [if_pos hx0])
  go_enter Try.func89,Try.ntmps89
  go_wp2_with fail
  refine (join_any base g2 n2 c2 i o mt _ HP.out.o2 hi hoo (by omega)).mono ?_
  rintro e w1 ⟨rfl,own1,gr1⟩
  have HP1:=hide (HP.out.join own1 gr1)
  clear own1 gr1 r0 r1 r2 r3 d0 d1 d2 d3
  obtain ⟨r0,r1,r2,r3⟩:=box3 HP1.out.r
  go_wp2
  refine bodyPost_ret (results_none rfl _ _ _) rfl ?_
  refine ⟨rfl,?_⟩
  rw [HE.out]
  exact HP1.out.loops _
 ·obtain ⟨q,rfl⟩:=Int.eq_ofNat_of_zero_le (show 0 ≤ x by omega)
  have HE:=hide (show leadM d mt (q:Int) i o = jn (jn mt q i) o (d.m q) by unfold leadM; rw [if_neg (by omega),Int.toNat_natCast])
  have hq:q < 4 * d.n:=by omega
  have hqm:q < m:=by have := HM.out; omega
  have iq:(0:Int) ≤ (q:Int):=by omega
  have jq:(q:Int) < (m:Int):=by omega
  have hmq:=hd.lt q hq
  have hmq2:d.m q < n2:=by have := HM.out; omega
  go_enter Try.func89,Try.ntmps89
  go_wp2_with fail
  refine (join_any base g2 n2 c2 q i mt _ HP.out.o2 (by omega) hi (by omega)).mono ?_
  rintro e w1 ⟨rfl,own1,gr1⟩
  have HP1:=hide (HP.out.join own1 gr1)
  clear own1 gr1 r0 r1 r2 r3 d0 d1 d2 d3
  obtain ⟨r0,r1,r2,r3⟩:=box3 HP1.out.r
  obtain ⟨d0,d1,d2,d3⟩:=box3 HP1.out.d
  have HG1:=hide (HG.out.keep HP1.out.bel)
  obtain ⟨mb,mo,rfl,cm⟩:=mate_at HG1.out.m hq
  obtain ⟨u,hu⟩:∃ u,u = d.m q := ⟨_,rfl⟩
  rw [← hu] at cm hmq2
  have HU:=hide hu
  clear hu hmq
  go_upto_region 4 with fail
  go_still_tail 8,(by kernel_rfl)
  change wpList _ _ _ _ _ w1.drew
  obtain ⟨W6,hW6⟩:∃ W6:World,W6 = w1.drew := ⟨_,rfl⟩
  rw [← hW6]
  have HP6:=hide (HP1.out.drew.cast hW6)
  clear hW6 r0 r1 r2 r3 d0 d1 d2 d3 cm
  go_wp2_with fail
  refine (join_any base g2 n2 c2 o u _ W6 HP6.out.o2 hoo hmq2 (by omega)).mono ?_
  rintro e w7 ⟨rfl,own7,gr7⟩
  have HP7:=hide (HP6.out.join own7 gr7)
  clear own7 gr7
  go_wp2
  go_end0
  refine ⟨rfl,?_⟩
  first
   | (rw [HE.out,← HU.out]; exact HP7.out)
   | (rw [if_neg (show ¬ ((q:Int) < 0) by omega),HE.out,← HU.out]; exact HP7.out)
end Go.Proofs.Ytobbepmlmbbamaa
end
section
namespace Go.Proofs.Ytobbepmlmbbamaa
open Go Go.RowKit
theorem rovers_any (A B:Option Addr) (n cp q cq c:Nat) (lp:Value) (sg:List Int) (w:World) (hs:IntsAt w A n sg) (hc:c < n) (hn:n ≤ 1000) :
 Calls Try.prog 96 #[.agg #[.slice A n cp,.slice B q cq,lp],.int .i64 (c:Int)] w fun e w' => e = .returned (.tuple #[.int .i64 (if Pl.pv sg c = 1 then 4 * (c:Int) + 3 else 4 * (c:Int) + 1),.int .i64 (if Pl.pv sg c = 1 then 4 * (c:Int) + 1 else 4 * (c:Int) + 3)]) ∧ Below w.heap.size w w' := by
 obtain ⟨b,o,rfl,h1⟩:=hs.at_ hc
 have hb:Below w.heap.size w (w.alloc (.cells #[.slice (some ⟨b,o,none⟩) n cp,.slice B q cq,lp] 24)):=(Below.refl _ _).alloc (Nat.le_refl _) _
 obtain ⟨u,hu⟩:∃ u,u = Pl.pv sg c := ⟨_,rfl⟩
 rw [show sg.getD c 0 = u from hu.symm] at h1
 rw [← hu]
 have h2:=cell_below h1 hb
 clear hs hu h1
 by_cases h:u = 1
 ·have t1:(u == 1) = true:=by simpa using h
  rw [if_pos h,if_pos h]
  clear h
  go_enter Try.func96,Try.ntmps96
  go_wp2
  go_ret2
  exact ⟨rfl,hb⟩
 ·have t1:(u == 1) = false:=by simpa using h
  rw [if_neg h,if_neg h]
  clear h
  go_enter Try.func96,Try.ntmps96
  go_wp2
  go_ret2
  exact ⟨rfl,hb⟩
theorem own_empty (W:World):(W.alloc (.cells #[] 3)).ownsRow W.heap.size 3 1 (.slice (some ⟨W.heap.size,0,none⟩) 0 0) 0 [] :=
 ⟨rfl,.inr ⟨W.heap.size,0,#[],rfl,Nat.le_refl _,heap_alloc_new W _,Nat.le_refl _,by unfold maxLen; omega,rfl,rfl⟩⟩
set_option maxRecDepth 100000 in
set_option maxHeartbeats 1000000 in
theorem rcopy_any (A B:Option Addr) (n cp q cq:Nat) (lp:Int) (sg mt:List Int) (w:World) (hs:IntsAt w A n sg) (hm:IntsAt w B q mt) (hn:n ≤ 1000) (hq:q ≤ 4000) :
 Calls Try.prog 25 #[.agg #[.slice A n cp,.slice B q cq,.int .i64 lp]] w fun e w' => ∃ (A2 B2:Option Addr) (c2 d2:Nat),e = .returned (.agg #[.slice A2 n c2,.slice B2 q d2,.int .i64 lp]) ∧ w'.ownsRow w.heap.size 3 1 (.slice A2 n c2) n (sg.map (.int .i64)) ∧ w'.ownsRow w.heap.size 3 1 (.slice B2 q d2) q (mt.map (.int .i64)) ∧ Below w.heap.size w w' ∧ (∀ g,(Value.slice A2 n c2).ownBlock = some g → (Value.slice B2 q d2).ownBlock ≠ some g) := by
 have HS:=hide hs
 have HM:=hide hm
 clear hs hm
 obtain ⟨i0,hi0,hz0,hz1,hz2⟩:=info_parts intInfo
 have B0:=hide (show Below w.heap.size w ((w.alloc (.cells #[.slice A n cp,.slice B q cq,.int .i64 lp] 24)).alloc (.cells #[.slice none 0 0,.slice none 0 0,.int .i64 0] 24)) from ((Below.refl _ _).alloc (Nat.le_refl _) _).alloc (by simp) _)
 have X0:=hide (show Row ((w.alloc (.cells #[.slice A n cp,.slice B q cq,.int .i64 lp] 24)).alloc (.cells #[.slice none 0 0,.slice none 0 0,.int .i64 0] 24)) w.heap.size 24 [.slice A n cp,.slice B q cq,.int .i64 lp] from (Row.new w _ _).alloc _)
 have Y0:=hide (show Row ((w.alloc (.cells #[.slice A n cp,.slice B q cq,.int .i64 lp] 24)).alloc (.cells #[.slice none 0 0,.slice none 0 0,.int .i64 0] 24)) (w.heap.size + 1) 24 [.slice none 0 0,.slice none 0 0,.int .i64 0] from row_at (vs := [.slice none 0 0,.slice none 0 0,.int .i64 0]) (by simp))
 obtain ⟨W0,hW0⟩:∃ W0:World,W0 = (w.alloc (.cells #[.slice A n cp,.slice B q cq,.int .i64 lp] 24)).alloc (.cells #[.slice none 0 0,.slice none 0 0,.int .i64 0] 24) := ⟨_,rfl⟩
 rw [← hW0] at B0 X0 Y0
 have HZ:=hide (show W0.heap.size = w.heap.size + 1 + 1 by rw [hW0]; simp)
 obtain ⟨x0,x1,x2,x3⟩:=box3 X0.out
 go_enter Try.func25,Try.ntmps25
 go_upto_region 1 with fail
 rw [← hW0]
 clear hW0
 have E0:=hide (own_empty W0)
 have X1:=hide (X0.out.alloc (.cells #[] 3))
 have Y1:=hide (Y0.out.alloc (.cells #[] 3))
 clear x0 x1 x2 x3
 obtain ⟨x0,x1,x2,x3⟩:=box3 X1.out
 have B1:=hide (B0.out.alloc (by have := HZ.out; omega) (.cells #[] 3))
 have hn1:0 + n ≤ maxLen:=by unfold maxLen; omega
 have hn2:(0 + n) * 8 ≤ 140737488355328:=by omega
 have hq1:0 + q ≤ maxLen:=by unfold maxLen; omega
 have hq2:(0 + q) * 8 ≤ 140737488355328:=by omega
 have hk1:W0.heap.size ≤ (W0.alloc (.cells #[] 3)).heap.size:=by simp
 go_upto_region 2 with (at_builtin; refine wpList_append_ints _ rfl _ _ 22 rfl W0.heap.size 3 i0 (.int .i64 0) 8 Try.underlying22 hi0 hz0 hz1 hz2 rfl _ 0 [] (by rfl) E0.out A n cp sg (by rfl) (HS.out.keep B1.out) hn1 hn2 hk1 ?_; intro v2 w2 own2 grow2; rw [Nat.zero_add,List.nil_append] at own2; obtain ⟨A2,c2,rfl⟩:=owns_slice own2; have X2 := hide (X1.out.grown grow2 (fun e => by have := (E0.out.lt _ e.symm).1; have := HZ.out; omega)); have Y2 := hide (Y1.out.grown grow2 (fun e => by have := (E0.out.lt _ e.symm).1; have := HZ.out; omega)); have B2 := hide (B1.out.grown grow2 (by have := B1.out.size; omega) (fun k hk => by have := (E0.out.lt k hk).1; have := HZ.out; omega)); have OWN2 := hide own2; clear own2 grow2 x0 x1 x2 x3; obtain ⟨x0,x1,x2,x3⟩:=box3 X2.out)
 obtain ⟨W3,hW3⟩:∃ W3:World,W3 = w2.setCell ⟨w.heap.size,0,none⟩ (.slice A2 n c2) := ⟨_,rfl⟩
 have X3:=hide (show Row W3 w.heap.size 24 [.slice A2 n c2,.slice B q cq,.int .i64 lp] by rw [hW3]; exact X2.out.set 0 _)
 have Y3:=hide (show Row W3 (w.heap.size + 1) 24 [.slice none 0 0,.slice none 0 0,.int .i64 0] by rw [hW3]; exact Y2.out.other (by simp) _)
 have B3:=hide (show Below w.heap.size w W3 by rw [hW3]; exact B2.out.setCell (by show w.heap.size ≤ w.heap.size; omega) _)
 have OWN3:=hide (show W3.ownsRow W0.heap.size 3 1 (.slice A2 n c2) n (sg.map (.int .i64)) by rw [hW3]; exact ownsRow_setCell_below OWN2.out (by have := HZ.out; show w.heap.size < W0.heap.size; omega) _)
 rw [← hW3]
 have hz3:w.heap.size + 1 < W3.heap.size:=Y3.out.lt
 have hlt3:∀ g,(Value.slice A2 n c2).ownBlock = some g → g < W3.heap.size:=fun g hg => (OWN3.out.lt g hg).2
 clear hW3 x0 x1 x2 x3 X2 Y2 B2 OWN2 X1 Y1 B1 E0 X0 Y0 B0
 have E4:=hide (own_empty W3)
 have X4:=hide (X3.out.alloc (.cells #[] 3))
 have Y4:=hide (Y3.out.alloc (.cells #[] 3))
 have B4:=hide (B3.out.alloc (by omega) (.cells #[] 3))
 have O4:=hide (OWN3.out.alloc (.cells #[] 3))
 obtain ⟨x0,x1,x2,x3⟩:=box3 X4.out
 have hk2:W3.heap.size ≤ (W3.alloc (.cells #[] 3)).heap.size:=by simp
 go_upto_region 3 with (at_builtin; refine wpList_append_ints _ rfl _ _ 22 rfl W3.heap.size 3 i0 (.int .i64 0) 8 Try.underlying22 hi0 hz0 hz1 hz2 rfl _ 0 [] (by rfl) E4.out B q cq mt (by rfl) (HM.out.keep B4.out) hq1 hq2 hk2 ?_; intro v5 w5 own5 grow5; rw [Nat.zero_add,List.nil_append] at own5; obtain ⟨B2,d2,rfl⟩:=owns_slice own5; have X5 := hide (X4.out.grown grow5 (fun e => by have := (E4.out.lt _ e.symm).1; omega)); have Y5 := hide (Y4.out.grown grow5 (fun e => by have := (E4.out.lt _ e.symm).1; omega)); have B5 := hide (B4.out.grown grow5 (by have := B4.out.size; omega) (fun k hk => by have := (E4.out.lt k hk).1; omega)); have OWN5 := hide own5; have O5 := hide (O4.out.kept grow5 (.inr (fun e => by have := hlt3 _ e; have := (E4.out.lt _ rfl).1; omega))); clear own5 grow5 x0 x1 x2 x3; obtain ⟨x0,x1,x2,x3⟩:=box3 X5.out)
 obtain ⟨y0,y1,y2,y3⟩:=box3 Y5.out
 have hzw:w.heap.size < W0.heap.size:=by have := HZ.out; omega
 go_wp2
 have YF:=hide ((((Y5.out.other (show w.heap.size + 1 ≠ (⟨w.heap.size,1,none⟩:Addr).block by show w.heap.size + 1 ≠ w.heap.size; omega) (.slice B2 q d2)).set 0 (.slice A2 n c2)).set 1 (.slice B2 q d2)).set 2 (.int .i64 lp))
 refine bodyPost_ret (v := .agg #[.slice A2 n c2,.slice B2 q d2,.int .i64 lp]) ?_ rfl ?_
 ·obtain ⟨r0,r1,r2,_⟩:=box3 YF.out
  simp [results,Try.results25,go_sem,r0,r1,r2]
 ·have k1:w.heap.size + 1 < W0.heap.size:=by have := HZ.out; omega
  refine ⟨A2,B2,c2,d2,rfl,?_,?_,?_,fun g hg e => ?_⟩
  ·exact own_keep (ownsRow_setCell_below (ownsRow_setCell_below (ownsRow_setCell_below (ownsRow_setCell_below O5.out (by show w.heap.size < W0.heap.size; omega) _) (by show w.heap.size + 1 < W0.heap.size; omega) _) (by show w.heap.size + 1 < W0.heap.size; omega) _) (by show w.heap.size + 1 < W0.heap.size; omega) _) (Below.refl _ _) (by omega)
  ·exact own_keep (ownsRow_setCell_below (ownsRow_setCell_below (ownsRow_setCell_below (ownsRow_setCell_below OWN5.out (by show w.heap.size < W3.heap.size; omega) _) (by show w.heap.size + 1 < W3.heap.size; omega) _) (by show w.heap.size + 1 < W3.heap.size; omega) _) (by show w.heap.size + 1 < W3.heap.size; omega) _) (Below.refl _ _) (by omega)
  ·exact (((B5.out.setCell (by show w.heap.size ≤ w.heap.size; omega) _).setCell (by show w.heap.size ≤ w.heap.size + 1; omega) _).setCell (by show w.heap.size ≤ w.heap.size + 1; omega) _).setCell (by show w.heap.size ≤ w.heap.size + 1; omega) _
  ·have h1:=hlt3 g hg
   have h2:=(OWN5.out.lt g e).1
   omega
end Go.Proofs.Ytobbepmlmbbamaa
end
section
namespace Go.Proofs.Ytobbepmlmbbamaa
open Go Go.RowKit
theorem own_row_ne {W:World} {base b n:Nat} {t:TypeId} {v:Value} {xs vs:List Value} (h:W.ownsRow base 3 1 v n xs) (hr:Row W b t vs) (ht:3 ≠ t):some b ≠ v.ownBlock := by
 intro e
 obtain ⟨cs,fr,h3⟩:=ownsRow_block h b e.symm
 rw [hr] at h3
 injection h3 with h3
 injection h3 with _ h4
 exact ht h4.symm
theorem own_setRow {W:World} {base b n:Nat} {t:TypeId} {v:Value} {xs vs:List Value} (h:W.ownsRow base 3 1 v n xs) (hr:Row W b t vs) (ht:3 ≠ t) (o:Nat) (u:Value):(W.setCell ⟨b,o,none⟩ u).ownsRow base 3 1 v n xs := by
 have hne:=own_row_ne h hr ht
 obtain ⟨A,c,rfl⟩:=owns_slice h
 refine ⟨h.1,?_⟩
 rcases h.2 with hz | ⟨g,cap,cur,r1,r2,r3,r4⟩
 ·exact .inl hz
 ·refine .inr ⟨g,cap,cur,r1,r2,?_,r4⟩
  have hgb:g ≠ b:=fun e => hne (by rw [r1,← e]; rfl)
  exact (Below.heap_setCell W ⟨b,o,none⟩ u g hgb).trans r3
structure RK (base:Nat) (w:World) (vS vM:Value) (n q:Nat) (lp:Int) (mv:List Value) (ss:List Int) (l:List Nat) (W:World):Prop where
 d:Row W w.heap.size 24 [vS,vM,.int .i64 lp]
 m:Row W (w.heap.size + 1) 28 mv
 rd:∃ vs,Row W (w.heap.size + 1 + 1) 24 vs ∧ vs.length = 3
 rm:∃ us,Row W (w.heap.size + 1 + 1 + 1) 28 us ∧ us.length = 5
 s:W.ownsRow base 3 1 vS n (ss.map (.int .i64))
 o:W.ownsRow base 3 1 vM q (l.map (fun k:Nat => Value.int .i64 k))
 ne:∀ k,vS.ownBlock = some k → vM.ownBlock ≠ some k
 bel:Below base w W
 le:base ≤ w.heap.size
section
variable {base:Nat} {w W W' W2:World} {vS vM v':Value} {n q:Nat} {lp:Int} {mv:List Value} {ss:List Int} {l:List Nat}
theorem RK.big (h:RK base w vS vM n q lp mv ss l W):w.heap.size + 4 ≤ W.heap.size := by
 obtain ⟨_,h1,_⟩:=h.rm
 have:=h1.lt; omega
theorem RK.below (h:RK base w vS vM n q lp mv ss l W) (hb:Below W.heap.size W W'):RK base w vS vM n q lp mv ss l W' :=
 let ⟨vs,r1,l1⟩:=h.rd
 let ⟨us,r2,l2⟩:=h.rm
 ⟨h.d.below hb,h.m.below hb,⟨vs,r1.below hb,l1⟩,⟨us,r2.below hb,l2⟩,own_keep h.s hb (Nat.le_refl _),own_keep h.o hb (Nat.le_refl _),h.ne,h.bel.trans (hb.mono (by have := h.big; have := h.le; omega)),h.le⟩
theorem RK.alloc (h:RK base w vS vM n q lp mv ss l W) (o:Obj):RK base w vS vM n q lp mv ss l (W.alloc o) := h.below ((Below.refl _ _).alloc (Nat.le_refl _) o)
theorem RK.drew (h:RK base w vS vM n q lp mv ss l W):RK base w vS vM n q lp mv ss l W.drew := ⟨h.d,h.m,h.rd,h.rm,h.s,h.o,h.ne,h.bel.drew,h.le⟩
theorem RK.drewN (h:RK base w vS vM n q lp mv ss l W) (k:Nat):RK base w vS vM n q lp mv ss l (W.drewN k) := ⟨h.d,h.m,h.rd,h.rm,h.s,h.o,h.ne,Below.drewN' h.bel k,h.le⟩
theorem RK.kept (h:RK base w vS vM n q lp mv ss l W) (gr:W.grownBy W2 vM.ownBlock) {l':List Nat} (own:W2.ownsRow base 3 1 vM q (l'.map (fun k:Nat => Value.int .i64 k))):RK base w vS vM n q lp mv ss l' W2 := by
 obtain ⟨vs,r1,l1⟩:=h.rd
 obtain ⟨us,r2,l2⟩:=h.rm
 refine ⟨h.d.grown gr (own_row_ne h.o h.d (by decide)),h.m.grown gr (own_row_ne h.o h.m (by decide)),⟨vs,r1.grown gr (own_row_ne h.o r1 (by decide)),l1⟩,⟨us,r2.grown gr (own_row_ne h.o r2 (by decide)),l2⟩,?_,own,h.ne,?_,h.le⟩
 ·refine h.s.kept gr ?_
  cases hm:vS.ownBlock with
  | none => exact .inl rfl
  | some g => exact .inr (fun e => h.ne g hm e.symm)
 ·exact h.bel.grown gr (by have := h.bel.size; have := h.le; omega) (fun k hk => (h.o.lt k hk).1)
theorem RK.setL (h:RK base w vS vM n q lp mv ss l W) (lp':Int):RK base w vS vM n q lp' mv ss l (W.setCell ⟨w.heap.size,2,none⟩ (.int .i64 lp')) := by
 obtain ⟨vs,r1,l1⟩:=h.rd
 obtain ⟨us,r2,l2⟩:=h.rm
 exact ⟨h.d.set 2 _,h.m.other (by show _ ≠ w.heap.size; omega) _,⟨vs,r1.other (by show _ ≠ w.heap.size; omega) _,l1⟩,⟨us,r2.other (by show _ ≠ w.heap.size; omega) _,l2⟩,own_setRow h.s h.d (by decide) _ _,own_setRow h.o h.d (by decide) _ _,h.ne,h.bel.setCell h.le _,h.le⟩
theorem RK.setD (h:RK base w vS vM n q lp mv ss l W) (o:Nat) (v:Value):RK base w vS vM n q lp mv ss l (W.setCell ⟨w.heap.size + 1 + 1,o,none⟩ v) := by
 obtain ⟨vs,r1,l1⟩:=h.rd
 obtain ⟨us,r2,l2⟩:=h.rm
 exact ⟨h.d.other (by show _ ≠ w.heap.size + 1 + 1; omega) _,h.m.other (by show _ ≠ w.heap.size + 1 + 1; omega) _,⟨_,r1.set o v,by rw [List.length_set,l1]⟩,⟨us,r2.other (by show _ ≠ w.heap.size + 1 + 1; omega) _,l2⟩,own_setRow h.s r1 (by decide) _ _,own_setRow h.o r1 (by decide) _ _,h.ne,h.bel.setCell (by have := h.le; show base ≤ w.heap.size + 1 + 1; omega) _,h.le⟩
theorem RK.setM (h:RK base w vS vM n q lp mv ss l W) (o:Nat) (v:Value):RK base w vS vM n q lp mv ss l (W.setCell ⟨w.heap.size + 1 + 1 + 1,o,none⟩ v) := by
 obtain ⟨vs,r1,l1⟩:=h.rd
 obtain ⟨us,r2,l2⟩:=h.rm
 exact ⟨h.d.other (by show _ ≠ w.heap.size + 1 + 1 + 1; omega) _,h.m.other (by show _ ≠ w.heap.size + 1 + 1 + 1; omega) _,⟨vs,r1.other (by show _ ≠ w.heap.size + 1 + 1 + 1; omega) _,l1⟩,⟨_,r2.set o v,by rw [List.length_set,l2]⟩,own_setRow h.s r2 (by decide) _ _,own_setRow h.o r2 (by decide) _ _,h.ne,h.bel.setCell (by have := h.le; show base ≤ w.heap.size + 1 + 1 + 1; omega) _,h.le⟩
theorem RK.setO (h:RK base w vS vM n q lp mv ss l W) {b:Nat} {t:TypeId} {vs:List Value} (hr:Row W b t vs) (ht:3 ≠ t) (hb:w.heap.size + 4 ≤ b) (o:Nat) (v:Value):RK base w vS vM n q lp mv ss l (W.setCell ⟨b,o,none⟩ v) := by
 obtain ⟨vs,r1,l1⟩:=h.rd
 obtain ⟨us,r2,l2⟩:=h.rm
 exact ⟨h.d.other (by show _ ≠ b; omega) _,h.m.other (by show _ ≠ b; omega) _,⟨vs,r1.other (by show _ ≠ b; omega) _,l1⟩,⟨us,r2.other (by show _ ≠ b; omega) _,l2⟩,own_setRow h.s hr ht _ _,own_setRow h.o hr ht _ _,h.ne,h.bel.setCell (by have := h.le; show base ≤ b; omega) _,h.le⟩
theorem RK.appS {ss':List Int} {n':Nat} (h:RK base w vS vM n q lp mv ss l W) (own:W2.ownsRow base 3 1 v' n' (ss'.map (.int .i64))) (gr:W.grownBy W2 vS.ownBlock) {g':Nat} (hv:v'.ownBlock = some g') (hat0:vS.ownBlock = some g' ∨ g' = W.heap.size) :
 RK base w v' vM n' q lp mv ss' l (W2.setCell ⟨w.heap.size,0,none⟩ v') := by
 have hat:v'.ownBlock = vS.ownBlock ∨ v'.ownBlock = some W.heap.size:=by
  rcases hat0 with e | e
  ·exact .inl (hv.trans e.symm)
  ·exact .inr (hv.trans (congrArg some e))
 obtain ⟨vs,r1,l1⟩:=h.rd
 obtain ⟨us,r2,l2⟩:=h.rm
 have hd:=h.d.grown gr (own_row_ne h.s h.d (by decide))
 refine ⟨hd.set 0 v',(h.m.grown gr (own_row_ne h.s h.m (by decide))).other (by show _ ≠ w.heap.size; omega) _,⟨vs,(r1.grown gr (own_row_ne h.s r1 (by decide))).other (by show _ ≠ w.heap.size; omega) _,l1⟩,⟨us,(r2.grown gr (own_row_ne h.s r2 (by decide))).other (by show _ ≠ w.heap.size; omega) _,l2⟩,own_setRow own hd (by decide) _ _,?_,?_,?_,h.le⟩
 ·refine own_setRow (h.o.kept gr ?_) hd (by decide) _ _
  cases hm:vM.ownBlock with
  | none => exact .inl rfl
  | some g => exact .inr (fun e => h.ne g e.symm hm)
 ·intro g hg hm
  rcases hat with e | e
  ·exact h.ne g (e ▸ hg) hm
  ·rw [e] at hg
   injection hg with hg
   have:=(h.o.lt g hm).2
   omega
 ·exact (h.bel.grown gr (by have := h.bel.size; have := h.le; omega) (fun k hk => (h.s.lt k hk).1)).setCell h.le _
theorem RK.appM {l':List Nat} {q':Nat} (h:RK base w vS vM n q lp mv ss l W) (own:W2.ownsRow base 3 1 v' q' (l'.map (fun k:Nat => Value.int .i64 k))) (gr:W.grownBy W2 vM.ownBlock) {g':Nat} (hv:v'.ownBlock = some g') (hat0:vM.ownBlock = some g' ∨ g' = W.heap.size) :
 RK base w vS v' n q' lp mv ss l' (W2.setCell ⟨w.heap.size,1,none⟩ v') := by
 have hat:v'.ownBlock = vM.ownBlock ∨ v'.ownBlock = some W.heap.size:=by
  rcases hat0 with e | e
  ·exact .inl (hv.trans e.symm)
  ·exact .inr (hv.trans (congrArg some e))
 obtain ⟨vs,r1,l1⟩:=h.rd
 obtain ⟨us,r2,l2⟩:=h.rm
 have hd:=h.d.grown gr (own_row_ne h.o h.d (by decide))
 refine ⟨hd.set 1 v',(h.m.grown gr (own_row_ne h.o h.m (by decide))).other (by show _ ≠ w.heap.size; omega) _,⟨vs,(r1.grown gr (own_row_ne h.o r1 (by decide))).other (by show _ ≠ w.heap.size; omega) _,l1⟩,⟨us,(r2.grown gr (own_row_ne h.o r2 (by decide))).other (by show _ ≠ w.heap.size; omega) _,l2⟩,?_,own_setRow own hd (by decide) _ _,?_,?_,h.le⟩
 ·refine own_setRow (h.s.kept gr ?_) hd (by decide) _ _
  cases hm:vS.ownBlock with
  | none => exact .inl rfl
  | some g => exact .inr (fun e => h.ne g hm e.symm)
 ·intro g hg hm
  rcases hat with e | e
  ·exact h.ne g hg (e ▸ hm)
  ·rw [e] at hm
   injection hm with hm
   have:=(h.s.lt g hg).2
   omega
 ·exact (h.bel.grown gr (by have := h.bel.size; have := h.le; omega) (fun k hk => (h.o.lt k hk).1)).setCell h.le _
def st8 (w W:World) (y0 y1 y2 z0 z1 z2 z3 z4:Value):World := ((((((((W.setCell ⟨w.heap.size + 1 + 1,0,none⟩ y0).setCell ⟨w.heap.size + 1 + 1,1,none⟩ y1).setCell ⟨w.heap.size + 1 + 1,2,none⟩ y2).setCell ⟨w.heap.size + 1 + 1 + 1,0,none⟩ z0).setCell ⟨w.heap.size + 1 + 1 + 1,1,none⟩ z1).setCell ⟨w.heap.size + 1 + 1 + 1,2,none⟩ z2).setCell ⟨w.heap.size + 1 + 1 + 1,3,none⟩ z3).setCell ⟨w.heap.size + 1 + 1 + 1,4,none⟩ z4)
theorem RK.fin (h:RK base w vS vM n q lp mv ss l W) (y0 y1 y2 z0 z1 z2 z3 z4:Value):RK base w vS vM n q lp mv ss l (st8 w W y0 y1 y2 z0 z1 z2 z3 z4) :=
 (((((((h.setD 0 y0).setD 1 y1).setD 2 y2).setM 0 z0).setM 1 z1).setM 2 z2).setM 3 z3).setM 4 z4
theorem RK.cells (h:RK base w vS vM n q lp mv ss l W) (y0 y1 y2 z0 z1 z2 z3 z4:Value) :
 (st8 w W y0 y1 y2 z0 z1 z2 z3 z4).cell? ⟨w.heap.size + 1 + 1,0,none⟩ = some y0 ∧ (st8 w W y0 y1 y2 z0 z1 z2 z3 z4).cell? ⟨w.heap.size + 1 + 1,1,none⟩ = some y1 ∧ (st8 w W y0 y1 y2 z0 z1 z2 z3 z4).cell? ⟨w.heap.size + 1 + 1,2,none⟩ = some y2 ∧ (st8 w W y0 y1 y2 z0 z1 z2 z3 z4).cell? ⟨w.heap.size + 1 + 1 + 1,0,none⟩ = some z0 ∧ (st8 w W y0 y1 y2 z0 z1 z2 z3 z4).cell? ⟨w.heap.size + 1 + 1 + 1,1,none⟩ = some z1 ∧ (st8 w W y0 y1 y2 z0 z1 z2 z3 z4).cell? ⟨w.heap.size + 1 + 1 + 1,2,none⟩ = some z2 ∧ (st8 w W y0 y1 y2 z0 z1 z2 z3 z4).cell? ⟨w.heap.size + 1 + 1 + 1,3,none⟩ = some z3 ∧ (st8 w W y0 y1 y2 z0 z1 z2 z3 z4).cell? ⟨w.heap.size + 1 + 1 + 1,4,none⟩ = some z4 := by
 obtain ⟨vs,r1,l1⟩:=h.rd
 obtain ⟨us,r2,l2⟩:=h.rm
 exact fin8 r1 r2 l1 l2 (by omega) y0 y1 y2 z0 z1 z2 z3 z4
end
def RErr (c:Int) (e:Ending):Prop := ∃ (A B:Option Addr) (n q c1 c2:Nat) (lp k x y s:Int) (o:Bool),e = .returned (.tuple #[.agg #[.slice A n c1,.slice B q c2,.int .i64 lp],.agg #[.int .i64 k,.int .i64 x,.int .i64 y,.int .i64 s,.bool o],.int .i64 c])
def RC (base:Nat) (c:Int) (r:Pl.Dg) (mv:Mv) (w:World) (e:Ending) (w':World):Prop := (c ≠ 0 → RErr c e) ∧ (c = 0 → ResOk r mv e w') ∧ Below base w w'
structure Own2 (base:Nat) (w:World) (vS vM:Value) (n q:Nat) (ss:List Int) (l:List Nat):Prop where
 s:w.ownsRow base 3 1 vS n (ss.map (.int .i64))
 o:w.ownsRow base 3 1 vM q (l.map (fun k:Nat => Value.int .i64 k))
 ne:∀ k,vS.ownBlock = some k → vM.ownBlock ≠ some k
 le:base ≤ w.heap.size
theorem RK.start {base:Nat} {w:World} {vS vM:Value} {n q:Nat} {ss:List Int} {l:List Nat} (h:Own2 base w vS vM n q ss l) (lp:Int) (y0 y1 y2 y3 y4:Value):RK base w vS vM n q lp [y0,y1,y2,y3,y4] ss l (W4 w vS vM (.int .i64 lp) y0 y1 y2 y3 y4) := by
 obtain ⟨x0,x1,x2,x3,b0,_⟩:=boxes4 w vS vM (.int .i64 lp) y0 y1 y2 y3 y4
 exact ⟨x0,x1,⟨_,x2,rfl⟩,⟨_,x3,rfl⟩,own_keep h.s b0 (Nat.le_refl _),own_keep h.o b0 (Nat.le_refl _),h.ne,b0.mono h.le,h.le⟩
end Go.Proofs.Ytobbepmlmbbamaa
end
section
namespace Go.Proofs.Ytobbepmlmbbamaa
open Go Go.RowKit
def crn (first under dir:Nat):Nat := first + (dir + 4 - under) % 4
def crnL (first under k:Nat):List Nat := (List.range k).map (crn first under)
theorem crnL_succ (first under k:Nat):crnL first under (k + 1) = crnL first under k ++ [crn first under k] := by unfold crnL; rw [List.range_succ,List.map_append]; rfl
set_option maxRecDepth 100000 in
set_option maxHeartbeats 1000000 in
theorem rcorners_any (first under:Nat) (w:World) (hf:first ≤ 100000) (hu:under ≤ 3) :
 Calls Try.prog 102 #[.int .i64 (first:Int),.int .i64 (under:Int)] w fun e w' => ∃ (A:Option Addr) (c:Nat),e = .returned (.slice A 4 c) ∧ w'.ownsRow w.heap.size 3 1 (.slice A 4 c) 4 ((crnL first under 4).map (fun k:Nat => Value.int .i64 k)) ∧ Below w.heap.size w w' := by
 go_enter Try.func102,Try.ntmps102
 go_wp2
 go_loopg [5,6] 4 (fun g v i wx => ∃ k:Nat,k + g = 4 ∧ i = .int .i64 k ∧ wx.ownsRow w.heap.size 3 1 v k ((crnL first under k).map (fun k:Nat => Value.int .i64 k)) ∧ Below w.heap.size w wx)
 case atStart => exact ⟨0,rfl,rfl,⟨rfl,.inl ⟨rfl,rfl⟩⟩,Below.refl _ _⟩
 case round =>
  obtain ⟨k,hkg,rfl,own,hb⟩:=hrel
  have HK:=hide hkg
  have OWN:=hide own
  have HB:=hide hb
  have hbs:=hb.size
  have hk4:k ≤ 4:=by omega
  clear hkg own hb
  by_cases hlt:k < 4
  ·have hk3:(k:Int) ≤ 3:=by omega
   obtain ⟨x,hx⟩:∃ x,x = crn first under k := ⟨_,rfl⟩
   have HX:=hide hx
   have e1:(first:Int) + ((k:Int) - (under:Int)) % 4 = (x:Int):=by rw [hx]; unfold crn; omega
   clear hx
   obtain ⟨i0,hi0,hz0,hz1,hz2⟩:=info_parts intInfo
   go_wp2_with (at_builtin; refine wpList_append_lies _ (by rfl) _ _ 22 (by rfl) w.heap.size 3 i0 (.int .i64 0) 1 8 Try.underlying22 hi0 hz0 hz1 hz2 rfl (by omega) _ k _ (by rfl) (OWN.out.alloc _) ⟨wr.heap.size,0,none⟩ 1 1 [.int .i64 (x:Int)] (by rfl) (by rfl) (one_news wr (.int .i64 (x:Int))) (by simp [Value.oneCell']) (by omega) (by unfold maxLen; omega) (by omega) (by simp; omega) (wr.heap.size + 1) (by simp) ?_; intro g3 c3 w3 own3 grow3 at3 lt3; have OWN3 := hide own3; have GR3 := hide grow3; clear own3 grow3 at3)
   go_roundg (gk - 1)
   case measure => have := HK.out; omega
   case rel =>
    refine ⟨k + 1,by have := HK.out; omega,by go_num,?_,(HB.out.alloc hbs (.cells #[.int .i64 (x:Int)] 3)).grown GR3.out (by simp; omega) (fun k hk => (OWN.out.lt k hk).1)⟩
    rw [crnL_succ,List.map_append,← HX.out]
    exact OWN3.out
  ·have hk:k = 4:=by omega
   subst hk
   obtain ⟨A5,c5,rfl⟩:=owns_slice OWN.out
   go_wp2
   go_ret
   exact ⟨A5,c5,rfl,OWN.out,HB.out⟩
end Go.Proofs.Ytobbepmlmbbamaa
end
section
namespace Go.Proofs.Ytobbepmlmbbamaa
open Go Go.RowKit
attribute [local go_sem ↓] Go.wp_at_zero Go.wp_at_succ
def fE (E:Nat → Nat) (x k:Nat):Bool := (List.range k).any (fun j => E (2 * j) == x || E (2 * j + 1) == x)
theorem fE_s (E:Nat → Nat) (x k:Nat):fE E x (k + 1) = (fE E x k || (E (2 * k) == x || E (2 * k + 1) == x)) := by
 unfold fE
 rw [List.range_succ,List.any_append]
 simp
theorem fE_iff (E:Nat → Nat) (x:Nat):fE E x 3 = true ↔ ∃ j,j < 6 ∧ x = E j := by
 rw [fE_s,fE_s,fE_s]
 have:fE E x 0 = false:=rfl
 rw [this]
 simp only [Bool.or_eq_true,beq_iff_eq,Bool.false_eq_true,false_or]
 constructor
 ·rintro ((h | h) | h)
  ·rcases h with h | h
   ·exact ⟨0,by omega,h.symm⟩
   ·exact ⟨1,by omega,h.symm⟩
  ·rcases h with h | h
   ·exact ⟨2,by omega,h.symm⟩
   ·exact ⟨3,by omega,h.symm⟩
  ·rcases h with h | h
   ·exact ⟨4,by omega,h.symm⟩
   ·exact ⟨5,by omega,h.symm⟩
 ·rintro ⟨j,hj,h⟩
  have:j = 0 ∨ j = 1 ∨ j = 2 ∨ j = 3 ∨ j = 4 ∨ j = 5:=by omega
  rcases this with rfl | rfl | rfl | rfl | rfl | rfl <;> simp [h]
theorem per_uniq {f:Nat → Nat} {x p q:Nat} (hp:Pl.Per f x p) (hq:Pl.Per f x q):p = q := by
 rcases Nat.lt_trichotomy p q with h | h | h
 ·exact absurd hp.2.1 (hq.2.2 p hp.1 h)
 ·exact h
 ·exact absurd hq.2.1 (hp.2.2 q hq.1 h)
theorem own_form1 {w:World} {base n cap:Nat} {A:Option Addr} {xs:List Value} (h:w.ownsRow base 3 1 (.slice A n cap) n xs) (hn:0 < n):∃ g,A = some ⟨g,0,none⟩:=by
 obtain ⟨g,c,e,_⟩:=World.ownsRow.form h hn
 injection e with e
 exact ⟨g,e⟩
structure INb (w:World) (dv:List Value) (gf:Nat) (F:List Nat) (W:World):Prop where
 x:Row W w.heap.size 24 dv
 f:∀ i,i < F.length → W.cell? ⟨gf,i,none⟩ = some (.int .i64 (F.getD i 0:Nat))
 bel:Below w.heap.size w W
theorem INb.drewN {w:World} {dv:List Value} {gf:Nat} {F:List Nat} {W:World} (h:INb w dv gf F W) (n:Nat):INb w dv gf F (W.drewN n) := ⟨h.x.drewN n,h.f,Below.drewN' h.bel n⟩
set_option maxRecDepth 100000 in
set_option maxHeartbeats 4000000 in
theorem rinner_any (d:Pl.Dg) (hd:Pl.Wf d) (A B:Option Addr) (cp cq m:Nat) (l:Value) (h ge ce:Nat) (E:Nat → Nat) (w:World) (hm:m = 4 * d.n) (hb:IntsAt w B m (nats d.mt)) (hh:h < 4 * d.n) (hE:∀ j,j < 6 → w.cell? ⟨ge,j,none⟩ = some (.int .i64 (E j:Nat))) :
 Calls Try.prog 106 #[.agg #[.slice A d.n cp,.slice B m cq,l],.int .i64 (h:Int),.slice (some ⟨ge,0,none⟩) 3 ce] w fun e w' => e = .returned (.bool (Pl.vb (Pl.Per (Pl.nx d) h 3 ∧ ∀ i,i < 3 → ∃ j,j < 6 ∧ Pl.it (Pl.nx d) i h = E j))) ∧ Below w.heap.size w w' := by
 have hn:=hd.few
 have HD:=hide hd
 have HM:=hide hm
 have HB:=hide hb
 have HE:=hide hE
 have hm2:m ≤ 256:=by omega
 obtain ⟨p,hpN,hper⟩:=hd.nxb.per (x := h) hh
 have HPER:=hide hper
 have hp0:=hper.1
 have X0:=hide (row_at (W := w) (g := w.heap.size) (t := 24) (vs := [.slice A d.n cp,.slice B m cq,l]) rfl)
 have B0:=hide (show Below w.heap.size w (w.alloc (.cells #[.slice A d.n cp,.slice B m cq,l] 24)) from (Below.refl _ _).alloc (Nat.le_refl _) _)
 clear hm hb hd hper hE
 go_enter Try.func106,Try.ntmps106
 go_wp2_with fail
 refine (rface_any d HD.out A B cp cq m l h p _ HM.out (HB.out.keep B0.out) hh HPER.out hpN).mono ?_
 rintro e w1 ⟨A5,c5,rfl,own5,hb1⟩
 obtain ⟨gf,rfl⟩:=own_form1 own5 hp0
 have I1:=hide (show INb w [.slice A d.n cp,.slice B m cq,l] gf (Pl.cyc (Pl.nx d) h p) w1 from ⟨X0.out.below hb1,fun i hi => by
  have h2:=OwnN.cell (show OwnN w1 _ gf p c5 (Pl.cyc (Pl.nx d) h p) from own5) (k := i) (by rw [Pl.cyc_len] at hi; exact hi)
  exact h2,B0.out.trans (hb1.mono B0.out.size)⟩)
 clear own5 hb1 X0 B0
 by_cases hp3:p = 3
 ·subst hp3
  have HV:=hide (show (Pl.Per (Pl.nx d) h 3 ∧ ∀ i,i < 3 → ∃ j,j < 6 ∧ Pl.it (Pl.nx d) i h = E j) ↔ ∀ i,i < 3 → fE E (Pl.it (Pl.nx d) i h) 3 = true from ⟨fun h i hi => (fE_iff E _).2 (h.2 i hi),fun h => ⟨HPER.out,fun i hi => (fE_iff E _).1 (h i hi)⟩⟩)
  have HF:=hide (show ∀ i,i < 3 → (Pl.cyc (Pl.nx d) h 3).getD i 0 = Pl.it (Pl.nx d) i h from fun i hi => by
   unfold Pl.cyc
   rw [List.getD_eq_getElem?_getD,List.getElem?_map,List.getElem?_range hi]; rfl)
  have HL:=hide (show (Pl.cyc (Pl.nx d) h 3).length = 3 from Pl.cyc_len _ _ _)
  obtain ⟨F,hF⟩:∃ F,F = Pl.cyc (Pl.nx d) h 3 := ⟨_,rfl⟩
  rw [← hF] at I1 HF HL
  clear hF hpN hp0
  go_wp2_with fail
  go_loopg [8,9,10] 3 (fun g s8 s9 s10 wx => ∃ q:Nat,q + g = 3 ∧ s8 = .int .i64 (q:Int) ∧ (∀ i,i < q → fE E (F.getD i 0) 3 = true) ∧ INb w [.slice A d.n cp,.slice B m cq,l] gf F wx)
  case atStart => exact ⟨0,by omega,rfl,fun i hi => absurd hi (by omega),I1.out⟩
  case round =>
   clear I1
   obtain ⟨q,hkg,rfl,hall,hin⟩:=hrel
   obtain ⟨go1,hgo1⟩:∃ g,g = gk := ⟨_,rfl⟩
   rw [← hgo1] at hkg
   have HGO:=hide hgo1
   clear hgo1
   have HKG:=hide hkg
   have HALL:=hide hall
   have IN:=hide hin
   clear hall hin
   by_cases hq:q < 3
   ·have hqi:(q:Int) < 3:=by omega
    clear hkg
    go_wp2_with fail
    go_loopg [9,10] 3 (fun g s9 s10 wx => ∃ k:Nat,k + g = 3 ∧ s10 = .int .i64 (k:Int) ∧ s9 = .bool (fE E (F.getD q 0) k) ∧ INb w [.slice A d.n cp,.slice B m cq,l] gf F wx)
    case atStart => exact ⟨0,by omega,rfl,rfl,IN.out⟩
    case round =>
     clear IN
     obtain ⟨k,hkg2,rfl,rfl,hin⟩:=hrel
     have HKG2:=hide hkg2
     have IN:=hide hin
     clear hin
     by_cases hk:k < 3
     ·have hki:(k:Int) < (3:Int):=by omega
      have hk0:(0:Int) ≤ (k:Int):=by omega
      have hq0:(0:Int) ≤ (q:Int):=by omega
      have c0:=cell_below (HE.out (2 * k) (by omega)) IN.out.bel
      have c1:=cell_below (HE.out (2 * k + 1) (by omega)) IN.out.bel
      have cf:=IN.out.f q (by rw [HL.out]; exact hq)
      have FS:=hide (fE_s E (F.getD q 0) k)
      obtain ⟨a,ha⟩:∃ a,a = E (2 * k) := ⟨_,rfl⟩
      obtain ⟨b,hb⟩:∃ a,a = E (2 * k + 1) := ⟨_,rfl⟩
      obtain ⟨x,hx⟩:∃ a,a = F.getD q 0 := ⟨_,rfl⟩
      obtain ⟨f,hf⟩:∃ f,f = fE E (F.getD q 0) k := ⟨_,rfl⟩
      rw [← hf,← ha,← hb,← hx] at FS
      rw [← ha] at c0
      rw [← hb] at c1
      rw [← hx] at cf
      rw [← hf]
      rw [show 2 * k = k * 2 by omega] at c0 c1
      have HX:=hide hx
      clear ha hb hx hf hkg2
      go_upto_region 11 with fail
      cases f with
      | true =>
        have FE:=hide (show fE E x (k + 1) = true by rw [FS.out]; rfl)
        go_quiet (fail)
        go_wp2
        go_roundg (gk - 1)
        case measure => have := HKG2.out; omega
        case rel => exact ⟨k + 1,by have := HKG2.out; omega,by go_num,by rw [← HX.out,FE.out],IN.out.drewN _⟩
      | false =>
        by_cases e1:a = x
        ·have t1:((a:Int) == (x:Int)) = true:=by rw [beq_iff_eq]; omega
         have FE:=hide (show fE E x (k + 1) = true by rw [FS.out]; simp [e1])
         clear e1
         go_quiet (fail)
         go_wp2
         go_roundg (gk - 1)
         case measure => have := HKG2.out; omega
         case rel => exact ⟨k + 1,by have := HKG2.out; omega,by go_num,by rw [← HX.out,FE.out],IN.out.drewN _⟩
        ·have t1:((a:Int) == (x:Int)) = false:=by rw [beq_eq_false_iff_ne]; omega
         by_cases e2:b = x
         ·have t2:((b:Int) == (x:Int)) = true:=by rw [beq_iff_eq]; omega
          have FE:=hide (show fE E x (k + 1) = true by rw [FS.out]; simp [e2])
          clear e1 e2
          go_quiet (fail)
          go_wp2
          go_roundg (gk - 1)
          case measure => have := HKG2.out; omega
          case rel => exact ⟨k + 1,by have := HKG2.out; omega,by go_num,by rw [← HX.out,FE.out],IN.out.drewN _⟩
         ·have t2:((b:Int) == (x:Int)) = false:=by rw [beq_eq_false_iff_ne]; omega
          have FE:=hide (show fE E x (k + 1) = false by rw [FS.out]; simp [e1,e2])
          clear e1 e2
          go_quiet (fail)
          go_wp2
          go_roundg (gk - 1)
          case measure => have := HKG2.out; omega
          case rel => exact ⟨k + 1,by have := HKG2.out; omega,by go_num,by rw [← HX.out,FE.out],IN.out.drewN _⟩
     ·have hki:¬ ((k:Int) < (3:Int)):=by omega
      obtain rfl:k = 3 := by omega
      clear hkg2 HKG2
      cases hf:fE E (F.getD q 0) 3 with
      | true =>
        have HFT:=hide hf
        clear hf
        go_wp2_with fail
        go_roundg (go1 - 1)
        case measure => have := HKG.out; have := HGO.out; omega
        case rel => exact ⟨q + 1,by have := HKG.out; omega,by go_num,fun i hi => by
         by_cases e:i = q
         ·rw [e]; exact HFT.out
         ·exact HALL.out i (by omega),IN.out⟩
      | false =>
        have HN:=hide (show ¬ (Pl.Per (Pl.nx d) h 3 ∧ ∀ i,i < 3 → ∃ j,j < 6 ∧ Pl.it (Pl.nx d) i h = E j) from fun h => by
         have:=HV.out.1 h q hq
         rw [← HF.out q hq,hf] at this
         cases this)
        clear hf
        go_wp2_with fail
        go_ret
        exact ⟨ret_bool (Pl.vb_false HN.out).symm,IN.out.bel⟩
   ·have hqi:¬ ((q:Int) < 3):=by omega
    have HY:=hide (show Pl.Per (Pl.nx d) h 3 ∧ ∀ i,i < 3 → ∃ j,j < 6 ∧ Pl.it (Pl.nx d) i h = E j from HV.out.2 fun i hi => by rw [← HF.out i hi]; exact HALL.out i (by omega))
    clear hkg
    go_wp2_with fail
    go_ret
    exact ⟨ret_bool (Pl.vb_true HY.out).symm,IN.out.bel⟩
 ·have HN:=hide (show ¬ (Pl.Per (Pl.nx d) h 3 ∧ ∀ i,i < 3 → ∃ j,j < 6 ∧ Pl.it (Pl.nx d) i h = E j) from fun h => hp3 (per_uniq HPER.out h.1))
  have t1:((p:Int) != 3) = true:=by rw [bne_iff_ne]; omega
  clear hp3
  go_wp2_with fail
  go_ret
  exact ⟨ret_bool (Pl.vb_false HN.out).symm,I1.out.bel⟩
end Go.Proofs.Ytobbepmlmbbamaa
end
