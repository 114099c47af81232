/-
  The texts Wx.
-/
import Derived.Test.YtdgliimmnnhhjaaGreatDoorU13
set_option linter.unusedVariables false
set_option linter.unusedSimpArgs false
section
namespace Go.Proofs.YtdgliimmnnhhjaaGreatDoor
open Go Go.RowKit
attribute [local go_sem ↓] Go.wp_at_zero Go.wp_at_succ
def lnS (d:Pl.Dg)(y:Int):Nat:=if fwd d y then 0 else 2
def th0 (d:Pl.Dg)(x:Int):Nat:=if fwd d x then 3 else 1
def th1 (d:Pl.Dg)(x:Int):Nat:=if fwd d x then 1 else 3
def un0 (d:Pl.Dg)(x y:Int)(ov:Bool):Nat:=if ov then lnS d y else th0 d x
def un1 (d:Pl.Dg)(x y:Int)(ov:Bool):Nat:=if ov then lnS d y else th1 d x
def ov0 (d:Pl.Dg)(x y:Int)(ov:Bool):Nat:=if ov then th0 d x else lnS d y
def ov1 (d:Pl.Dg)(x y:Int)(ov:Bool):Nat:=if ov then th1 d x else lnS d y
def sgn2 (u o:Nat):Int:=if plc 0 u o=3 then 1 else -1
theorem box2 {W:World}{g:Nat}{t:TypeId}{a b:Value}(h:Row W g t [a,b]):W.cell? ⟨g,0,none⟩=some a∧W.cell? ⟨g,1,none⟩=some b∧∀o,W.frozen? ⟨g,o,none⟩=false :=
 ⟨h.cell (i:=0) (by simp),h.cell (i:=1) (by simp),h.free⟩
structure RS (w:World) (x0 x1 x2 y0 y1 y2 y3 y4:Value) (W:World):Prop where
 d:Row W w.heap.size 24 [x0,x1,x2]
 m:Row W (w.heap.size+1) 43 [y0,y1,y2,y3,y4]
 rd:∃vs,Row W (w.heap.size+1+1) 24 vs∧vs.length=3
 ra:∃us,Row W (w.heap.size+1+1+1) 120 us∧us.length=2
 bel:Below w.heap.size w W
section
variable {w:World} {x0 x1 x2 y0 y1 y2 y3 y4:Value} {W W':World}
theorem RS.drew (h:RS w x0 x1 x2 y0 y1 y2 y3 y4 W):RS w x0 x1 x2 y0 y1 y2 y3 y4 W.drew:=⟨h.d,h.m,h.rd,h.ra,h.bel.drew⟩
theorem RS.below (h:RS w x0 x1 x2 y0 y1 y2 y3 y4 W)(hb:Below W.heap.size W W'):RS w x0 x1 x2 y0 y1 y2 y3 y4 W' :=
 let ⟨vs,r1,l1⟩:=h.rd
 let ⟨us,r2,l2⟩:=h.ra
 ⟨h.d.below hb,h.m.below hb,⟨vs,r1.below hb,l1⟩,⟨us,r2.below hb,l2⟩,h.bel.trans (hb.mono h.bel.size)⟩
theorem RS.alloc (h:RS w x0 x1 x2 y0 y1 y2 y3 y4 W)(o:Obj):RS w x0 x1 x2 y0 y1 y2 y3 y4 (W.alloc o):=h.below ((Below.refl _ _).alloc (Nat.le_refl _) o)
theorem RS.big (h:RS w x0 x1 x2 y0 y1 y2 y3 y4 W):w.heap.size+1+1+1<W.heap.size:=let ⟨_,r2,_⟩:=h.ra;r2.lt
theorem RS.far (h:RS w x0 x1 x2 y0 y1 y2 y3 y4 W){g:Nat}(hg:w.heap.size+1+1+1<g)(o:Nat)(v:Value):RS w x0 x1 x2 y0 y1 y2 y3 y4 (W.setCell ⟨g,o,none⟩ v) :=
 let ⟨vs,r1,l1⟩:=h.rd
 let ⟨us,r2,l2⟩:=h.ra
 ⟨h.d.other (by show _≠g;omega) v,h.m.other (by show _≠g;omega) v,⟨vs,r1.other (by show _≠g;omega) v,l1⟩,⟨us,r2.other (by show _≠g;omega) v,l2⟩,h.bel.setCell (by show _≤g;omega) v⟩
end
theorem rs_start (w:World)(x0 x1 x2 y0 y1 y2 y3 y4:Value):RS w x0 x1 x2 y0 y1 y2 y3 y4 ((((w.alloc (.cells #[x0,x1,x2] 24)).alloc (.cells #[y0,y1,y2,y3,y4] 43)).alloc (.cells #[.slice none 0 0,.slice none 0 0,.int .i64 0] 24)).alloc (.cells #[.int .i64 0,.int .i64 0] 120)):=by
 refine ⟨(((row_at (vs:=[x0,x1,x2]) rfl).alloc _).alloc _).alloc _,((row_at (vs:=[y0,y1,y2,y3,y4]) (by simp)).alloc _).alloc _,⟨[.slice none 0 0,.slice none 0 0,.int .i64 0],(row_at (vs:=[.slice none 0 0,.slice none 0 0,.int .i64 0]) (by simp)).alloc _,rfl⟩,⟨[.int .i64 0,.int .i64 0],row_at (vs:=[.int .i64 0,.int .i64 0]) (by simp),rfl⟩,?_⟩
 exact ((((Below.refl _ _).alloc (Nat.le_refl _) _).alloc (by simp) _).alloc (by simp;omega) _).alloc (by simp;omega) _
theorem RS_drewN {w:World}{x0 x1 x2 y0 y1 y2 y3 y4:Value}{W:World}(h:RS w x0 x1 x2 y0 y1 y2 y3 y4 W)(n:Nat):RS w x0 x1 x2 y0 y1 y2 y3 y4 (W.drewN n):=⟨h.d,h.m,h.rd,h.ra,below_drewN h.bel n⟩
theorem Row_drewN {w:World}{g:Nat}{t:TypeId}{vs:List Value}(h:Row w g t vs)(n:Nat):Row (w.drewN n) g t vs:=h
structure RT (w:World) (x0 x1 x2 y0 y1 y2 y3 y4:Value) (gu gs:Nat) (p0 p1 q0 q1:Value) (W:World):Prop where
 rs:RS w x0 x1 x2 y0 y1 y2 y3 y4 W
 u:Row W gu 120 [p0,p1]
 s:Row W gs 120 [q0,q1]
 lu:w.heap.size+1+1+1<gu
 ls:w.heap.size+1+1+1<gs
section
variable {w:World} {x0 x1 x2 y0 y1 y2 y3 y4:Value} {gu gs:Nat} {p0 p1 q0 q1:Value} {W W':World}
theorem RT.drew (h:RT w x0 x1 x2 y0 y1 y2 y3 y4 gu gs p0 p1 q0 q1 W):RT w x0 x1 x2 y0 y1 y2 y3 y4 gu gs p0 p1 q0 q1 W.drew:=⟨h.rs.drew,h.u,h.s,h.lu,h.ls⟩
theorem RT.below (h:RT w x0 x1 x2 y0 y1 y2 y3 y4 gu gs p0 p1 q0 q1 W)(hb:Below W.heap.size W W'):RT w x0 x1 x2 y0 y1 y2 y3 y4 gu gs p0 p1 q0 q1 W':=⟨h.rs.below hb,h.u.below hb,h.s.below hb,h.lu,h.ls⟩
theorem RT.alloc (h:RT w x0 x1 x2 y0 y1 y2 y3 y4 gu gs p0 p1 q0 q1 W)(o:Obj):RT w x0 x1 x2 y0 y1 y2 y3 y4 gu gs p0 p1 q0 q1 (W.alloc o):=h.below ((Below.refl _ _).alloc (Nat.le_refl _) o)
theorem RT.setD (h:RT w x0 x1 x2 y0 y1 y2 y3 y4 gu gs p0 p1 q0 q1 W)(o:Nat)(v:Value):RT w x0 x1 x2 y0 y1 y2 y3 y4 gu gs p0 p1 q0 q1 (W.setCell ⟨w.heap.size+1+1,o,none⟩ v) :=
 let ⟨vs,r1,l1⟩:=h.rs.rd
 let ⟨us,r2,l2⟩:=h.rs.ra
 have a:=h.lu
 have b:=h.ls
 ⟨⟨h.rs.d.other (by show _≠w.heap.size+1+1;omega) v,h.rs.m.other (by show _≠w.heap.size+1+1;omega) v,⟨vs.set o v,r1.set o v,by rw [List.length_set,l1]⟩,⟨us,r2.other (by show _≠w.heap.size+1+1;omega) v,l2⟩,h.rs.bel.setCell (by show _≤w.heap.size+1+1;omega) v⟩,
  h.u.other (by show _≠w.heap.size+1+1;omega) v,h.s.other (by show _≠w.heap.size+1+1;omega) v,h.lu,h.ls⟩
theorem RT.setA (h:RT w x0 x1 x2 y0 y1 y2 y3 y4 gu gs p0 p1 q0 q1 W)(o:Nat)(v:Value):RT w x0 x1 x2 y0 y1 y2 y3 y4 gu gs p0 p1 q0 q1 (W.setCell ⟨w.heap.size+1+1+1,o,none⟩ v) :=
 let ⟨vs,r1,l1⟩:=h.rs.rd
 let ⟨us,r2,l2⟩:=h.rs.ra
 have a:=h.lu
 have b:=h.ls
 ⟨⟨h.rs.d.other (by show _≠w.heap.size+1+1+1;omega) v,h.rs.m.other (by show _≠w.heap.size+1+1+1;omega) v,⟨vs,r1.other (by show _≠w.heap.size+1+1+1;omega) v,l1⟩,⟨us.set o v,r2.set o v,by rw [List.length_set,l2]⟩,h.rs.bel.setCell (by show _≤w.heap.size+1+1+1;omega) v⟩,
  h.u.other (by show _≠w.heap.size+1+1+1;omega) v,h.s.other (by show _≠w.heap.size+1+1+1;omega) v,h.lu,h.ls⟩
theorem RT.all (h:RT w x0 x1 x2 y0 y1 y2 y3 y4 gu gs p0 p1 q0 q1 W):W.cell? ⟨w.heap.size,0,none⟩=some x0∧W.cell? ⟨w.heap.size,1,none⟩=some x1∧W.cell? ⟨w.heap.size,2,none⟩=some x2∧W.cell? ⟨gs,0,none⟩=some q0∧W.cell? ⟨gs,1,none⟩=some q1∧W.cell? ⟨gu,0,none⟩=some p0∧W.cell? ⟨gu,1,none⟩=some p1 ∧
 W.cell? ⟨w.heap.size+1+1,0,none⟩=some (cv W ⟨w.heap.size+1+1,0,none⟩)∧W.cell? ⟨w.heap.size+1+1,1,none⟩=some (cv W ⟨w.heap.size+1+1,1,none⟩)∧W.cell? ⟨w.heap.size+1+1,2,none⟩=some (cv W ⟨w.heap.size+1+1,2,none⟩) ∧
 W.cell? ⟨w.heap.size+1+1+1,0,none⟩=some (cv W ⟨w.heap.size+1+1+1,0,none⟩)∧W.cell? ⟨w.heap.size+1+1+1,1,none⟩=some (cv W ⟨w.heap.size+1+1+1,1,none⟩) ∧
 (∀o,W.frozen? ⟨w.heap.size+1+1,o,none⟩=false)∧(∀o,W.frozen? ⟨w.heap.size+1+1+1,o,none⟩=false)∧RT w x0 x1 x2 y0 y1 y2 y3 y4 gu gs p0 p1 q0 q1 W:=by
 obtain ⟨vs,r1,l1⟩:=h.rs.rd
 obtain ⟨us,r2,l2⟩:=h.rs.ra
 obtain ⟨d0,d1,d2,_⟩:=box3 h.rs.d
 obtain ⟨s0,s1,_⟩:=box2 h.s
 obtain ⟨u0,u1,_⟩:=box2 h.u
 exact ⟨d0,d1,d2,s0,s1,u0,u1,cv_some (r1.cell (i:=0) (by omega)),cv_some (r1.cell (i:=1) (by omega)),cv_some (r1.cell (i:=2) (by omega)),cv_some (r2.cell (i:=0) (by omega)),cv_some (r2.cell (i:=1) (by omega)),r1.free,r2.free,h⟩
end
theorem fin5 {W:World}{gd ga:Nat}{vs us:List Value}(h1:Row W gd 24 vs)(h2:Row W ga 120 us)(l1:vs.length=3)(l2:us.length=2)(hne:gd≠ga)(y0 y1 y2 z0 z1:Value) :
 (((((W.setCell ⟨gd,0,none⟩ y0).setCell ⟨gd,1,none⟩ y1).setCell ⟨gd,2,none⟩ y2).setCell ⟨ga,0,none⟩ z0).setCell ⟨ga,1,none⟩ z1).cell? ⟨gd,0,none⟩=some y0∧(((((W.setCell ⟨gd,0,none⟩ y0).setCell ⟨gd,1,none⟩ y1).setCell ⟨gd,2,none⟩ y2).setCell ⟨ga,0,none⟩ z0).setCell ⟨ga,1,none⟩ z1).cell? ⟨gd,1,none⟩=some y1∧(((((W.setCell ⟨gd,0,none⟩ y0).setCell ⟨gd,1,none⟩ y1).setCell ⟨gd,2,none⟩ y2).setCell ⟨ga,0,none⟩ z0).setCell ⟨ga,1,none⟩ z1).cell? ⟨gd,2,none⟩=some y2 ∧
 (((((W.setCell ⟨gd,0,none⟩ y0).setCell ⟨gd,1,none⟩ y1).setCell ⟨gd,2,none⟩ y2).setCell ⟨ga,0,none⟩ z0).setCell ⟨ga,1,none⟩ z1).cell? ⟨ga,0,none⟩=some z0∧(((((W.setCell ⟨gd,0,none⟩ y0).setCell ⟨gd,1,none⟩ y1).setCell ⟨gd,2,none⟩ y2).setCell ⟨ga,0,none⟩ z0).setCell ⟨ga,1,none⟩ z1).cell? ⟨ga,1,none⟩=some z1:=by
 obtain ⟨a,b,c,rfl⟩:∃a b c,vs=[a,b,c]:=by
  match vs,l1 with
  | [a,b,c],_=>exact ⟨a,b,c,rfl⟩
 obtain ⟨a',b',rfl⟩:∃a b,us=[a,b]:=by
  match us,l2 with
  | [a,b],_=>exact ⟨a,b,rfl⟩
 have r1:=((((h1.set 0 y0).set 1 y1).set 2 y2).other (a:=⟨ga,0,none⟩) hne z0).other (a:=⟨ga,1,none⟩) hne z1
 have r2:=((((h2.other (a:=⟨gd,0,none⟩) (Ne.symm hne) y0).other (a:=⟨gd,1,none⟩) (Ne.symm hne) y1).other (a:=⟨gd,2,none⟩) (Ne.symm hne) y2).set 0 z0).set 1 z1
 exact ⟨r1.cell (i:=0) (by simp),r1.cell (i:=1) (by simp),r1.cell (i:=2) (by simp),r2.cell (i:=0) (by simp),r2.cell (i:=1) (by simp)⟩
theorem own_base {w:World}{base base':Nat}{e:TypeId}{v:Value}{n:Nat}{xs:List Value}(h:w.ownsRow base e 1 v n xs)(hle:base'≤base):w.ownsRow base' e 1 v n xs:=own_keep h (Below.refl _ _) hle
theorem two_ints (W:World)(a b:Int):IntsAt (W.alloc (.cells #[.int .i64 a,.int .i64 b] 3)).drew (some ⟨W.heap.size,0,none⟩) 2 [a,b]:=by
 refine IntsAt.drew ⟨rfl,fun _=>⟨_,0,rfl,fun j u hu=>?_⟩⟩
 have h:=heap_alloc_new W (.cells #[.int .i64 a,.int .i64 b] 3)
 match j,hu with
 | 0,hu=>simp at hu;subst hu;exact (Lib.cell_of_heap h 0).trans rfl
 | 1,hu=>simp at hu;subst hu;exact (Lib.cell_of_heap h 1).trans rfl
def RaisedPost (d:Pl.Dg)(x y:Int)(ov:Bool)(w:World)(e:Ending)(w':World):Prop :=
 ∃ g1 c1 g2 c2 : Nat, e = .returned (.tuple #[.agg #[.slice (some ⟨g1, 0, none⟩) (d.n + 2) c1, .slice (some ⟨g2, 0, none⟩) (4 * d.n + 8) c2, .int .i64 (d.lp : Int)], .agg #[.int .i64 (un0 d x y ov : Nat), .int .i64 (un1 d x y ov : Nat)]]) ∧
   w'.ownsRow w.heap.size 3 1 (.slice (some ⟨g1,0,none⟩) (d.n+2) c1) (d.n+2) ((d.sg++[sgn2 (un0 d x y ov) (ov0 d x y ov),sgn2 (un1 d x y ov) (ov1 d x y ov)]).map (.int .i64))∧OwnN w' w.heap.size g2 (4 * d.n+8) c2 (d.mt++List.replicate 8 0)∧g1≠g2∧Below w.heap.size w w'
set_option maxRecDepth 100000 in
set_option maxHeartbeats 4000000 in
theorem raised_any (d:Pl.Dg)(hd:Pl.Wf d)(A B:Option Addr)(cp cq m:Nat)(k x y sg:Int)(ov:Bool)(w:World)(hm:m=4 * d.n)(hg:DgAt w A B d)(hx:x<4 * (d.n:Int))(hy:y<4 * (d.n:Int)) :
 Calls Tryz.prog 77 #[.agg #[.slice A d.n cp,.slice B m cq,.int .i64 d.lp],.agg #[.int .i64 k,.int .i64 x,.int .i64 y,.int .i64 sg,.bool ov]] w (RaisedPost d x y ov w):=by
 have hn:=hd.few
 have HM:=hide hm
 have HG:=hide hg
 have hm2:m≤256:=by omega
 clear hm hg
 have RS0:=hide (rs_start w (.slice A d.n cp) (.slice B m cq) (.int .i64 (d.lp:Int)) (.int .i64 k) (.int .i64 x) (.int .i64 y) (.int .i64 sg) (.bool ov))
 go_enter Tryz.func77,Tryz.ntmps77
 go_wp2_with fail
 refine (forward_any d A B cp m cq (.int .i64 (d.lp:Int)) y _ hy (by omega) ((HG.out.keep (RS0.out.alloc _).bel).s)).mono ?_
 rintro e w1 ⟨rfl,hb1⟩
 have RS1:=hide ((RS0.out.alloc (.cells #[.int .i64 0,.int .i64 0] 120)).below hb1)
 have L1:=hide (show Row w1 (w.heap.size+1+1+1+1) 120 [.int .i64 0,.int .i64 0] from (row_at (vs:=[.int .i64 0,.int .i64 0]) (by simp)).below hb1)
 clear hb1
 obtain ⟨l0,hl0⟩:∃l0,l0=lnS d y:=⟨_,rfl⟩
 obtain ⟨t0,ht0⟩:∃t0,t0=th0 d x:=⟨_,rfl⟩
 obtain ⟨t1,ht1⟩:∃t1,t1=th1 d x:=⟨_,rfl⟩
 have HL0:=hide hl0
 have HT0:=hide ht0
 have HT1:=hide ht1
 have bl0:l0<4:=by rw [hl0];unfold lnS;split <;> omega
 have bt0:t0<4:=by rw [ht0];unfold th0;split <;> omega
 have bt1:t1<4:=by rw [ht1];unfold th1;split <;> omega
 clear hl0 ht0 ht1
 go_upto_if 17 with fail
 go_cut [18] (fun _ wx=>RS w (.slice A d.n cp) (.slice B m cq) (.int .i64 (d.lp:Int)) (.int .i64 k) (.int .i64 x) (.int .i64 y) (.int .i64 sg) (.bool ov) wx∧Row wx (w.heap.size+1+1+1+1) 120 [.int .i64 (l0:Int),.int .i64 (l0:Int)])
 case first =>
  have hbig:=RS1.out.big
  obtain ⟨a0,a1,a2⟩:=box2 L1.out
  cases hfy:fwd d y with
  | true =>
    have e0:l0=0:=by rw [HL0.out];unfold lnS;rw [if_pos hfy]
    have E0:=hide e0
    clear e0 hfy
    go_wp2_with fail
    go_meet
    exact ⟨RS1.out,by rw [E0.out];exact L1.out⟩
  | false =>
    have e0:l0=2:=by rw [HL0.out];unfold lnS;rw [if_neg (by rw [hfy];decide)]
    have E0:=hide e0
    clear e0 hfy
    go_wp2_with fail
    go_meet
    exact ⟨(RS1.out.far (by omega) _ _).far (by omega) _ _,by rw [E0.out];exact (L1.out.set 0 (.int .i64 2)).set 1 (.int .i64 2)⟩
 case rest =>
  obtain ⟨hrs,hl⟩:=hcut
  have RS2:=hide hrs
  have L2:=hide hl
  clear hrs hl RS1 L1 RS0
  obtain ⟨f0,f1,f2,f3⟩:=box3 RS2.out.d
  obtain ⟨m0,m1,m2',m3,m4,m5⟩:=box5 RS2.out.m
  have hbg:=RS2.out.big
  have hlt:=L2.out.lt
  have q1:w.heap.size<wc.heap.size:=by omega
  have q2:w.heap.size+1<wc.heap.size:=by omega
  go_wp2_with fail
  refine (forward_any d A B cp m cq (.int .i64 (d.lp:Int)) x _ hx (by omega) ((HG.out.keep (RS2.out.alloc _).bel).s)).mono ?_
  rintro e w2 ⟨rfl,hb2⟩
  have RS3:=hide ((RS2.out.alloc (.cells #[.int .i64 3,.int .i64 1] 120)).below hb2)
  have L3:=hide ((L2.out.alloc (.cells #[.int .i64 3,.int .i64 1] 120)).below hb2)
  have T3:=hide (show Row w2 wc.heap.size 120 [.int .i64 3,.int .i64 1] from (row_at (vs:=[.int .i64 3,.int .i64 1]) rfl).below hb2)
  clear hb2 f0 f1 f2 f3 m0 m1 m2' m3 m4 m5
  obtain ⟨gt,hgt⟩:∃gt,gt=wc.heap.size:=⟨_,rfl⟩
  rw [←hgt] at T3 hbg hlt ⊢
  clear hgt q1 q2 RS2 L2
  go_upto_if 24 with fail
  go_cut [25] (fun _ wx=>RS w (.slice A d.n cp) (.slice B m cq) (.int .i64 (d.lp:Int)) (.int .i64 k) (.int .i64 x) (.int .i64 y) (.int .i64 sg) (.bool ov) wx∧Row wx (w.heap.size+1+1+1+1) 120 [.int .i64 (l0:Int),.int .i64 (l0:Int)]∧Row wx gt 120 [.int .i64 (t0:Int),.int .i64 (t1:Int)])
  case first =>
   obtain ⟨a0,a1,a2⟩:=box2 T3.out
   cases hfx:fwd d x with
   | true =>
     have e0:t0=3:=by rw [HT0.out];unfold th0;rw [if_pos hfx]
     have e1:t1=1:=by rw [HT1.out];unfold th1;rw [if_pos hfx]
     have E0:=hide e0
     have E1:=hide e1
     clear e0 e1 hfx
     go_wp2_with fail
     go_meet
     exact ⟨RS3.out,L3.out,by rw [E0.out,E1.out];exact T3.out⟩
   | false =>
     have e0:t0=1:=by rw [HT0.out];unfold th0;rw [if_neg (by rw [hfx];decide)]
     have e1:t1=3:=by rw [HT1.out];unfold th1;rw [if_neg (by rw [hfx];decide)]
     have E0:=hide e0
     have E1:=hide e1
     clear e0 e1 hfx
     go_wp2_with fail
     go_meet
     exact ⟨(RS3.out.far (by omega) _ _).far (by omega) _ _,(L3.out.other (by show _≠gt;omega) _).other (by show _≠gt;omega) _,by rw [E0.out,E1.out];exact (T3.out.set 0 (.int .i64 1)).set 1 (.int .i64 3)⟩
  case rest =>
   obtain ⟨hrs,hl,ht⟩:=hcut
   have RS4:=hide hrs
   have L4:=hide hl
   have T4:=hide ht
   clear hrs hl ht RS3 L3 T3
   go_upto_region 7 with fail
   obtain ⟨gl,hgl⟩:∃gl,gl=w.heap.size+1+1+1+1:=⟨_,rfl⟩
   rw [←hgl] at L4 hlt ⊢
   have hgl2:w.heap.size+1+1+1<gl:=by omega
   have hgtl:gt≠gl:=by omega
   clear hgl
   obtain ⟨a0,a1,a2⟩:=box2 L4.out
   obtain ⟨b0,b1,b2⟩:=box2 T4.out
   have ll:=L4.out.lt
   have lt:=T4.out.lt
   go_cut [8,9] (fun s8 s9 wx=>∃gu go:Nat,s8 = .pointer (some ⟨gu,0,none⟩)∧s9 = .pointer (some ⟨go,0,none⟩)∧RS w (.slice A d.n cp) (.slice B m cq) (.int .i64 (d.lp:Int)) (.int .i64 k) (.int .i64 x) (.int .i64 y) (.int .i64 sg) (.bool ov) wx∧Row wx gl 120 [.int .i64 (l0:Int),.int .i64 (l0:Int)]∧Row wx gt 120 [.int .i64 (t0:Int),.int .i64 (t1:Int)]∧Row wx gu 120 [.int .i64 (t0:Int),.int .i64 (t1:Int)]∧Row wx go 120 [.int .i64 (l0:Int),.int .i64 (l0:Int)]∧gl<gu∧gt<gu∧gl<go∧gt<go∧gu≠go)
   case first =>
    go_region
    all_goals (go_wp2_with fail;go_meet)
    ·exact ⟨wc.heap.size,wc.heap.size+1,rfl,rfl,((RS4.out.alloc _).alloc _).drew,((L4.out.alloc _).alloc _).drew,((T4.out.alloc _).alloc _).drew,((row_at (vs:=[.int .i64 (t0:Int),.int .i64 (t1:Int)]) rfl).alloc _).drew,(row_at (vs:=[.int .i64 (l0:Int),.int .i64 (l0:Int)]) (by simp)).drew,by omega,by omega,by omega,by omega,by omega⟩
    ·exact ⟨wc.heap.size+1,wc.heap.size,rfl,rfl,((RS4.out.alloc _).alloc _).drew,((L4.out.alloc _).alloc _).drew,((T4.out.alloc _).alloc _).drew,(row_at (vs:=[.int .i64 (t0:Int),.int .i64 (t1:Int)]) (by simp)).drew,((row_at (vs:=[.int .i64 (l0:Int),.int .i64 (l0:Int)]) rfl).alloc _).drew,by omega,by omega,by omega,by omega,by omega⟩
   case rest =>
    obtain ⟨gu,go,rfl,rfl,hrs,hl,ht,hu,ho,i1,i2,i3,i4,i5⟩:=hcut
    have RS5:=hide hrs
    have L5:=hide hl
    have T5:=hide ht
    have U5:=hide hu
    have O5:=hide ho
    clear hrs hl ht hu ho a0 a1 a2 b0 b1 b2 RS4 L4 T4
    obtain ⟨u0,hu0⟩:∃u,u=un0 d x y ov:=⟨_,rfl⟩
    obtain ⟨u1,hu1⟩:∃u,u=un1 d x y ov:=⟨_,rfl⟩
    obtain ⟨o0,ho0⟩:∃u,u=ov0 d x y ov:=⟨_,rfl⟩
    obtain ⟨o1,ho1⟩:∃u,u=ov1 d x y ov:=⟨_,rfl⟩
    have U0:=hide hu0
    have U1:=hide hu1
    have O0:=hide ho0
    have O1:=hide ho1
    clear hu0 hu1 ho0 ho1
    obtain ⟨m0,m1,m2',m3,m4,m5⟩:=box5 RS5.out.m
    go_upto_if 29 with fail
    go_cut [30,31] (fun _ _ wx=>RS w (.slice A d.n cp) (.slice B m cq) (.int .i64 (d.lp:Int)) (.int .i64 k) (.int .i64 x) (.int .i64 y) (.int .i64 sg) (.bool ov) wx∧Row wx gu 120 [.int .i64 (u0:Int),.int .i64 (u1:Int)]∧Row wx go 120 [.int .i64 (o0:Int),.int .i64 (o1:Int)])
    case first =>
     clear m0 m1 m2' m3 m4 m5
     obtain ⟨a0,a1,a2⟩:=box2 L5.out
     obtain ⟨b0,b1,b2⟩:=box2 T5.out
     obtain ⟨c0,c1,c2⟩:=box2 U5.out
     obtain ⟨e0,e1,e2⟩:=box2 O5.out
     have z1:gl≠gu:=by omega
     have z2:gt≠gu:=by omega
     have z3:gl≠go:=by omega
     have z4:gt≠go:=by omega
     have z5:go≠gu:=by omega
     cases ov with
     | true =>
       have V:=hide (show u0=l0∧u1=l0∧o0=t0∧o1=t1 from ⟨by rw [U0.out,HL0.out];rfl,by rw [U1.out,HL0.out];rfl,by rw [O0.out,HT0.out];rfl,by rw [O1.out,HT1.out];rfl⟩)
       go_wp2_with fail
       go_region
       all_goals (go_wp2_with fail;go_meet)
       all_goals exact ⟨((((RS5.out.far (by omega) _ _).far (by omega) _ _).far (by omega) _ _).far (by omega) _ _).drew,by rw [V.out.1,V.out.2.1];exact ((((U5.out.set 0 (.int .i64 (l0:Int))).set 1 (.int .i64 (l0:Int))).other (by show _≠go;omega) _).other (by show _≠go;omega) _).drew,by rw [V.out.2.2.1,V.out.2.2.2];exact ((((O5.out.other (by show _≠gu;omega) _).other (by show _≠gu;omega) _).set 0 (.int .i64 (t0:Int))).set 1 (.int .i64 (t1:Int))).drew⟩
     | false =>
       have V:=hide (show u0=t0∧u1=t1∧o0=l0∧o1=l0 from ⟨by rw [U0.out,HT0.out];rfl,by rw [U1.out,HT1.out];rfl,by rw [O0.out,HL0.out];rfl,by rw [O1.out,HL0.out];rfl⟩)
       go_wp2_with fail
       go_meet
       exact ⟨RS5.out,by rw [V.out.1,V.out.2.1];exact U5.out,by rw [V.out.2.2.1,V.out.2.2.2];exact O5.out⟩
    case rest =>
     obtain ⟨hrs,hu,ho⟩:=hcut
     have RS6:=hide hrs
     have U6:=hide hu
     have O6:=hide ho
     clear hrs hu ho RS5 L5 T5 U5 O5
     have u4:u0<4∧u1<4∧o0<4∧o1<4:=by
      rw [U0.out,U1.out,O0.out,O1.out]
      unfold un0 un1 ov0 ov1
      rw [←HL0.out,←HT0.out,←HT1.out]
      cases ov <;> simp <;> omega
     obtain ⟨v0,v1,v2,v3⟩:=u4
     have hbu:=U6.out.lt
     have hbo:=O6.out.lt
     have RS7:=hide (RS6.out.alloc (.cells #[.int .i64 0,.int .i64 0] 120))
     have U7:=hide (U6.out.alloc (.cells #[.int .i64 0,.int .i64 0] 120))
     have O7:=hide (O6.out.alloc (.cells #[.int .i64 0,.int .i64 0] 120))
     have S7:=hide (show Row (wc.alloc (.cells #[.int .i64 0,.int .i64 0] 120)) wc.heap.size 120 [.int .i64 0,.int .i64 0] from row_at (vs:=[.int .i64 0,.int .i64 0]) rfl)
     go_wp2_with fail
     obtain ⟨gs,hgs⟩:∃gs,gs=wc.heap.size:=⟨_,rfl⟩
     rw [←hgs] at S7 hbu hbo ⊢
     clear hgs RS6 U6 O6
     go_loopg [32] 2 (fun g i wx=>∃k':Nat,k'+g=2∧i = .int .i64 k'∧RS w (.slice A d.n cp) (.slice B m cq) (.int .i64 (d.lp:Int)) (.int .i64 k) (.int .i64 x) (.int .i64 y) (.int .i64 sg) (.bool ov) wx∧Row wx gu 120 [.int .i64 (u0:Int),.int .i64 (u1:Int)]∧Row wx go 120 [.int .i64 (o0:Int),.int .i64 (o1:Int)]∧Row wx gs 120 [.int .i64 (if 0<k' then sgn2 u0 o0 else 0),.int .i64 (if 1<k' then sgn2 u1 o1 else 0)])
     case atStart=>exact ⟨0,rfl,rfl,RS7.out,U7.out,O7.out,by simpa using S7.out⟩
     case round =>
      clear RS7 U7 O7 S7
      obtain ⟨k',hkg,rfl,hrs,hu,ho,hs⟩:=hrel
      have HKG:=hide hkg
      have RG:=hide hrs
      have UG:=hide hu
      have OG:=hide ho
      have hk4:k'=0∨k'=1∨k'=2:=by omega
      clear hkg hrs hu ho
      rcases hk4 with rfl | rfl | rfl
      all_goals
       simp only [Nat.lt_irrefl,Nat.not_lt_zero,Nat.zero_lt_one,show (0:Nat)<2 by omega,show (1:Nat)<2 by omega,show ¬(1:Nat)<0 by omega,if_true,if_false] at hs
       have SG:=hide hs
       clear hs
      ·obtain ⟨s0,s1,s2⟩:=box2 SG.out
       obtain ⟨c0,c1,c2⟩:=box2 UG.out
       obtain ⟨e0,e1,e2⟩:=box2 OG.out
       have z6:gu≠gs:=by omega
       have z7:go≠gs:=by omega
       go_upto_region 15 with fail
       go_quiet ((go_at_call 79;exact Calls.quiet_of_same (place_i 0 (u0:Int) (o0:Int) _ (by omega) (by omega) (by omega))))
       have ep:(plc (0:Int).toNat (u0:Int).toNat (o0:Int).toNat)=plc 0 u0 o0:=by rw [Int.toNat_natCast,Int.toNat_natCast];rfl
       rw [ep]
       have RSn:=hide (RS_drewN (RG.out.far (g:=gs) (by omega) 0 (.int .i64 (-1))) nq)
       have Un:=hide (Row_drewN (UG.out.other (a:=⟨gs,0,none⟩) z6 (.int .i64 (-1))) nq)
       have On:=hide (Row_drewN (OG.out.other (a:=⟨gs,0,none⟩) z7 (.int .i64 (-1))) nq)
       have Sn:=hide (Row_drewN (SG.out.set 0 (.int .i64 (-1))) nq)
       clear ep s0 s1 s2 c0 c1 c2 e0 e1 e2 z6 z7
       obtain ⟨Wn,hWn⟩:∃Wn,Wn=(wr.setCell ⟨gs,0,none⟩ (.int .i64 (-1))).drewN nq:=⟨_,rfl⟩
       rw [←hWn] at RSn Un On Sn ⊢
       clear hWn
       obtain ⟨pp,hpp⟩:∃pp,pp=plc 0 u0 o0:=⟨_,rfl⟩
       rw [←hpp]
       have HPP:=hide hpp
       clear hpp
       obtain ⟨s0,s1,s2⟩:=box2 Sn.out
       by_cases h3:pp=3
       ·have t3:((pp:Int) == 3)=true:=by rw [beq_iff_eq];omega
        have HS3:=hide (show sgn2 u0 o0=1 by unfold sgn2;rw [←HPP.out,if_pos h3])
        clear h3
        go_wp2_with fail
        go_roundg 1
        case measure=>have:=HKG.out;omega
        case rel=>exact ⟨1,rfl,by go_num,RSn.out.far (by omega) _ _,Un.out.other (by show _≠gs;omega) _,On.out.other (by show _≠gs;omega) _,by simpa [HS3.out] using Sn.out.set 0 (.int .i64 1)⟩
       ·have t3:((pp:Int) == 3)=false:=by rw [beq_eq_false_iff_ne];omega
        have HS3:=hide (show sgn2 u0 o0 = -1 by unfold sgn2;rw [←HPP.out,if_neg h3])
        clear h3
        go_wp2_with fail
        go_roundg 1
        case measure=>have:=HKG.out;omega
        case rel=>exact ⟨1,rfl,by go_num,RSn.out,Un.out,On.out,by simpa [HS3.out] using Sn.out⟩
      ·obtain ⟨s0,s1,s2⟩:=box2 SG.out
       obtain ⟨c0,c1,c2⟩:=box2 UG.out
       obtain ⟨e0,e1,e2⟩:=box2 OG.out
       have z6:gu≠gs:=by omega
       have z7:go≠gs:=by omega
       go_upto_region 15 with fail
       go_quiet ((go_at_call 79;exact Calls.quiet_of_same (place_i 0 (u1:Int) (o1:Int) _ (by omega) (by omega) (by omega))))
       have ep:(plc (0:Int).toNat (u1:Int).toNat (o1:Int).toNat)=plc 0 u1 o1:=by rw [Int.toNat_natCast,Int.toNat_natCast];rfl
       rw [ep]
       have RSn:=hide (RS_drewN (RG.out.far (g:=gs) (by omega) 1 (.int .i64 (-1))) nq)
       have Un:=hide (Row_drewN (UG.out.other (a:=⟨gs,1,none⟩) z6 (.int .i64 (-1))) nq)
       have On:=hide (Row_drewN (OG.out.other (a:=⟨gs,1,none⟩) z7 (.int .i64 (-1))) nq)
       have Sn:=hide (Row_drewN (SG.out.set 1 (.int .i64 (-1))) nq)
       clear ep s0 s1 s2 c0 c1 c2 e0 e1 e2 z6 z7
       obtain ⟨Wn,hWn⟩:∃Wn,Wn=(wr.setCell ⟨gs,1,none⟩ (.int .i64 (-1))).drewN nq:=⟨_,rfl⟩
       rw [←hWn] at RSn Un On Sn ⊢
       clear hWn
       obtain ⟨pp,hpp⟩:∃pp,pp=plc 0 u1 o1:=⟨_,rfl⟩
       rw [←hpp]
       have HPP:=hide hpp
       clear hpp
       obtain ⟨s0,s1,s2⟩:=box2 Sn.out
       by_cases h3:pp=3
       ·have t3:((pp:Int) == 3)=true:=by rw [beq_iff_eq];omega
        have HS3:=hide (show sgn2 u1 o1=1 by unfold sgn2;rw [←HPP.out,if_pos h3])
        clear h3
        go_wp2_with fail
        go_roundg 0
        case measure=>have:=HKG.out;omega
        case rel=>exact ⟨2,rfl,by go_num,RSn.out.far (by omega) _ _,Un.out.other (by show _≠gs;omega) _,On.out.other (by show _≠gs;omega) _,by simpa [HS3.out] using Sn.out.set 1 (.int .i64 1)⟩
       ·have t3:((pp:Int) == 3)=false:=by rw [beq_eq_false_iff_ne];omega
        have HS3:=hide (show sgn2 u1 o1 = -1 by unfold sgn2;rw [←HPP.out,if_neg h3])
        clear h3
        go_wp2_with fail
        go_roundg 0
        case measure=>have:=HKG.out;omega
        case rel=>exact ⟨2,rfl,by go_num,RSn.out,Un.out,On.out,by simpa [HS3.out] using Sn.out⟩
      ·go_wp2_with fail
       obtain ⟨s0,hs0⟩:∃s0,s0=sgn2 u0 o0:=⟨_,rfl⟩
       obtain ⟨s1,hs1⟩:∃s1,s1=sgn2 u1 o1:=⟨_,rfl⟩
       rw [←hs0,←hs1] at SG
       have HS0:=hide hs0
       have HS1:=hide hs1
       clear hs0 hs1
       have RTG:=hide (show RT w (.slice A d.n cp) (.slice B m cq) (.int .i64 (d.lp:Int)) (.int .i64 k) (.int .i64 x) (.int .i64 y) (.int .i64 sg) (.bool ov) gu gs (.int .i64 (u0:Int)) (.int .i64 (u1:Int)) (.int .i64 s0) (.int .i64 s1) wr from ⟨RG.out,UG.out,SG.out,by omega,by omega⟩)
       have HGG:=hide (show DgAt (wr.alloc (.cells #[.int .i64 s0,.int .i64 s1] 3)).drew A B d from (HG.out.keep RG.out.bel).keep (((Below.refl _ _).alloc (Nat.le_refl _) _).drew))
       have HII:=hide (two_ints wr s0 s1)
       clear RG UG OG SG
       go_region_held3 (fun w'=>w'.cell? ⟨w.heap.size,0,none⟩=some (.slice A d.n cp)∧w'.cell? ⟨w.heap.size,1,none⟩=some (.slice B m cq)∧w'.cell? ⟨w.heap.size,2,none⟩=some (.int .i64 (d.lp:Int))∧w'.cell? ⟨gs,0,none⟩=some (.int .i64 s0)∧w'.cell? ⟨gs,1,none⟩=some (.int .i64 s1)∧w'.cell? ⟨gu,0,none⟩=some (.int .i64 (u0:Int))∧w'.cell? ⟨gu,1,none⟩=some (.int .i64 (u1:Int)) ∧
        w'.cell? ⟨w.heap.size+1+1,0,none⟩=some (cv w' ⟨w.heap.size+1+1,0,none⟩)∧w'.cell? ⟨w.heap.size+1+1,1,none⟩=some (cv w' ⟨w.heap.size+1+1,1,none⟩)∧w'.cell? ⟨w.heap.size+1+1,2,none⟩=some (cv w' ⟨w.heap.size+1+1,2,none⟩) ∧
        w'.cell? ⟨w.heap.size+1+1+1,0,none⟩=some (cv w' ⟨w.heap.size+1+1+1,0,none⟩)∧w'.cell? ⟨w.heap.size+1+1+1,1,none⟩=some (cv w' ⟨w.heap.size+1+1+1,1,none⟩) ∧
        (∀o,w'.frozen? ⟨w.heap.size+1+1,o,none⟩=false)∧(∀o,w'.frozen? ⟨w.heap.size+1+1+1,o,none⟩=false)∧RT w (.slice A d.n cp) (.slice B m cq) (.int .i64 (d.lp:Int)) (.int .i64 k) (.int .i64 x) (.int .i64 y) (.int .i64 sg) (.bool ov) gu gs (.int .i64 (u0:Int)) (.int .i64 (u1:Int)) (.int .i64 s0) (.int .i64 s1) w')
        ((go_split_ands;refine RT.all ?_;(repeat (first | (with_reducible assumption) | (with_reducible exact RTG.out) | (with_reducible refine RT.setD ?_ _ _) | (with_reducible refine RT.setA ?_ _ _) | (with_reducible refine RT.alloc ?_ _) | (with_reducible refine RT.drew ?_) | (with_reducible refine RT.below ?_ hb6)))))
        (first
          | (go_at_call 70
             refine Calls.mono (grown_any d A B cp cq 2 2 wr.heap.size m 8 [s0,s1] _ HM.out rfl ?_ ?_ (by omega) (by omega) (by omega)) ?_
             ·exact HGG.out
             ·exact HII.out
             rintro e w6 ⟨g1,c1,g2,c2,rfl,own1,own2,hne,hb6⟩
             have OWN1:=hide own1
             have OWN2:=hide own2
             clear own1 own2))
       all_goals
        have RT6:=hide (show RT w (.slice A d.n cp) (.slice B m cq) (.int .i64 (d.lp:Int)) (.int .i64 k) (.int .i64 x) (.int .i64 y) (.int .i64 sg) (.bool ov) gu gs (.int .i64 (u0:Int)) (.int .i64 (u1:Int)) (.int .i64 s0) (.int .i64 s1) w6 from by
         repeat (first | (with_reducible assumption) | (with_reducible exact RTG.out) | (with_reducible refine RT.alloc ?_ _) | (with_reducible refine RT.drew ?_) | (with_reducible refine RT.below ?_ hb6)))
        go_wp2
        obtain ⟨vs6,r6,l6⟩:=RT6.out.rs.rd
        obtain ⟨us6,t6,k6⟩:=RT6.out.rs.ra
        have hbw:=RTG.out.rs.big
        refine bodyPost_ret (v := .tuple #[.agg #[.slice (some ⟨g1,0,none⟩) (d.n+2) c1,.slice (some ⟨g2,0,none⟩) (m+8) c2,.int .i64 (d.lp:Int)],.agg #[.int .i64 (u0:Int),.int .i64 (u1:Int)]]) ?_ rfl ?_
        ·obtain ⟨e0,e1,e2,e3,e4⟩:=fin5 r6 t6 l6 k6 (by omega) (.slice (some ⟨g1,0,none⟩) (d.n+2) c1) (.slice (some ⟨g2,0,none⟩) (m+8) c2) (.int .i64 (d.lp:Int)) (.int .i64 (u0:Int)) (.int .i64 (u1:Int))
         simp [results,Tryz.results77,go_sem,e0,e1,e2,e3,e4]
        ·have hbase:w.heap.size+1+1+1<(wr.alloc (.cells #[.int .i64 s0,.int .i64 s1] 3)).drew.heap.size:=by simp;omega
         refine ⟨g1,c1,g2,c2,?_,?_,?_,hne,?_⟩
         ·rw [←U0.out,←U1.out,HM.out]
         ·rw [←U0.out,←U1.out,←O0.out,←O1.out,←HS0.out,←HS1.out]
          exact own_base (ownsRow_setCell_below (ownsRow_setCell_below (ownsRow_setCell_below (ownsRow_setCell_below (ownsRow_setCell_below OWN1.out (by show w.heap.size+1+1<_;omega) _) (by show w.heap.size+1+1<_;omega) _) (by show w.heap.size+1+1<_;omega) _) (by show w.heap.size+1+1+1<_;omega) _) (by show w.heap.size+1+1+1<_;omega) _) (by omega)
         ·rw [←HM.out]
          exact own_base (ownsRow_setCell_below (ownsRow_setCell_below (ownsRow_setCell_below (ownsRow_setCell_below (ownsRow_setCell_below OWN2.out (by show w.heap.size+1+1<_;omega) _) (by show w.heap.size+1+1<_;omega) _) (by show w.heap.size+1+1<_;omega) _) (by show w.heap.size+1+1+1<_;omega) _) (by show w.heap.size+1+1+1<_;omega) _) (by omega)
         ·exact ((((RT6.out.rs.bel.setCell (by show _≤w.heap.size+1+1;omega) _).setCell (by show _≤w.heap.size+1+1;omega) _).setCell (by show _≤w.heap.size+1+1;omega) _).setCell (by show _≤w.heap.size+1+1+1;omega) _).setCell (by show _≤w.heap.size+1+1+1;omega) _
end Go.Proofs.YtdgliimmnnhhjaaGreatDoor
end
