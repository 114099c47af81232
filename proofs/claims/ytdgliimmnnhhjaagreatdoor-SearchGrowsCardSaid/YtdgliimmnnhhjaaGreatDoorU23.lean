/-
  The texts Wz.
-/
import Derived.Test.YtdgliimmnnhhjaaGreatDoorU16
import Derived.Test.YtdgliimmnnhhjaaGreatDoorU18
import Derived.Test.YtdgliimmnnhhjaaGreatDoorU21
set_option linter.unusedVariables false
set_option linter.unusedSimpArgs false
section
namespace Go.Proofs.YtdgliimmnnhhjaaGreatDoor
open Go Go.RowKit
attribute [local go_sem ↓] Go.wp_at_zero Go.wp_at_succ
theorem RowT.drew {w:World}{t:TypeId}{A:Option Addr}{n:Nat}{xs:List Value}(h:RowT w t A n xs):RowT w.drew t A n xs:=h
structure PB (w:World) (s5 m5:List Value) (W:World):Prop where
 s:Row W w.heap.size 91 s5
 m:Row W (w.heap.size+1) 43 m5
 rd:∃vs,Row W (w.heap.size+1+1) 24 vs∧vs.length=3
 rm:∃us,Row W (w.heap.size+1+1+1) 43 us∧us.length=5
 bel:Below w.heap.size w W
section
variable {w W W':World} {s5 m5:List Value}
theorem PB.drew (h:PB w s5 m5 W):PB w s5 m5 W.drew:=⟨h.s,h.m,h.rd,h.rm,h.bel.drew⟩
theorem PB.below (h:PB w s5 m5 W)(hb:Below W.heap.size W W'):PB w s5 m5 W' :=
 let ⟨vs,r1,l1⟩:=h.rd
 let ⟨us,r2,l2⟩:=h.rm
 ⟨h.s.below hb,h.m.below hb,⟨vs,r1.below hb,l1⟩,⟨us,r2.below hb,l2⟩,h.bel.trans (hb.mono h.bel.size)⟩
theorem PB.alloc (h:PB w s5 m5 W)(o:Obj):PB w s5 m5 (W.alloc o):=h.below ((Below.refl _ _).alloc (Nat.le_refl _) o)
theorem PB.big (h:PB w s5 m5 W):w.heap.size+1+1+1<W.heap.size:=let ⟨_,r2,_⟩:=h.rm;r2.lt
theorem PB.start (w:World)(a b c d e y0 y1 y2 y3 y4:Value):PB w [a,b,c,d,e] [y0,y1,y2,y3,y4] ((((w.alloc (.cells #[a,b,c,d,e] 91)).alloc (.cells #[y0,y1,y2,y3,y4] 43)).alloc (.cells #[.slice none 0 0,.slice none 0 0,.int .i64 0] 24)).alloc (.cells #[.int .i64 0,.int .i64 0,.int .i64 0,.int .i64 0,.bool false] 43)):=by
 refine ⟨(((row_at (vs:=[a,b,c,d,e]) rfl).alloc _).alloc _).alloc _,((row_at (vs:=[y0,y1,y2,y3,y4]) (by simp)).alloc _).alloc _,⟨[.slice none 0 0,.slice none 0 0,.int .i64 0],(row_at (vs:=[.slice none 0 0,.slice none 0 0,.int .i64 0]) (by simp)).alloc _,rfl⟩,⟨[.int .i64 0,.int .i64 0,.int .i64 0,.int .i64 0,.bool false],row_at (vs:=[.int .i64 0,.int .i64 0,.int .i64 0,.int .i64 0,.bool false]) (by simp),rfl⟩,?_⟩
 exact ((((Below.refl _ _).alloc (Nat.le_refl _) _).alloc (by simp) _).alloc (by simp;omega) _).alloc (by simp;omega) _
end
section
variable {w:World} {gd gn gr gf g1 c1 n1 g2 c2 n2 base n u0 u1:Nat} {s5 m5 dv ss:List Value} {lpr:Int} {mt:List Nat} {W W2:World}
end
def pP (d:Pl.Dg)(x y:Int)(ov:Bool)(t:Nat):Nat:=plc d.n (un0 d x y ov) t
def pQ (d:Pl.Dg)(x y:Int)(ov:Bool)(t:Nat):Nat:=plc (d.n+1) (un1 d x y ov) t
def pk0 (d:Pl.Dg)(x y:Int)(ov:Bool):List Nat:=jn (jn (d.mt++List.replicate 8 0) (pP d x y ov 1) (pQ d x y ov 1)) (pQ d x y ov 2) (pP d x y ov 0)
def pkM (d:Pl.Dg)(x y sg:Int)(ov:Bool):List Nat :=
 if sg≠0∧x<0 then jn (jn (pk0 d x y ov) (pQ d x y ov 3) (pQ d x y ov 0)) (pP d x y ov 2) (pP d x y ov 3)
 else if sg=1 then jn (jn (jn (pk0 d x y ov) x.toNat (pP d x y ov 3)) (pQ d x y ov 3) (pQ d x y ov 0)) (pP d x y ov 2) (d.m x.toNat)
 else if sg = -1 then jn (jn (jn (pk0 d x y ov) x.toNat (pQ d x y ov 0)) (pP d x y ov 2) (pP d x y ov 3)) (pQ d x y ov 3) (d.m x.toNat)
 else leadM d (leadM d (pk0 d x y ov) y (pQ d x y ov 0) (pP d x y ov 2)) x (pP d x y ov 3) (pQ d x y ov 3)
def pkL (d:Pl.Dg)(x y sg:Int):Int:=if sg≠0∧x<0 then (d.lp:Int) - 1 else if sg=0 then (if x<0 then (if y<0 then (d.lp:Int) - 1 else d.lp) - 1 else (if y<0 then (d.lp:Int) - 1 else d.lp)) else d.lp
def pkD (d:Pl.Dg)(x y sg:Int)(ov:Bool):Pl.Dg:=⟨d.sg++[sgn2 (un0 d x y ov) (ov0 d x y ov),sgn2 (un1 d x y ov) (ov1 d x y ov)],pkM d x y sg ov,(pkL d x y sg).toNat⟩
def PokePost (d:Pl.Dg)(F P:List Nat)(x y sg:Int)(ov:Bool)(w:World)(e:Ending)(w':World):Prop :=
 (pkC d F P x y sg≠0→ResErr (pkC d F P x y sg) e)∧(pkC d F P x y sg=0→ResOk (pkD d x y sg ov) ⟨4,d.n,d.n+1,0,false⟩ e w')∧Below w.heap.size w w'
set_option maxRecDepth 100000 in
set_option maxHeartbeats 4000000 in
theorem poke_any (d:Pl.Dg)(hd:Pl.Wf d)(F P:List Nat)(A B L R:Option Addr)(cp cq cl cr m:Nat)(k x y sg:Int)(ov:Bool)(w:World)(hm:m=4 * d.n)(hs:ShAt w A B L R d F P)(hx:-2≤x∧x<4 * d.n)(hy:-2≤y∧y<4 * d.n)
 (hsg:sg=0∨sg=1∨sg = -1) (hneg:sg = -1→0≤x) :
 Calls Tryz.prog 45 #[sheetV A B L R d.n m d.lp cp cq cl cr,.agg #[.int .i64 k,.int .i64 x,.int .i64 y,.int .i64 sg,.bool ov]] w (PokePost d F P x y sg ov w):=by
 unfold sheetV
 have hn:=hd.few
 have hlp:=hd.lp
 have HM:=hide hm
 have HS:=hide hs
 have hm2:m≤256:=by omega
 clear hm hs
 have PB0:=hide (PB.start w (.slice A d.n cp) (.slice B m cq) (.int .i64 (d.lp:Int)) (.slice L m cl) (.slice R d.n cr) (.int .i64 k) (.int .i64 x) (.int .i64 y) (.int .i64 sg) (.bool ov))
 go_enter Tryz.func45,Tryz.ntmps45
 go_wp2_with fail
 refine (pokeable_any d F P A B L R cp cq cl cr m k x y sg ov _ HM.out (HS.out.keep PB0.out.bel) hn hlp hx hy).mono ?_
 rintro e w1 ⟨rfl,hb1⟩
 have PB1:=hide (PB0.out.below hb1)
 clear hb1 PB0
 by_cases hC:pkC d F P x y sg=0
 ·have HC:=hide hC
  rw [hC]
  clear hC
  obtain ⟨s0,s1,s2,s3,s4,s5⟩:=box5 PB1.out.s
  obtain ⟨m0,m1,m2',m3,m4,m5⟩:=box5 PB1.out.m
  have hbig:=PB1.out.big
  have q1:w.heap.size<w1.heap.size:=by omega
  go_upto_region 4 with fail
  go_cut [8,9] (fun s8 s9 wx=>∃gd gn:Nat,s8 = .pointer (some ⟨gd,0,none⟩)∧s9 = .pointer (some ⟨gn,0,none⟩)∧PB w [.slice A d.n cp,.slice B m cq,.int .i64 (d.lp:Int),.slice L m cl,.slice R d.n cr] [.int .i64 k,.int .i64 x,.int .i64 y,.int .i64 sg,.bool ov] wx∧Row wx gd 24 [.slice A d.n cp,.slice B m cq,.int .i64 (d.lp:Int)]∧Row wx gn 3 [.int .i64 (d.n:Int)]∧w.heap.size+1+1+1<gd∧w.heap.size+1+1+1<gn)
  case first =>
   go_region
   all_goals (go_wp2_with fail;go_meet)
   ·exact ⟨w1.heap.size,w1.heap.size+1,rfl,rfl,((PB1.out.alloc _).alloc _).drew,((row_at (vs:=[.slice A d.n cp,.slice B m cq,.int .i64 (d.lp:Int)]) rfl).alloc _).drew,(row_at (vs:=[.int .i64 (d.n:Int)]) (by simp)).drew,by omega,by omega⟩
   ·exact ⟨w1.heap.size+1,w1.heap.size,rfl,rfl,((PB1.out.alloc _).alloc _).drew,(row_at (vs:=[.slice A d.n cp,.slice B m cq,.int .i64 (d.lp:Int)]) (by simp)).drew,((row_at (vs:=[.int .i64 (d.n:Int)]) rfl).alloc _).drew,by omega,by omega⟩
  case rest =>
   obtain ⟨gd,gn,rfl,rfl,hpb,hrd,hrn,hgd,hgn⟩:=hcut
   have PB2:=hide hpb
   have RD2:=hide hrd
   have RN2:=hide hrn
   clear s0 s1 s2 s3 s4 s5 m0 m1 m2' m3 m4 m5 hpb hrd hrn q1 hbig PB1
   obtain ⟨m0,m1,m2',m3,m4,m5⟩:=box5 PB2.out.m
   obtain ⟨d0,d1,d2,d3⟩:=box3 RD2.out
   have hgn2:=RN2.out.lt
   have hgd2:=RD2.out.lt
   have HS2:=hide (HS.out.keep PB2.out.bel)
   go_wp2_with fail
   refine (raised_any d hd A B cp cq m k x y sg ov _ HM.out HS2.out.dg hx.2 hy.2).mono ?_
   rintro e w3 ⟨g1,c1,g2,c2,rfl,own1,own2,hne,hb3⟩
   have u04:un0 d x y ov<4:=by unfold un0 lnS th0;(repeat' split) <;> omega
   have u14:un1 d x y ov<4:=by unfold un1 lnS th1;(repeat' split) <;> omega
   obtain ⟨u0,hu0⟩:∃u0,u0=un0 d x y ov:=⟨_,rfl⟩
   obtain ⟨u1,hu1⟩:∃u1,u1=un1 d x y ov:=⟨_,rfl⟩
   have EP:=hide (show ∀t,plc d.n u0 t=pP d x y ov t from fun t=>by unfold pP;rw [hu0])
   have EQ:=hide (show ∀t,plc (d.n+1) u1 t=pQ d x y ov t from fun t=>by unfold pQ;rw [hu1])
   rw [←hu0] at u04 ⊢
   rw [←hu1] at u14 ⊢
   clear hu0 hu1
   obtain ⟨n2,hn2⟩:∃n2,n2=4 * d.n+8:=⟨_,rfl⟩
   rw [←hn2] at own2 ⊢
   have hlp1:(0:Int)≤(d.lp:Int)∧(d.lp:Int)≤64:=by omega
   have HN2:=hide hn2
   clear hn2
   obtain ⟨base,hbase⟩:∃base,base=wc.heap.size:=⟨_,rfl⟩
   rw [←hbase] at own1 own2
   have OWN1:=hide own1
   have OWN2:=hide own2
   have HB:=hide hbase
   have HNE:=hide hne
   have B3:=hide hb3
   clear own1 own2 hbase hne hb3
   go_wp2_with fail
   obtain ⟨V3,hV3⟩:∃V3:World,V3=(w3.alloc (.cells #[.slice (some ⟨g1,0,none⟩) (d.n+2) c1,.slice (some ⟨g2,0,none⟩) n2 c2,.int .i64 (d.lp:Int)] 24)).alloc (.cells #[.int .i64 (u0:Int),.int .i64 (u1:Int)] 120):=⟨_,rfl⟩
   rw [←hV3]
   obtain ⟨gr,hgr⟩:∃gr,gr=w3.heap.size:=⟨_,rfl⟩
   rw [←hgr]
   obtain ⟨gf,hgf⟩:∃gf,gf=gr+1:=⟨_,rfl⟩
   rw [←hgf]
   have hsz3:=B3.out.size
   have HP3:=hide (show PK w gd gn gr gf g1 c1 (d.n+2) g2 c2 n2 base d.n u0 u1 [.slice A d.n cp,.slice B m cq,.int .i64 (d.lp:Int),.slice L m cl,.slice R d.n cr] [.int .i64 k,.int .i64 x,.int .i64 y,.int .i64 sg,.bool ov] [.slice A d.n cp,.slice B m cq,.int .i64 (d.lp:Int)] ((d.sg++[sgn2 (un0 d x y ov) (ov0 d x y ov),sgn2 (un1 d x y ov) (ov1 d x y ov)]).map (.int .i64)) (d.lp:Int) (d.mt++List.replicate 8 0) V3 by
    have hb:wc.heap.size=base:=HB.out.symm
    have PB3:=(((PB2.out.below B3.out).alloc (.cells #[.slice (some ⟨g1,0,none⟩) (d.n+2) c1,.slice (some ⟨g2,0,none⟩) n2 c2,.int .i64 (d.lp:Int)] 24)).alloc (.cells #[.int .i64 (u0:Int),.int .i64 (u1:Int)] 120))
    rw [←hV3] at PB3
    rw [hV3] at PB3 ⊢
    exact ⟨PB3.s,PB3.m,PB3.rd,PB3.rm,((RD2.out.below B3.out).alloc _).alloc _,((RN2.out.below B3.out).alloc _).alloc _,row_at (vs:=[.int .i64 (u0:Int),.int .i64 (u1:Int)]) (by rw [hgf,hgr];simp),Row.alloc (row_at (vs:=[.slice (some ⟨g1,0,none⟩) (d.n+2) c1,.slice (some ⟨g2,0,none⟩) n2 c2,.int .i64 (d.lp:Int)]) hgr) _,
     World.ownsRow.alloc (World.ownsRow.alloc OWN1.out _) _,OwnN.alloc (OwnN.alloc OWN2.out _) _,HNE.out,PB3.bel,hgd,hgn,by omega,by omega,by omega⟩)
   clear hV3 hgf hgr hsz3 m0 m1 m2' m3 m4 m5 d0 d1 d2 d3 PB2 RD2 RN2 B3 OWN1 OWN2 hgn2 hgd2
   obtain ⟨r0,r1,r2,r3⟩:=box3 HP3.out.r
   refine wp_region_still_tail 6 (by kernel_rfl) (by kernel_rfl) ?_
   simp only [List.take_succ_cons,List.take_zero,List.drop_succ_cons,List.drop_zero]
   repeat still_step
   still_call (pF_any d.n u0 u1 gn gf 1 1 _ rfl (by omega) hn u04 HP3.out.drew.nb HP3.out.drew.f)
   repeat still_step
   still_call (qF_any d.n u0 u1 gn gf 1 1 _ rfl (by omega) hn u14 HP3.out.drew.nb HP3.out.drew.f)
   repeat still_step
   try refine wpStill_nil ?_
   change wpList _ _ _ _ _ V3.drew
   obtain ⟨X3,hX⟩:∃X:World,X=V3.drew:=⟨_,rfl⟩
   rw [←hX]
   have HX3:=hide (HP3.out.drew.cast hX)
   clear hX r0 r1 r2 r3
   go_wp2_with fail
   refine (join_any base g2 n2 c2 (plc d.n u0 1) (plc (d.n+1) u1 1) _ X3 HX3.out.o2 (by have:=HN2.out;first | omega | (unfold plc;omega)) (by have:=HN2.out;first | omega | (unfold plc;omega)) (by have:=HN2.out;omega)).mono ?_
   rintro e V4 ⟨rfl,own5,gr5⟩
   have HP4:=hide (HX3.out.join own5 gr5)
   clear own5 gr5
   obtain ⟨r0,r1,r2,r3⟩:=box3 HP4.out.r
   go_upto_region 9 with fail
   refine wp_region_still_tail 6 (by kernel_rfl) (by kernel_rfl) ?_
   simp only [List.take_succ_cons,List.take_zero,List.drop_succ_cons,List.drop_zero]
   repeat still_step
   still_call (qF_any d.n u0 u1 gn gf 2 2 _ rfl (by omega) hn u14 HP4.out.drew.nb HP4.out.drew.f)
   repeat still_step
   still_call (pF_any d.n u0 u1 gn gf 0 0 _ rfl (by omega) hn u04 HP4.out.drew.nb HP4.out.drew.f)
   repeat still_step
   try refine wpStill_nil ?_
   change wpList _ _ _ _ _ V4.drew
   obtain ⟨X4,hX⟩:∃X:World,X=V4.drew:=⟨_,rfl⟩
   rw [←hX]
   have HX4:=hide (HP4.out.drew.cast hX)
   clear hX r0 r1 r2 r3
   go_wp2_with fail
   refine (join_any base g2 n2 c2 (plc (d.n+1) u1 2) (plc d.n u0 0) _ X4 HX4.out.o2 (by have:=HN2.out;first | omega | (unfold plc;omega)) (by have:=HN2.out;first | omega | (unfold plc;omega)) (by have:=HN2.out;omega)).mono ?_
   rintro e V5 ⟨rfl,own5,gr5⟩
   have HP5:=hide (HX4.out.join own5 gr5)
   clear own5 gr5
   obtain ⟨m0,m1,m2',m3,m4,m5⟩:=box5 HP5.out.m
   go_upto_block 0 with fail
   go_cut [14] (fun _ wx=>PK w gd gn gr gf g1 c1 (d.n+2) g2 c2 n2 base d.n u0 u1 [.slice A d.n cp,.slice B m cq,.int .i64 (d.lp:Int),.slice L m cl,.slice R d.n cr] [.int .i64 k,.int .i64 x,.int .i64 y,.int .i64 sg,.bool ov] [.slice A d.n cp,.slice B m cq,.int .i64 (d.lp:Int)] ((d.sg++[sgn2 (un0 d x y ov) (ov0 d x y ov),sgn2 (un1 d x y ov) (ov1 d x y ov)]).map (.int .i64)) (pkL d x y sg) (pkM d x y sg ov) wx)
   case first =>
    rcases hsg with rfl | rfl | rfl
    ·-- no sign: two strands
     go_upto_region 11 with fail
     clear m0 m1 m2' m3 m4 m5
     obtain ⟨m0,m1,m2',m3,m4,m5⟩:=box5 HP5.out.m
     refine wp_region_still_tail 7 (by kernel_rfl) (by kernel_rfl) ?_
     simp only [List.take_succ_cons,List.take_zero,List.drop_succ_cons,List.drop_zero]
     repeat still_step
     still_call (qF_any d.n u0 u1 gn gf 0 0 _ rfl (by omega) hn u14 HP5.out.drew.nb HP5.out.drew.f)
     repeat still_step
     still_call (pF_any d.n u0 u1 gn gf 2 2 _ rfl (by omega) hn u04 HP5.out.drew.nb HP5.out.drew.f)
     repeat still_step
     try refine wpStill_nil ?_
     change wpList _ _ _ _ _ V5.drew
     obtain ⟨X5,hX⟩:∃X:World,X=V5.drew:=⟨_,rfl⟩
     rw [←hX]
     have HX5:=hide (HP5.out.drew.cast hX)
     clear hX m0 m1 m2' m3 m4 m5
     go_wp2_with fail
     refine (lead_any d hd A B cp cq m (plc (d.n+1) u1 0) (plc d.n u0 2) gd gn gr gf g1 c1 (d.n+2) g2 c2 n2 base d.n u0 u1 _ _ _ y (d.lp:Int) _ w X5 HM.out HS.out.dg hy.2 (by omega) HX5.out (by have:=HN2.out;unfold plc;omega) (by have:=HN2.out;unfold plc;omega) (by have:=HN2.out;have:=HM.out;omega) (by have:=HN2.out;omega)).mono ?_
     rintro e V6 ⟨rfl,hp6⟩
     have HP6:=hide hp6
     clear hp6
     obtain ⟨m0,m1,m2',m3,m4,m5⟩:=box5 HP6.out.m
     go_upto_region 12 with fail
     refine wp_region_still_tail 7 (by kernel_rfl) (by kernel_rfl) ?_
     simp only [List.take_succ_cons,List.take_zero,List.drop_succ_cons,List.drop_zero]
     repeat still_step
     still_call (pF_any d.n u0 u1 gn gf 3 3 _ rfl (by omega) hn u04 HP6.out.drew.nb HP6.out.drew.f)
     repeat still_step
     still_call (qF_any d.n u0 u1 gn gf 3 3 _ rfl (by omega) hn u14 HP6.out.drew.nb HP6.out.drew.f)
     repeat still_step
     try refine wpStill_nil ?_
     change wpList _ _ _ _ _ V6.drew
     obtain ⟨X6,hX⟩:∃X:World,X=V6.drew:=⟨_,rfl⟩
     rw [←hX]
     have HX6:=hide (HP6.out.drew.cast hX)
     clear hX m0 m1 m2' m3 m4 m5
     go_wp2_with fail
     refine (lead_any d hd A B cp cq m (plc d.n u0 3) (plc (d.n+1) u1 3) gd gn gr gf g1 c1 (d.n+2) g2 c2 n2 base d.n u0 u1 _ _ _ x (if y<0 then (d.lp:Int) - 1 else (d.lp:Int)) _ w X6 HM.out HS.out.dg hx.2 (by split <;> omega) HX6.out (by have:=HN2.out;unfold plc;omega) (by have:=HN2.out;unfold plc;omega) (by have:=HN2.out;have:=HM.out;omega) (by have:=HN2.out;omega)).mono ?_
     rintro e V7 ⟨rfl,hp7⟩
     have HP7:=hide hp7
     clear hp7
     go_wp2_with fail
     go_meet
     have e1:pkL d x y 0=(if x<0 then (if y<0 then (d.lp:Int) - 1 else (d.lp:Int)) - 1 else (if y<0 then (d.lp:Int) - 1 else (d.lp:Int))):=by unfold pkL;rw [if_neg (by rintro ⟨h,_⟩;exact h rfl),if_pos rfl]
     have e2:pkM d x y 0 ov=leadM d (leadM d (jn (jn (d.mt++List.replicate 8 0) (plc d.n u0 1) (plc (d.n+1) u1 1)) (plc (d.n+1) u1 2) (plc d.n u0 0)) y (plc (d.n+1) u1 0) (plc d.n u0 2)) x (plc d.n u0 3) (plc (d.n+1) u1 3):=by
      unfold pkM pk0
      rw [if_neg (by rintro ⟨h,_⟩;exact h rfl),if_neg (by decide),if_neg (by decide)]
      simp only [←EP.out,←EQ.out]
     rw [e1,e2]
     exact HP7.out
    ·by_cases hx0:x<0
     ·go_wp2_with fail
      clear m0 m1 m2' m3 m4 m5
      obtain ⟨r0,r1,r2,r3⟩:=box3 HP5.out.r
      refine wp_region_still_tail 6 (by kernel_rfl) (by kernel_rfl) ?_
      simp only [List.take_succ_cons,List.take_zero,List.drop_succ_cons,List.drop_zero]
      repeat still_step
      still_call (qF_any d.n u0 u1 gn gf 3 3 _ rfl (by omega) hn u14 HP5.out.drew.nb HP5.out.drew.f)
      repeat still_step
      still_call (qF_any d.n u0 u1 gn gf 0 0 _ rfl (by omega) hn u14 HP5.out.drew.nb HP5.out.drew.f)
      repeat still_step
      try refine wpStill_nil ?_
      change wpList _ _ _ _ _ V5.drew
      obtain ⟨X5,hX⟩:∃X:World,X=V5.drew:=⟨_,rfl⟩
      rw [←hX]
      have HX5:=hide (HP5.out.drew.cast hX)
      clear hX r0 r1 r2 r3
      go_wp2_with fail
      refine (join_any base g2 n2 c2 (plc (d.n+1) u1 3) (plc (d.n+1) u1 0) _ X5 HX5.out.o2 (by have:=HN2.out;first | omega | (unfold plc;omega)) (by have:=HN2.out;first | omega | (unfold plc;omega)) (by have:=HN2.out;omega)).mono ?_
      rintro e V6 ⟨rfl,own5,gr5⟩
      have HP6:=hide (HX5.out.join own5 gr5)
      clear own5 gr5
      obtain ⟨r0,r1,r2,r3⟩:=box3 HP6.out.r
      go_upto_region 15 with fail
      refine wp_region_still_tail 6 (by kernel_rfl) (by kernel_rfl) ?_
      simp only [List.take_succ_cons,List.take_zero,List.drop_succ_cons,List.drop_zero]
      repeat still_step
      still_call (pF_any d.n u0 u1 gn gf 2 2 _ rfl (by omega) hn u04 HP6.out.drew.nb HP6.out.drew.f)
      repeat still_step
      still_call (pF_any d.n u0 u1 gn gf 3 3 _ rfl (by omega) hn u04 HP6.out.drew.nb HP6.out.drew.f)
      repeat still_step
      try refine wpStill_nil ?_
      change wpList _ _ _ _ _ V6.drew
      obtain ⟨X6,hX⟩:∃X:World,X=V6.drew:=⟨_,rfl⟩
      rw [←hX]
      have HX6:=hide (HP6.out.drew.cast hX)
      clear hX r0 r1 r2 r3
      go_wp2_with fail
      refine (join_any base g2 n2 c2 (plc d.n u0 2) (plc d.n u0 3) _ X6 HX6.out.o2 (by have:=HN2.out;first | omega | (unfold plc;omega)) (by have:=HN2.out;first | omega | (unfold plc;omega)) (by have:=HN2.out;omega)).mono ?_
      rintro e V7 ⟨rfl,own5,gr5⟩
      have HP7:=hide (HX6.out.join own5 gr5)
      clear own5 gr5
      obtain ⟨r0,r1,r2,r3⟩:=box3 HP7.out.r
      go_wp2_with fail
      go_meet
      have e1:pkL d x y 1=(d.lp:Int) - 1:=by unfold pkL;rw [if_pos ⟨by decide,hx0⟩]
      have e2:pkM d x y 1 ov=jn (jn (jn (jn (d.mt++List.replicate 8 0) (plc d.n u0 1) (plc (d.n+1) u1 1)) (plc (d.n+1) u1 2) (plc d.n u0 0)) (plc (d.n+1) u1 3) (plc (d.n+1) u1 0)) (plc d.n u0 2) (plc d.n u0 3):=by
       unfold pkM pk0
       rw [if_pos ⟨by decide,hx0⟩]
       simp only [←EP.out,←EQ.out]
      rw [e1,e2]
      exact HP7.out.loops _
     ·obtain ⟨q,rfl⟩:=Int.eq_ofNat_of_zero_le (show 0≤x by omega)
      have hq:q<4 * d.n:=by omega
      have hq2:q<m:=by have:=HM.out;omega
      have jq1:(0:Int)≤(q:Int):=by omega
      have jq2:(q:Int)<(m:Int):=by omega
      have jq3:¬((q:Int)<0):=by omega
      have hmq:=hd.lt q hq
      obtain ⟨mb,mo,rfl,_⟩:=mate_at (HS.out.keep HP5.out.bel).dg.m hq
      obtain ⟨u,hu⟩:∃u,u=d.m q:=⟨_,rfl⟩
      rw [←hu] at hmq
      have HU:=hide hu
      clear hu
      go_upto_region 18 with fail
      clear m0 m1 m2' m3 m4 m5
      obtain ⟨m0,m1,m2',m3,m4,m5⟩:=box5 HP5.out.m
      obtain ⟨r0,r1,r2,r3⟩:=box3 HP5.out.r
      refine wp_region_still_tail 6 (by kernel_rfl) (by kernel_rfl) ?_
      simp only [List.take_succ_cons,List.take_zero,List.drop_succ_cons,List.drop_zero]
      repeat still_step
      still_call (pF_any d.n u0 u1 gn gf 3 3 _ rfl (by omega) hn u04 HP5.out.drew.nb HP5.out.drew.f)
      repeat still_step
      try refine wpStill_nil ?_
      change wpList _ _ _ _ _ V5.drew
      obtain ⟨X5,hX⟩:∃X:World,X=V5.drew:=⟨_,rfl⟩
      rw [←hX]
      have HX5:=hide (HP5.out.drew.cast hX)
      clear hX r0 r1 r2 r3
      go_wp2_with fail
      refine (join_any base g2 n2 c2 q (plc d.n u0 3) _ X5 HX5.out.o2 (by have:=HN2.out;first | omega | (unfold plc;omega)) (by have:=HN2.out;first | omega | (unfold plc;omega)) (by have:=HN2.out;omega)).mono ?_
      rintro e V6 ⟨rfl,own5,gr5⟩
      have HP6:=hide (HX5.out.join own5 gr5)
      clear own5 gr5
      clear m0 m1 m2' m3 m4 m5
      obtain ⟨r0,r1,r2,r3⟩:=box3 HP6.out.r
      go_upto_region 19 with fail
      refine wp_region_still_tail 6 (by kernel_rfl) (by kernel_rfl) ?_
      simp only [List.take_succ_cons,List.take_zero,List.drop_succ_cons,List.drop_zero]
      repeat still_step
      still_call (qF_any d.n u0 u1 gn gf 3 3 _ rfl (by omega) hn u14 HP6.out.drew.nb HP6.out.drew.f)
      repeat still_step
      still_call (qF_any d.n u0 u1 gn gf 0 0 _ rfl (by omega) hn u14 HP6.out.drew.nb HP6.out.drew.f)
      repeat still_step
      try refine wpStill_nil ?_
      change wpList _ _ _ _ _ V6.drew
      obtain ⟨X6,hX⟩:∃X:World,X=V6.drew:=⟨_,rfl⟩
      rw [←hX]
      have HX6:=hide (HP6.out.drew.cast hX)
      clear hX r0 r1 r2 r3
      go_wp2_with fail
      refine (join_any base g2 n2 c2 (plc (d.n+1) u1 3) (plc (d.n+1) u1 0) _ X6 HX6.out.o2 (by have:=HN2.out;first | omega | (unfold plc;omega)) (by have:=HN2.out;first | omega | (unfold plc;omega)) (by have:=HN2.out;omega)).mono ?_
      rintro e V7 ⟨rfl,own5,gr5⟩
      have HP7:=hide (HX6.out.join own5 gr5)
      clear own5 gr5
      obtain ⟨r0,r1,r2,r3⟩:=box3 HP7.out.r
      obtain ⟨m0,m1,m2',m3,m4,m5⟩:=box5 HP7.out.m
      obtain ⟨d0,d1,d2,d3⟩:=box3 HP7.out.d
      obtain ⟨mb',mo',em,cm⟩:=mate_at (HS.out.keep HP7.out.bel).dg.m hq
      injection em with em
      injection em with em1 em2
      subst em1
      subst em2
      rw [←HU.out] at cm
      go_upto_region 20 with fail
      refine wp_region_still_tail 10 (by kernel_rfl) (by kernel_rfl) ?_
      simp only [List.take_succ_cons,List.take_zero,List.drop_succ_cons,List.drop_zero]
      repeat still_step
      still_call (pF_any d.n u0 u1 gn gf 2 2 _ rfl (by omega) hn u04 HP7.out.drew.nb HP7.out.drew.f)
      repeat still_step
      try refine wpStill_nil ?_
      change wpList _ _ _ _ _ V7.drew
      obtain ⟨X7,hX⟩:∃X:World,X=V7.drew:=⟨_,rfl⟩
      rw [←hX]
      have HX7:=hide (HP7.out.drew.cast hX)
      clear hX r0 r1 r2 r3
      go_wp2_with fail
      refine (join_any base g2 n2 c2 (plc d.n u0 2) u _ X7 HX7.out.o2 (by have:=HN2.out;first | omega | (unfold plc;omega)) (by have:=HN2.out;first | omega | (unfold plc;omega)) (by have:=HN2.out;omega)).mono ?_
      rintro e V8 ⟨rfl,own5,gr5⟩
      have HP8:=hide (HX7.out.join own5 gr5)
      clear own5 gr5
      go_wp2_with fail
      go_meet
      have e1:pkL d (q:Int) y 1=(d.lp:Int):=by unfold pkL;rw [if_neg (fun h=>absurd h.2 (by omega)),if_neg (by decide)]
      have e2:pkM d (q:Int) y 1 ov=jn (jn (jn (jn (jn (d.mt++List.replicate 8 0) (plc d.n u0 1) (plc (d.n+1) u1 1)) (plc (d.n+1) u1 2) (plc d.n u0 0)) q (plc d.n u0 3)) (plc (d.n+1) u1 3) (plc (d.n+1) u1 0)) (plc d.n u0 2) u:=by
       unfold pkM pk0
       rw [if_neg (fun h=>absurd h.2 (by omega)),if_pos rfl,Int.toNat_natCast,HU.out]
       simp only [←EP.out,←EQ.out]
      rw [e1,e2]
      exact HP8.out
    ·obtain ⟨q,rfl⟩:=Int.eq_ofNat_of_zero_le (hneg rfl)
     have hq:q<4 * d.n:=by omega
     have hq2:q<m:=by have:=HM.out;omega
     have jq1:(0:Int)≤(q:Int):=by omega
     have jq2:(q:Int)<(m:Int):=by omega
     have jq3:¬((q:Int)<0):=by omega
     have hmq:=hd.lt q hq
     obtain ⟨mb,mo,rfl,_⟩:=mate_at (HS.out.keep HP5.out.bel).dg.m hq
     obtain ⟨u,hu⟩:∃u,u=d.m q:=⟨_,rfl⟩
     rw [←hu] at hmq
     have HU:=hide hu
     clear hu
     go_upto_region 22 with fail
     clear m0 m1 m2' m3 m4 m5
     obtain ⟨m0,m1,m2',m3,m4,m5⟩:=box5 HP5.out.m
     obtain ⟨r0,r1,r2,r3⟩:=box3 HP5.out.r
     refine wp_region_still_tail 6 (by kernel_rfl) (by kernel_rfl) ?_
     simp only [List.take_succ_cons,List.take_zero,List.drop_succ_cons,List.drop_zero]
     repeat still_step
     still_call (qF_any d.n u0 u1 gn gf 0 0 _ rfl (by omega) hn u14 HP5.out.drew.nb HP5.out.drew.f)
     repeat still_step
     try refine wpStill_nil ?_
     change wpList _ _ _ _ _ V5.drew
     obtain ⟨X5,hX⟩:∃X:World,X=V5.drew:=⟨_,rfl⟩
     rw [←hX]
     have HX5:=hide (HP5.out.drew.cast hX)
     clear hX r0 r1 r2 r3
     go_wp2_with fail
     refine (join_any base g2 n2 c2 q (plc (d.n+1) u1 0) _ X5 HX5.out.o2 (by have:=HN2.out;first | omega | (unfold plc;omega)) (by have:=HN2.out;first | omega | (unfold plc;omega)) (by have:=HN2.out;omega)).mono ?_
     rintro e V6 ⟨rfl,own5,gr5⟩
     have HP6:=hide (HX5.out.join own5 gr5)
     clear own5 gr5
     clear m0 m1 m2' m3 m4 m5
     obtain ⟨r0,r1,r2,r3⟩:=box3 HP6.out.r
     go_upto_region 23 with fail
     refine wp_region_still_tail 6 (by kernel_rfl) (by kernel_rfl) ?_
     simp only [List.take_succ_cons,List.take_zero,List.drop_succ_cons,List.drop_zero]
     repeat still_step
     still_call (pF_any d.n u0 u1 gn gf 2 2 _ rfl (by omega) hn u04 HP6.out.drew.nb HP6.out.drew.f)
     repeat still_step
     still_call (pF_any d.n u0 u1 gn gf 3 3 _ rfl (by omega) hn u04 HP6.out.drew.nb HP6.out.drew.f)
     repeat still_step
     try refine wpStill_nil ?_
     change wpList _ _ _ _ _ V6.drew
     obtain ⟨X6,hX⟩:∃X:World,X=V6.drew:=⟨_,rfl⟩
     rw [←hX]
     have HX6:=hide (HP6.out.drew.cast hX)
     clear hX r0 r1 r2 r3
     go_wp2_with fail
     refine (join_any base g2 n2 c2 (plc d.n u0 2) (plc d.n u0 3) _ X6 HX6.out.o2 (by have:=HN2.out;first | omega | (unfold plc;omega)) (by have:=HN2.out;first | omega | (unfold plc;omega)) (by have:=HN2.out;omega)).mono ?_
     rintro e V7 ⟨rfl,own5,gr5⟩
     have HP7:=hide (HX6.out.join own5 gr5)
     clear own5 gr5
     obtain ⟨r0,r1,r2,r3⟩:=box3 HP7.out.r
     obtain ⟨m0,m1,m2',m3,m4,m5⟩:=box5 HP7.out.m
     obtain ⟨d0,d1,d2,d3⟩:=box3 HP7.out.d
     obtain ⟨mb',mo',em,cm⟩:=mate_at (HS.out.keep HP7.out.bel).dg.m hq
     injection em with em
     injection em with em1 em2
     subst em1
     subst em2
     rw [←HU.out] at cm
     go_upto_region 24 with fail
     refine wp_region_still_tail 10 (by kernel_rfl) (by kernel_rfl) ?_
     simp only [List.take_succ_cons,List.take_zero,List.drop_succ_cons,List.drop_zero]
     repeat still_step
     still_call (qF_any d.n u0 u1 gn gf 3 3 _ rfl (by omega) hn u14 HP7.out.drew.nb HP7.out.drew.f)
     repeat still_step
     try refine wpStill_nil ?_
     change wpList _ _ _ _ _ V7.drew
     obtain ⟨X7,hX⟩:∃X:World,X=V7.drew:=⟨_,rfl⟩
     rw [←hX]
     have HX7:=hide (HP7.out.drew.cast hX)
     clear hX r0 r1 r2 r3
     go_wp2_with fail
     refine (join_any base g2 n2 c2 (plc (d.n+1) u1 3) u _ X7 HX7.out.o2 (by have:=HN2.out;first | omega | (unfold plc;omega)) (by have:=HN2.out;first | omega | (unfold plc;omega)) (by have:=HN2.out;omega)).mono ?_
     rintro e V8 ⟨rfl,own5,gr5⟩
     have HP8:=hide (HX7.out.join own5 gr5)
     clear own5 gr5
     go_wp2_with fail
     go_meet
     have e1:pkL d (q:Int) y (-1)=(d.lp:Int):=by unfold pkL;rw [if_neg (fun h=>absurd h.2 (by omega)),if_neg (by decide)]
     have e2:pkM d (q:Int) y (-1) ov=jn (jn (jn (jn (jn (d.mt++List.replicate 8 0) (plc d.n u0 1) (plc (d.n+1) u1 1)) (plc (d.n+1) u1 2) (plc d.n u0 0)) q (plc (d.n+1) u1 0)) (plc d.n u0 2) (plc d.n u0 3)) (plc (d.n+1) u1 3) u:=by
      unfold pkM pk0
      rw [if_neg (fun h=>absurd h.2 (by omega)),if_neg (by decide),if_pos rfl,Int.toNat_natCast,HU.out]
      simp only [←EP.out,←EQ.out]
     rw [e1,e2]
     exact HP8.out
   case rest =>
    have HP9:=hide hcut
    clear hcut HP3 HP4 HP5 HX3 HX4 m0 m1 m2' m3 m4 m5
    have hpl:0≤pkL d x y sg:=by
     have h0:=HC.out
     unfold pkC needP at h0
     unfold pkL
     by_cases a1:x<0 <;> by_cases a2:y<0 <;> by_cases a3:sg=0 <;> simp [a1,a2,a3] at h0 ⊢ <;> (try split at h0) <;> omega
    obtain ⟨lp,hlp9⟩:=Int.eq_ofNat_of_zero_le hpl
    rw [hlp9] at HP9
    have HLP:=hide hlp9
    clear hlp9 hpl
    obtain ⟨r0,r1,r2,r3⟩:=box3 HP9.out.r
    have n0:=HP9.out.nb.cell (i:=0) (by simp)
    simp only [List.getElem_cons_zero] at n0
    obtain ⟨vs,b1,l1⟩:=HP9.out.rd
    obtain ⟨us,b2,l2⟩:=HP9.out.rm
    obtain ⟨p0,p1,p2,p3⟩:wc.cell? ⟨w.heap.size+1+1,0,none⟩=some (cv wc ⟨w.heap.size+1+1,0,none⟩)∧wc.cell? ⟨w.heap.size+1+1,1,none⟩=some (cv wc ⟨w.heap.size+1+1,1,none⟩)∧wc.cell? ⟨w.heap.size+1+1,2,none⟩=some (cv wc ⟨w.heap.size+1+1,2,none⟩)∧(∀o,wc.frozen? ⟨w.heap.size+1+1,o,none⟩=false):=⟨cv_some (b1.cell (i:=0) (by omega)),cv_some (b1.cell (i:=1) (by omega)),cv_some (b1.cell (i:=2) (by omega)),b1.free⟩
    obtain ⟨q0,q1,q2,q3,q4,q5⟩:wc.cell? ⟨w.heap.size+1+1+1,0,none⟩=some (cv wc ⟨w.heap.size+1+1+1,0,none⟩)∧wc.cell? ⟨w.heap.size+1+1+1,1,none⟩=some (cv wc ⟨w.heap.size+1+1+1,1,none⟩)∧wc.cell? ⟨w.heap.size+1+1+1,2,none⟩=some (cv wc ⟨w.heap.size+1+1+1,2,none⟩)∧wc.cell? ⟨w.heap.size+1+1+1,3,none⟩=some (cv wc ⟨w.heap.size+1+1+1,3,none⟩)∧wc.cell? ⟨w.heap.size+1+1+1,4,none⟩=some (cv wc ⟨w.heap.size+1+1+1,4,none⟩)∧(∀o,wc.frozen? ⟨w.heap.size+1+1+1,o,none⟩=false):=⟨cv_some (b2.cell (i:=0) (by omega)),cv_some (b2.cell (i:=1) (by omega)),cv_some (b2.cell (i:=2) (by omega)),cv_some (b2.cell (i:=3) (by omega)),cv_some (b2.cell (i:=4) (by omega)),b2.free⟩
    have z1:=HP9.out.a3
    have z2:=HP9.out.a2
    have y1:gr≠w.heap.size+1+1:=by omega
    have y2:gr≠w.heap.size+1+1+1:=by omega
    have y3:gn≠w.heap.size+1+1:=by omega
    have y4:gn≠w.heap.size+1+1+1:=by omega
    have y5:w.heap.size+1+1≠w.heap.size+1+1+1:=by omega
    go_upto_region 25 with fail
    go_region
    go_wp2_with fail
    refine bodyPost_ret (v := .tuple #[.agg #[.slice (some ⟨g1,0,none⟩) (d.n+2) c1,.slice (some ⟨g2,0,none⟩) n2 c2,.int .i64 (lp:Int)],.agg #[.int .i64 4,.int .i64 (d.n:Int),.int .i64 ((d.n:Int)+1),.int .i64 0,.bool false],.int .i64 0]) ?_ rfl ?_
    ·obtain ⟨e0,e1,e2,e3,e4,e5,e6,e7⟩:=fin8 b1 b2 l1 l2 (by omega) (.slice (some ⟨g1,0,none⟩) (d.n+2) c1) (.slice (some ⟨g2,0,none⟩) n2 c2) (.int .i64 (lp:Int)) (.int .i64 4) (.int .i64 (d.n:Int)) (.int .i64 ((d.n:Int)+1)) (.int .i64 0) (.bool false)
     clear p0 p1 p2 p3 q0 q1 q2 q3 q4 q5
     simp [results,Tryz.results45,go_sem,e0,e1,e2,e3,e4,e5,e6,e7]
    ·have en:(pkD d x y sg ov).n=d.n+2:=by unfold pkD Pl.Dg.n;simp
     have em:n2=4 * (d.n+2):=by have:=HN2.out;omega
     have hbs:w.heap.size+1+1+1<base:=by have:=HP9.out.a5;omega
     obtain ⟨lo2,_⟩:=HP9.out.lob (by have:=HN2.out;omega)
     obtain ⟨gg,eg,lo1,_⟩:=owns_pos (by omega) HP9.out.o1
     injection eg with eg
     injection eg with eg
     subst eg
     refine ⟨fun h=>absurd HC.out h,fun _=>⟨some ⟨g1,0,none⟩,some ⟨g2,0,none⟩,c1,c2,?_,?_,?_⟩,(below8 HP9.out.bel _ _ _ _ _ _ _ _).drew⟩
     ·rw [en,em]
      unfold pkD Mv.v
      have e9:((pkL d x y sg).toNat:Int)=(lp:Int):=by rw [HLP.out,Int.toNat_natCast]
      simp only [e9]
     ·rw [en]
      refine RowT.drew (own_intsT (base:=base) (e:=3) (c:=c1) ?_)
      (iterate 8 refine own_set ?_ (by omega))
      exact HP9.out.o1
     ·rw [en,←em]
      refine RowT.drew (OwnN.intsT (base:=base) (c:=c2) ?_)
      unfold OwnN
      (iterate 8 refine own_set ?_ (by omega))
      exact HP9.out.o2
 ·have HC:=hide hC
  have t1:(pkC d F P x y sg != 0)=true:=by rw [bne_iff_ne];exact hC
  clear hC
  obtain ⟨vs,r1,l1⟩:=PB1.out.rd
  obtain ⟨us,r2,l2⟩:=PB1.out.rm
  obtain ⟨p0,p1,p2,p3⟩:w1.cell? ⟨w.heap.size+1+1,0,none⟩=some (cv w1 ⟨w.heap.size+1+1,0,none⟩)∧w1.cell? ⟨w.heap.size+1+1,1,none⟩=some (cv w1 ⟨w.heap.size+1+1,1,none⟩)∧w1.cell? ⟨w.heap.size+1+1,2,none⟩=some (cv w1 ⟨w.heap.size+1+1,2,none⟩)∧(∀o,w1.frozen? ⟨w.heap.size+1+1,o,none⟩=false):=⟨cv_some (r1.cell (i:=0) (by omega)),cv_some (r1.cell (i:=1) (by omega)),cv_some (r1.cell (i:=2) (by omega)),r1.free⟩
  obtain ⟨q0,q1,q2,q3,q4,q5⟩:w1.cell? ⟨w.heap.size+1+1+1,0,none⟩=some (cv w1 ⟨w.heap.size+1+1+1,0,none⟩)∧w1.cell? ⟨w.heap.size+1+1+1,1,none⟩=some (cv w1 ⟨w.heap.size+1+1+1,1,none⟩)∧w1.cell? ⟨w.heap.size+1+1+1,2,none⟩=some (cv w1 ⟨w.heap.size+1+1+1,2,none⟩)∧w1.cell? ⟨w.heap.size+1+1+1,3,none⟩=some (cv w1 ⟨w.heap.size+1+1+1,3,none⟩)∧w1.cell? ⟨w.heap.size+1+1+1,4,none⟩=some (cv w1 ⟨w.heap.size+1+1+1,4,none⟩)∧(∀o,w1.frozen? ⟨w.heap.size+1+1+1,o,none⟩=false):=⟨cv_some (r2.cell (i:=0) (by omega)),cv_some (r2.cell (i:=1) (by omega)),cv_some (r2.cell (i:=2) (by omega)),cv_some (r2.cell (i:=3) (by omega)),cv_some (r2.cell (i:=4) (by omega)),r2.free⟩
  go_wp2
  refine bodyPost_ret (v := .tuple #[nilD,nilM,.int .i64 (pkC d F P x y sg)]) ?_ rfl ?_
  ·obtain ⟨e0,e1,e2,e3,e4,e5,e6,e7⟩:=fin8 r1 r2 l1 l2 (by omega) (.slice none 0 0) (.slice none 0 0) (.int .i64 0) (.int .i64 0) (.int .i64 0) (.int .i64 0) (.int .i64 0) (.bool false)
   unfold nilD nilM
   simp [results,Tryz.results45,go_sem,e0,e1,e2,e3,e4,e5,e6,e7]
  ·exact ⟨fun _=>(show ResErr _ _ from rfl),fun h=>absurd h HC.out,below8 PB1.out.bel _ _ _ _ _ _ _ _⟩
end Go.Proofs.YtdgliimmnnhhjaaGreatDoor
end
