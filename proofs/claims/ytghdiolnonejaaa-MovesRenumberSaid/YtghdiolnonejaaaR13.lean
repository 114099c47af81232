/-
 The texts Xk, Xm, Za.
-/
import Derived.Test.YtghdiolnonejaaaR10
set_option linter.unusedVariables false
set_option linter.unusedSimpArgs false
section
namespace Go.Proofs.Ytghdiolnonejaaa
open Go Go.RowKit
attribute [local go_sem ↓] Go.wp_at_zero Go.wp_at_succ
set_option maxRecDepth 100000 in
set_option maxHeartbeats 4000000 in
theorem apply_5 (d:Pl.Dg) (hd:Pl.Valid d) (A B:Option Addr) (cp cq m:Nat) (x:Nat) (y s:Int) (o:Bool) (w:World) (hm:m = 4 * d.n) (hg:DgAt w A B d) (hin:inR d.n ⟨5,(x:Int),y,s,o⟩) :
 Calls Try.prog 23 #[.agg #[.slice A d.n cp,.slice B m cq,.int .i64 d.lp],(Mv.mk 5 (x:Int) y s o).v] w (ResC (sldC d x) (sldD d x) (sldI d x) w) := by
 have hn:=hd.wf.few
 have hlp:=hd.wf.lp
 have HM:=hide hm
 have HG:=hide hg
 have hm2:m ≤ 256:=by omega
 clear hm hg
 have PB0:=hide (boxes4 w (.slice A d.n cp) (.slice B m cq) (.int .i64 (d.lp:Int)) (.int .i64 5) (.int .i64 (x:Int)) (.int .i64 y) (.int .i64 s) (.bool o))
 unfold W4 at PB0
 obtain ⟨x0,x1,x2,x3,b0,s0⟩:=PB0.out
 have X0:=hide x0
 have X1:=hide x1
 have X2:=hide x2
 have X3:=hide x3
 have B0:=hide b0
 have S0:=hide s0
 clear x0 x1 x2 x3 b0 s0 PB0
 unfold Mv.v
 go_enter Try.func23,Try.ntmps23
 go_wp2_with fail
 refine (valid_yes d hd A B cp cq m _ HM.out (HG.out.keep B0.out)).mono ?_
 rintro e w1 ⟨rfl,hb1⟩
 have Y0:=hide (X0.out.below hb1)
 have Y1:=hide (X1.out.below hb1)
 have Y2:=hide (X2.out.below hb1)
 have Y3:=hide (X3.out.below hb1)
 have B1:=hide (B0.out.trans (hb1.mono B0.out.size))
 have hsz1:w.heap.size + 4 ≤ w1.heap.size:=by have := hb1.size; have := S0.out; omega
 clear X0 X1 X2 X3 B0 S0 hb1
 obtain ⟨d0,d1,d2,d3⟩:=box3 Y0.out
 obtain ⟨m0,m1,m2,m3,m4,m5⟩:=box5 Y1.out
 go_wp2_with fail
 refine (inRange_5 d.n (x:Int) y s o w1 (by omega)).mono ?_
 rintro e w2 ⟨rfl,hb2⟩
 rw [Pl.vb_true hin]
 have hsz:w.heap.size + 4 ≤ w2.heap.size:=by have := hb2.size; omega
 have AB2:=hide (show AB w w2.heap.size (w2.heap.size + 1) [.slice A d.n cp,.slice B m cq,.int .i64 (d.lp:Int)] [.int .i64 5,.int .i64 (x:Int),.int .i64 y,.int .i64 s,.bool o] ((w2.alloc (.cells #[.slice none 0 0,.slice none 0 0,.int .i64 0] 24)).alloc (.cells #[.int .i64 0,.int .i64 0,.int .i64 0,.int .i64 0,.bool false] 37)) from
  ⟨((Y0.out.below hb2).alloc _).alloc _,((Y1.out.below hb2).alloc _).alloc _,⟨_,((Y2.out.below hb2).alloc _).alloc _,rfl⟩,⟨_,((Y3.out.below hb2).alloc _).alloc _,rfl⟩,⟨_,(row_at (vs := [_,_,_]) rfl).alloc _,rfl⟩,⟨_,row_at (vs := [_,_,_,_,_]) (by simp),rfl⟩,((B1.out.trans (hb2.mono B1.out.size)).alloc (B1.out.trans (hb2.mono B1.out.size)).size _).alloc ((B1.out.trans (hb2.mono B1.out.size)).alloc (B1.out.trans (hb2.mono B1.out.size)).size _).size _,by omega,by omega,by omega⟩)
 obtain ⟨d0',d1',d2',d3'⟩:=box3 (Y0.out.below hb2)
 obtain ⟨m0',m1',m2',m3',m4',m5'⟩:=box5 (Y1.out.below hb2)
 clear d0 d1 d2 d3 m0 m1 m2 m3 m4 m5 Y0 Y1 Y2 Y3 B1 hb2 hsz1
 have z1:w.heap.size < w2.heap.size:=by omega
 have z2:w.heap.size + 1 < w2.heap.size:=by omega
 have hx:x < 4 * d.n:=by have := hin; unfold inR at this; simp at this; omega
 have HG2:=hide (HG.out.keep AB2.out.bel)
 go_wp2_with fail
 obtain ⟨gr,hgr⟩:∃ g,g = w2.heap.size := ⟨_,rfl⟩
 obtain ⟨gi,hgi⟩:∃ g,g = w2.heap.size + 1 := ⟨_,rfl⟩
 rw [← hgi,← hgr] at AB2
 rw [← hgi,← hgr]
 clear hgr hgi
 refine (slide_any d hd.wf A B cp cq m x 5 y s o _ HM.out HG2.out hx).mono ?_
 intro e w3 hres
 have AB3:=hide (AB2.out.below hres.2.2)
 obtain ⟨cc,hcc⟩:∃ c,c = sldC d x := ⟨_,rfl⟩
 obtain ⟨rr,hrr⟩:∃ r,r = sldD d x := ⟨_,rfl⟩
 obtain ⟨mm,hmm⟩:∃ r,r = sldI d x := ⟨_,rfl⟩
 unfold SldPost at hres
 rw [← hcc,← hrr,← hmm] at hres
 have HCC:=hide hcc
 have HRR:=hide hrr
 have HMM:=hide hmm
 clear hcc hrr hmm d0' d1' d2' d3' m0' m1' m2' m3' m4' m5' AB2 HG2
 by_cases hc:cc = 0
 ·obtain ⟨A9,B9,c8,c9,k9,x9,y9,s9,o9,hmv,rfl,hT⟩:=ResOk.split (hres.2.1 hc)
  have HMV:=hide hmv
  have HC:=hide hc
  clear hmv hc
  have AD3:=hide (show AD w gr gi _ _ A9 B9 rr w3 from ⟨AB3.out,hT⟩)
  clear hT
  obtain ⟨N9,hN9⟩:∃ n,n = rr.n := ⟨_,rfl⟩
  obtain ⟨L9,hL9⟩:∃ n,n = rr.lp := ⟨_,rfl⟩
  rw [← hN9,← hL9]
  have HN9:=hide hN9
  have HL9:=hide hL9
  clear hN9 hL9
  obtain ⟨_,r3,l3⟩:=AB3.out.r
  obtain ⟨_,r4,l4⟩:=AB3.out.i
  obtain ⟨_,r5,l5⟩:=AB3.out.rd
  obtain ⟨_,r6,l6⟩:=AB3.out.rm
  obtain ⟨e0,e1,e2,e3⟩:=cells3 r3 l3
  obtain ⟨f0,f1,f2,f3,f4,f5⟩:=cells5 r4 l4
  obtain ⟨g0,g1,g2,g3⟩:=cells3 r5 l5
  obtain ⟨h0,h1,h2,h3,h4,h5⟩:=cells5 r6 l6
  have y1:gr ≠ w.heap.size + 1 + 1:=by have := AB3.out.lr; omega
  have y2:gr ≠ w.heap.size + 1 + 1 + 1:=by have := AB3.out.lr; omega
  have y3:gi ≠ w.heap.size + 1 + 1:=by have := AB3.out.li; omega
  have y4:gi ≠ w.heap.size + 1 + 1 + 1:=by have := AB3.out.li; omega
  have y5:gr ≠ gi:=AB3.out.ne
  have y6:w.heap.size + 1 + 1 ≠ w.heap.size + 1 + 1 + 1:=by omega
  clear r3 l3 r4 l4 r5 l5 r6 l6
  go_upto_region 22 with fail
  go_region
  go_wp2_with fail
  clear e0 e1 e2 e3 f0 f1 f2 f3 f4 f5 g0 g1 g2 g3 h0 h1 h2 h3 h4 h5
  have AD4:=hide ((((((((AD3.out.setR 0 (.slice A9 N9 c8)).setR 1 (.slice B9 (4 * N9) c9)).setR 2 (.int .i64 (L9:Int))).setI 0 (.int .i64 k9)).setI 1 (.int .i64 x9)).setI 2 (.int .i64 y9)).setI 3 (.int .i64 s9)).setI 4 (.bool o9))
  obtain ⟨_,r5,l5⟩:=AD4.out.b.rd
  obtain ⟨_,r6,l6⟩:=AD4.out.b.rm
  refine bodyPost_ret (v := .tuple #[.agg #[.slice A9 N9 c8,.slice B9 (4 * N9) c9,.int .i64 (L9:Int)],.agg #[.int .i64 k9,.int .i64 x9,.int .i64 y9,.int .i64 s9,.bool o9],.int .i64 0]) ?_ rfl ?_
  ·obtain ⟨e0,e1,e2,e3,e4,e5,e6,e7⟩:=fin8 r5 r6 l5 l6 (by omega) (.slice A9 N9 c8) (.slice B9 (4 * N9) c9) (.int .i64 (L9:Int)) (.int .i64 k9) (.int .i64 x9) (.int .i64 y9) (.int .i64 s9) (.bool o9)
   simp [results,Try.results23,go_sem,e0,e1,e2,e3,e4,e5,e6,e7]
  ·have AD5:=(((((((AD4.out.setD 0 (.slice A9 N9 c8)).setD 1 (.slice B9 (4 * N9) c9)).setD 2 (.int .i64 (L9:Int))).setM 0 (.int .i64 k9)).setM 1 (.int .i64 x9)).setM 2 (.int .i64 y9)).setM 3 (.int .i64 s9)).setM 4 (.bool o9)
   rw [← HCC.out,← HRR.out,← HMM.out]
   refine ⟨fun h => absurd HC.out h,fun _ => ⟨A9,B9,c8,c9,by rw [HMV.out,← HN9.out,← HL9.out]; rfl,AD5.drew.t⟩,AD5.drew.b.bel⟩
 ·have HC:=hide hc
  have hE:=ResErr.split (hres.1 hc)
  subst hE
  have t1:(cc != 0) = true:=by rw [bne_iff_ne]; exact hc
  clear hc
  obtain ⟨_,r3,l3⟩:=AB3.out.r
  obtain ⟨_,r4,l4⟩:=AB3.out.i
  obtain ⟨_,r5,l5⟩:=AB3.out.rd
  obtain ⟨_,r6,l6⟩:=AB3.out.rm
  obtain ⟨e0,e1,e2,e3⟩:=cells3 r3 l3
  obtain ⟨f0,f1,f2,f3,f4,f5⟩:=cells5 r4 l4
  obtain ⟨g0,g1,g2,g3⟩:=cells3 r5 l5
  obtain ⟨h0,h1,h2,h3,h4,h5⟩:=cells5 r6 l6
  have y1:gr ≠ w.heap.size + 1 + 1:=by have := AB3.out.lr; omega
  have y2:gr ≠ w.heap.size + 1 + 1 + 1:=by have := AB3.out.lr; omega
  have y3:gi ≠ w.heap.size + 1 + 1:=by have := AB3.out.li; omega
  have y4:gi ≠ w.heap.size + 1 + 1 + 1:=by have := AB3.out.li; omega
  have y5:gr ≠ gi:=AB3.out.ne
  have y6:w.heap.size + 1 + 1 ≠ w.heap.size + 1 + 1 + 1:=by omega
  clear r3 l3 r4 l4 r5 l5 r6 l6
  go_wp2
  clear e0 e1 e2 e3 f0 f1 f2 f3 f4 f5 g0 g1 g2 g3 h0 h1 h2 h3 h4 h5
  have AB4:=(((((((AB3.out.setR 0 (.slice none 0 0)).setR 1 (.slice none 0 0)).setR 2 (.int .i64 0)).setI 0 (.int .i64 0)).setI 1 (.int .i64 0)).setI 2 (.int .i64 0)).setI 3 (.int .i64 0)).setI 4 (.bool false)
  obtain ⟨_,r5,l5⟩:=AB4.rd
  obtain ⟨_,r6,l6⟩:=AB4.rm
  refine bodyPost_ret (v := .tuple #[nilD,nilM,.int .i64 cc]) ?_ rfl ?_
  ·obtain ⟨e0,e1,e2,e3,e4,e5,e6,e7⟩:=fin8 r5 r6 l5 l6 (by omega) (.slice none 0 0) (.slice none 0 0) (.int .i64 0) (.int .i64 0) (.int .i64 0) (.int .i64 0) (.int .i64 0) (.bool false)
   unfold nilD nilM
   simp [results,Try.results23,go_sem,e0,e1,e2,e3,e4,e5,e6,e7]
  ·rw [← HCC.out,← HRR.out,← HMM.out]
   exact ⟨fun _ => (show ResErr _ _ from rfl),fun h => absurd h HC.out,below8 AB4.bel _ _ _ _ _ _ _ _⟩
set_option maxRecDepth 100000 in
set_option maxHeartbeats 2000000 in
theorem apply_r1 (d:Pl.Dg) (hd:Pl.Valid d) (A B:Option Addr) (cp cq m:Nat) (x y s:Int) (o:Bool) (w:World) (hm:m = 4 * d.n) (hg:DgAt w A B d) (hin:¬ inR d.n ⟨1,x,y,s,o⟩) :
 Calls Try.prog 23 #[.agg #[.slice A d.n cp,.slice B m cq,.int .i64 d.lp],(Mv.mk 1 x y s o).v] w fun e w' => ResErr 2 e ∧ Below w.heap.size w w' := by
 have hn:=hd.wf.few
 have hlp:=hd.wf.lp
 have HM:=hide hm
 have HG:=hide hg
 have hm2:m ≤ 256:=by omega
 clear hm hg
 have PB0:=hide (boxes4 w (.slice A d.n cp) (.slice B m cq) (.int .i64 (d.lp:Int)) (.int .i64 1) (.int .i64 x) (.int .i64 y) (.int .i64 s) (.bool o))
 unfold W4 at PB0
 obtain ⟨x0,x1,x2,x3,b0,s0⟩:=PB0.out
 have X0:=hide x0
 have X1:=hide x1
 have X2:=hide x2
 have X3:=hide x3
 have B0:=hide b0
 have S0:=hide s0
 clear x0 x1 x2 x3 b0 s0 PB0
 unfold Mv.v
 go_enter Try.func23,Try.ntmps23
 go_wp2_with fail
 refine (valid_yes d hd A B cp cq m _ HM.out (HG.out.keep B0.out)).mono ?_
 rintro e w1 ⟨rfl,hb1⟩
 have Y0:=hide (X0.out.below hb1)
 have Y1:=hide (X1.out.below hb1)
 have Y2:=hide (X2.out.below hb1)
 have Y3:=hide (X3.out.below hb1)
 have B1:=hide (B0.out.trans (hb1.mono B0.out.size))
 have hsz1:w.heap.size + 4 ≤ w1.heap.size:=by have := hb1.size; have := S0.out; omega
 clear X0 X1 X2 X3 B0 S0 hb1
 obtain ⟨d0,d1,d2,d3⟩:=box3 Y0.out
 obtain ⟨m0,m1,m2,m3,m4,m5⟩:=box5 Y1.out
 go_wp2_with fail
 refine (inRange_1 d.n x y s o w1 (by omega)).mono ?_
 rintro e w2 ⟨rfl,hb2⟩
 rw [Pl.vb_false hin]
 have Z2:=hide (Y2.out.below hb2)
 have Z3:=hide (Y3.out.below hb2)
 have B2:=hide (B1.out.trans (hb2.mono B1.out.size))
 clear d0 d1 d2 d3 m0 m1 m2 m3 m4 m5 Y0 Y1 Y2 Y3 B1 hb2
 obtain ⟨p0,p1,p2,p3⟩:=box3 Z2.out
 obtain ⟨q0,q1,q2,q3,q4,q5⟩:=box5 Z3.out
 go_wp2
 refine bodyPost_ret (v := .tuple #[nilD,nilM,.int .i64 2]) ?_ rfl ?_
 ·obtain ⟨e0,e1,e2,e3,e4,e5,e6,e7⟩:=fin8 (Z2.out) (Z3.out) rfl rfl (by omega) (.slice none 0 0) (.slice none 0 0) (.int .i64 0) (.int .i64 0) (.int .i64 0) (.int .i64 0) (.int .i64 0) (.bool false)
  unfold nilD nilM
  simp [results,Try.results23,go_sem,e0,e1,e2,e3,e4,e5,e6,e7]
 ·exact ⟨(show ResErr _ _ from rfl),below8 B2.out _ _ _ _ _ _ _ _⟩
set_option maxRecDepth 100000 in
set_option maxHeartbeats 2000000 in
theorem apply_r2 (d:Pl.Dg) (hd:Pl.Valid d) (A B:Option Addr) (cp cq m:Nat) (x y s:Int) (o:Bool) (w:World) (hm:m = 4 * d.n) (hg:DgAt w A B d) (hin:¬ inR d.n ⟨2,x,y,s,o⟩) :
 Calls Try.prog 23 #[.agg #[.slice A d.n cp,.slice B m cq,.int .i64 d.lp],(Mv.mk 2 x y s o).v] w fun e w' => ResErr 2 e ∧ Below w.heap.size w w' := by
 have hn:=hd.wf.few
 have hlp:=hd.wf.lp
 have HM:=hide hm
 have HG:=hide hg
 have hm2:m ≤ 256:=by omega
 clear hm hg
 have PB0:=hide (boxes4 w (.slice A d.n cp) (.slice B m cq) (.int .i64 (d.lp:Int)) (.int .i64 2) (.int .i64 x) (.int .i64 y) (.int .i64 s) (.bool o))
 unfold W4 at PB0
 obtain ⟨x0,x1,x2,x3,b0,s0⟩:=PB0.out
 have X0:=hide x0
 have X1:=hide x1
 have X2:=hide x2
 have X3:=hide x3
 have B0:=hide b0
 have S0:=hide s0
 clear x0 x1 x2 x3 b0 s0 PB0
 unfold Mv.v
 go_enter Try.func23,Try.ntmps23
 go_wp2_with fail
 refine (valid_yes d hd A B cp cq m _ HM.out (HG.out.keep B0.out)).mono ?_
 rintro e w1 ⟨rfl,hb1⟩
 have Y0:=hide (X0.out.below hb1)
 have Y1:=hide (X1.out.below hb1)
 have Y2:=hide (X2.out.below hb1)
 have Y3:=hide (X3.out.below hb1)
 have B1:=hide (B0.out.trans (hb1.mono B0.out.size))
 have hsz1:w.heap.size + 4 ≤ w1.heap.size:=by have := hb1.size; have := S0.out; omega
 clear X0 X1 X2 X3 B0 S0 hb1
 obtain ⟨d0,d1,d2,d3⟩:=box3 Y0.out
 obtain ⟨m0,m1,m2,m3,m4,m5⟩:=box5 Y1.out
 go_wp2_with fail
 refine (inRange_2 d.n x y s o w1 (by omega)).mono ?_
 rintro e w2 ⟨rfl,hb2⟩
 rw [Pl.vb_false hin]
 have Z2:=hide (Y2.out.below hb2)
 have Z3:=hide (Y3.out.below hb2)
 have B2:=hide (B1.out.trans (hb2.mono B1.out.size))
 clear d0 d1 d2 d3 m0 m1 m2 m3 m4 m5 Y0 Y1 Y2 Y3 B1 hb2
 obtain ⟨p0,p1,p2,p3⟩:=box3 Z2.out
 obtain ⟨q0,q1,q2,q3,q4,q5⟩:=box5 Z3.out
 go_wp2
 refine bodyPost_ret (v := .tuple #[nilD,nilM,.int .i64 2]) ?_ rfl ?_
 ·obtain ⟨e0,e1,e2,e3,e4,e5,e6,e7⟩:=fin8 (Z2.out) (Z3.out) rfl rfl (by omega) (.slice none 0 0) (.slice none 0 0) (.int .i64 0) (.int .i64 0) (.int .i64 0) (.int .i64 0) (.int .i64 0) (.bool false)
  unfold nilD nilM
  simp [results,Try.results23,go_sem,e0,e1,e2,e3,e4,e5,e6,e7]
 ·exact ⟨(show ResErr _ _ from rfl),below8 B2.out _ _ _ _ _ _ _ _⟩
set_option maxRecDepth 100000 in
set_option maxHeartbeats 2000000 in
theorem apply_r3 (d:Pl.Dg) (hd:Pl.Valid d) (A B:Option Addr) (cp cq m:Nat) (x y s:Int) (o:Bool) (w:World) (hm:m = 4 * d.n) (hg:DgAt w A B d) (hin:¬ inR d.n ⟨3,x,y,s,o⟩) :
 Calls Try.prog 23 #[.agg #[.slice A d.n cp,.slice B m cq,.int .i64 d.lp],(Mv.mk 3 x y s o).v] w fun e w' => ResErr 2 e ∧ Below w.heap.size w w' := by
 have hn:=hd.wf.few
 have hlp:=hd.wf.lp
 have HM:=hide hm
 have HG:=hide hg
 have hm2:m ≤ 256:=by omega
 clear hm hg
 have PB0:=hide (boxes4 w (.slice A d.n cp) (.slice B m cq) (.int .i64 (d.lp:Int)) (.int .i64 3) (.int .i64 x) (.int .i64 y) (.int .i64 s) (.bool o))
 unfold W4 at PB0
 obtain ⟨x0,x1,x2,x3,b0,s0⟩:=PB0.out
 have X0:=hide x0
 have X1:=hide x1
 have X2:=hide x2
 have X3:=hide x3
 have B0:=hide b0
 have S0:=hide s0
 clear x0 x1 x2 x3 b0 s0 PB0
 unfold Mv.v
 go_enter Try.func23,Try.ntmps23
 go_wp2_with fail
 refine (valid_yes d hd A B cp cq m _ HM.out (HG.out.keep B0.out)).mono ?_
 rintro e w1 ⟨rfl,hb1⟩
 have Y0:=hide (X0.out.below hb1)
 have Y1:=hide (X1.out.below hb1)
 have Y2:=hide (X2.out.below hb1)
 have Y3:=hide (X3.out.below hb1)
 have B1:=hide (B0.out.trans (hb1.mono B0.out.size))
 have hsz1:w.heap.size + 4 ≤ w1.heap.size:=by have := hb1.size; have := S0.out; omega
 clear X0 X1 X2 X3 B0 S0 hb1
 obtain ⟨d0,d1,d2,d3⟩:=box3 Y0.out
 obtain ⟨m0,m1,m2,m3,m4,m5⟩:=box5 Y1.out
 go_wp2_with fail
 refine (inRange_3 d.n x y s o w1 (by omega)).mono ?_
 rintro e w2 ⟨rfl,hb2⟩
 rw [Pl.vb_false hin]
 have Z2:=hide (Y2.out.below hb2)
 have Z3:=hide (Y3.out.below hb2)
 have B2:=hide (B1.out.trans (hb2.mono B1.out.size))
 clear d0 d1 d2 d3 m0 m1 m2 m3 m4 m5 Y0 Y1 Y2 Y3 B1 hb2
 obtain ⟨p0,p1,p2,p3⟩:=box3 Z2.out
 obtain ⟨q0,q1,q2,q3,q4,q5⟩:=box5 Z3.out
 go_wp2
 refine bodyPost_ret (v := .tuple #[nilD,nilM,.int .i64 2]) ?_ rfl ?_
 ·obtain ⟨e0,e1,e2,e3,e4,e5,e6,e7⟩:=fin8 (Z2.out) (Z3.out) rfl rfl (by omega) (.slice none 0 0) (.slice none 0 0) (.int .i64 0) (.int .i64 0) (.int .i64 0) (.int .i64 0) (.int .i64 0) (.bool false)
  unfold nilD nilM
  simp [results,Try.results23,go_sem,e0,e1,e2,e3,e4,e5,e6,e7]
 ·exact ⟨(show ResErr _ _ from rfl),below8 B2.out _ _ _ _ _ _ _ _⟩
set_option maxRecDepth 100000 in
set_option maxHeartbeats 2000000 in
theorem apply_r4 (d:Pl.Dg) (hd:Pl.Valid d) (A B:Option Addr) (cp cq m:Nat) (x y s:Int) (o:Bool) (w:World) (hm:m = 4 * d.n) (hg:DgAt w A B d) (hin:¬ inR d.n ⟨4,x,y,s,o⟩) :
 Calls Try.prog 23 #[.agg #[.slice A d.n cp,.slice B m cq,.int .i64 d.lp],(Mv.mk 4 x y s o).v] w fun e w' => ResErr 2 e ∧ Below w.heap.size w w' := by
 have hn:=hd.wf.few
 have hlp:=hd.wf.lp
 have HM:=hide hm
 have HG:=hide hg
 have hm2:m ≤ 256:=by omega
 clear hm hg
 have PB0:=hide (boxes4 w (.slice A d.n cp) (.slice B m cq) (.int .i64 (d.lp:Int)) (.int .i64 4) (.int .i64 x) (.int .i64 y) (.int .i64 s) (.bool o))
 unfold W4 at PB0
 obtain ⟨x0,x1,x2,x3,b0,s0⟩:=PB0.out
 have X0:=hide x0
 have X1:=hide x1
 have X2:=hide x2
 have X3:=hide x3
 have B0:=hide b0
 have S0:=hide s0
 clear x0 x1 x2 x3 b0 s0 PB0
 unfold Mv.v
 go_enter Try.func23,Try.ntmps23
 go_wp2_with fail
 refine (valid_yes d hd A B cp cq m _ HM.out (HG.out.keep B0.out)).mono ?_
 rintro e w1 ⟨rfl,hb1⟩
 have Y0:=hide (X0.out.below hb1)
 have Y1:=hide (X1.out.below hb1)
 have Y2:=hide (X2.out.below hb1)
 have Y3:=hide (X3.out.below hb1)
 have B1:=hide (B0.out.trans (hb1.mono B0.out.size))
 have hsz1:w.heap.size + 4 ≤ w1.heap.size:=by have := hb1.size; have := S0.out; omega
 clear X0 X1 X2 X3 B0 S0 hb1
 obtain ⟨d0,d1,d2,d3⟩:=box3 Y0.out
 obtain ⟨m0,m1,m2,m3,m4,m5⟩:=box5 Y1.out
 go_wp2_with fail
 refine (inRange_4 d.n x y s o w1 (by omega)).mono ?_
 rintro e w2 ⟨rfl,hb2⟩
 rw [Pl.vb_false hin]
 have Z2:=hide (Y2.out.below hb2)
 have Z3:=hide (Y3.out.below hb2)
 have B2:=hide (B1.out.trans (hb2.mono B1.out.size))
 clear d0 d1 d2 d3 m0 m1 m2 m3 m4 m5 Y0 Y1 Y2 Y3 B1 hb2
 obtain ⟨p0,p1,p2,p3⟩:=box3 Z2.out
 obtain ⟨q0,q1,q2,q3,q4,q5⟩:=box5 Z3.out
 go_wp2
 refine bodyPost_ret (v := .tuple #[nilD,nilM,.int .i64 2]) ?_ rfl ?_
 ·obtain ⟨e0,e1,e2,e3,e4,e5,e6,e7⟩:=fin8 (Z2.out) (Z3.out) rfl rfl (by omega) (.slice none 0 0) (.slice none 0 0) (.int .i64 0) (.int .i64 0) (.int .i64 0) (.int .i64 0) (.int .i64 0) (.bool false)
  unfold nilD nilM
  simp [results,Try.results23,go_sem,e0,e1,e2,e3,e4,e5,e6,e7]
 ·exact ⟨(show ResErr _ _ from rfl),below8 B2.out _ _ _ _ _ _ _ _⟩
set_option maxRecDepth 100000 in
set_option maxHeartbeats 2000000 in
theorem apply_r5 (d:Pl.Dg) (hd:Pl.Valid d) (A B:Option Addr) (cp cq m:Nat) (x y s:Int) (o:Bool) (w:World) (hm:m = 4 * d.n) (hg:DgAt w A B d) (hin:¬ inR d.n ⟨5,x,y,s,o⟩) :
 Calls Try.prog 23 #[.agg #[.slice A d.n cp,.slice B m cq,.int .i64 d.lp],(Mv.mk 5 x y s o).v] w fun e w' => ResErr 2 e ∧ Below w.heap.size w w' := by
 have hn:=hd.wf.few
 have hlp:=hd.wf.lp
 have HM:=hide hm
 have HG:=hide hg
 have hm2:m ≤ 256:=by omega
 clear hm hg
 have PB0:=hide (boxes4 w (.slice A d.n cp) (.slice B m cq) (.int .i64 (d.lp:Int)) (.int .i64 5) (.int .i64 x) (.int .i64 y) (.int .i64 s) (.bool o))
 unfold W4 at PB0
 obtain ⟨x0,x1,x2,x3,b0,s0⟩:=PB0.out
 have X0:=hide x0
 have X1:=hide x1
 have X2:=hide x2
 have X3:=hide x3
 have B0:=hide b0
 have S0:=hide s0
 clear x0 x1 x2 x3 b0 s0 PB0
 unfold Mv.v
 go_enter Try.func23,Try.ntmps23
 go_wp2_with fail
 refine (valid_yes d hd A B cp cq m _ HM.out (HG.out.keep B0.out)).mono ?_
 rintro e w1 ⟨rfl,hb1⟩
 have Y0:=hide (X0.out.below hb1)
 have Y1:=hide (X1.out.below hb1)
 have Y2:=hide (X2.out.below hb1)
 have Y3:=hide (X3.out.below hb1)
 have B1:=hide (B0.out.trans (hb1.mono B0.out.size))
 have hsz1:w.heap.size + 4 ≤ w1.heap.size:=by have := hb1.size; have := S0.out; omega
 clear X0 X1 X2 X3 B0 S0 hb1
 obtain ⟨d0,d1,d2,d3⟩:=box3 Y0.out
 obtain ⟨m0,m1,m2,m3,m4,m5⟩:=box5 Y1.out
 go_wp2_with fail
 refine (inRange_5 d.n x y s o w1 (by omega)).mono ?_
 rintro e w2 ⟨rfl,hb2⟩
 rw [Pl.vb_false hin]
 have Z2:=hide (Y2.out.below hb2)
 have Z3:=hide (Y3.out.below hb2)
 have B2:=hide (B1.out.trans (hb2.mono B1.out.size))
 clear d0 d1 d2 d3 m0 m1 m2 m3 m4 m5 Y0 Y1 Y2 Y3 B1 hb2
 obtain ⟨p0,p1,p2,p3⟩:=box3 Z2.out
 obtain ⟨q0,q1,q2,q3,q4,q5⟩:=box5 Z3.out
 go_wp2
 refine bodyPost_ret (v := .tuple #[nilD,nilM,.int .i64 2]) ?_ rfl ?_
 ·obtain ⟨e0,e1,e2,e3,e4,e5,e6,e7⟩:=fin8 (Z2.out) (Z3.out) rfl rfl (by omega) (.slice none 0 0) (.slice none 0 0) (.int .i64 0) (.int .i64 0) (.int .i64 0) (.int .i64 0) (.int .i64 0) (.bool false)
  unfold nilD nilM
  simp [results,Try.results23,go_sem,e0,e1,e2,e3,e4,e5,e6,e7]
 ·exact ⟨(show ResErr _ _ from rfl),below8 B2.out _ _ _ _ _ _ _ _⟩
set_option maxRecDepth 100000 in
set_option maxHeartbeats 2000000 in
theorem apply_k (d:Pl.Dg) (hd:Pl.Valid d) (A B:Option Addr) (cp cq m:Nat) (k x y s:Int) (o:Bool) (w:World) (hm:m = 4 * d.n) (hg:DgAt w A B d) (hk:k < 1 ∨ 5 < k) :
 Calls Try.prog 23 #[.agg #[.slice A d.n cp,.slice B m cq,.int .i64 d.lp],(Mv.mk k x y s o).v] w fun e w' => ResErr 11 e ∧ Below w.heap.size w w' := by
 have hn:=hd.wf.few
 have hlp:=hd.wf.lp
 have HM:=hide hm
 have HG:=hide hg
 have hm2:m ≤ 256:=by omega
 clear hm hg
 have PB0:=hide (boxes4 w (.slice A d.n cp) (.slice B m cq) (.int .i64 (d.lp:Int)) (.int .i64 k) (.int .i64 x) (.int .i64 y) (.int .i64 s) (.bool o))
 unfold W4 at PB0
 obtain ⟨x0,x1,x2,x3,b0,s0⟩:=PB0.out
 have X0:=hide x0
 have X1:=hide x1
 have X2:=hide x2
 have X3:=hide x3
 have B0:=hide b0
 have S0:=hide s0
 clear x0 x1 x2 x3 b0 s0 PB0
 unfold Mv.v
 go_enter Try.func23,Try.ntmps23
 go_wp2_with fail
 refine (valid_yes d hd A B cp cq m _ HM.out (HG.out.keep B0.out)).mono ?_
 rintro e w1 ⟨rfl,hb1⟩
 have Y0:=hide (X0.out.below hb1)
 have Y1:=hide (X1.out.below hb1)
 have Y2:=hide (X2.out.below hb1)
 have Y3:=hide (X3.out.below hb1)
 have B1:=hide (B0.out.trans (hb1.mono B0.out.size))
 have hsz1:w.heap.size + 4 ≤ w1.heap.size:=by have := hb1.size; have := S0.out; omega
 clear X0 X1 X2 X3 B0 S0 hb1
 obtain ⟨d0,d1,d2,d3⟩:=box3 Y0.out
 obtain ⟨m0,m1,m2,m3,m4,m5⟩:=box5 Y1.out
 obtain ⟨p0,p1,p2,p3⟩:=box3 Y2.out
 obtain ⟨q0,q1,q2,q3,q4,q5⟩:=box5 Y3.out
 by_cases h1:k < 1
 ·go_wp2
  refine bodyPost_ret (v := .tuple #[nilD,nilM,.int .i64 11]) ?_ rfl ?_
  ·obtain ⟨e0,e1,e2,e3,e4,e5,e6,e7⟩:=fin8 (Y2.out) (Y3.out) rfl rfl (by omega) (.slice none 0 0) (.slice none 0 0) (.int .i64 0) (.int .i64 0) (.int .i64 0) (.int .i64 0) (.int .i64 0) (.bool false)
   unfold nilD nilM
   simp [results,Try.results23,go_sem,e0,e1,e2,e3,e4,e5,e6,e7]
  ·exact ⟨(show ResErr _ _ from rfl),below8 B1.out _ _ _ _ _ _ _ _⟩
 ·have h2:5 < k:=by omega
  go_wp2
  refine bodyPost_ret (v := .tuple #[nilD,nilM,.int .i64 11]) ?_ rfl ?_
  ·obtain ⟨e0,e1,e2,e3,e4,e5,e6,e7⟩:=fin8 (Y2.out) (Y3.out) rfl rfl (by omega) (.slice none 0 0) (.slice none 0 0) (.int .i64 0) (.int .i64 0) (.int .i64 0) (.int .i64 0) (.int .i64 0) (.bool false)
   unfold nilD nilM
   simp [results,Try.results23,go_sem,e0,e1,e2,e3,e4,e5,e6,e7]
  ·exact ⟨(show ResErr _ _ from rfl),below8 B1.out _ _ _ _ _ _ _ _⟩
noncomputable def apC (d:Pl.Dg) (m:Mv):Int :=
 if m.kind < 1 ∨ 5 < m.kind then 11 else if Pl.vb (inR d.n m) = false then 2 else if m.kind = 1 then curlableC d m.x else if m.kind = 2 then uncC d m.x.toNat else if m.kind = 3 then pkQ d m.x m.y m.sign else if m.kind = 4 then unpC d m.x.toNat m.y.toNat else sldC d m.x.toNat
def apD (d:Pl.Dg) (m:Mv):Pl.Dg :=
 if m.kind = 1 then crl d m.x m.sign m.over else if m.kind = 2 then unD d m.x.toNat else if m.kind = 3 then pkD d m.x m.y m.sign m.over else if m.kind = 4 then unpD d m.x.toNat m.y.toNat else sldD d m.x.toNat
def apI (d:Pl.Dg) (m:Mv):Mv :=
 if m.kind = 1 then ⟨2,d.n,0,0,false⟩ else if m.kind = 2 then unI d m.x.toNat else if m.kind = 3 then ⟨4,d.n,d.n + 1,0,false⟩ else if m.kind = 4 then unpI d m.x.toNat m.y.toNat else sldI d m.x.toNat
theorem resC_err {c:Int} {r:Pl.Dg} {mv:Mv} {w:World} {e:Ending} {w':World} (hc:c ≠ 0) (h:ResErr c e ∧ Below w.heap.size w w'):ResC c r mv w e w' := ⟨fun _ => h.1,fun h0 => absurd h0 hc,h.2⟩
theorem apply_any (d:Pl.Dg) (hd:Pl.Valid d) (A B:Option Addr) (cp cq m:Nat) (mv:Mv) (w:World) (hm:m = 4 * d.n) (hg:DgAt w A B d) :
 Calls Try.prog 23 #[.agg #[.slice A d.n cp,.slice B m cq,.int .i64 d.lp],mv.v] w (ResC (apC d mv) (apD d mv) (apI d mv) w) := by
 obtain ⟨k,x,y,s,o⟩:=mv
 by_cases hk:k < 1 ∨ 5 < k
 ·have e:apC d ⟨k,x,y,s,o⟩ = 11:=by unfold apC; rw [if_pos hk]
  rw [e]
  exact (apply_k d hd A B cp cq m k x y s o w hm hg hk).mono fun e w' h => resC_err (by decide) h
 ·by_cases hin:inR d.n ⟨k,x,y,s,o⟩
  ·have hv:¬ (Pl.vb (inR d.n ⟨k,x,y,s,o⟩) = false):=by rw [Pl.vb_true hin]; decide
   have e0:apC d ⟨k,x,y,s,o⟩ = if k = 1 then curlableC d x else if k = 2 then uncC d x.toNat else if k = 3 then pkQ d x y s else if k = 4 then unpC d x.toNat y.toNat else sldC d x.toNat:=by unfold apC; rw [if_neg hk,if_neg hv]
   have hk5:k = 1 ∨ k = 2 ∨ k = 3 ∨ k = 4 ∨ k = 5:=by omega
   rcases hk5 with rfl | rfl | rfl | rfl | rfl
   ·rw [e0]
    exact apply_1 d hd A B cp cq m x y s o w hm hg hin
   ·obtain ⟨c,rfl⟩:=Int.eq_ofNat_of_zero_le (show 0 ≤ x by have := hin; unfold inR at this; simp at this; omega)
    rw [e0]
    exact apply_2 d hd A B cp cq m c y s o w hm hg hin
   ·rw [e0]
    exact apply_3 d hd A B cp cq m x y s o w hm hg hin
   ·obtain ⟨c,rfl⟩:=Int.eq_ofNat_of_zero_le (show 0 ≤ x by have := hin; unfold inR at this; simp at this; omega)
    obtain ⟨c',rfl⟩:=Int.eq_ofNat_of_zero_le (show 0 ≤ y by have := hin; unfold inR at this; simp at this; omega)
    rw [e0]
    exact apply_4 d hd A B cp cq m c c' s o w hm hg hin
   ·obtain ⟨c,rfl⟩:=Int.eq_ofNat_of_zero_le (show 0 ≤ x by have := hin; unfold inR at this; simp at this; omega)
    rw [e0]
    exact apply_5 d hd A B cp cq m c y s o w hm hg hin
  ·have e:apC d ⟨k,x,y,s,o⟩ = 2:=by unfold apC; rw [if_neg hk,if_pos (Pl.vb_false hin)]
   rw [e]
   have hk5:k = 1 ∨ k = 2 ∨ k = 3 ∨ k = 4 ∨ k = 5:=by omega
   rcases hk5 with rfl | rfl | rfl | rfl | rfl
   ·exact (apply_r1 d hd A B cp cq m x y s o w hm hg hin).mono fun e w' h => resC_err (by decide) h
   ·exact (apply_r2 d hd A B cp cq m x y s o w hm hg hin).mono fun e w' h => resC_err (by decide) h
   ·exact (apply_r3 d hd A B cp cq m x y s o w hm hg hin).mono fun e w' h => resC_err (by decide) h
   ·exact (apply_r4 d hd A B cp cq m x y s o w hm hg hin).mono fun e w' h => resC_err (by decide) h
   ·exact (apply_r5 d hd A B cp cq m x y s o w hm hg hin).mono fun e w' h => resC_err (by decide) h
end Go.Proofs.Ytghdiolnonejaaa
end
section
namespace Go.Proofs.Ytghdiolnonejaaa
open Go Go.RowKit
theorem small_any (A B:Option Addr) (n q cp cq:Nat) (l:Value) (w:World):Calls Try.prog 28 #[.agg #[.slice A n cp,.slice B q cq,l]] w fun e w' => (e = .returned (.int .i64 0) ∨ e = .returned (.int .i64 1)) ∧ Below w.heap.size w w' := by
 by_cases h1:(12:Int) < (n:Int)
 ·go_enter Try.func28,Try.ntmps28
  go_wp2
  go_ret
  exact ⟨.inl rfl,(Below.refl _ _).alloc (Nat.le_refl _) _⟩
 ·by_cases h2:(60:Int) < (q:Int)
  ·go_enter Try.func28,Try.ntmps28
   go_wp2
   go_ret
   exact ⟨.inl rfl,(Below.refl _ _).alloc (Nat.le_refl _) _⟩
  ·go_enter Try.func28,Try.ntmps28
   go_wp2
   go_ret
   exact ⟨.inr rfl,(Below.refl _ _).alloc (Nat.le_refl _) _⟩
end Go.Proofs.Ytghdiolnonejaaa
end
section
namespace Go.Proofs.Ytghdiolnonejaaa
open Go Go.RowKit
theorem apC_zero {d:Pl.Dg} {m:Mv} (h:apC d m = 0):(1 ≤ m.kind ∧ m.kind ≤ 5) ∧ inR d.n m ∧
 (if m.kind = 1 then curlableC d m.x else if m.kind = 2 then uncC d m.x.toNat else if m.kind = 3 then pkQ d m.x m.y m.sign else if m.kind = 4 then unpC d m.x.toNat m.y.toNat else sldC d m.x.toNat) = 0 := by
 unfold apC at h
 by_cases hk:m.kind < 1 ∨ 5 < m.kind
 ·rw [if_pos hk] at h; exact absurd h (by decide)
 ·rw [if_neg hk] at h
  by_cases hv:Pl.vb (inR d.n m) = false
  ·rw [if_pos hv] at h; exact absurd h (by decide)
  ·rw [if_neg hv] at h
   exact ⟨by omega,Pl.vb_iff.1 (by simpa using hv),h⟩
theorem crl_ok {d:Pl.Dg} (hd:Pl.Valid d) {x s:Int} {ov:Bool} (hx:-1 ≤ x ∧ x < 4 * d.n) (hs:s = 1 ∨ s = -1) (h:curlableC d x = 0):Pl.Valid (crl d x s ov) ∧ Pl.Same d (crl d x s ov) := by
 unfold curlableC at h
 obtain ⟨a1,a2,a3,a4,n1,n2,n3,n4,n5,n6⟩:=(kq d.n s ov hs).bd
 have hl:=hd.wf.len
 by_cases hx0:x < 0
 ·rw [if_pos hx0] at h
  have hlp:¬ d.lp = 0:=fun e => by rw [if_pos e] at h; exact absurd h (by decide)
  rw [if_neg hlp] at h
  have hn:d.n + 1 ≤ 64:=Nat.le_of_not_lt fun e => by unfold fullC at h; rw [if_pos e] at h; exact absurd h (by decide)
  have hv:=crl_loop hd (x := x) (ov := ov) hs hn hx0
  have hm:=crl_mloop hd.wf (x := x) (ov := ov) hs hx0
  refine ⟨hv,Pl.Kd.same0 hd hv (crl_kd hd.wf hs hn ?_ ?_) (fun h hh => ?_) ?_ ?_⟩
  ·rw [hm,if_neg (Ne.symm n1),if_neg n5,if_neg n4,if_pos rfl]
  ·rw [hm,if_neg (Ne.symm n2),if_neg n6,if_pos rfl]
  ·rw [hm,if_neg (by omega),if_neg (by omega),if_neg (by omega),if_neg (by omega),app_m (by omega)]; rfl
  ·rw [hm,if_pos rfl]
  ·show d.lp = (if x < 0 then d.lp - 1 else d.lp) + 1
   rw [if_pos hx0]; omega
 ·rw [if_neg hx0] at h
  obtain ⟨k,rfl⟩:=Int.eq_ofNat_of_zero_le (Int.not_lt.1 hx0)
  have hk:k < 4 * d.n:=by omega
  rw [Int.toNat_natCast] at h
  by_cases ho:Pl.out d k = true
  ·rw [if_pos ho] at h
   have hn:d.n + 1 ≤ 64:=Nat.le_of_not_lt fun e => by unfold fullC at h; rw [if_pos e] at h; exact absurd h (by decide)
   have hv:=crl_edge hd (ov := ov) hs hn hk ho
   have hy:=hd.wf.lt k hk
   have hne:=hd.wf.ne k hk
   have e:(crl d (k:Int) s ov).mt = jn (jn (jn (d.mt ++ List.replicate 4 0) (kO0 d.n s ov) (kI1 d.n s ov)) (kO1 d.n s ov) (d.m k)) k (kI0 d.n s ov):=by
    unfold crl; simp only [if_neg (show ¬ ((k:Int) < 0) by omega),Int.toNat_natCast]
   have hm:∀ z,(crl d (k:Int) s ov).m z = if z = kI0 d.n s ov then k else if z = k then kI0 d.n s ov else if z = d.m k then kO1 d.n s ov else if z = kO1 d.n s ov then d.m k else if z = kI1 d.n s ov then kO0 d.n s ov else if z = kO0 d.n s ov then kI1 d.n s ov else (d.mt ++ List.replicate 4 0).getD z z:=fun z => by
    show (crl d (k:Int) s ov).mt.getD z z = _
    rw [e,jn_m _ _ _ _ _ (by rw [jn_len,jn_len]; simp; omega) (by rw [jn_len,jn_len]; simp; omega),jn_m _ _ _ _ _ (by rw [jn_len]; simp; omega) (by rw [jn_len]; simp; omega),jn_m _ _ _ _ _ (by simp; omega) (by simp; omega)]
   refine ⟨hv,Pl.Kd.same hd hv (crl_kd hd.wf hs hn ?_ ?_) hk (fun h hh h1 h2 => ?_) ?_ ?_ ?_ ?_ ?_⟩
   ·rw [hm,if_neg (Ne.symm n1),if_neg (by omega),if_neg (by omega),if_neg n5,if_neg n4,if_pos rfl]
   ·rw [hm,if_neg (Ne.symm n2),if_neg (by omega),if_neg (by omega),if_neg n6,if_pos rfl]
   ·rw [hm,if_neg (by omega),if_neg h1,if_neg h2,if_neg (by omega),if_neg (by omega),if_neg (by omega),app_m (by omega)]; rfl
   ·rw [hm,if_neg (Ne.symm n3),if_neg (by omega),if_neg (by omega),if_pos rfl]
   ·rw [hm,if_neg (by omega),if_neg hne,if_pos rfl]
   ·rw [hm,if_neg (by omega),if_pos rfl]
   ·rw [hm,if_pos rfl]
   ·show d.lp = if (k:Int) < 0 then d.lp - 1 else d.lp
    rw [if_neg (by omega)]
  ·rw [if_neg ho] at h; exact absurd h (by decide)
theorem kk_div (d:Pl.Dg) (c:Nat):kk d c / 4 = c := by unfold kk; split <;> (try split) <;> omega
theorem jn_jl (l:List Nat) (a b:Nat):jn l a b = Pl.jl l a b := rfl
theorem unD_ok {d:Pl.Dg} (hd:Pl.Valid d) {c:Nat} (hc:c < d.n) (h:uncC d c = 0):Pl.Valid (unD d c) ∧ Pl.Same d (unD d c) := by
 have hw:=hd.wf
 have ho:=kk_lt hc
 have hod:=kk_div d c
 unfold uncC at h
 by_cases hk:d.m (kk d c) / 4 = c
 ·rw [if_pos hk] at h
  have hk2:d.m (kk d c) / 4 = kk d c / 4:=by rw [hod,hk]
  unfold unD unM
  by_cases hn:d.m (kA d c) = kB d c
  ·rw [if_pos hn] at h
   have hl:d.lp + 1 ≤ 64:=Nat.le_of_not_lt fun e => by rw [if_pos e] at h; exact absurd h (by decide)
   rw [if_pos hn,if_pos hn]
   have v:=Pl.kink_valid0 hd ho hk2 hn hl
   have s:=Pl.kink_same0 hd ho hk2 hn hl rfl
   rw [hod] at v s
   exact ⟨v,s⟩
  ·rw [if_neg hn,if_neg hn]
   have hA:=kA_lt hc
   have hB:=kB_lt hw hc
   have nAB:d.m (kA d c) ≠ d.m (kB d c):=fun e => hw.ne _ ho (Pl.tn_inj (hw.bij.inj _ _ hA hB e).symm)
   have hmt:∀ z,z < 4 * d.n → (jn d.mt (d.m (kA d c)) (d.m (kB d c))).getD z 0 = if z = d.m (kA d c) then d.m (kB d c) else if z = d.m (kB d c) then d.m (kA d c) else d.m z:=fun z hz => by
    rw [jn_jl,Pl.jl_at (by rw [hw.len]; exact hw.lt _ hA) (by rw [hw.len]; exact hw.lt _ hB),Pl.dg_m hw hz]
    by_cases z1:z = d.m (kB d c)
    ·rw [if_pos z1,if_neg (fun e => nAB (e.symm.trans z1)),if_pos z1]
    ·rw [if_neg z1,if_neg z1]
   have v:=Pl.kink_valid hd ho hk2 hn hw.lp hmt
   have s:=Pl.kink_same hd ho hk2 hn hw.lp rfl hmt
   rw [hod] at v s
   exact ⟨v,s⟩
 ·rw [if_neg hk] at h; exact absurd h (by decide)
end Go.Proofs.Ytghdiolnonejaaa
end
