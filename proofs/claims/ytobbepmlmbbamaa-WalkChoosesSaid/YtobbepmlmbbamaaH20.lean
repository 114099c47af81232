/-
 The texts Rap, La, Lb, Lc.
-/
import Derived.Test.YtobbepmlmbbamaaH09
import Derived.Test.YtobbepmlmbbamaaH19
set_option linter.unusedVariables false
set_option linter.unusedSimpArgs false
section
namespace Go.Proofs.Ytobbepmlmbbamaa
open Go Go.RowKit
attribute [local go_sem ↓] Go.wp_at_zero Go.wp_at_succ
theorem AB.allR {w W:World}{gr gi:Nat}{a b c k x y s o:Value}(h:AB w gr gi [a,b,c] [k,x,y,s,o] W) :
 W.cell? ⟨w.heap.size,0,none⟩=some a∧W.cell? ⟨w.heap.size,1,none⟩=some b∧W.cell? ⟨w.heap.size,2,none⟩=some c∧W.cell? ⟨w.heap.size+1,0,none⟩=some k∧W.cell? ⟨w.heap.size+1,1,none⟩=some x∧W.cell? ⟨w.heap.size+1,2,none⟩=some y∧W.cell? ⟨w.heap.size+1,3,none⟩=some s∧W.cell? ⟨w.heap.size+1,4,none⟩=some o ∧
 W.cell? ⟨gr,0,none⟩=some (cv W ⟨gr,0,none⟩)∧W.cell? ⟨gr,1,none⟩=some (cv W ⟨gr,1,none⟩)∧W.cell? ⟨gr,2,none⟩=some (cv W ⟨gr,2,none⟩)∧W.cell? ⟨gi,0,none⟩=some (cv W ⟨gi,0,none⟩)∧W.cell? ⟨gi,1,none⟩=some (cv W ⟨gi,1,none⟩)∧W.cell? ⟨gi,2,none⟩=some (cv W ⟨gi,2,none⟩)∧W.cell? ⟨gi,3,none⟩=some (cv W ⟨gi,3,none⟩)∧W.cell? ⟨gi,4,none⟩=some (cv W ⟨gi,4,none⟩) ∧
 (∀o,W.frozen? ⟨gr,o,none⟩=false)∧(∀o,W.frozen? ⟨gi,o,none⟩=false)∧AB w gr gi [a,b,c] [k,x,y,s,o] W:=by
 obtain ⟨d0,d1,d2,_⟩:=box3 h.d
 obtain ⟨m0,m1,m2,m3,m4,_⟩:=box5 h.m
 obtain ⟨vs,r1,l1⟩:=h.r
 obtain ⟨us,r2,l2⟩:=h.i
 obtain ⟨e0,e1,e2,e3⟩:=cells3 r1 l1
 obtain ⟨f0,f1,f2,f3,f4,f5⟩:=cells5 r2 l2
 exact ⟨d0,d1,d2,m0,m1,m2,m3,m4,e0,e1,e2,f0,f1,f2,f3,f4,e3,f5,h⟩
theorem row3s {W:World}{g:Nat}{t:TypeId}{vs:List Value}(h:Row W g t vs)(l:vs.length=3)(a b c:Value):Row (((W.setCell ⟨g,0,none⟩ a).setCell ⟨g,1,none⟩ b).setCell ⟨g,2,none⟩ c) g t [a,b,c]:=by
 match vs,l with
 | [p,q,r],_=>exact ((h.set 0 a).set 1 b).set 2 c
theorem row5s {W:World}{g:Nat}{t:TypeId}{vs:List Value}(h:Row W g t vs)(l:vs.length=5)(a b c d e:Value):Row (((((W.setCell ⟨g,0,none⟩ a).setCell ⟨g,1,none⟩ b).setCell ⟨g,2,none⟩ c).setCell ⟨g,3,none⟩ d).setCell ⟨g,4,none⟩ e) g t [a,b,c,d,e]:=by
 match vs,l with
 | [p,q,r,s,u],_=>exact ((((h.set 0 a).set 1 b).set 2 c).set 3 d).set 4 e
def stRI (gr gi:Nat)(W:World)(a b c k x y s o:Value):World:=((((((((W.setCell ⟨gr,0,none⟩ a).setCell ⟨gr,1,none⟩ b).setCell ⟨gr,2,none⟩ c).setCell ⟨gi,0,none⟩ k).setCell ⟨gi,1,none⟩ x).setCell ⟨gi,2,none⟩ y).setCell ⟨gi,3,none⟩ s).setCell ⟨gi,4,none⟩ o)
theorem AB.laid {w W:World}{gr gi:Nat}{dv mv:List Value}(h:AB w gr gi dv mv W)(a b c k x y s o:Value) :
 Row (stRI gr gi W a b c k x y s o) gr 24 [a,b,c]∧Row (stRI gr gi W a b c k x y s o) gi 28 [k,x,y,s,o]∧AB w gr gi dv mv (stRI gr gi W a b c k x y s o):=by
 obtain ⟨vs,r1,l1⟩:=h.r
 have ne:gr≠gi:=h.ne
 have R3:=row3s r1 l1 a b c
 have A3:=((h.setR 0 a).setR 1 b).setR 2 c
 obtain ⟨us,r2,l2⟩:=A3.i
 unfold stRI
 exact ⟨((((R3.other (a:=⟨gi,0,none⟩) ne k).other (a:=⟨gi,1,none⟩) ne x).other (a:=⟨gi,2,none⟩) ne y).other (a:=⟨gi,3,none⟩) ne s).other (a:=⟨gi,4,none⟩) ne o,row5s r2 l2 k x y s o,((((A3.setI 0 k).setI 1 x).setI 2 y).setI 3 s).setI 4 o⟩
theorem AB.laidT {w W:World}{gr gi:Nat}{dv mv:List Value}{A B:Option Addr}{r:Pl.Dg}(h:AB w gr gi dv mv W)(hT:DgT W A B r)(a b c k x y s o:Value):DgT (stRI gr gi W a b c k x y s o) A B r:=by
 have A3:=(((((((AD.setR ⟨h,hT⟩ 0 a).setR 1 b).setR 2 c).setI 0 k).setI 1 x).setI 2 y).setI 3 s).setI 4 o
 exact A3.t
theorem rcopy_own (d:Pl.Dg)(hd:Pl.Wf d)(A B:Option Addr)(cp cq m:Nat)(w:World)(hm:m=4 * d.n)(hg:DgAt w A B d) :
 Calls Try.prog 25 #[.agg #[.slice A d.n cp,.slice B m cq,.int .i64 (d.lp:Int)]] w fun e w'=>∃(A2 B2:Option Addr) (c2 d2:Nat),e = .returned (.agg #[.slice A2 d.n c2,.slice B2 m d2,.int .i64 (d.lp:Int)])∧Own2 w.heap.size w' (.slice A2 d.n c2) (.slice B2 m d2) d.n m d.sg d.mt∧Below w.heap.size w w':=by
 have hn:=hd.few
 refine (rcopy_any A B d.n cp m cq (d.lp:Int) d.sg (nats d.mt) w hg.s (by rw [hm];exact hg.m) (by omega) (by omega)).mono ?_
 rintro e w' ⟨A2,B2,c2,d2,rfl,oS,oM,hb,hne⟩
 refine ⟨A2,B2,c2,d2,rfl,⟨oS,?_,hne,hb.size⟩,hb⟩
 unfold nats at oM
 rw [List.map_map] at oM
 exact oM
theorem rvalid_yes (d:Pl.Dg)(hd:Pl.Valid d)(A B:Option Addr)(cp cq m:Nat)(w:World)(hm:m=4 * d.n)(hg:DgAt w A B d) :
 Calls Try.prog 29 #[.agg #[.slice A d.n cp,.slice B m cq,.int .i64 d.lp]] w fun e w'=>e = .returned (.bool true)∧Below w.heap.size w w':=by
 have hn:=hd.wf.few
 have hl:=hd.wf.lp
 refine (rvalid_any d.sg (nats d.mt) d.lp A B d.n m cp cq w hg.s (by rw [hm];exact hg.m) (by unfold maxLen;omega) (by unfold maxLen;omega) (by omega)).mono ?_
 rintro e w' ⟨h1,h2⟩
 rw [Pl.vb_true (vl_of.2 hd)] at h1
 exact ⟨h1,h2⟩
set_option maxRecDepth 100000 in
set_option maxHeartbeats 8000000 in
theorem rapply_1 (d:Pl.Dg)(hd:Pl.Valid d)(A B:Option Addr)(cp cq m:Nat)(x y s:Int)(o:Bool)(w:World)(hm:m=4 * d.n)(hg:DgAt w A B d) :
 Calls Try.prog 23 #[.agg #[.slice A d.n cp,.slice B m cq,.int .i64 d.lp],(Mv.mk 1 x y s o).v] w (ResC (apC d ⟨1,x,y,s,o⟩) (apD d ⟨1,x,y,s,o⟩) (apI d ⟨1,x,y,s,o⟩) w):=by
 have hn:=hd.wf.few
 have hlp:=hd.wf.lp
 have HM:=hide hm
 have HG:=hide hg
 have hm2:m≤256:=by omega
 clear hm hg
 have PB0:=hide (boxes4 w (.slice A d.n cp) (.slice B m cq) (.int .i64 (d.lp:Int)) (.int .i64 1) (.int .i64 x) (.int .i64 y) (.int .i64 s) (.bool o))
 unfold W4 at PB0
 obtain ⟨x0,x1,x2,x3,b0,s0⟩:=PB0.out
 have X0:=hide x0
 have X1:=hide x1
 have X2:=hide x2
 have X3:=hide x3
 have B0:=hide b0
 have S0:=hide s0
 clear x0 x1 x2 x3 b0 s0 PB0
 unfold Mv.v
 go_enter Try.func23,Try.ntmps23
 go_wp2_with fail
 refine (rvalid_yes d hd A B cp cq m _ HM.out (HG.out.keep B0.out)).mono ?_
 rintro e w1 ⟨rfl,hb1⟩
 have Y0:=hide (X0.out.below hb1)
 have Y1:=hide (X1.out.below hb1)
 have Y2:=hide (X2.out.below hb1)
 have Y3:=hide (X3.out.below hb1)
 have B1:=hide (B0.out.trans (hb1.mono B0.out.size))
 have hsz1:w.heap.size+4≤w1.heap.size:=by have:=hb1.size;have:=S0.out;omega
 clear X0 X1 X2 X3 B0 S0 hb1
 have AB2:=hide (show AB w w1.heap.size (w1.heap.size+1) [.slice A d.n cp,.slice B m cq,.int .i64 (d.lp:Int)] [.int .i64 1,.int .i64 x,.int .i64 y,.int .i64 s,.bool o] ((w1.alloc (.cells #[.slice none 0 0,.slice none 0 0,.int .i64 0] 24)).alloc (.cells #[.int .i64 0,.int .i64 0,.int .i64 0,.int .i64 0,.bool false] 28)) from
  ⟨(Y0.out.alloc _).alloc _,(Y1.out.alloc _).alloc _,⟨_,(Y2.out.alloc _).alloc _,rfl⟩,⟨_,(Y3.out.alloc _).alloc _,rfl⟩,⟨_,(row_at (vs:=[_,_,_]) rfl).alloc _,rfl⟩,⟨_,row_at (vs:=[_,_,_,_,_]) (by simp),rfl⟩,(B1.out.alloc B1.out.size _).alloc (B1.out.alloc B1.out.size _).size _,by omega,by omega,by omega⟩)
 obtain ⟨d0,d1,d2,d3⟩:=box3 Y0.out
 obtain ⟨m0,m1,m2,m3,m4,m5⟩:=box5 Y1.out
 have z0:w.heap.size<w1.heap.size:=by omega
 have z1:w.heap.size+1<w1.heap.size:=by omega
 clear Y0 Y1 Y2 Y3 B1 hsz1
 obtain ⟨cc,hcc⟩:∃c,c=apC d ⟨1,x,y,s,o⟩:=⟨_,rfl⟩
 obtain ⟨rr,hrr⟩:∃r,r=apD d ⟨1,x,y,s,o⟩:=⟨_,rfl⟩
 obtain ⟨mm,hmm⟩:∃r,r=apI d ⟨1,x,y,s,o⟩:=⟨_,rfl⟩
 have CF:=hide (fun (base:Nat) (A2 B2:Option Addr) (c2 d2:Nat) (W:World) (h:Own2 base W (.slice A2 d.n c2) (.slice B2 m d2) d.n m d.sg d.mt)=>rcurl_any d hd.wf base c2 d2 m A2 B2 x y s o W HM.out h)
 rw [←hcc,←hrr,←hmm] at CF
 have HCC:=hide hcc
 have HRR:=hide hrr
 have HMM:=hide hmm
 clear hcc hrr hmm
 have CC:=hide (fun W hW=>rcopy_own d hd.wf A B cp cq m W HM.out hW)
 obtain ⟨gr,hgr⟩:∃g,g=w1.heap.size:=⟨_,rfl⟩
 obtain ⟨gi,hgi⟩:∃g,g=w1.heap.size+1:=⟨_,rfl⟩
 go_upto_block 0 with fail
 obtain ⟨w2,hw2⟩:∃W:World,W=(w1.alloc (.cells #[.slice none 0 0,.slice none 0 0,.int .i64 0] 24)).alloc (.cells #[.int .i64 0,.int .i64 0,.int .i64 0,.int .i64 0,.bool false] 28):=⟨_,rfl⟩
 rw [←hgi,←hgr,←hw2] at AB2
 rw [←hgi,←hgr,←hw2]
 have HG2:=hide (HG.out.keep AB2.out.bel)
 clear hw2 hgr hgi d0 d1 d2 d3 m0 m1 m2 m3 m4 m5 z0 z1
 have y1:gr≠w.heap.size+1+1:=by have:=AB2.out.lr;omega
 have y2:gr≠w.heap.size+1+1+1:=by have:=AB2.out.lr;omega
 have y3:gi≠w.heap.size+1+1:=by have:=AB2.out.li;omega
 have y4:gi≠w.heap.size+1+1+1:=by have:=AB2.out.li;omega
 have y5:gr≠gi:=AB2.out.ne
 have y6:w.heap.size+1+1≠w.heap.size+1+1+1:=by omega
 have y7:gr≠w.heap.size:=by have:=AB2.out.lr;omega
 have y8:gr≠w.heap.size+1:=by have:=AB2.out.lr;omega
 have y9:gi≠w.heap.size:=by have:=AB2.out.li;omega
 have y10:gi≠w.heap.size+1:=by have:=AB2.out.li;omega
 obtain ⟨s0,s1,s2,s3,s4,s5,s6,s7,e0,e1,e2,f0,f1,f2,f3,f4,fr1,fr2,_⟩:=AB2.out.allR
 by_cases hc:cc=0
 ·obtain ⟨k9,x9,y9',s9,o9⟩:=mm
  have CF0:=hide (fun (base:Nat) (A2 B2:Option Addr) (c2 d2:Nat) (W:World) (h:Own2 base W (.slice A2 d.n c2) (.slice B2 m d2) d.n m d.sg d.mt)=>(CF.out base A2 B2 c2 d2 W h).mono (R':=fun e w'=>∃(A9 B9:Option Addr) (c8 c9:Nat),e = .returned (.tuple #[.agg #[.slice A9 rr.n c8,.slice B9 (4 * rr.n) c9,.int .i64 (rr.lp:Int)],.agg #[.int .i64 k9,.int .i64 x9,.int .i64 y9',.int .i64 s9,.bool o9],.int .i64 0])∧DgT w' A9 B9 rr∧Below base W w') (fun e w' hres=>by
   obtain ⟨A9,B9,c8,c9,he,hT⟩:=hres.2.1 hc
   exact ⟨A9,B9,c8,c9,he,hT,hres.2.2⟩))
  have HC:=hide hc
  clear hc CF
  obtain ⟨N9,hN9⟩:∃n,n=rr.n:=⟨_,rfl⟩
  obtain ⟨L9,hL9⟩:∃n,n=rr.lp:=⟨_,rfl⟩
  rw [←hN9,←hL9] at CF0
  have HN9:=hide hN9
  have HL9:=hide hL9
  clear hN9 hL9
  go_cut [7] from 19 to 68 (fun s7' wx=>s7' = .int .i64 0∧∃(A9 B9:Option Addr) (c8 c9:Nat),Row wx gr 24 [.slice A9 N9 c8,.slice B9 (4 * N9) c9,.int .i64 (L9:Int)]∧Row wx gi 28 [.int .i64 k9,.int .i64 x9,.int .i64 y9',.int .i64 s9,.bool o9]∧DgT wx A9 B9 rr∧AB w gr gi [.slice A d.n cp,.slice B m cq,.int .i64 (d.lp:Int)] [.int .i64 1,.int .i64 x,.int .i64 y,.int .i64 s,.bool o] wx)
  case first =>
   go_upto_region 7 with fail
   go_region_held3 (fun w'=>w'.cell? ⟨w.heap.size,0,none⟩=some (.slice A d.n cp)∧w'.cell? ⟨w.heap.size,1,none⟩=some (.slice B m cq)∧w'.cell? ⟨w.heap.size,2,none⟩=some (.int .i64 (d.lp:Int))∧w'.cell? ⟨w.heap.size+1,0,none⟩=some (.int .i64 1)∧w'.cell? ⟨w.heap.size+1,1,none⟩=some (.int .i64 x)∧w'.cell? ⟨w.heap.size+1,2,none⟩=some (.int .i64 y)∧w'.cell? ⟨w.heap.size+1,3,none⟩=some (.int .i64 s)∧w'.cell? ⟨w.heap.size+1,4,none⟩=some (.bool o)∧w'.cell? ⟨gr,0,none⟩=some (cv w' ⟨gr,0,none⟩)∧w'.cell? ⟨gr,1,none⟩=some (cv w' ⟨gr,1,none⟩)∧w'.cell? ⟨gr,2,none⟩=some (cv w' ⟨gr,2,none⟩)∧w'.cell? ⟨gi,0,none⟩=some (cv w' ⟨gi,0,none⟩)∧w'.cell? ⟨gi,1,none⟩=some (cv w' ⟨gi,1,none⟩)∧w'.cell? ⟨gi,2,none⟩=some (cv w' ⟨gi,2,none⟩)∧w'.cell? ⟨gi,3,none⟩=some (cv w' ⟨gi,3,none⟩)∧w'.cell? ⟨gi,4,none⟩=some (cv w' ⟨gi,4,none⟩)∧(∀o,w'.frozen? ⟨gr,o,none⟩=false)∧(∀o,w'.frozen? ⟨gi,o,none⟩=false)∧AB w gr gi [.slice A d.n cp,.slice B m cq,.int .i64 (d.lp:Int)] [.int .i64 1,.int .i64 x,.int .i64 y,.int .i64 s,.bool o] w')
    ((go_split_ands;refine AB.allR ?_;(repeat (first | (with_reducible assumption) | (with_reducible exact AB2.out) | (with_reducible refine AB.setR ?_ _ _) | (with_reducible refine AB.setI ?_ _ _) | (with_reducible refine AB.drew ?_) | (with_reducible refine AB.below ?_ hbc) | (with_reducible refine AB.below ?_ hba)))))
    (first
      | (have hx6 := hba
         clear hx6
         go_at_call 53
         refine Calls.mono (CF0.out _ _ _ _ _ _ hown) ?_
         rintro e wb ⟨A9,B9,c8,c9,rfl,hT,hbb⟩
         have hbc:=hba.trans hbb)
      | (go_at_call 25
         refine Calls.mono (CC.out _ ?_) ?_
         ·exact HG.out.keep AB2.out.drew.bel
         rintro e wa ⟨A2,B2,c2,d2,rfl,hown,hba⟩))
   all_goals (go_wp2_with fail;go_meet)
   all_goals (
    have AB3:=AB2.out.drew.below hbc
    have LL:=AB3.laid (.slice A9 N9 c8) (.slice B9 (4 * N9) c9) (.int .i64 (L9:Int)) (.int .i64 k9) (.int .i64 x9) (.int .i64 y9') (.int .i64 s9) (.bool o9)
    exact ⟨rfl,A9,B9,c8,c9,LL.1,LL.2.1,(AB3.laidT hT _ _ _ _ _ _ _ _),LL.2.2⟩)
  case rest =>
   obtain ⟨rfl,A9,B9,c8,c9,hr,hi,hT,hAB⟩:=hcut
   have AB3:=hide hAB
   have AD3:=hide (show AD w gr gi _ _ A9 B9 rr wc from ⟨hAB,hT⟩)
   obtain ⟨_,r5,l5⟩:=AB3.out.rd
   obtain ⟨_,r6,l6⟩:=AB3.out.rm
   clear s0 s1 s2 s3 s4 s5 s6 s7 e0 e1 e2 f0 f1 f2 f3 f4 fr1 fr2 hT hAB
   obtain ⟨e0,e1,e2,e3⟩:=box3 hr
   obtain ⟨f0,f1,f2,f3,f4,f5⟩:=box5 hi
   obtain ⟨g0,g1,g2,g3⟩:=cells3 r5 l5
   obtain ⟨h0,h1,h2,h3,h4,h5⟩:=cells5 r6 l6
   clear r5 l5 r6 l6 hr hi AB2 HG2
   go_wp2_with fail
   go_region
   all_goals (go_wp2_with fail)
   all_goals clear e0 e1 e2 e3 f0 f1 f2 f3 f4 f5 g0 g1 g2 g3 h0 h1 h2 h3 h4 h5
   all_goals (
    obtain ⟨_,r5,l5⟩:=AD3.out.b.rd
    obtain ⟨_,r6,l6⟩:=AD3.out.b.rm
    refine bodyPost_ret (v := .tuple #[.agg #[.slice A9 N9 c8,.slice B9 (4 * N9) c9,.int .i64 (L9:Int)],.agg #[.int .i64 k9,.int .i64 x9,.int .i64 y9',.int .i64 s9,.bool o9],.int .i64 0]) ?_ rfl ?_
    ·obtain ⟨e0,e1,e2,e3,e4,e5,e6,e7⟩:=fin8 r5 r6 l5 l6 (by omega) (.slice A9 N9 c8) (.slice B9 (4 * N9) c9) (.int .i64 (L9:Int)) (.int .i64 k9) (.int .i64 x9) (.int .i64 y9') (.int .i64 s9) (.bool o9)
     simp [results,Try.results23,go_sem,e0,e1,e2,e3,e4,e5,e6,e7]
    ·have AD5:=(((((((AD3.out.setD 0 (.slice A9 N9 c8)).setD 1 (.slice B9 (4 * N9) c9)).setD 2 (.int .i64 (L9:Int))).setM 0 (.int .i64 k9)).setM 1 (.int .i64 x9)).setM 2 (.int .i64 y9')).setM 3 (.int .i64 s9)).setM 4 (.bool o9)
     rw [←HCC.out,←HRR.out,←HMM.out]
     refine ⟨fun h=>absurd HC.out h,fun _=>⟨A9,B9,c8,c9,by rw [←HN9.out,←HL9.out];rfl,AD5.drew.t⟩,AD5.drew.b.bel⟩)
 ·have CF0:=hide (fun (base:Nat) (A2 B2:Option Addr) (c2 d2:Nat) (W:World) (h:Own2 base W (.slice A2 d.n c2) (.slice B2 m d2) d.n m d.sg d.mt)=>(CF.out base A2 B2 c2 d2 W h).mono (R':=fun e w'=>RErr cc e∧Below base W w') (fun e w' hres=>⟨hres.1 hc,hres.2.2⟩))
  have HC:=hide hc
  have t1:(cc != 0)=true:=by rw [bne_iff_ne];exact hc
  clear hc CF
  go_cut [7] from 19 to 68 (fun s7' wx=>s7' = .int .i64 cc∧AB w gr gi [.slice A d.n cp,.slice B m cq,.int .i64 (d.lp:Int)] [.int .i64 1,.int .i64 x,.int .i64 y,.int .i64 s,.bool o] wx)
  case first =>
   go_upto_region 7 with fail
   go_region_held3 (fun w'=>w'.cell? ⟨w.heap.size,0,none⟩=some (.slice A d.n cp)∧w'.cell? ⟨w.heap.size,1,none⟩=some (.slice B m cq)∧w'.cell? ⟨w.heap.size,2,none⟩=some (.int .i64 (d.lp:Int))∧w'.cell? ⟨w.heap.size+1,0,none⟩=some (.int .i64 1)∧w'.cell? ⟨w.heap.size+1,1,none⟩=some (.int .i64 x)∧w'.cell? ⟨w.heap.size+1,2,none⟩=some (.int .i64 y)∧w'.cell? ⟨w.heap.size+1,3,none⟩=some (.int .i64 s)∧w'.cell? ⟨w.heap.size+1,4,none⟩=some (.bool o)∧w'.cell? ⟨gr,0,none⟩=some (cv w' ⟨gr,0,none⟩)∧w'.cell? ⟨gr,1,none⟩=some (cv w' ⟨gr,1,none⟩)∧w'.cell? ⟨gr,2,none⟩=some (cv w' ⟨gr,2,none⟩)∧w'.cell? ⟨gi,0,none⟩=some (cv w' ⟨gi,0,none⟩)∧w'.cell? ⟨gi,1,none⟩=some (cv w' ⟨gi,1,none⟩)∧w'.cell? ⟨gi,2,none⟩=some (cv w' ⟨gi,2,none⟩)∧w'.cell? ⟨gi,3,none⟩=some (cv w' ⟨gi,3,none⟩)∧w'.cell? ⟨gi,4,none⟩=some (cv w' ⟨gi,4,none⟩)∧(∀o,w'.frozen? ⟨gr,o,none⟩=false)∧(∀o,w'.frozen? ⟨gi,o,none⟩=false)∧AB w gr gi [.slice A d.n cp,.slice B m cq,.int .i64 (d.lp:Int)] [.int .i64 1,.int .i64 x,.int .i64 y,.int .i64 s,.bool o] w')
    ((go_split_ands;refine AB.allR ?_;(repeat (first | (with_reducible assumption) | (with_reducible exact AB2.out) | (with_reducible refine AB.setR ?_ _ _) | (with_reducible refine AB.setI ?_ _ _) | (with_reducible refine AB.drew ?_) | (with_reducible refine AB.below ?_ hbc) | (with_reducible refine AB.below ?_ hba)))))
    (first
      | (have hx6 := hba
         clear hx6
         go_at_call 53
         refine Calls.mono (CF0.out _ _ _ _ _ _ hown) ?_
         rintro e wb ⟨⟨A9,B9,n9,q9,c8,c9,lp9,k9,x9,y9',s9,o9,rfl⟩,hbb⟩
         have hbc:=hba.trans hbb)
      | (go_at_call 25
         refine Calls.mono (CC.out _ ?_) ?_
         ·exact HG.out.keep AB2.out.drew.bel
         rintro e wa ⟨A2,B2,c2,d2,rfl,hown,hba⟩))
   all_goals (go_wp2_with fail;go_meet)
   all_goals exact ⟨rfl,((AB2.out.drew.below hbc).laid _ _ _ _ _ _ _ _).2.2⟩
  case rest =>
   obtain ⟨rfl,hAB⟩:=hcut
   have AB3:=hide hAB
   obtain ⟨_,r5,l5⟩:=AB3.out.rd
   obtain ⟨_,r6,l6⟩:=AB3.out.rm
   clear s0 s1 s2 s3 s4 s5 s6 s7 e0 e1 e2 f0 f1 f2 f3 f4 fr1 fr2 hAB
   obtain ⟨g0,g1,g2,g3⟩:=cells3 r5 l5
   obtain ⟨h0,h1,h2,h3,h4,h5⟩:=cells5 r6 l6
   clear AB2 HG2
   go_wp2
   clear g0 g1 g2 g3 h0 h1 h2 h3 h4 h5
   refine bodyPost_ret (v := .tuple #[nilD,nilM,.int .i64 cc]) ?_ rfl ?_
   ·obtain ⟨e0,e1,e2,e3,e4,e5,e6,e7⟩:=fin8 r5 r6 l5 l6 (by omega) (.slice none 0 0) (.slice none 0 0) (.int .i64 0) (.int .i64 0) (.int .i64 0) (.int .i64 0) (.int .i64 0) (.bool false)
    unfold nilD nilM
    simp [results,Try.results23,go_sem,e0,e1,e2,e3,e4,e5,e6,e7]
   ·rw [←HCC.out,←HRR.out,←HMM.out]
    exact ⟨fun _=>(show ResErr _ _ from rfl),fun h=>absurd h HC.out,below8 AB3.out.bel _ _ _ _ _ _ _ _⟩
set_option maxRecDepth 100000 in
set_option maxHeartbeats 8000000 in
theorem rapply_2 (d:Pl.Dg)(hd:Pl.Valid d)(A B:Option Addr)(cp cq m:Nat)(x y s:Int)(o:Bool)(w:World)(hm:m=4 * d.n)(hg:DgAt w A B d) :
 Calls Try.prog 23 #[.agg #[.slice A d.n cp,.slice B m cq,.int .i64 d.lp],(Mv.mk 2 x y s o).v] w (ResC (apC d ⟨2,x,y,s,o⟩) (apD d ⟨2,x,y,s,o⟩) (apI d ⟨2,x,y,s,o⟩) w):=by
 have hn:=hd.wf.few
 have hlp:=hd.wf.lp
 have HM:=hide hm
 have HG:=hide hg
 have hm2:m≤256:=by omega
 clear hm hg
 have PB0:=hide (boxes4 w (.slice A d.n cp) (.slice B m cq) (.int .i64 (d.lp:Int)) (.int .i64 2) (.int .i64 x) (.int .i64 y) (.int .i64 s) (.bool o))
 unfold W4 at PB0
 obtain ⟨x0,x1,x2,x3,b0,s0⟩:=PB0.out
 have X0:=hide x0
 have X1:=hide x1
 have X2:=hide x2
 have X3:=hide x3
 have B0:=hide b0
 have S0:=hide s0
 clear x0 x1 x2 x3 b0 s0 PB0
 unfold Mv.v
 go_enter Try.func23,Try.ntmps23
 go_wp2_with fail
 refine (rvalid_yes d hd A B cp cq m _ HM.out (HG.out.keep B0.out)).mono ?_
 rintro e w1 ⟨rfl,hb1⟩
 have Y0:=hide (X0.out.below hb1)
 have Y1:=hide (X1.out.below hb1)
 have Y2:=hide (X2.out.below hb1)
 have Y3:=hide (X3.out.below hb1)
 have B1:=hide (B0.out.trans (hb1.mono B0.out.size))
 have hsz1:w.heap.size+4≤w1.heap.size:=by have:=hb1.size;have:=S0.out;omega
 clear X0 X1 X2 X3 B0 S0 hb1
 have AB2:=hide (show AB w w1.heap.size (w1.heap.size+1) [.slice A d.n cp,.slice B m cq,.int .i64 (d.lp:Int)] [.int .i64 2,.int .i64 x,.int .i64 y,.int .i64 s,.bool o] ((w1.alloc (.cells #[.slice none 0 0,.slice none 0 0,.int .i64 0] 24)).alloc (.cells #[.int .i64 0,.int .i64 0,.int .i64 0,.int .i64 0,.bool false] 28)) from
  ⟨(Y0.out.alloc _).alloc _,(Y1.out.alloc _).alloc _,⟨_,(Y2.out.alloc _).alloc _,rfl⟩,⟨_,(Y3.out.alloc _).alloc _,rfl⟩,⟨_,(row_at (vs:=[_,_,_]) rfl).alloc _,rfl⟩,⟨_,row_at (vs:=[_,_,_,_,_]) (by simp),rfl⟩,(B1.out.alloc B1.out.size _).alloc (B1.out.alloc B1.out.size _).size _,by omega,by omega,by omega⟩)
 obtain ⟨d0,d1,d2,d3⟩:=box3 Y0.out
 obtain ⟨m0,m1,m2,m3,m4,m5⟩:=box5 Y1.out
 have z0:w.heap.size<w1.heap.size:=by omega
 have z1:w.heap.size+1<w1.heap.size:=by omega
 clear Y0 Y1 Y2 Y3 B1 hsz1
 obtain ⟨cc,hcc⟩:∃c,c=apC d ⟨2,x,y,s,o⟩:=⟨_,rfl⟩
 obtain ⟨rr,hrr⟩:∃r,r=apD d ⟨2,x,y,s,o⟩:=⟨_,rfl⟩
 obtain ⟨mm,hmm⟩:∃r,r=apI d ⟨2,x,y,s,o⟩:=⟨_,rfl⟩
 have CF:=hide (fun (base:Nat) (A2 B2:Option Addr) (c2 d2:Nat) (W:World) (h:Own2 base W (.slice A2 d.n c2) (.slice B2 m d2) d.n m d.sg d.mt)=>runcurl_any d hd.wf base c2 d2 m A2 B2 x y s o W HM.out h)
 rw [←hcc,←hrr,←hmm] at CF
 have HCC:=hide hcc
 have HRR:=hide hrr
 have HMM:=hide hmm
 clear hcc hrr hmm
 have CC:=hide (fun W hW=>rcopy_own d hd.wf A B cp cq m W HM.out hW)
 obtain ⟨gr,hgr⟩:∃g,g=w1.heap.size:=⟨_,rfl⟩
 obtain ⟨gi,hgi⟩:∃g,g=w1.heap.size+1:=⟨_,rfl⟩
 go_upto_block 0 with fail
 obtain ⟨w2,hw2⟩:∃W:World,W=(w1.alloc (.cells #[.slice none 0 0,.slice none 0 0,.int .i64 0] 24)).alloc (.cells #[.int .i64 0,.int .i64 0,.int .i64 0,.int .i64 0,.bool false] 28):=⟨_,rfl⟩
 rw [←hgi,←hgr,←hw2] at AB2
 rw [←hgi,←hgr,←hw2]
 have HG2:=hide (HG.out.keep AB2.out.bel)
 clear hw2 hgr hgi d0 d1 d2 d3 m0 m1 m2 m3 m4 m5 z0 z1
 have y1:gr≠w.heap.size+1+1:=by have:=AB2.out.lr;omega
 have y2:gr≠w.heap.size+1+1+1:=by have:=AB2.out.lr;omega
 have y3:gi≠w.heap.size+1+1:=by have:=AB2.out.li;omega
 have y4:gi≠w.heap.size+1+1+1:=by have:=AB2.out.li;omega
 have y5:gr≠gi:=AB2.out.ne
 have y6:w.heap.size+1+1≠w.heap.size+1+1+1:=by omega
 have y7:gr≠w.heap.size:=by have:=AB2.out.lr;omega
 have y8:gr≠w.heap.size+1:=by have:=AB2.out.lr;omega
 have y9:gi≠w.heap.size:=by have:=AB2.out.li;omega
 have y10:gi≠w.heap.size+1:=by have:=AB2.out.li;omega
 obtain ⟨s0,s1,s2,s3,s4,s5,s6,s7,e0,e1,e2,f0,f1,f2,f3,f4,fr1,fr2,_⟩:=AB2.out.allR
 by_cases hc:cc=0
 ·obtain ⟨k9,x9,y9',s9,o9⟩:=mm
  have CF0:=hide (fun (base:Nat) (A2 B2:Option Addr) (c2 d2:Nat) (W:World) (h:Own2 base W (.slice A2 d.n c2) (.slice B2 m d2) d.n m d.sg d.mt)=>(CF.out base A2 B2 c2 d2 W h).mono (R':=fun e w'=>∃(A9 B9:Option Addr) (c8 c9:Nat),e = .returned (.tuple #[.agg #[.slice A9 rr.n c8,.slice B9 (4 * rr.n) c9,.int .i64 (rr.lp:Int)],.agg #[.int .i64 k9,.int .i64 x9,.int .i64 y9',.int .i64 s9,.bool o9],.int .i64 0])∧DgT w' A9 B9 rr∧Below base W w') (fun e w' hres=>by
   obtain ⟨A9,B9,c8,c9,he,hT⟩:=hres.2.1 hc
   exact ⟨A9,B9,c8,c9,he,hT,hres.2.2⟩))
  have HC:=hide hc
  clear hc CF
  obtain ⟨N9,hN9⟩:∃n,n=rr.n:=⟨_,rfl⟩
  obtain ⟨L9,hL9⟩:∃n,n=rr.lp:=⟨_,rfl⟩
  rw [←hN9,←hL9] at CF0
  have HN9:=hide hN9
  have HL9:=hide hL9
  clear hN9 hL9
  go_cut [7] from 19 to 68 (fun s7' wx=>s7' = .int .i64 0∧∃(A9 B9:Option Addr) (c8 c9:Nat),Row wx gr 24 [.slice A9 N9 c8,.slice B9 (4 * N9) c9,.int .i64 (L9:Int)]∧Row wx gi 28 [.int .i64 k9,.int .i64 x9,.int .i64 y9',.int .i64 s9,.bool o9]∧DgT wx A9 B9 rr∧AB w gr gi [.slice A d.n cp,.slice B m cq,.int .i64 (d.lp:Int)] [.int .i64 2,.int .i64 x,.int .i64 y,.int .i64 s,.bool o] wx)
  case first =>
   go_upto_region 9 with fail
   go_region_held3 (fun w'=>w'.cell? ⟨w.heap.size,0,none⟩=some (.slice A d.n cp)∧w'.cell? ⟨w.heap.size,1,none⟩=some (.slice B m cq)∧w'.cell? ⟨w.heap.size,2,none⟩=some (.int .i64 (d.lp:Int))∧w'.cell? ⟨w.heap.size+1,0,none⟩=some (.int .i64 2)∧w'.cell? ⟨w.heap.size+1,1,none⟩=some (.int .i64 x)∧w'.cell? ⟨w.heap.size+1,2,none⟩=some (.int .i64 y)∧w'.cell? ⟨w.heap.size+1,3,none⟩=some (.int .i64 s)∧w'.cell? ⟨w.heap.size+1,4,none⟩=some (.bool o)∧w'.cell? ⟨gr,0,none⟩=some (cv w' ⟨gr,0,none⟩)∧w'.cell? ⟨gr,1,none⟩=some (cv w' ⟨gr,1,none⟩)∧w'.cell? ⟨gr,2,none⟩=some (cv w' ⟨gr,2,none⟩)∧w'.cell? ⟨gi,0,none⟩=some (cv w' ⟨gi,0,none⟩)∧w'.cell? ⟨gi,1,none⟩=some (cv w' ⟨gi,1,none⟩)∧w'.cell? ⟨gi,2,none⟩=some (cv w' ⟨gi,2,none⟩)∧w'.cell? ⟨gi,3,none⟩=some (cv w' ⟨gi,3,none⟩)∧w'.cell? ⟨gi,4,none⟩=some (cv w' ⟨gi,4,none⟩)∧(∀o,w'.frozen? ⟨gr,o,none⟩=false)∧(∀o,w'.frozen? ⟨gi,o,none⟩=false)∧AB w gr gi [.slice A d.n cp,.slice B m cq,.int .i64 (d.lp:Int)] [.int .i64 2,.int .i64 x,.int .i64 y,.int .i64 s,.bool o] w')
    ((go_split_ands;refine AB.allR ?_;(repeat (first | (with_reducible assumption) | (with_reducible exact AB2.out) | (with_reducible refine AB.setR ?_ _ _) | (with_reducible refine AB.setI ?_ _ _) | (with_reducible refine AB.drew ?_) | (with_reducible refine AB.below ?_ hbc) | (with_reducible refine AB.below ?_ hba)))))
    (first
      | (have hx6 := hba
         clear hx6
         go_at_call 54
         refine Calls.mono (CF0.out _ _ _ _ _ _ hown) ?_
         rintro e wb ⟨A9,B9,c8,c9,rfl,hT,hbb⟩
         have hbc:=hba.trans hbb)
      | (go_at_call 25
         refine Calls.mono (CC.out _ ?_) ?_
         ·exact HG.out.keep AB2.out.drew.bel
         rintro e wa ⟨A2,B2,c2,d2,rfl,hown,hba⟩))
   all_goals (go_wp2_with fail;go_meet)
   all_goals (
    have AB3:=AB2.out.drew.below hbc
    have LL:=AB3.laid (.slice A9 N9 c8) (.slice B9 (4 * N9) c9) (.int .i64 (L9:Int)) (.int .i64 k9) (.int .i64 x9) (.int .i64 y9') (.int .i64 s9) (.bool o9)
    exact ⟨rfl,A9,B9,c8,c9,LL.1,LL.2.1,(AB3.laidT hT _ _ _ _ _ _ _ _),LL.2.2⟩)
  case rest =>
   obtain ⟨rfl,A9,B9,c8,c9,hr,hi,hT,hAB⟩:=hcut
   have AB3:=hide hAB
   have AD3:=hide (show AD w gr gi _ _ A9 B9 rr wc from ⟨hAB,hT⟩)
   obtain ⟨_,r5,l5⟩:=AB3.out.rd
   obtain ⟨_,r6,l6⟩:=AB3.out.rm
   clear s0 s1 s2 s3 s4 s5 s6 s7 e0 e1 e2 f0 f1 f2 f3 f4 fr1 fr2 hT hAB
   obtain ⟨e0,e1,e2,e3⟩:=box3 hr
   obtain ⟨f0,f1,f2,f3,f4,f5⟩:=box5 hi
   obtain ⟨g0,g1,g2,g3⟩:=cells3 r5 l5
   obtain ⟨h0,h1,h2,h3,h4,h5⟩:=cells5 r6 l6
   clear r5 l5 r6 l6 hr hi AB2 HG2
   go_wp2_with fail
   go_region
   all_goals (go_wp2_with fail)
   all_goals clear e0 e1 e2 e3 f0 f1 f2 f3 f4 f5 g0 g1 g2 g3 h0 h1 h2 h3 h4 h5
   all_goals (
    obtain ⟨_,r5,l5⟩:=AD3.out.b.rd
    obtain ⟨_,r6,l6⟩:=AD3.out.b.rm
    refine bodyPost_ret (v := .tuple #[.agg #[.slice A9 N9 c8,.slice B9 (4 * N9) c9,.int .i64 (L9:Int)],.agg #[.int .i64 k9,.int .i64 x9,.int .i64 y9',.int .i64 s9,.bool o9],.int .i64 0]) ?_ rfl ?_
    ·obtain ⟨e0,e1,e2,e3,e4,e5,e6,e7⟩:=fin8 r5 r6 l5 l6 (by omega) (.slice A9 N9 c8) (.slice B9 (4 * N9) c9) (.int .i64 (L9:Int)) (.int .i64 k9) (.int .i64 x9) (.int .i64 y9') (.int .i64 s9) (.bool o9)
     simp [results,Try.results23,go_sem,e0,e1,e2,e3,e4,e5,e6,e7]
    ·have AD5:=(((((((AD3.out.setD 0 (.slice A9 N9 c8)).setD 1 (.slice B9 (4 * N9) c9)).setD 2 (.int .i64 (L9:Int))).setM 0 (.int .i64 k9)).setM 1 (.int .i64 x9)).setM 2 (.int .i64 y9')).setM 3 (.int .i64 s9)).setM 4 (.bool o9)
     rw [←HCC.out,←HRR.out,←HMM.out]
     refine ⟨fun h=>absurd HC.out h,fun _=>⟨A9,B9,c8,c9,by rw [←HN9.out,←HL9.out];rfl,AD5.drew.t⟩,AD5.drew.b.bel⟩)
 ·have CF0:=hide (fun (base:Nat) (A2 B2:Option Addr) (c2 d2:Nat) (W:World) (h:Own2 base W (.slice A2 d.n c2) (.slice B2 m d2) d.n m d.sg d.mt)=>(CF.out base A2 B2 c2 d2 W h).mono (R':=fun e w'=>RErr cc e∧Below base W w') (fun e w' hres=>⟨hres.1 hc,hres.2.2⟩))
  have HC:=hide hc
  have t1:(cc != 0)=true:=by rw [bne_iff_ne];exact hc
  clear hc CF
  go_cut [7] from 19 to 68 (fun s7' wx=>s7' = .int .i64 cc∧AB w gr gi [.slice A d.n cp,.slice B m cq,.int .i64 (d.lp:Int)] [.int .i64 2,.int .i64 x,.int .i64 y,.int .i64 s,.bool o] wx)
  case first =>
   go_upto_region 9 with fail
   go_region_held3 (fun w'=>w'.cell? ⟨w.heap.size,0,none⟩=some (.slice A d.n cp)∧w'.cell? ⟨w.heap.size,1,none⟩=some (.slice B m cq)∧w'.cell? ⟨w.heap.size,2,none⟩=some (.int .i64 (d.lp:Int))∧w'.cell? ⟨w.heap.size+1,0,none⟩=some (.int .i64 2)∧w'.cell? ⟨w.heap.size+1,1,none⟩=some (.int .i64 x)∧w'.cell? ⟨w.heap.size+1,2,none⟩=some (.int .i64 y)∧w'.cell? ⟨w.heap.size+1,3,none⟩=some (.int .i64 s)∧w'.cell? ⟨w.heap.size+1,4,none⟩=some (.bool o)∧w'.cell? ⟨gr,0,none⟩=some (cv w' ⟨gr,0,none⟩)∧w'.cell? ⟨gr,1,none⟩=some (cv w' ⟨gr,1,none⟩)∧w'.cell? ⟨gr,2,none⟩=some (cv w' ⟨gr,2,none⟩)∧w'.cell? ⟨gi,0,none⟩=some (cv w' ⟨gi,0,none⟩)∧w'.cell? ⟨gi,1,none⟩=some (cv w' ⟨gi,1,none⟩)∧w'.cell? ⟨gi,2,none⟩=some (cv w' ⟨gi,2,none⟩)∧w'.cell? ⟨gi,3,none⟩=some (cv w' ⟨gi,3,none⟩)∧w'.cell? ⟨gi,4,none⟩=some (cv w' ⟨gi,4,none⟩)∧(∀o,w'.frozen? ⟨gr,o,none⟩=false)∧(∀o,w'.frozen? ⟨gi,o,none⟩=false)∧AB w gr gi [.slice A d.n cp,.slice B m cq,.int .i64 (d.lp:Int)] [.int .i64 2,.int .i64 x,.int .i64 y,.int .i64 s,.bool o] w')
    ((go_split_ands;refine AB.allR ?_;(repeat (first | (with_reducible assumption) | (with_reducible exact AB2.out) | (with_reducible refine AB.setR ?_ _ _) | (with_reducible refine AB.setI ?_ _ _) | (with_reducible refine AB.drew ?_) | (with_reducible refine AB.below ?_ hbc) | (with_reducible refine AB.below ?_ hba)))))
    (first
      | (have hx6 := hba
         clear hx6
         go_at_call 54
         refine Calls.mono (CF0.out _ _ _ _ _ _ hown) ?_
         rintro e wb ⟨⟨A9,B9,n9,q9,c8,c9,lp9,k9,x9,y9',s9,o9,rfl⟩,hbb⟩
         have hbc:=hba.trans hbb)
      | (go_at_call 25
         refine Calls.mono (CC.out _ ?_) ?_
         ·exact HG.out.keep AB2.out.drew.bel
         rintro e wa ⟨A2,B2,c2,d2,rfl,hown,hba⟩))
   all_goals (go_wp2_with fail;go_meet)
   all_goals exact ⟨rfl,((AB2.out.drew.below hbc).laid _ _ _ _ _ _ _ _).2.2⟩
  case rest =>
   obtain ⟨rfl,hAB⟩:=hcut
   have AB3:=hide hAB
   obtain ⟨_,r5,l5⟩:=AB3.out.rd
   obtain ⟨_,r6,l6⟩:=AB3.out.rm
   clear s0 s1 s2 s3 s4 s5 s6 s7 e0 e1 e2 f0 f1 f2 f3 f4 fr1 fr2 hAB
   obtain ⟨g0,g1,g2,g3⟩:=cells3 r5 l5
   obtain ⟨h0,h1,h2,h3,h4,h5⟩:=cells5 r6 l6
   clear AB2 HG2
   go_wp2
   clear g0 g1 g2 g3 h0 h1 h2 h3 h4 h5
   refine bodyPost_ret (v := .tuple #[nilD,nilM,.int .i64 cc]) ?_ rfl ?_
   ·obtain ⟨e0,e1,e2,e3,e4,e5,e6,e7⟩:=fin8 r5 r6 l5 l6 (by omega) (.slice none 0 0) (.slice none 0 0) (.int .i64 0) (.int .i64 0) (.int .i64 0) (.int .i64 0) (.int .i64 0) (.bool false)
    unfold nilD nilM
    simp [results,Try.results23,go_sem,e0,e1,e2,e3,e4,e5,e6,e7]
   ·rw [←HCC.out,←HRR.out,←HMM.out]
    exact ⟨fun _=>(show ResErr _ _ from rfl),fun h=>absurd h HC.out,below8 AB3.out.bel _ _ _ _ _ _ _ _⟩
set_option maxRecDepth 100000 in
set_option maxHeartbeats 8000000 in
theorem rapply_3 (d:Pl.Dg)(hd:Pl.Valid d)(A B:Option Addr)(cp cq m:Nat)(x y s:Int)(o:Bool)(w:World)(hm:m=4 * d.n)(hg:DgAt w A B d) :
 Calls Try.prog 23 #[.agg #[.slice A d.n cp,.slice B m cq,.int .i64 d.lp],(Mv.mk 3 x y s o).v] w (ResC (apC d ⟨3,x,y,s,o⟩) (apD d ⟨3,x,y,s,o⟩) (apI d ⟨3,x,y,s,o⟩) w):=by
 have hn:=hd.wf.few
 have hlp:=hd.wf.lp
 have HM:=hide hm
 have HG:=hide hg
 have hm2:m≤256:=by omega
 clear hm hg
 have PB0:=hide (boxes4 w (.slice A d.n cp) (.slice B m cq) (.int .i64 (d.lp:Int)) (.int .i64 3) (.int .i64 x) (.int .i64 y) (.int .i64 s) (.bool o))
 unfold W4 at PB0
 obtain ⟨x0,x1,x2,x3,b0,s0⟩:=PB0.out
 have X0:=hide x0
 have X1:=hide x1
 have X2:=hide x2
 have X3:=hide x3
 have B0:=hide b0
 have S0:=hide s0
 clear x0 x1 x2 x3 b0 s0 PB0
 unfold Mv.v
 go_enter Try.func23,Try.ntmps23
 go_wp2_with fail
 refine (rvalid_yes d hd A B cp cq m _ HM.out (HG.out.keep B0.out)).mono ?_
 rintro e w1 ⟨rfl,hb1⟩
 have Y0:=hide (X0.out.below hb1)
 have Y1:=hide (X1.out.below hb1)
 have Y2:=hide (X2.out.below hb1)
 have Y3:=hide (X3.out.below hb1)
 have B1:=hide (B0.out.trans (hb1.mono B0.out.size))
 have hsz1:w.heap.size+4≤w1.heap.size:=by have:=hb1.size;have:=S0.out;omega
 clear X0 X1 X2 X3 B0 S0 hb1
 have AB2:=hide (show AB w w1.heap.size (w1.heap.size+1) [.slice A d.n cp,.slice B m cq,.int .i64 (d.lp:Int)] [.int .i64 3,.int .i64 x,.int .i64 y,.int .i64 s,.bool o] ((w1.alloc (.cells #[.slice none 0 0,.slice none 0 0,.int .i64 0] 24)).alloc (.cells #[.int .i64 0,.int .i64 0,.int .i64 0,.int .i64 0,.bool false] 28)) from
  ⟨(Y0.out.alloc _).alloc _,(Y1.out.alloc _).alloc _,⟨_,(Y2.out.alloc _).alloc _,rfl⟩,⟨_,(Y3.out.alloc _).alloc _,rfl⟩,⟨_,(row_at (vs:=[_,_,_]) rfl).alloc _,rfl⟩,⟨_,row_at (vs:=[_,_,_,_,_]) (by simp),rfl⟩,(B1.out.alloc B1.out.size _).alloc (B1.out.alloc B1.out.size _).size _,by omega,by omega,by omega⟩)
 obtain ⟨d0,d1,d2,d3⟩:=box3 Y0.out
 obtain ⟨m0,m1,m2,m3,m4,m5⟩:=box5 Y1.out
 have z0:w.heap.size<w1.heap.size:=by omega
 have z1:w.heap.size+1<w1.heap.size:=by omega
 clear Y0 Y1 Y2 Y3 B1 hsz1
 obtain ⟨cc,hcc⟩:∃c,c=apC d ⟨3,x,y,s,o⟩:=⟨_,rfl⟩
 obtain ⟨rr,hrr⟩:∃r,r=apD d ⟨3,x,y,s,o⟩:=⟨_,rfl⟩
 obtain ⟨mm,hmm⟩:∃r,r=apI d ⟨3,x,y,s,o⟩:=⟨_,rfl⟩
 have CF:=hide (fun (base:Nat) (A2 B2:Option Addr) (c2 d2:Nat) (W:World) (h:Own2 base W (.slice A2 d.n c2) (.slice B2 m d2) d.n m d.sg d.mt)=>rpoke_any d hd base c2 d2 m A2 B2 x y s o W HM.out h)
 rw [←hcc,←hrr,←hmm] at CF
 have HCC:=hide hcc
 have HRR:=hide hrr
 have HMM:=hide hmm
 clear hcc hrr hmm
 have CC:=hide (fun W hW=>rcopy_own d hd.wf A B cp cq m W HM.out hW)
 obtain ⟨gr,hgr⟩:∃g,g=w1.heap.size:=⟨_,rfl⟩
 obtain ⟨gi,hgi⟩:∃g,g=w1.heap.size+1:=⟨_,rfl⟩
 go_upto_block 0 with fail
 obtain ⟨w2,hw2⟩:∃W:World,W=(w1.alloc (.cells #[.slice none 0 0,.slice none 0 0,.int .i64 0] 24)).alloc (.cells #[.int .i64 0,.int .i64 0,.int .i64 0,.int .i64 0,.bool false] 28):=⟨_,rfl⟩
 rw [←hgi,←hgr,←hw2] at AB2
 rw [←hgi,←hgr,←hw2]
 have HG2:=hide (HG.out.keep AB2.out.bel)
 clear hw2 hgr hgi d0 d1 d2 d3 m0 m1 m2 m3 m4 m5 z0 z1
 have y1:gr≠w.heap.size+1+1:=by have:=AB2.out.lr;omega
 have y2:gr≠w.heap.size+1+1+1:=by have:=AB2.out.lr;omega
 have y3:gi≠w.heap.size+1+1:=by have:=AB2.out.li;omega
 have y4:gi≠w.heap.size+1+1+1:=by have:=AB2.out.li;omega
 have y5:gr≠gi:=AB2.out.ne
 have y6:w.heap.size+1+1≠w.heap.size+1+1+1:=by omega
 have y7:gr≠w.heap.size:=by have:=AB2.out.lr;omega
 have y8:gr≠w.heap.size+1:=by have:=AB2.out.lr;omega
 have y9:gi≠w.heap.size:=by have:=AB2.out.li;omega
 have y10:gi≠w.heap.size+1:=by have:=AB2.out.li;omega
 obtain ⟨s0,s1,s2,s3,s4,s5,s6,s7,e0,e1,e2,f0,f1,f2,f3,f4,fr1,fr2,_⟩:=AB2.out.allR
 by_cases hc:cc=0
 ·obtain ⟨k9,x9,y9',s9,o9⟩:=mm
  have CF0:=hide (fun (base:Nat) (A2 B2:Option Addr) (c2 d2:Nat) (W:World) (h:Own2 base W (.slice A2 d.n c2) (.slice B2 m d2) d.n m d.sg d.mt)=>(CF.out base A2 B2 c2 d2 W h).mono (R':=fun e w'=>∃(A9 B9:Option Addr) (c8 c9:Nat),e = .returned (.tuple #[.agg #[.slice A9 rr.n c8,.slice B9 (4 * rr.n) c9,.int .i64 (rr.lp:Int)],.agg #[.int .i64 k9,.int .i64 x9,.int .i64 y9',.int .i64 s9,.bool o9],.int .i64 0])∧DgT w' A9 B9 rr∧Below base W w') (fun e w' hres=>by
   obtain ⟨A9,B9,c8,c9,he,hT⟩:=hres.2.1 hc
   exact ⟨A9,B9,c8,c9,he,hT,hres.2.2⟩))
  have HC:=hide hc
  clear hc CF
  obtain ⟨N9,hN9⟩:∃n,n=rr.n:=⟨_,rfl⟩
  obtain ⟨L9,hL9⟩:∃n,n=rr.lp:=⟨_,rfl⟩
  rw [←hN9,←hL9] at CF0
  have HN9:=hide hN9
  have HL9:=hide hL9
  clear hN9 hL9
  go_cut [7] from 19 to 68 (fun s7' wx=>s7' = .int .i64 0∧∃(A9 B9:Option Addr) (c8 c9:Nat),Row wx gr 24 [.slice A9 N9 c8,.slice B9 (4 * N9) c9,.int .i64 (L9:Int)]∧Row wx gi 28 [.int .i64 k9,.int .i64 x9,.int .i64 y9',.int .i64 s9,.bool o9]∧DgT wx A9 B9 rr∧AB w gr gi [.slice A d.n cp,.slice B m cq,.int .i64 (d.lp:Int)] [.int .i64 3,.int .i64 x,.int .i64 y,.int .i64 s,.bool o] wx)
  case first =>
   go_upto_region 11 with fail
   go_region_held3 (fun w'=>w'.cell? ⟨w.heap.size,0,none⟩=some (.slice A d.n cp)∧w'.cell? ⟨w.heap.size,1,none⟩=some (.slice B m cq)∧w'.cell? ⟨w.heap.size,2,none⟩=some (.int .i64 (d.lp:Int))∧w'.cell? ⟨w.heap.size+1,0,none⟩=some (.int .i64 3)∧w'.cell? ⟨w.heap.size+1,1,none⟩=some (.int .i64 x)∧w'.cell? ⟨w.heap.size+1,2,none⟩=some (.int .i64 y)∧w'.cell? ⟨w.heap.size+1,3,none⟩=some (.int .i64 s)∧w'.cell? ⟨w.heap.size+1,4,none⟩=some (.bool o)∧w'.cell? ⟨gr,0,none⟩=some (cv w' ⟨gr,0,none⟩)∧w'.cell? ⟨gr,1,none⟩=some (cv w' ⟨gr,1,none⟩)∧w'.cell? ⟨gr,2,none⟩=some (cv w' ⟨gr,2,none⟩)∧w'.cell? ⟨gi,0,none⟩=some (cv w' ⟨gi,0,none⟩)∧w'.cell? ⟨gi,1,none⟩=some (cv w' ⟨gi,1,none⟩)∧w'.cell? ⟨gi,2,none⟩=some (cv w' ⟨gi,2,none⟩)∧w'.cell? ⟨gi,3,none⟩=some (cv w' ⟨gi,3,none⟩)∧w'.cell? ⟨gi,4,none⟩=some (cv w' ⟨gi,4,none⟩)∧(∀o,w'.frozen? ⟨gr,o,none⟩=false)∧(∀o,w'.frozen? ⟨gi,o,none⟩=false)∧AB w gr gi [.slice A d.n cp,.slice B m cq,.int .i64 (d.lp:Int)] [.int .i64 3,.int .i64 x,.int .i64 y,.int .i64 s,.bool o] w')
    ((go_split_ands;refine AB.allR ?_;(repeat (first | (with_reducible assumption) | (with_reducible exact AB2.out) | (with_reducible refine AB.setR ?_ _ _) | (with_reducible refine AB.setI ?_ _ _) | (with_reducible refine AB.drew ?_) | (with_reducible refine AB.below ?_ hbc) | (with_reducible refine AB.below ?_ hba)))))
    (first
      | (have hx6 := hba
         clear hx6
         go_at_call 55
         refine Calls.mono (CF0.out _ _ _ _ _ _ hown) ?_
         rintro e wb ⟨A9,B9,c8,c9,rfl,hT,hbb⟩
         have hbc:=hba.trans hbb)
      | (go_at_call 25
         refine Calls.mono (CC.out _ ?_) ?_
         ·exact HG.out.keep AB2.out.drew.bel
         rintro e wa ⟨A2,B2,c2,d2,rfl,hown,hba⟩))
   all_goals (go_wp2_with fail;go_meet)
   all_goals (
    have AB3:=AB2.out.drew.below hbc
    have LL:=AB3.laid (.slice A9 N9 c8) (.slice B9 (4 * N9) c9) (.int .i64 (L9:Int)) (.int .i64 k9) (.int .i64 x9) (.int .i64 y9') (.int .i64 s9) (.bool o9)
    exact ⟨rfl,A9,B9,c8,c9,LL.1,LL.2.1,(AB3.laidT hT _ _ _ _ _ _ _ _),LL.2.2⟩)
  case rest =>
   obtain ⟨rfl,A9,B9,c8,c9,hr,hi,hT,hAB⟩:=hcut
   have AB3:=hide hAB
   have AD3:=hide (show AD w gr gi _ _ A9 B9 rr wc from ⟨hAB,hT⟩)
   obtain ⟨_,r5,l5⟩:=AB3.out.rd
   obtain ⟨_,r6,l6⟩:=AB3.out.rm
   clear s0 s1 s2 s3 s4 s5 s6 s7 e0 e1 e2 f0 f1 f2 f3 f4 fr1 fr2 hT hAB
   obtain ⟨e0,e1,e2,e3⟩:=box3 hr
   obtain ⟨f0,f1,f2,f3,f4,f5⟩:=box5 hi
   obtain ⟨g0,g1,g2,g3⟩:=cells3 r5 l5
   obtain ⟨h0,h1,h2,h3,h4,h5⟩:=cells5 r6 l6
   clear r5 l5 r6 l6 hr hi AB2 HG2
   go_wp2_with fail
   go_region
   all_goals (go_wp2_with fail)
   all_goals clear e0 e1 e2 e3 f0 f1 f2 f3 f4 f5 g0 g1 g2 g3 h0 h1 h2 h3 h4 h5
   all_goals (
    obtain ⟨_,r5,l5⟩:=AD3.out.b.rd
    obtain ⟨_,r6,l6⟩:=AD3.out.b.rm
    refine bodyPost_ret (v := .tuple #[.agg #[.slice A9 N9 c8,.slice B9 (4 * N9) c9,.int .i64 (L9:Int)],.agg #[.int .i64 k9,.int .i64 x9,.int .i64 y9',.int .i64 s9,.bool o9],.int .i64 0]) ?_ rfl ?_
    ·obtain ⟨e0,e1,e2,e3,e4,e5,e6,e7⟩:=fin8 r5 r6 l5 l6 (by omega) (.slice A9 N9 c8) (.slice B9 (4 * N9) c9) (.int .i64 (L9:Int)) (.int .i64 k9) (.int .i64 x9) (.int .i64 y9') (.int .i64 s9) (.bool o9)
     simp [results,Try.results23,go_sem,e0,e1,e2,e3,e4,e5,e6,e7]
    ·have AD5:=(((((((AD3.out.setD 0 (.slice A9 N9 c8)).setD 1 (.slice B9 (4 * N9) c9)).setD 2 (.int .i64 (L9:Int))).setM 0 (.int .i64 k9)).setM 1 (.int .i64 x9)).setM 2 (.int .i64 y9')).setM 3 (.int .i64 s9)).setM 4 (.bool o9)
     rw [←HCC.out,←HRR.out,←HMM.out]
     refine ⟨fun h=>absurd HC.out h,fun _=>⟨A9,B9,c8,c9,by rw [←HN9.out,←HL9.out];rfl,AD5.drew.t⟩,AD5.drew.b.bel⟩)
 ·have CF0:=hide (fun (base:Nat) (A2 B2:Option Addr) (c2 d2:Nat) (W:World) (h:Own2 base W (.slice A2 d.n c2) (.slice B2 m d2) d.n m d.sg d.mt)=>(CF.out base A2 B2 c2 d2 W h).mono (R':=fun e w'=>RErr cc e∧Below base W w') (fun e w' hres=>⟨hres.1 hc,hres.2.2⟩))
  have HC:=hide hc
  have t1:(cc != 0)=true:=by rw [bne_iff_ne];exact hc
  clear hc CF
  go_cut [7] from 19 to 68 (fun s7' wx=>s7' = .int .i64 cc∧AB w gr gi [.slice A d.n cp,.slice B m cq,.int .i64 (d.lp:Int)] [.int .i64 3,.int .i64 x,.int .i64 y,.int .i64 s,.bool o] wx)
  case first =>
   go_upto_region 11 with fail
   go_region_held3 (fun w'=>w'.cell? ⟨w.heap.size,0,none⟩=some (.slice A d.n cp)∧w'.cell? ⟨w.heap.size,1,none⟩=some (.slice B m cq)∧w'.cell? ⟨w.heap.size,2,none⟩=some (.int .i64 (d.lp:Int))∧w'.cell? ⟨w.heap.size+1,0,none⟩=some (.int .i64 3)∧w'.cell? ⟨w.heap.size+1,1,none⟩=some (.int .i64 x)∧w'.cell? ⟨w.heap.size+1,2,none⟩=some (.int .i64 y)∧w'.cell? ⟨w.heap.size+1,3,none⟩=some (.int .i64 s)∧w'.cell? ⟨w.heap.size+1,4,none⟩=some (.bool o)∧w'.cell? ⟨gr,0,none⟩=some (cv w' ⟨gr,0,none⟩)∧w'.cell? ⟨gr,1,none⟩=some (cv w' ⟨gr,1,none⟩)∧w'.cell? ⟨gr,2,none⟩=some (cv w' ⟨gr,2,none⟩)∧w'.cell? ⟨gi,0,none⟩=some (cv w' ⟨gi,0,none⟩)∧w'.cell? ⟨gi,1,none⟩=some (cv w' ⟨gi,1,none⟩)∧w'.cell? ⟨gi,2,none⟩=some (cv w' ⟨gi,2,none⟩)∧w'.cell? ⟨gi,3,none⟩=some (cv w' ⟨gi,3,none⟩)∧w'.cell? ⟨gi,4,none⟩=some (cv w' ⟨gi,4,none⟩)∧(∀o,w'.frozen? ⟨gr,o,none⟩=false)∧(∀o,w'.frozen? ⟨gi,o,none⟩=false)∧AB w gr gi [.slice A d.n cp,.slice B m cq,.int .i64 (d.lp:Int)] [.int .i64 3,.int .i64 x,.int .i64 y,.int .i64 s,.bool o] w')
    ((go_split_ands;refine AB.allR ?_;(repeat (first | (with_reducible assumption) | (with_reducible exact AB2.out) | (with_reducible refine AB.setR ?_ _ _) | (with_reducible refine AB.setI ?_ _ _) | (with_reducible refine AB.drew ?_) | (with_reducible refine AB.below ?_ hbc) | (with_reducible refine AB.below ?_ hba)))))
    (first
      | (have hx6 := hba
         clear hx6
         go_at_call 55
         refine Calls.mono (CF0.out _ _ _ _ _ _ hown) ?_
         rintro e wb ⟨⟨A9,B9,n9,q9,c8,c9,lp9,k9,x9,y9',s9,o9,rfl⟩,hbb⟩
         have hbc:=hba.trans hbb)
      | (go_at_call 25
         refine Calls.mono (CC.out _ ?_) ?_
         ·exact HG.out.keep AB2.out.drew.bel
         rintro e wa ⟨A2,B2,c2,d2,rfl,hown,hba⟩))
   all_goals (go_wp2_with fail;go_meet)
   all_goals exact ⟨rfl,((AB2.out.drew.below hbc).laid _ _ _ _ _ _ _ _).2.2⟩
  case rest =>
   obtain ⟨rfl,hAB⟩:=hcut
   have AB3:=hide hAB
   obtain ⟨_,r5,l5⟩:=AB3.out.rd
   obtain ⟨_,r6,l6⟩:=AB3.out.rm
   clear s0 s1 s2 s3 s4 s5 s6 s7 e0 e1 e2 f0 f1 f2 f3 f4 fr1 fr2 hAB
   obtain ⟨g0,g1,g2,g3⟩:=cells3 r5 l5
   obtain ⟨h0,h1,h2,h3,h4,h5⟩:=cells5 r6 l6
   clear AB2 HG2
   go_wp2
   clear g0 g1 g2 g3 h0 h1 h2 h3 h4 h5
   refine bodyPost_ret (v := .tuple #[nilD,nilM,.int .i64 cc]) ?_ rfl ?_
   ·obtain ⟨e0,e1,e2,e3,e4,e5,e6,e7⟩:=fin8 r5 r6 l5 l6 (by omega) (.slice none 0 0) (.slice none 0 0) (.int .i64 0) (.int .i64 0) (.int .i64 0) (.int .i64 0) (.int .i64 0) (.bool false)
    unfold nilD nilM
    simp [results,Try.results23,go_sem,e0,e1,e2,e3,e4,e5,e6,e7]
   ·rw [←HCC.out,←HRR.out,←HMM.out]
    exact ⟨fun _=>(show ResErr _ _ from rfl),fun h=>absurd h HC.out,below8 AB3.out.bel _ _ _ _ _ _ _ _⟩
set_option maxRecDepth 100000 in
set_option maxHeartbeats 8000000 in
theorem rapply_4 (d:Pl.Dg)(hd:Pl.Valid d)(A B:Option Addr)(cp cq m:Nat)(x y s:Int)(o:Bool)(w:World)(hm:m=4 * d.n)(hg:DgAt w A B d) :
 Calls Try.prog 23 #[.agg #[.slice A d.n cp,.slice B m cq,.int .i64 d.lp],(Mv.mk 4 x y s o).v] w (ResC (apC d ⟨4,x,y,s,o⟩) (apD d ⟨4,x,y,s,o⟩) (apI d ⟨4,x,y,s,o⟩) w):=by
 have hn:=hd.wf.few
 have hlp:=hd.wf.lp
 have HM:=hide hm
 have HG:=hide hg
 have hm2:m≤256:=by omega
 clear hm hg
 have PB0:=hide (boxes4 w (.slice A d.n cp) (.slice B m cq) (.int .i64 (d.lp:Int)) (.int .i64 4) (.int .i64 x) (.int .i64 y) (.int .i64 s) (.bool o))
 unfold W4 at PB0
 obtain ⟨x0,x1,x2,x3,b0,s0⟩:=PB0.out
 have X0:=hide x0
 have X1:=hide x1
 have X2:=hide x2
 have X3:=hide x3
 have B0:=hide b0
 have S0:=hide s0
 clear x0 x1 x2 x3 b0 s0 PB0
 unfold Mv.v
 go_enter Try.func23,Try.ntmps23
 go_wp2_with fail
 refine (rvalid_yes d hd A B cp cq m _ HM.out (HG.out.keep B0.out)).mono ?_
 rintro e w1 ⟨rfl,hb1⟩
 have Y0:=hide (X0.out.below hb1)
 have Y1:=hide (X1.out.below hb1)
 have Y2:=hide (X2.out.below hb1)
 have Y3:=hide (X3.out.below hb1)
 have B1:=hide (B0.out.trans (hb1.mono B0.out.size))
 have hsz1:w.heap.size+4≤w1.heap.size:=by have:=hb1.size;have:=S0.out;omega
 clear X0 X1 X2 X3 B0 S0 hb1
 have AB2:=hide (show AB w w1.heap.size (w1.heap.size+1) [.slice A d.n cp,.slice B m cq,.int .i64 (d.lp:Int)] [.int .i64 4,.int .i64 x,.int .i64 y,.int .i64 s,.bool o] ((w1.alloc (.cells #[.slice none 0 0,.slice none 0 0,.int .i64 0] 24)).alloc (.cells #[.int .i64 0,.int .i64 0,.int .i64 0,.int .i64 0,.bool false] 28)) from
  ⟨(Y0.out.alloc _).alloc _,(Y1.out.alloc _).alloc _,⟨_,(Y2.out.alloc _).alloc _,rfl⟩,⟨_,(Y3.out.alloc _).alloc _,rfl⟩,⟨_,(row_at (vs:=[_,_,_]) rfl).alloc _,rfl⟩,⟨_,row_at (vs:=[_,_,_,_,_]) (by simp),rfl⟩,(B1.out.alloc B1.out.size _).alloc (B1.out.alloc B1.out.size _).size _,by omega,by omega,by omega⟩)
 obtain ⟨d0,d1,d2,d3⟩:=box3 Y0.out
 obtain ⟨m0,m1,m2,m3,m4,m5⟩:=box5 Y1.out
 have z0:w.heap.size<w1.heap.size:=by omega
 have z1:w.heap.size+1<w1.heap.size:=by omega
 clear Y0 Y1 Y2 Y3 B1 hsz1
 obtain ⟨cc,hcc⟩:∃c,c=apC d ⟨4,x,y,s,o⟩:=⟨_,rfl⟩
 obtain ⟨rr,hrr⟩:∃r,r=apD d ⟨4,x,y,s,o⟩:=⟨_,rfl⟩
 obtain ⟨mm,hmm⟩:∃r,r=apI d ⟨4,x,y,s,o⟩:=⟨_,rfl⟩
 have CF:=hide (fun (base:Nat) (A2 B2:Option Addr) (c2 d2:Nat) (W:World) (h:Own2 base W (.slice A2 d.n c2) (.slice B2 m d2) d.n m d.sg d.mt)=>runpoke_any d hd base c2 d2 m A2 B2 x y s o W HM.out h)
 rw [←hcc,←hrr,←hmm] at CF
 have HCC:=hide hcc
 have HRR:=hide hrr
 have HMM:=hide hmm
 clear hcc hrr hmm
 have CC:=hide (fun W hW=>rcopy_own d hd.wf A B cp cq m W HM.out hW)
 obtain ⟨gr,hgr⟩:∃g,g=w1.heap.size:=⟨_,rfl⟩
 obtain ⟨gi,hgi⟩:∃g,g=w1.heap.size+1:=⟨_,rfl⟩
 go_upto_block 0 with fail
 obtain ⟨w2,hw2⟩:∃W:World,W=(w1.alloc (.cells #[.slice none 0 0,.slice none 0 0,.int .i64 0] 24)).alloc (.cells #[.int .i64 0,.int .i64 0,.int .i64 0,.int .i64 0,.bool false] 28):=⟨_,rfl⟩
 rw [←hgi,←hgr,←hw2] at AB2
 rw [←hgi,←hgr,←hw2]
 have HG2:=hide (HG.out.keep AB2.out.bel)
 clear hw2 hgr hgi d0 d1 d2 d3 m0 m1 m2 m3 m4 m5 z0 z1
 have y1:gr≠w.heap.size+1+1:=by have:=AB2.out.lr;omega
 have y2:gr≠w.heap.size+1+1+1:=by have:=AB2.out.lr;omega
 have y3:gi≠w.heap.size+1+1:=by have:=AB2.out.li;omega
 have y4:gi≠w.heap.size+1+1+1:=by have:=AB2.out.li;omega
 have y5:gr≠gi:=AB2.out.ne
 have y6:w.heap.size+1+1≠w.heap.size+1+1+1:=by omega
 have y7:gr≠w.heap.size:=by have:=AB2.out.lr;omega
 have y8:gr≠w.heap.size+1:=by have:=AB2.out.lr;omega
 have y9:gi≠w.heap.size:=by have:=AB2.out.li;omega
 have y10:gi≠w.heap.size+1:=by have:=AB2.out.li;omega
 obtain ⟨s0,s1,s2,s3,s4,s5,s6,s7,e0,e1,e2,f0,f1,f2,f3,f4,fr1,fr2,_⟩:=AB2.out.allR
 by_cases hc:cc=0
 ·obtain ⟨k9,x9,y9',s9,o9⟩:=mm
  have CF0:=hide (fun (base:Nat) (A2 B2:Option Addr) (c2 d2:Nat) (W:World) (h:Own2 base W (.slice A2 d.n c2) (.slice B2 m d2) d.n m d.sg d.mt)=>(CF.out base A2 B2 c2 d2 W h).mono (R':=fun e w'=>∃(A9 B9:Option Addr) (c8 c9:Nat),e = .returned (.tuple #[.agg #[.slice A9 rr.n c8,.slice B9 (4 * rr.n) c9,.int .i64 (rr.lp:Int)],.agg #[.int .i64 k9,.int .i64 x9,.int .i64 y9',.int .i64 s9,.bool o9],.int .i64 0])∧DgT w' A9 B9 rr∧Below base W w') (fun e w' hres=>by
   obtain ⟨A9,B9,c8,c9,he,hT⟩:=hres.2.1 hc
   exact ⟨A9,B9,c8,c9,he,hT,hres.2.2⟩))
  have HC:=hide hc
  clear hc CF
  obtain ⟨N9,hN9⟩:∃n,n=rr.n:=⟨_,rfl⟩
  obtain ⟨L9,hL9⟩:∃n,n=rr.lp:=⟨_,rfl⟩
  rw [←hN9,←hL9] at CF0
  have HN9:=hide hN9
  have HL9:=hide hL9
  clear hN9 hL9
  go_cut [7] from 19 to 68 (fun s7' wx=>s7' = .int .i64 0∧∃(A9 B9:Option Addr) (c8 c9:Nat),Row wx gr 24 [.slice A9 N9 c8,.slice B9 (4 * N9) c9,.int .i64 (L9:Int)]∧Row wx gi 28 [.int .i64 k9,.int .i64 x9,.int .i64 y9',.int .i64 s9,.bool o9]∧DgT wx A9 B9 rr∧AB w gr gi [.slice A d.n cp,.slice B m cq,.int .i64 (d.lp:Int)] [.int .i64 4,.int .i64 x,.int .i64 y,.int .i64 s,.bool o] wx)
  case first =>
   go_upto_region 13 with fail
   go_region_held3 (fun w'=>w'.cell? ⟨w.heap.size,0,none⟩=some (.slice A d.n cp)∧w'.cell? ⟨w.heap.size,1,none⟩=some (.slice B m cq)∧w'.cell? ⟨w.heap.size,2,none⟩=some (.int .i64 (d.lp:Int))∧w'.cell? ⟨w.heap.size+1,0,none⟩=some (.int .i64 4)∧w'.cell? ⟨w.heap.size+1,1,none⟩=some (.int .i64 x)∧w'.cell? ⟨w.heap.size+1,2,none⟩=some (.int .i64 y)∧w'.cell? ⟨w.heap.size+1,3,none⟩=some (.int .i64 s)∧w'.cell? ⟨w.heap.size+1,4,none⟩=some (.bool o)∧w'.cell? ⟨gr,0,none⟩=some (cv w' ⟨gr,0,none⟩)∧w'.cell? ⟨gr,1,none⟩=some (cv w' ⟨gr,1,none⟩)∧w'.cell? ⟨gr,2,none⟩=some (cv w' ⟨gr,2,none⟩)∧w'.cell? ⟨gi,0,none⟩=some (cv w' ⟨gi,0,none⟩)∧w'.cell? ⟨gi,1,none⟩=some (cv w' ⟨gi,1,none⟩)∧w'.cell? ⟨gi,2,none⟩=some (cv w' ⟨gi,2,none⟩)∧w'.cell? ⟨gi,3,none⟩=some (cv w' ⟨gi,3,none⟩)∧w'.cell? ⟨gi,4,none⟩=some (cv w' ⟨gi,4,none⟩)∧(∀o,w'.frozen? ⟨gr,o,none⟩=false)∧(∀o,w'.frozen? ⟨gi,o,none⟩=false)∧AB w gr gi [.slice A d.n cp,.slice B m cq,.int .i64 (d.lp:Int)] [.int .i64 4,.int .i64 x,.int .i64 y,.int .i64 s,.bool o] w')
    ((go_split_ands;refine AB.allR ?_;(repeat (first | (with_reducible assumption) | (with_reducible exact AB2.out) | (with_reducible refine AB.setR ?_ _ _) | (with_reducible refine AB.setI ?_ _ _) | (with_reducible refine AB.drew ?_) | (with_reducible refine AB.below ?_ hbc) | (with_reducible refine AB.below ?_ hba)))))
    (first
      | (have hx6 := hba
         clear hx6
         go_at_call 56
         refine Calls.mono (CF0.out _ _ _ _ _ _ hown) ?_
         rintro e wb ⟨A9,B9,c8,c9,rfl,hT,hbb⟩
         have hbc:=hba.trans hbb)
      | (go_at_call 25
         refine Calls.mono (CC.out _ ?_) ?_
         ·exact HG.out.keep AB2.out.drew.bel
         rintro e wa ⟨A2,B2,c2,d2,rfl,hown,hba⟩))
   all_goals (go_wp2_with fail;go_meet)
   all_goals (
    have AB3:=AB2.out.drew.below hbc
    have LL:=AB3.laid (.slice A9 N9 c8) (.slice B9 (4 * N9) c9) (.int .i64 (L9:Int)) (.int .i64 k9) (.int .i64 x9) (.int .i64 y9') (.int .i64 s9) (.bool o9)
    exact ⟨rfl,A9,B9,c8,c9,LL.1,LL.2.1,(AB3.laidT hT _ _ _ _ _ _ _ _),LL.2.2⟩)
  case rest =>
   obtain ⟨rfl,A9,B9,c8,c9,hr,hi,hT,hAB⟩:=hcut
   have AB3:=hide hAB
   have AD3:=hide (show AD w gr gi _ _ A9 B9 rr wc from ⟨hAB,hT⟩)
   obtain ⟨_,r5,l5⟩:=AB3.out.rd
   obtain ⟨_,r6,l6⟩:=AB3.out.rm
   clear s0 s1 s2 s3 s4 s5 s6 s7 e0 e1 e2 f0 f1 f2 f3 f4 fr1 fr2 hT hAB
   obtain ⟨e0,e1,e2,e3⟩:=box3 hr
   obtain ⟨f0,f1,f2,f3,f4,f5⟩:=box5 hi
   obtain ⟨g0,g1,g2,g3⟩:=cells3 r5 l5
   obtain ⟨h0,h1,h2,h3,h4,h5⟩:=cells5 r6 l6
   clear r5 l5 r6 l6 hr hi AB2 HG2
   go_wp2_with fail
   go_region
   all_goals (go_wp2_with fail)
   all_goals clear e0 e1 e2 e3 f0 f1 f2 f3 f4 f5 g0 g1 g2 g3 h0 h1 h2 h3 h4 h5
   all_goals (
    obtain ⟨_,r5,l5⟩:=AD3.out.b.rd
    obtain ⟨_,r6,l6⟩:=AD3.out.b.rm
    refine bodyPost_ret (v := .tuple #[.agg #[.slice A9 N9 c8,.slice B9 (4 * N9) c9,.int .i64 (L9:Int)],.agg #[.int .i64 k9,.int .i64 x9,.int .i64 y9',.int .i64 s9,.bool o9],.int .i64 0]) ?_ rfl ?_
    ·obtain ⟨e0,e1,e2,e3,e4,e5,e6,e7⟩:=fin8 r5 r6 l5 l6 (by omega) (.slice A9 N9 c8) (.slice B9 (4 * N9) c9) (.int .i64 (L9:Int)) (.int .i64 k9) (.int .i64 x9) (.int .i64 y9') (.int .i64 s9) (.bool o9)
     simp [results,Try.results23,go_sem,e0,e1,e2,e3,e4,e5,e6,e7]
    ·have AD5:=(((((((AD3.out.setD 0 (.slice A9 N9 c8)).setD 1 (.slice B9 (4 * N9) c9)).setD 2 (.int .i64 (L9:Int))).setM 0 (.int .i64 k9)).setM 1 (.int .i64 x9)).setM 2 (.int .i64 y9')).setM 3 (.int .i64 s9)).setM 4 (.bool o9)
     rw [←HCC.out,←HRR.out,←HMM.out]
     refine ⟨fun h=>absurd HC.out h,fun _=>⟨A9,B9,c8,c9,by rw [←HN9.out,←HL9.out];rfl,AD5.drew.t⟩,AD5.drew.b.bel⟩)
 ·have CF0:=hide (fun (base:Nat) (A2 B2:Option Addr) (c2 d2:Nat) (W:World) (h:Own2 base W (.slice A2 d.n c2) (.slice B2 m d2) d.n m d.sg d.mt)=>(CF.out base A2 B2 c2 d2 W h).mono (R':=fun e w'=>RErr cc e∧Below base W w') (fun e w' hres=>⟨hres.1 hc,hres.2.2⟩))
  have HC:=hide hc
  have t1:(cc != 0)=true:=by rw [bne_iff_ne];exact hc
  clear hc CF
  go_cut [7] from 19 to 68 (fun s7' wx=>s7' = .int .i64 cc∧AB w gr gi [.slice A d.n cp,.slice B m cq,.int .i64 (d.lp:Int)] [.int .i64 4,.int .i64 x,.int .i64 y,.int .i64 s,.bool o] wx)
  case first =>
   go_upto_region 13 with fail
   go_region_held3 (fun w'=>w'.cell? ⟨w.heap.size,0,none⟩=some (.slice A d.n cp)∧w'.cell? ⟨w.heap.size,1,none⟩=some (.slice B m cq)∧w'.cell? ⟨w.heap.size,2,none⟩=some (.int .i64 (d.lp:Int))∧w'.cell? ⟨w.heap.size+1,0,none⟩=some (.int .i64 4)∧w'.cell? ⟨w.heap.size+1,1,none⟩=some (.int .i64 x)∧w'.cell? ⟨w.heap.size+1,2,none⟩=some (.int .i64 y)∧w'.cell? ⟨w.heap.size+1,3,none⟩=some (.int .i64 s)∧w'.cell? ⟨w.heap.size+1,4,none⟩=some (.bool o)∧w'.cell? ⟨gr,0,none⟩=some (cv w' ⟨gr,0,none⟩)∧w'.cell? ⟨gr,1,none⟩=some (cv w' ⟨gr,1,none⟩)∧w'.cell? ⟨gr,2,none⟩=some (cv w' ⟨gr,2,none⟩)∧w'.cell? ⟨gi,0,none⟩=some (cv w' ⟨gi,0,none⟩)∧w'.cell? ⟨gi,1,none⟩=some (cv w' ⟨gi,1,none⟩)∧w'.cell? ⟨gi,2,none⟩=some (cv w' ⟨gi,2,none⟩)∧w'.cell? ⟨gi,3,none⟩=some (cv w' ⟨gi,3,none⟩)∧w'.cell? ⟨gi,4,none⟩=some (cv w' ⟨gi,4,none⟩)∧(∀o,w'.frozen? ⟨gr,o,none⟩=false)∧(∀o,w'.frozen? ⟨gi,o,none⟩=false)∧AB w gr gi [.slice A d.n cp,.slice B m cq,.int .i64 (d.lp:Int)] [.int .i64 4,.int .i64 x,.int .i64 y,.int .i64 s,.bool o] w')
    ((go_split_ands;refine AB.allR ?_;(repeat (first | (with_reducible assumption) | (with_reducible exact AB2.out) | (with_reducible refine AB.setR ?_ _ _) | (with_reducible refine AB.setI ?_ _ _) | (with_reducible refine AB.drew ?_) | (with_reducible refine AB.below ?_ hbc) | (with_reducible refine AB.below ?_ hba)))))
    (first
      | (have hx6 := hba
         clear hx6
         go_at_call 56
         refine Calls.mono (CF0.out _ _ _ _ _ _ hown) ?_
         rintro e wb ⟨⟨A9,B9,n9,q9,c8,c9,lp9,k9,x9,y9',s9,o9,rfl⟩,hbb⟩
         have hbc:=hba.trans hbb)
      | (go_at_call 25
         refine Calls.mono (CC.out _ ?_) ?_
         ·exact HG.out.keep AB2.out.drew.bel
         rintro e wa ⟨A2,B2,c2,d2,rfl,hown,hba⟩))
   all_goals (go_wp2_with fail;go_meet)
   all_goals exact ⟨rfl,((AB2.out.drew.below hbc).laid _ _ _ _ _ _ _ _).2.2⟩
  case rest =>
   obtain ⟨rfl,hAB⟩:=hcut
   have AB3:=hide hAB
   obtain ⟨_,r5,l5⟩:=AB3.out.rd
   obtain ⟨_,r6,l6⟩:=AB3.out.rm
   clear s0 s1 s2 s3 s4 s5 s6 s7 e0 e1 e2 f0 f1 f2 f3 f4 fr1 fr2 hAB
   obtain ⟨g0,g1,g2,g3⟩:=cells3 r5 l5
   obtain ⟨h0,h1,h2,h3,h4,h5⟩:=cells5 r6 l6
   clear AB2 HG2
   go_wp2
   clear g0 g1 g2 g3 h0 h1 h2 h3 h4 h5
   refine bodyPost_ret (v := .tuple #[nilD,nilM,.int .i64 cc]) ?_ rfl ?_
   ·obtain ⟨e0,e1,e2,e3,e4,e5,e6,e7⟩:=fin8 r5 r6 l5 l6 (by omega) (.slice none 0 0) (.slice none 0 0) (.int .i64 0) (.int .i64 0) (.int .i64 0) (.int .i64 0) (.int .i64 0) (.bool false)
    unfold nilD nilM
    simp [results,Try.results23,go_sem,e0,e1,e2,e3,e4,e5,e6,e7]
   ·rw [←HCC.out,←HRR.out,←HMM.out]
    exact ⟨fun _=>(show ResErr _ _ from rfl),fun h=>absurd h HC.out,below8 AB3.out.bel _ _ _ _ _ _ _ _⟩
set_option maxRecDepth 100000 in
set_option maxHeartbeats 8000000 in
theorem rapply_5 (d:Pl.Dg)(hd:Pl.Valid d)(A B:Option Addr)(cp cq m:Nat)(x y s:Int)(o:Bool)(w:World)(hm:m=4 * d.n)(hg:DgAt w A B d) :
 Calls Try.prog 23 #[.agg #[.slice A d.n cp,.slice B m cq,.int .i64 d.lp],(Mv.mk 5 x y s o).v] w (ResC (apC d ⟨5,x,y,s,o⟩) (apD d ⟨5,x,y,s,o⟩) (apI d ⟨5,x,y,s,o⟩) w):=by
 have hn:=hd.wf.few
 have hlp:=hd.wf.lp
 have HM:=hide hm
 have HG:=hide hg
 have hm2:m≤256:=by omega
 clear hm hg
 have PB0:=hide (boxes4 w (.slice A d.n cp) (.slice B m cq) (.int .i64 (d.lp:Int)) (.int .i64 5) (.int .i64 x) (.int .i64 y) (.int .i64 s) (.bool o))
 unfold W4 at PB0
 obtain ⟨x0,x1,x2,x3,b0,s0⟩:=PB0.out
 have X0:=hide x0
 have X1:=hide x1
 have X2:=hide x2
 have X3:=hide x3
 have B0:=hide b0
 have S0:=hide s0
 clear x0 x1 x2 x3 b0 s0 PB0
 unfold Mv.v
 go_enter Try.func23,Try.ntmps23
 go_wp2_with fail
 refine (rvalid_yes d hd A B cp cq m _ HM.out (HG.out.keep B0.out)).mono ?_
 rintro e w1 ⟨rfl,hb1⟩
 have Y0:=hide (X0.out.below hb1)
 have Y1:=hide (X1.out.below hb1)
 have Y2:=hide (X2.out.below hb1)
 have Y3:=hide (X3.out.below hb1)
 have B1:=hide (B0.out.trans (hb1.mono B0.out.size))
 have hsz1:w.heap.size+4≤w1.heap.size:=by have:=hb1.size;have:=S0.out;omega
 clear X0 X1 X2 X3 B0 S0 hb1
 have AB2:=hide (show AB w w1.heap.size (w1.heap.size+1) [.slice A d.n cp,.slice B m cq,.int .i64 (d.lp:Int)] [.int .i64 5,.int .i64 x,.int .i64 y,.int .i64 s,.bool o] ((w1.alloc (.cells #[.slice none 0 0,.slice none 0 0,.int .i64 0] 24)).alloc (.cells #[.int .i64 0,.int .i64 0,.int .i64 0,.int .i64 0,.bool false] 28)) from
  ⟨(Y0.out.alloc _).alloc _,(Y1.out.alloc _).alloc _,⟨_,(Y2.out.alloc _).alloc _,rfl⟩,⟨_,(Y3.out.alloc _).alloc _,rfl⟩,⟨_,(row_at (vs:=[_,_,_]) rfl).alloc _,rfl⟩,⟨_,row_at (vs:=[_,_,_,_,_]) (by simp),rfl⟩,(B1.out.alloc B1.out.size _).alloc (B1.out.alloc B1.out.size _).size _,by omega,by omega,by omega⟩)
 obtain ⟨d0,d1,d2,d3⟩:=box3 Y0.out
 obtain ⟨m0,m1,m2,m3,m4,m5⟩:=box5 Y1.out
 have z0:w.heap.size<w1.heap.size:=by omega
 have z1:w.heap.size+1<w1.heap.size:=by omega
 clear Y0 Y1 Y2 Y3 B1 hsz1
 obtain ⟨cc,hcc⟩:∃c,c=apC d ⟨5,x,y,s,o⟩:=⟨_,rfl⟩
 obtain ⟨rr,hrr⟩:∃r,r=apD d ⟨5,x,y,s,o⟩:=⟨_,rfl⟩
 obtain ⟨mm,hmm⟩:∃r,r=apI d ⟨5,x,y,s,o⟩:=⟨_,rfl⟩
 have CF:=hide (fun (base:Nat) (A2 B2:Option Addr) (c2 d2:Nat) (W:World) (h:Own2 base W (.slice A2 d.n c2) (.slice B2 m d2) d.n m d.sg d.mt)=>rslide_any d hd base c2 d2 m A2 B2 x y s o W HM.out h)
 rw [←hcc,←hrr,←hmm] at CF
 have HCC:=hide hcc
 have HRR:=hide hrr
 have HMM:=hide hmm
 clear hcc hrr hmm
 have CC:=hide (fun W hW=>rcopy_own d hd.wf A B cp cq m W HM.out hW)
 obtain ⟨gr,hgr⟩:∃g,g=w1.heap.size:=⟨_,rfl⟩
 obtain ⟨gi,hgi⟩:∃g,g=w1.heap.size+1:=⟨_,rfl⟩
 go_upto_block 0 with fail
 obtain ⟨w2,hw2⟩:∃W:World,W=(w1.alloc (.cells #[.slice none 0 0,.slice none 0 0,.int .i64 0] 24)).alloc (.cells #[.int .i64 0,.int .i64 0,.int .i64 0,.int .i64 0,.bool false] 28):=⟨_,rfl⟩
 rw [←hgi,←hgr,←hw2] at AB2
 rw [←hgi,←hgr,←hw2]
 have HG2:=hide (HG.out.keep AB2.out.bel)
 clear hw2 hgr hgi d0 d1 d2 d3 m0 m1 m2 m3 m4 m5 z0 z1
 have y1:gr≠w.heap.size+1+1:=by have:=AB2.out.lr;omega
 have y2:gr≠w.heap.size+1+1+1:=by have:=AB2.out.lr;omega
 have y3:gi≠w.heap.size+1+1:=by have:=AB2.out.li;omega
 have y4:gi≠w.heap.size+1+1+1:=by have:=AB2.out.li;omega
 have y5:gr≠gi:=AB2.out.ne
 have y6:w.heap.size+1+1≠w.heap.size+1+1+1:=by omega
 have y7:gr≠w.heap.size:=by have:=AB2.out.lr;omega
 have y8:gr≠w.heap.size+1:=by have:=AB2.out.lr;omega
 have y9:gi≠w.heap.size:=by have:=AB2.out.li;omega
 have y10:gi≠w.heap.size+1:=by have:=AB2.out.li;omega
 obtain ⟨s0,s1,s2,s3,s4,s5,s6,s7,e0,e1,e2,f0,f1,f2,f3,f4,fr1,fr2,_⟩:=AB2.out.allR
 by_cases hc:cc=0
 ·obtain ⟨k9,x9,y9',s9,o9⟩:=mm
  have CF0:=hide (fun (base:Nat) (A2 B2:Option Addr) (c2 d2:Nat) (W:World) (h:Own2 base W (.slice A2 d.n c2) (.slice B2 m d2) d.n m d.sg d.mt)=>(CF.out base A2 B2 c2 d2 W h).mono (R':=fun e w'=>∃(A9 B9:Option Addr) (c8 c9:Nat),e = .returned (.tuple #[.agg #[.slice A9 rr.n c8,.slice B9 (4 * rr.n) c9,.int .i64 (rr.lp:Int)],.agg #[.int .i64 k9,.int .i64 x9,.int .i64 y9',.int .i64 s9,.bool o9],.int .i64 0])∧DgT w' A9 B9 rr∧Below base W w') (fun e w' hres=>by
   obtain ⟨A9,B9,c8,c9,he,hT⟩:=hres.2.1 hc
   exact ⟨A9,B9,c8,c9,he,hT,hres.2.2⟩))
  have HC:=hide hc
  clear hc CF
  obtain ⟨N9,hN9⟩:∃n,n=rr.n:=⟨_,rfl⟩
  obtain ⟨L9,hL9⟩:∃n,n=rr.lp:=⟨_,rfl⟩
  rw [←hN9,←hL9] at CF0
  have HN9:=hide hN9
  have HL9:=hide hL9
  clear hN9 hL9
  go_cut [7] from 19 to 68 (fun s7' wx=>s7' = .int .i64 0∧∃(A9 B9:Option Addr) (c8 c9:Nat),Row wx gr 24 [.slice A9 N9 c8,.slice B9 (4 * N9) c9,.int .i64 (L9:Int)]∧Row wx gi 28 [.int .i64 k9,.int .i64 x9,.int .i64 y9',.int .i64 s9,.bool o9]∧DgT wx A9 B9 rr∧AB w gr gi [.slice A d.n cp,.slice B m cq,.int .i64 (d.lp:Int)] [.int .i64 5,.int .i64 x,.int .i64 y,.int .i64 s,.bool o] wx)
  case first =>
   go_upto_region 15 with fail
   go_region_held3 (fun w'=>w'.cell? ⟨w.heap.size,0,none⟩=some (.slice A d.n cp)∧w'.cell? ⟨w.heap.size,1,none⟩=some (.slice B m cq)∧w'.cell? ⟨w.heap.size,2,none⟩=some (.int .i64 (d.lp:Int))∧w'.cell? ⟨w.heap.size+1,0,none⟩=some (.int .i64 5)∧w'.cell? ⟨w.heap.size+1,1,none⟩=some (.int .i64 x)∧w'.cell? ⟨w.heap.size+1,2,none⟩=some (.int .i64 y)∧w'.cell? ⟨w.heap.size+1,3,none⟩=some (.int .i64 s)∧w'.cell? ⟨w.heap.size+1,4,none⟩=some (.bool o)∧w'.cell? ⟨gr,0,none⟩=some (cv w' ⟨gr,0,none⟩)∧w'.cell? ⟨gr,1,none⟩=some (cv w' ⟨gr,1,none⟩)∧w'.cell? ⟨gr,2,none⟩=some (cv w' ⟨gr,2,none⟩)∧w'.cell? ⟨gi,0,none⟩=some (cv w' ⟨gi,0,none⟩)∧w'.cell? ⟨gi,1,none⟩=some (cv w' ⟨gi,1,none⟩)∧w'.cell? ⟨gi,2,none⟩=some (cv w' ⟨gi,2,none⟩)∧w'.cell? ⟨gi,3,none⟩=some (cv w' ⟨gi,3,none⟩)∧w'.cell? ⟨gi,4,none⟩=some (cv w' ⟨gi,4,none⟩)∧(∀o,w'.frozen? ⟨gr,o,none⟩=false)∧(∀o,w'.frozen? ⟨gi,o,none⟩=false)∧AB w gr gi [.slice A d.n cp,.slice B m cq,.int .i64 (d.lp:Int)] [.int .i64 5,.int .i64 x,.int .i64 y,.int .i64 s,.bool o] w')
    ((go_split_ands;refine AB.allR ?_;(repeat (first | (with_reducible assumption) | (with_reducible exact AB2.out) | (with_reducible refine AB.setR ?_ _ _) | (with_reducible refine AB.setI ?_ _ _) | (with_reducible refine AB.drew ?_) | (with_reducible refine AB.below ?_ hbc) | (with_reducible refine AB.below ?_ hba)))))
    (first
      | (have hx6 := hba
         clear hx6
         go_at_call 57
         refine Calls.mono (CF0.out _ _ _ _ _ _ hown) ?_
         rintro e wb ⟨A9,B9,c8,c9,rfl,hT,hbb⟩
         have hbc:=hba.trans hbb)
      | (go_at_call 25
         refine Calls.mono (CC.out _ ?_) ?_
         ·exact HG.out.keep AB2.out.drew.bel
         rintro e wa ⟨A2,B2,c2,d2,rfl,hown,hba⟩))
   all_goals (go_wp2_with fail;go_meet)
   all_goals (
    have AB3:=AB2.out.drew.below hbc
    have LL:=AB3.laid (.slice A9 N9 c8) (.slice B9 (4 * N9) c9) (.int .i64 (L9:Int)) (.int .i64 k9) (.int .i64 x9) (.int .i64 y9') (.int .i64 s9) (.bool o9)
    exact ⟨rfl,A9,B9,c8,c9,LL.1,LL.2.1,(AB3.laidT hT _ _ _ _ _ _ _ _),LL.2.2⟩)
  case rest =>
   obtain ⟨rfl,A9,B9,c8,c9,hr,hi,hT,hAB⟩:=hcut
   have AB3:=hide hAB
   have AD3:=hide (show AD w gr gi _ _ A9 B9 rr wc from ⟨hAB,hT⟩)
   obtain ⟨_,r5,l5⟩:=AB3.out.rd
   obtain ⟨_,r6,l6⟩:=AB3.out.rm
   clear s0 s1 s2 s3 s4 s5 s6 s7 e0 e1 e2 f0 f1 f2 f3 f4 fr1 fr2 hT hAB
   obtain ⟨e0,e1,e2,e3⟩:=box3 hr
   obtain ⟨f0,f1,f2,f3,f4,f5⟩:=box5 hi
   obtain ⟨g0,g1,g2,g3⟩:=cells3 r5 l5
   obtain ⟨h0,h1,h2,h3,h4,h5⟩:=cells5 r6 l6
   clear r5 l5 r6 l6 hr hi AB2 HG2
   go_wp2_with fail
   go_region
   all_goals (go_wp2_with fail)
   all_goals clear e0 e1 e2 e3 f0 f1 f2 f3 f4 f5 g0 g1 g2 g3 h0 h1 h2 h3 h4 h5
   all_goals (
    obtain ⟨_,r5,l5⟩:=AD3.out.b.rd
    obtain ⟨_,r6,l6⟩:=AD3.out.b.rm
    refine bodyPost_ret (v := .tuple #[.agg #[.slice A9 N9 c8,.slice B9 (4 * N9) c9,.int .i64 (L9:Int)],.agg #[.int .i64 k9,.int .i64 x9,.int .i64 y9',.int .i64 s9,.bool o9],.int .i64 0]) ?_ rfl ?_
    ·obtain ⟨e0,e1,e2,e3,e4,e5,e6,e7⟩:=fin8 r5 r6 l5 l6 (by omega) (.slice A9 N9 c8) (.slice B9 (4 * N9) c9) (.int .i64 (L9:Int)) (.int .i64 k9) (.int .i64 x9) (.int .i64 y9') (.int .i64 s9) (.bool o9)
     simp [results,Try.results23,go_sem,e0,e1,e2,e3,e4,e5,e6,e7]
    ·have AD5:=(((((((AD3.out.setD 0 (.slice A9 N9 c8)).setD 1 (.slice B9 (4 * N9) c9)).setD 2 (.int .i64 (L9:Int))).setM 0 (.int .i64 k9)).setM 1 (.int .i64 x9)).setM 2 (.int .i64 y9')).setM 3 (.int .i64 s9)).setM 4 (.bool o9)
     rw [←HCC.out,←HRR.out,←HMM.out]
     refine ⟨fun h=>absurd HC.out h,fun _=>⟨A9,B9,c8,c9,by rw [←HN9.out,←HL9.out];rfl,AD5.drew.t⟩,AD5.drew.b.bel⟩)
 ·have CF0:=hide (fun (base:Nat) (A2 B2:Option Addr) (c2 d2:Nat) (W:World) (h:Own2 base W (.slice A2 d.n c2) (.slice B2 m d2) d.n m d.sg d.mt)=>(CF.out base A2 B2 c2 d2 W h).mono (R':=fun e w'=>RErr cc e∧Below base W w') (fun e w' hres=>⟨hres.1 hc,hres.2.2⟩))
  have HC:=hide hc
  have t1:(cc != 0)=true:=by rw [bne_iff_ne];exact hc
  clear hc CF
  go_cut [7] from 19 to 68 (fun s7' wx=>s7' = .int .i64 cc∧AB w gr gi [.slice A d.n cp,.slice B m cq,.int .i64 (d.lp:Int)] [.int .i64 5,.int .i64 x,.int .i64 y,.int .i64 s,.bool o] wx)
  case first =>
   go_upto_region 15 with fail
   go_region_held3 (fun w'=>w'.cell? ⟨w.heap.size,0,none⟩=some (.slice A d.n cp)∧w'.cell? ⟨w.heap.size,1,none⟩=some (.slice B m cq)∧w'.cell? ⟨w.heap.size,2,none⟩=some (.int .i64 (d.lp:Int))∧w'.cell? ⟨w.heap.size+1,0,none⟩=some (.int .i64 5)∧w'.cell? ⟨w.heap.size+1,1,none⟩=some (.int .i64 x)∧w'.cell? ⟨w.heap.size+1,2,none⟩=some (.int .i64 y)∧w'.cell? ⟨w.heap.size+1,3,none⟩=some (.int .i64 s)∧w'.cell? ⟨w.heap.size+1,4,none⟩=some (.bool o)∧w'.cell? ⟨gr,0,none⟩=some (cv w' ⟨gr,0,none⟩)∧w'.cell? ⟨gr,1,none⟩=some (cv w' ⟨gr,1,none⟩)∧w'.cell? ⟨gr,2,none⟩=some (cv w' ⟨gr,2,none⟩)∧w'.cell? ⟨gi,0,none⟩=some (cv w' ⟨gi,0,none⟩)∧w'.cell? ⟨gi,1,none⟩=some (cv w' ⟨gi,1,none⟩)∧w'.cell? ⟨gi,2,none⟩=some (cv w' ⟨gi,2,none⟩)∧w'.cell? ⟨gi,3,none⟩=some (cv w' ⟨gi,3,none⟩)∧w'.cell? ⟨gi,4,none⟩=some (cv w' ⟨gi,4,none⟩)∧(∀o,w'.frozen? ⟨gr,o,none⟩=false)∧(∀o,w'.frozen? ⟨gi,o,none⟩=false)∧AB w gr gi [.slice A d.n cp,.slice B m cq,.int .i64 (d.lp:Int)] [.int .i64 5,.int .i64 x,.int .i64 y,.int .i64 s,.bool o] w')
    ((go_split_ands;refine AB.allR ?_;(repeat (first | (with_reducible assumption) | (with_reducible exact AB2.out) | (with_reducible refine AB.setR ?_ _ _) | (with_reducible refine AB.setI ?_ _ _) | (with_reducible refine AB.drew ?_) | (with_reducible refine AB.below ?_ hbc) | (with_reducible refine AB.below ?_ hba)))))
    (first
      | (have hx6 := hba
         clear hx6
         go_at_call 57
         refine Calls.mono (CF0.out _ _ _ _ _ _ hown) ?_
         rintro e wb ⟨⟨A9,B9,n9,q9,c8,c9,lp9,k9,x9,y9',s9,o9,rfl⟩,hbb⟩
         have hbc:=hba.trans hbb)
      | (go_at_call 25
         refine Calls.mono (CC.out _ ?_) ?_
         ·exact HG.out.keep AB2.out.drew.bel
         rintro e wa ⟨A2,B2,c2,d2,rfl,hown,hba⟩))
   all_goals (go_wp2_with fail;go_meet)
   all_goals exact ⟨rfl,((AB2.out.drew.below hbc).laid _ _ _ _ _ _ _ _).2.2⟩
  case rest =>
   obtain ⟨rfl,hAB⟩:=hcut
   have AB3:=hide hAB
   obtain ⟨_,r5,l5⟩:=AB3.out.rd
   obtain ⟨_,r6,l6⟩:=AB3.out.rm
   clear s0 s1 s2 s3 s4 s5 s6 s7 e0 e1 e2 f0 f1 f2 f3 f4 fr1 fr2 hAB
   obtain ⟨g0,g1,g2,g3⟩:=cells3 r5 l5
   obtain ⟨h0,h1,h2,h3,h4,h5⟩:=cells5 r6 l6
   clear AB2 HG2
   go_wp2
   clear g0 g1 g2 g3 h0 h1 h2 h3 h4 h5
   refine bodyPost_ret (v := .tuple #[nilD,nilM,.int .i64 cc]) ?_ rfl ?_
   ·obtain ⟨e0,e1,e2,e3,e4,e5,e6,e7⟩:=fin8 r5 r6 l5 l6 (by omega) (.slice none 0 0) (.slice none 0 0) (.int .i64 0) (.int .i64 0) (.int .i64 0) (.int .i64 0) (.int .i64 0) (.bool false)
    unfold nilD nilM
    simp [results,Try.results23,go_sem,e0,e1,e2,e3,e4,e5,e6,e7]
   ·rw [←HCC.out,←HRR.out,←HMM.out]
    exact ⟨fun _=>(show ResErr _ _ from rfl),fun h=>absurd h HC.out,below8 AB3.out.bel _ _ _ _ _ _ _ _⟩
set_option maxRecDepth 100000 in
set_option maxHeartbeats 4000000 in
theorem rapply_k (d:Pl.Dg)(hd:Pl.Valid d)(A B:Option Addr)(cp cq m:Nat)(k x y s:Int)(o:Bool)(w:World)(hm:m=4 * d.n)(hg:DgAt w A B d)(hk:k<1∨5<k) :
 Calls Try.prog 23 #[.agg #[.slice A d.n cp,.slice B m cq,.int .i64 d.lp],(Mv.mk k x y s o).v] w fun e w'=>ResErr 11 e∧Below w.heap.size w w':=by
 have k1:(k == 1)=false:=by rw [beq_eq_false_iff_ne];omega
 have k2:(k == 2)=false:=by rw [beq_eq_false_iff_ne];omega
 have k3:(k == 3)=false:=by rw [beq_eq_false_iff_ne];omega
 have k4:(k == 4)=false:=by rw [beq_eq_false_iff_ne];omega
 have k5:(k == 5)=false:=by rw [beq_eq_false_iff_ne];omega
 have n1:¬k=1:=by omega
 have n2:¬k=2:=by omega
 have n3:¬k=3:=by omega
 have n4:¬k=4:=by omega
 have n5:¬k=5:=by omega
 clear hk
 have hn:=hd.wf.few
 have hlp:=hd.wf.lp
 have HM:=hide hm
 have HG:=hide hg
 have hm2:m≤256:=by omega
 clear hm hg
 have PB0:=hide (boxes4 w (.slice A d.n cp) (.slice B m cq) (.int .i64 (d.lp:Int)) (.int .i64 k) (.int .i64 x) (.int .i64 y) (.int .i64 s) (.bool o))
 unfold W4 at PB0
 obtain ⟨x0,x1,x2,x3,b0,s0⟩:=PB0.out
 have X0:=hide x0
 have X1:=hide x1
 have X2:=hide x2
 have X3:=hide x3
 have B0:=hide b0
 have S0:=hide s0
 clear x0 x1 x2 x3 b0 s0 PB0
 unfold Mv.v
 go_enter Try.func23,Try.ntmps23
 go_wp2_with fail
 refine (rvalid_yes d hd A B cp cq m _ HM.out (HG.out.keep B0.out)).mono ?_
 rintro e w1 ⟨rfl,hb1⟩
 have Y0:=hide (X0.out.below hb1)
 have Y1:=hide (X1.out.below hb1)
 have Y2:=hide (X2.out.below hb1)
 have Y3:=hide (X3.out.below hb1)
 have B1:=hide (B0.out.trans (hb1.mono B0.out.size))
 have hsz1:w.heap.size+4≤w1.heap.size:=by have:=hb1.size;have:=S0.out;omega
 clear X0 X1 X2 X3 B0 S0 hb1
 have AB2:=hide (show AB w w1.heap.size (w1.heap.size+1) [.slice A d.n cp,.slice B m cq,.int .i64 (d.lp:Int)] [.int .i64 k,.int .i64 x,.int .i64 y,.int .i64 s,.bool o] ((w1.alloc (.cells #[.slice none 0 0,.slice none 0 0,.int .i64 0] 24)).alloc (.cells #[.int .i64 0,.int .i64 0,.int .i64 0,.int .i64 0,.bool false] 28)) from
  ⟨(Y0.out.alloc _).alloc _,(Y1.out.alloc _).alloc _,⟨_,(Y2.out.alloc _).alloc _,rfl⟩,⟨_,(Y3.out.alloc _).alloc _,rfl⟩,⟨_,(row_at (vs:=[_,_,_]) rfl).alloc _,rfl⟩,⟨_,row_at (vs:=[_,_,_,_,_]) (by simp),rfl⟩,(B1.out.alloc B1.out.size _).alloc (B1.out.alloc B1.out.size _).size _,by omega,by omega,by omega⟩)
 obtain ⟨d0,d1,d2,d3⟩:=box3 Y0.out
 obtain ⟨m0,m1,m2,m3,m4,m5⟩:=box5 Y1.out
 have z0:w.heap.size<w1.heap.size:=by omega
 have z1:w.heap.size+1<w1.heap.size:=by omega
 obtain ⟨g0,g1,g2,g3⟩:=box3 Y2.out
 obtain ⟨h0,h1,h2,h3,h4,h5⟩:=box5 Y3.out
 have YK2:=hide Y2.out
 have YK3:=hide Y3.out
 have BK1:=hide B1.out
 clear Y0 Y1 Y2 Y3 B1 hsz1
 have z2:w.heap.size+1+1<w1.heap.size:=by have:=AB2.out.lr;omega
 have z3:w.heap.size+1+1+1<w1.heap.size:=by have:=AB2.out.lr;omega
 go_wp2
 clear g0 g1 g2 g3 h0 h1 h2 h3 h4 h5
 refine bodyPost_ret (v := .tuple #[nilD,nilM,.int .i64 11]) ?_ rfl ?_
 ·obtain ⟨e0,e1,e2,e3,e4,e5,e6,e7⟩:=fin8 YK2.out YK3.out rfl rfl (by omega) (.slice none 0 0) (.slice none 0 0) (.int .i64 0) (.int .i64 0) (.int .i64 0) (.int .i64 0) (.int .i64 0) (.bool false)
  unfold nilD nilM
  have bb:∀W:World,Below W.heap.size W ((W.alloc (.cells #[.slice none 0 0,.slice none 0 0,.int .i64 0] 24)).alloc (.cells #[.int .i64 0,.int .i64 0,.int .i64 0,.int .i64 0,.bool false] 28)):=fun W=>((Below.refl _ _).alloc (Nat.le_refl _) _).alloc (by simp) _
  simp [results,Try.results23,go_sem,cell_below e0 (bb _),cell_below e1 (bb _),cell_below e2 (bb _),cell_below e3 (bb _),cell_below e4 (bb _),cell_below e5 (bb _),cell_below e6 (bb _),cell_below e7 (bb _)]
 ·exact ⟨(show ResErr _ _ from rfl),((below8 BK1.out _ _ _ _ _ _ _ _).alloc (below8 BK1.out _ _ _ _ _ _ _ _).size _).alloc ((below8 BK1.out _ _ _ _ _ _ _ _).alloc (below8 BK1.out _ _ _ _ _ _ _ _).size _).size _⟩
theorem rapply_any (d:Pl.Dg)(hd:Pl.Valid d)(A B:Option Addr)(cp cq m:Nat)(mv:Mv)(w:World)(hm:m=4 * d.n)(hg:DgAt w A B d) :
 Calls Try.prog 23 #[.agg #[.slice A d.n cp,.slice B m cq,.int .i64 d.lp],mv.v] w (ResC (apC d mv) (apD d mv) (apI d mv) w):=by
 obtain ⟨k,x,y,s,o⟩:=mv
 by_cases hk:k<1∨5<k
 ·have e:apC d ⟨k,x,y,s,o⟩=11:=by unfold apC;rw [if_pos hk]
  rw [e]
  exact (rapply_k d hd A B cp cq m k x y s o w hm hg hk).mono fun e w' h=>resC_err (by decide) h
 ·have hk5:k=1∨k=2∨k=3∨k=4∨k=5:=by omega
  rcases hk5 with rfl | rfl | rfl | rfl | rfl
  ·exact rapply_1 d hd A B cp cq m x y s o w hm hg
  ·exact rapply_2 d hd A B cp cq m x y s o w hm hg
  ·exact rapply_3 d hd A B cp cq m x y s o w hm hg
  ·exact rapply_4 d hd A B cp cq m x y s o w hm hg
  ·exact rapply_5 d hd A B cp cq m x y s o w hm hg
end Go.Proofs.Ytobbepmlmbbamaa
end
section
namespace Go.Proofs.Ytobbepmlmbbamaa
open Go Go.RowKit
theorem below_two {W:World}{o1 o2:Obj}:Below W.heap.size W ((W.alloc o1).alloc o2):=((Below.refl _ _).alloc (Nat.le_refl _) _).alloc (by simp) _
end Go.Proofs.Ytobbepmlmbbamaa
end
section
namespace Go.Proofs.Ytobbepmlmbbamaa
open Go Go.RowKit
attribute [local go_sem ↓] Go.wp_at_zero Go.wp_at_succ
def Sep (w w':World)(v v':Value):Prop:=(∀(a:Addr) (u:Value),a.block<w.heap.size→some a.block≠v.ownBlock→w.cell? a=some u→w'.cell? a=some u)∧(∀g,v'.ownBlock=some g→v.ownBlock=some g∨w.heap.size≤g)∧w.heap.size≤w'.heap.size
theorem Sep.below {w w':World}{v:Value}(hb:Below w.heap.size w w'):Sep w w' v v:=⟨fun a u _ _ h=>cell_below h hb,fun g h => .inl h,hb.size⟩
theorem Sep.app {w w5 w2:World}{v:Value}{g2 n c H:Nat}(hb:Below w.heap.size w w5)(gr:w5.grownBy w2 v.ownBlock)(at2:v.ownBlock=some g2∨g2=H)(hH:w.heap.size≤H):Sep w w2 v (.slice (some ⟨g2,0,none⟩) n c) :=
 ⟨fun a u hl hne h => by rw [gr.cell_far a (Nat.lt_of_lt_of_le hl hb.size) hne]; exact cell_below h hb, fun g h => by
   have e:some g2=some g:=h
   injection e with e
   subst e
   rcases at2 with h2 | h2
   ·exact .inl h2
   ·exact .inr (by omega),Nat.le_trans hb.size gr.size⟩
set_option maxRecDepth 100000 in
set_option maxHeartbeats 4000000 in
theorem radd_any (d:Pl.Dg)(hd:Pl.Valid d)(A B:Option Addr)(cp cq m b:Nat)(v:Value)(ms:List Mv)(k x y s:Int)(o:Bool)(dv:List Value)(w0 w:World)(hm:m=4 * d.n)(hg:DgAt w A B d)(hms:ms.length≤1000000)(hp:AL w0 dv b v ms w) :
 Calls Try.prog 69 #[v,.agg #[.slice A d.n cp,.slice B m cq,.int .i64 d.lp],.agg #[.int .i64 k,.int .i64 x,.int .i64 y,.int .i64 s,.bool o]] w fun e w'=>∃v',e = .returned v'∧AL w0 dv b v' (ms++one (apC d ⟨k,x,y,s,o⟩) ⟨k,x,y,s,o⟩) w'∧Sep w w' v v':=by
 have HM:=hide hm
 have HG:=hide hg
 have hb:=hp.lo2
 have hb0:Below w.heap.size w ((w.alloc (.cells #[.slice A d.n cp,.slice B m cq,.int .i64 d.lp] 24)).alloc (.cells #[.int .i64 k,.int .i64 x,.int .i64 y,.int .i64 s,.bool o] 28)):=below_two
 have P1:=hide (hp.below hb0)
 have M1:=hide (show Row ((w.alloc (.cells #[.slice A d.n cp,.slice B m cq,.int .i64 d.lp] 24)).alloc (.cells #[.int .i64 k,.int .i64 x,.int .i64 y,.int .i64 s,.bool o] 28)) (w.heap.size+1) 28 [.int .i64 k,.int .i64 x,.int .i64 y,.int .i64 s,.bool o] from row_at (vs:=[_,_,_,_,_]) (by simp))
 have HB0:=hide hb0
 clear hm hg hb0 hp
 go_enter Try.func69,Try.ntmps69
 go_wp2_with fail
 refine (rapply_any d hd A B cp cq m ⟨k,x,y,s,o⟩ _ HM.out (HG.out.keep HB0.out)).mono ?_
 intro e w3 hres
 have P3:=hide (P1.out.below hres.2.2)
 have M3:=hide (M1.out.below hres.2.2)
 obtain ⟨cc,hcc⟩:∃c,c=apC d ⟨k,x,y,s,o⟩:=⟨_,rfl⟩
 have HC:=hide hcc
 obtain ⟨e0,e1,e2,e3,e4,e5⟩:=box5 M3.out
 have z1:=M3.out.lt
 have z2:w.heap.size+1<w3.heap.size+1:=by omega
 have z3:w.heap.size<w3.heap.size:=by omega
 have hb3:=P3.out.lo2
 have HB3:=hide (HB0.out.trans (hres.2.2.mono HB0.out.size))
 clear P1 M1 HB0
 by_cases h0:cc=0
 ·obtain ⟨A9,B9,c8,c9,k9,x9,y9,s9,o9,hmv,rfl,hT⟩:=(hres.2.1 (by rw [←hcc];exact h0)).split
  have E:=hide (show one cc ⟨k,x,y,s,o⟩=[⟨k,x,y,s,o⟩] from one_yes h0)
  clear h0 hcc hres hmv hT
  obtain ⟨N9,hN9⟩:∃n,n=(apD d ⟨k,x,y,s,o⟩).n:=⟨_,rfl⟩
  obtain ⟨N4,hN4⟩:∃n,n=4 * (apD d ⟨k,x,y,s,o⟩).n:=⟨_,rfl⟩
  obtain ⟨L9,hL9⟩:∃n,n=(apD d ⟨k,x,y,s,o⟩).lp:=⟨_,rfl⟩
  rw [←hN4,←hN9,←hL9]
  clear hN9 hN4 hL9
  obtain ⟨n0,hn0,hz0,hz1,hz2⟩:=info_parts moveInfo
  have PA:=hide (P3.out.below (below_two (o1 := .cells #[.slice A9 N9 c8,.slice B9 N4 c9,.int .i64 (L9:Int)] 24) (o2 := .cells #[.int .i64 k9,.int .i64 x9,.int .i64 y9,.int .i64 s9,.bool o9] 28)))
  have PB:=hide (PA.out.below ((Below.refl _ _).alloc (Nat.le_refl _) (.cells (Mv.cells ⟨k,x,y,s,o⟩).toArray 28)))
  have A1:∀u ∈ Mv.cells ⟨k,x,y,s,o⟩,u.oneCell'=true:=by simp [Mv.cells,Value.oneCell']
  have A2:ms.length+1≤maxLen:=by unfold maxLen;omega
  have A3:(ms.length+1) * 40≤140737488355328:=by omega
  have A6:=hide (five_news ((w3.alloc (.cells #[.slice A9 N9 c8,.slice B9 N4 c9,.int .i64 (L9:Int)] 24)).alloc (.cells #[.int .i64 k9,.int .i64 x9,.int .i64 y9,.int .i64 s9,.bool o9] 28)) (w3.heap.size+1+1) (by simp) ⟨k,x,y,s,o⟩)
  go_wp2_with (at_builtin;refine wpList_append_lies _ (by rfl) _ _ 31 (by rfl) b 28 n0 (.agg #[.int .i64 0,.int .i64 0,.int .i64 0,.int .i64 0,.bool false]) 5 40 Try.underlying31 hn0 hz0 hz1 hz2 rfl (by omega) v ms.length (mvs ms) (by rfl) PB.out.o ⟨w3.heap.size+1+1,0,none⟩ 1 1 (Mv.cells ⟨k,x,y,s,o⟩) (by rfl) (by rfl) A6.out A1 (by omega) A2 A3 (by simp;omega) (w3.heap.size+1+1+1) (by simp) ?_;intro g2 c2 w2 own2 grow2 at2 lt2;have OWN2:=hide own2;have GR2:=hide grow2;have AT2:=hide at2;clear own2 grow2 at2)
  go_ret
  refine ⟨_,rfl,?_,?_⟩
  ·rw [←HC.out,E.out]
   exact PB.out.app (r:=[⟨k,x,y,s,o⟩]) OWN2.out GR2.out
  ·exact Sep.app ((HB3.out.trans (below_two.mono HB3.out.size)).alloc (by simp;omega) _) GR2.out AT2.out (by omega)
 ·have hE:=ResErr.split (hres.1 (by rw [←hcc];exact h0))
  subst hE
  rw [←hcc]
  have E:=hide (show one cc ⟨k,x,y,s,o⟩=[] from one_no h0)
  have t1:(cc == 0)=false:=by rw [beq_eq_false_iff_ne];exact h0
  clear h0 hcc hres
  go_wp2
  go_ret
  refine ⟨v,rfl,?_,?_⟩
  ·rw [←HC.out,E.out,List.append_nil]
   exact P3.out.below below_two
  ·exact Sep.below (HB3.out.trans (below_two.mono HB3.out.size))
theorem AL.start (w:World)(A B:Option Addr)(n cp m cq:Nat)(l:Int):AL w [.slice A n cp,.slice B m cq,.int .i64 l] (w.heap.size+1) (.slice none 0 0) [] (w.alloc (.cells #[.slice A n cp,.slice B m cq,.int .i64 l] 24)) :=
 ⟨row_at (vs:=[_,_,_]) rfl,⟨rfl,.inl ⟨rfl,rfl⟩⟩,(Below.refl _ _).alloc (Nat.le_refl _) _,by omega,by simp⟩
set_option maxRecDepth 100000 in
set_option maxHeartbeats 4000000 in
theorem rRemoving_any (d:Pl.Dg)(hd:Pl.Valid d)(A B:Option Addr)(cp cq m:Nat)(w:World)(hm:m=4 * d.n)(hg:DgAt w A B d) :
 Calls Try.prog 34 #[.agg #[.slice A d.n cp,.slice B m cq,.int .i64 d.lp]] w fun e w'=>∃v,e = .returned v∧MovesIn w.heap.size w' v (remL d)∧Below w.heap.size w w':=by
 have HM:=hide hm
 have HG:=hide hg
 have hn:=hd.wf.few
 have P0:=hide (AL.start w A B d.n cp m cq d.lp)
 clear hg hm
 go_enter Try.func34,Try.ntmps34
 go_wp2
 go_loopg [3,5] d.n (fun g s3 s5 wx=>∃(k:Nat),k+g=d.n∧s5 = .int .i64 (k:Int)∧AL w [.slice A d.n cp,.slice B m cq,.int .i64 (d.lp:Int)] (w.heap.size+1) s3 (sel d (unC k)) wx)
 case atStart=>exact ⟨0,by omega,rfl,P0.out⟩
 case round =>
  clear P0
  obtain ⟨k,hkg,rfl,hp⟩:=hrel
  have HKG:=hide hkg
  have PK:=hide hp
  clear hp
  by_cases hk:k<d.n
  ·have hki:(k:Int)<(d.n:Int):=by omega
   have hlen:(sel d (unC k)).length≤1000000:=by
    have a:=unL_len d k
    rw [un_sel d _ (by omega)] at a
    omega
   obtain ⟨d0,d1,d2,d3⟩:=box3 PK.out.d
   clear hkg
   go_wp2_with fail
   refine (radd_any d hd A B cp cq m _ _ _ 2 k 0 0 false _ w _ HM.out (HG.out.keep PK.out.bel) hlen PK.out).mono ?_
   rintro e w1 ⟨v1,rfl,hp1,_⟩
   have Q1:=hide hp1
   clear hp1
   go_wp2
   go_roundg (gk - 1)
   case measure=>have:=HKG.out;omega
   case rel =>
    have e2:sel d (unC (k+1))=sel d (unC k)++one (apC d ⟨2,k,0,0,false⟩) ⟨2,k,0,0,false⟩:=by
     show sel d (unC k++[⟨2,k,0,0,false⟩])=_
     rw [sel_app,sel_cons,sel_nil,List.append_nil]
    exact ⟨k+1,by have:=HKG.out;omega,by go_num,by rw [e2];exact Q1.out⟩
  ·have hki:¬((k:Int)<(d.n:Int)):=by omega
   obtain rfl:k=d.n:=by omega
   clear hkg HKG
   obtain ⟨U,hU⟩:∃U,U=sel d (unC d.n):=⟨_,rfl⟩
   have hUl:U.length≤64:=by rw [hU];exact un_le hn
   have HU:=hide hU
   rw [←hU] at PK
   clear hU
   go_wp2
   go_loopg [3,6,7] d.n (fun g s3 s6 s7 wx=>∃(k:Nat),k+g=d.n∧s6 = .int .i64 (k:Int)∧AL w [.slice A d.n cp,.slice B m cq,.int .i64 (d.lp:Int)] (w.heap.size+1) s3 (U++sel d (upNX d.n k)) wx)
   case atStart=>exact ⟨0,by omega,rfl,by rw [show sel d (upNX d.n 0)=[] from rfl,List.append_nil];exact PK.out⟩
   case round =>
    clear PK
    obtain ⟨k,hkg,rfl,hp⟩:=hrel
    obtain ⟨go,rfl⟩:∃go,go=gk:=⟨_,rfl⟩
    have HKG:=hide hkg
    have PK:=hide hp
    have hlen:=upX_len hn k
    rw [up_sel] at hlen
    clear hp
    by_cases hk:k<d.n
    ·have hki:(k:Int)<(d.n:Int):=by omega
     clear hkg
     go_wp2
     go_loopg [3,7] (d.n - (k+1)) (fun g s3 s7 wx=>∃(j:Nat),j+g=d.n∧k+1≤j∧s7 = .int .i64 (j:Int)∧AL w [.slice A d.n cp,.slice B m cq,.int .i64 (d.lp:Int)] (w.heap.size+1) s3 (U++sel d (upNX d.n k)++sel d (upN k j)) wx)
     case atStart=>exact ⟨k+1,by omega,by omega,by go_num,by rw [←upY_sel d k _ (by omega),upY_none d k (k+1) (Nat.le_refl _),List.append_nil];exact PK.out⟩
     case round =>
      clear PK
      obtain ⟨j,hjg,hkj,rfl,hq⟩:=hrel
      have HJG:=hide hjg
      have QJ:=hide hq
      have hlen2:=upY_len d k j
      obtain ⟨d0,d1,d2,d3⟩:=box3 hq.d
      clear hq hjg
      by_cases hj:j<d.n
      ·have hji:(j:Int)<(d.n:Int):=by omega
       rw [upY_sel d k j (by omega)] at hlen2
       go_wp2_with fail
       refine (radd_any d hd A B cp cq m _ _ _ 4 k j 0 false _ w _ HM.out (HG.out.keep QJ.out.bel) (by simp only [List.length_append];omega) QJ.out).mono ?_
       rintro e w1 ⟨v1,rfl,hp1,_⟩
       have Q1:=hide hp1
       clear hp1
       go_wp2
       go_roundg (gk - 1)
       case measure=>have:=HJG.out;omega
       case rel =>
        have e2:sel d (upN k (j+1))=sel d (upN k j)++one (apC d ⟨4,k,j,0,false⟩) ⟨4,k,j,0,false⟩:=by
         show sel d (upN k j++(if k<j then [⟨4,k,j,0,false⟩] else []))=_
         rw [if_pos (by omega),sel_app,sel_cons,sel_nil,List.append_nil]
        exact ⟨j+1,by have:=HJG.out;omega,by omega,by go_num,by rw [e2,←List.append_assoc];exact Q1.out⟩
      ·have hji:¬((j:Int)<(d.n:Int)):=by omega
       have E2:=hide (show sel d (upNX d.n (k+1))=sel d (upNX d.n k)++sel d (upN k j) by
        have:j=d.n:=by have:=HJG.out;omega
        rw [this]
        show sel d (upNX d.n k++upN k d.n)=_
        rw [sel_app])
       go_wp2
       go_roundg (go - 1)
       case measure=>have:=HKG.out;omega
       case rel=>exact ⟨k+1,by have:=HKG.out;omega,by go_num,by rw [E2.out,←List.append_assoc];exact QJ.out⟩
    ·have hki:¬((k:Int)<(d.n:Int)):=by omega
     obtain rfl:k=d.n:=by omega
     clear hkg HKG
     go_wp2
     go_ret
     exact ⟨_,rfl,⟨w.heap.size+1,by omega,PK.out.lo2,by unfold remL;rw [←HU.out];exact PK.out.o⟩,PK.out.bel⟩
end Go.Proofs.Ytobbepmlmbbamaa
end
section
namespace Go.Proofs.Ytobbepmlmbbamaa
open Go Go.RowKit
attribute [local go_sem ↓] Go.wp_at_zero Go.wp_at_succ
theorem is3_per3 {d:Pl.Dg}{h:Nat}(hi3:is3 d h):Pl.Per (Pl.nx d) h 3:=by
 obtain ⟨e3,c1,c2,c3⟩:=hi3
 refine ⟨by omega,e3,fun i h1 h2=>?_⟩
 have:i=1∨i=2:=by omega
 rcases this with rfl | rfl
 ·intro e;exact c1 (congrArg (· / 4) e).symm
 ·intro e;exact c3 (congrArg (· / 4) e).symm
set_option maxRecDepth 100000 in
set_option maxHeartbeats 4000000 in
theorem rSlides_any (d:Pl.Dg)(hd:Pl.Valid d)(A B:Option Addr)(cp cq m:Nat)(w:World)(hm:m=4 * d.n)(hg:DgAt w A B d) :
 Calls Try.prog 35 #[.agg #[.slice A d.n cp,.slice B m cq,.int .i64 d.lp]] w fun e w'=>∃v,e = .returned v∧MovesIn w.heap.size w' v (slL d m)∧Below w.heap.size w w':=by
 have HM:=hide hm
 have HG:=hide hg
 have HW:=hide hd.wf
 have hn:=hd.wf.few
 have hm2:m≤256:=by omega
 have P0:=hide (AL.start w A B d.n cp m cq d.lp)
 clear hg hm
 go_enter Try.func35,Try.ntmps35
 go_wp2
 go_loopg [3,4,5] m (fun g s3 s4 s5 wx=>∃(h:Nat),h+g=m∧s4 = .int .i64 (h:Int)∧AL w [.slice A d.n cp,.slice B m cq,.int .i64 (d.lp:Int)] (w.heap.size+1) s3 (slL d h) wx)
 case atStart=>exact ⟨0,by omega,rfl,P0.out⟩
 case round =>
  clear P0
  obtain ⟨h,hkg,rfl,hp⟩:=hrel
  have HKG:=hide hkg
  have PK:=hide hp
  have hlen:=slL_len d h
  clear hp
  obtain ⟨d0,d1,d2,d3⟩:=box3 PK.out.d
  by_cases hk:h<m
  ·have hki:(h:Int)<(m:Int):=by omega
   have hh:h<4 * d.n:=by have:=HM.out;omega
   clear hkg
   go_wp2_with fail
   refine (rtri_any d HW.out A B cp cq m (.int .i64 d.lp) h _ HM.out (by rw [HM.out];exact (HG.out.keep PK.out.bel).m) hh).mono ?_
   rintro e w1 ⟨rfl,hb1⟩
   have K1:=hide (PK.out.below hb1)
   clear hb1 PK d0 d1 d2 d3
   obtain ⟨d0,d1,d2,d3⟩:=box3 K1.out.d
   by_cases hT:isT d h
   ·rw [Pl.vb_true hT]
    have HT:=hide hT
    have HPER:=hide (is3_per3 hT.1)
    clear hT
    go_wp2_with fail
    refine (rface_any d HW.out A B cp cq m (.int .i64 d.lp) h 3 _ HM.out (by rw [HM.out];exact (HG.out.keep K1.out.bel).m) hh HPER.out (by omega)).mono ?_
    rintro e w2 ⟨A5,c5,rfl,own5,hb2⟩
    obtain ⟨gf,rfl⟩:=own_form1 own5 (by omega)
    have K2:=hide (K1.out.below hb2)
    obtain ⟨i,hi⟩:∃i,i=Pl.nx d h:=⟨_,rfl⟩
    obtain ⟨j,hj⟩:∃j,j=Pl.nx d (Pl.nx d h):=⟨_,rfl⟩
    have c1:w2.cell? ⟨gf,1,none⟩=some (.int .i64 (i:Int)):=(World.ownsRow.cellAt own5 1 (by omega)).trans (by rw [hi];rfl)
    have c2:w2.cell? ⟨gf,2,none⟩=some (.int .i64 (j:Int)):=(World.ownsRow.cellAt own5 2 (by omega)).trans (by rw [hj];rfl)
    have HS:=hide (show slP d h↔h≤i∧h≤j∧isT d h by unfold slP;rw [hi,hj];exact Iff.rfl)
    clear own5 hb2 hi hj K1 d0 d1 d2 d3
    obtain ⟨d0,d1,d2,d3⟩:=box3 K2.out.d
    by_cases h1:h≤i
    ·have h1i:(h:Int)≤(i:Int):=by omega
     have t1:decide (h≤i)=true:=decide_eq_true h1
     by_cases h2:h≤j
     ·have h2i:(h:Int)≤(j:Int):=by omega
      have t2:decide (h≤j)=true:=decide_eq_true h2
      have E:=hide (show slL d (h+1)=slL d h++[⟨5,h,0,0,false⟩] by
       show slL d h++slOne d h=_
       unfold slOne
       rw [if_pos (HS.out.2 ⟨h1,h2,HT.out⟩)])
      obtain ⟨n0,hn0,hz0,hz1,hz2⟩:=info_parts moveInfo
      have PB:=hide (K2.out.below ((Below.refl _ _).alloc (Nat.le_refl _) (.cells (Mv.cells ⟨5,h,0,0,false⟩).toArray 28)))
      have A1:∀u ∈ Mv.cells ⟨5,h,0,0,false⟩,u.oneCell'=true:=by simp [Mv.cells,Value.oneCell']
      have A2:(slL d h).length+1≤maxLen:=by unfold maxLen;omega
      have A3:((slL d h).length+1) * 40≤140737488355328:=by omega
      have A6:=hide (five_news w2 w2.heap.size rfl ⟨5,h,0,0,false⟩)
      have hb2:=K2.out.lo2
      go_wp2_with (at_builtin;refine wpList_append_lies _ (by rfl) _ _ 31 (by rfl) (w.heap.size+1) 28 n0 (.agg #[.int .i64 0,.int .i64 0,.int .i64 0,.int .i64 0,.bool false]) 5 40 Try.underlying31 hn0 hz0 hz1 hz2 rfl (by omega) _ (slL d h).length (mvs (slL d h)) (by rfl) PB.out.o ⟨w2.heap.size,0,none⟩ 1 1 (Mv.cells ⟨5,h,0,0,false⟩) (by rfl) (by rfl) A6.out A1 (by omega) A2 A3 (by simp;omega) (w2.heap.size+1) (by simp) ?_;intro g2 c2 w3 own2 grow2 at2 lt2;have Q3:=hide (PB.out.app (r:=[⟨5,h,0,0,false⟩]) own2 grow2);clear own2 grow2 at2)
      go_roundg (gk - 1)
      case measure=>have:=HKG.out;omega
      case rel=>exact ⟨h+1,by have:=HKG.out;omega,by go_num,by rw [E.out];exact Q3.out⟩
     ·have h2i:¬((h:Int)≤(j:Int)):=by omega
      have t2:decide (h≤j)=false:=decide_eq_false h2
      have E:=hide (show slL d (h+1)=slL d h by
       show slL d h++slOne d h=_
       unfold slOne
       rw [if_neg (fun c=>h2 (HS.out.1 c).2.1),List.append_nil])
      go_wp2
      go_roundg (gk - 1)
      case measure=>have:=HKG.out;omega
      case rel=>exact ⟨h+1,by have:=HKG.out;omega,by go_num,by rw [E.out];exact K2.out⟩
    ·have h1i:¬((h:Int)≤(i:Int)):=by omega
     have t1:decide (h≤i)=false:=decide_eq_false h1
     have E:=hide (show slL d (h+1)=slL d h by
      show slL d h++slOne d h=_
      unfold slOne
      rw [if_neg (fun c=>h1 (HS.out.1 c).1),List.append_nil])
     go_wp2
     go_roundg (gk - 1)
     case measure=>have:=HKG.out;omega
     case rel=>exact ⟨h+1,by have:=HKG.out;omega,by go_num,by rw [E.out];exact K2.out⟩
   ·rw [Pl.vb_false hT]
    have E:=hide (show slL d (h+1)=slL d h by
     show slL d h++slOne d h=_
     unfold slOne
     rw [if_neg (fun c=>hT c.2.2),List.append_nil])
    clear hT
    go_wp2
    go_roundg (gk - 1)
    case measure=>have:=HKG.out;omega
    case rel=>exact ⟨h+1,by have:=HKG.out;omega,by go_num,by rw [E.out];exact K1.out⟩
  ·have hki:¬((h:Int)<(m:Int)):=by omega
   obtain rfl:h=m:=by omega
   clear hkg HKG
   go_wp2
   go_ret
   exact ⟨_,rfl,⟨w.heap.size+1,by omega,PK.out.lo2,PK.out.o⟩,PK.out.bel⟩
end Go.Proofs.Ytobbepmlmbbamaa
end
