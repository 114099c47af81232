/-
  The texts Xf.
-/
import Derived.Test.YtdgliimmnnhhjaaGreatDoorU07
import Derived.Test.YtdgliimmnnhhjaaGreatDoorU19
import Derived.Test.YtdgliimmnnhhjaaGreatDoorU23
import Derived.Test.YtdgliimmnnhhjaaGreatDoorU26
set_option linter.unusedVariables false
set_option linter.unusedSimpArgs false
section
namespace Go.Proofs.YtdgliimmnnhhjaaGreatDoor
open Go Go.RowKit
attribute [local go_sem ↓] Go.wp_at_zero Go.wp_at_succ
def ResC (c:Int)(r:Pl.Dg)(mv:Mv)(w:World)(e:Ending)(w':World):Prop:=(c≠0→ResErr c e)∧(c=0→ResOk r mv e w')∧Below w.heap.size w w'
theorem ResOk.split {r:Pl.Dg}{mv:Mv}{e:Ending}{w':World}(h:ResOk r mv e w'):∃(A B:Option Addr) (c1 c2:Nat) (k x y s:Int) (o:Bool),mv=⟨k,x,y,s,o⟩∧e = .returned (.tuple #[.agg #[.slice A r.n c1,.slice B (4 * r.n) c2,.int .i64 r.lp],.agg #[.int .i64 k,.int .i64 x,.int .i64 y,.int .i64 s,.bool o],.int .i64 0])∧DgT w' A B r:=by
 obtain ⟨A,B,c1,c2,he,hd⟩:=h
 obtain ⟨k,x,y,s,o⟩:=mv
 exact ⟨A,B,c1,c2,k,x,y,s,o,rfl,he,hd⟩
theorem ResErr.split {c:Int}{e:Ending}(h:ResErr c e):e = .returned (.tuple #[.agg #[.slice none 0 0,.slice none 0 0,.int .i64 0],.agg #[.int .i64 0,.int .i64 0,.int .i64 0,.int .i64 0,.bool false],.int .i64 c]):=h
theorem DgT.store {w:World}{A B:Option Addr}{d:Pl.Dg}{g o:Nat}{t:TypeId}{vs:List Value}(h:DgT w A B d)(hr:Row w g t vs)(hne:3≠t)(v:Value):DgT (w.setCell ⟨g,o,none⟩ v) A B d:=⟨h.s.store hr hne v,h.m.store hr hne v⟩
structure AB (w:World) (gr gi:Nat) (dv mv:List Value) (W:World):Prop where
 d:Row W w.heap.size 24 dv
 m:Row W (w.heap.size+1) 43 mv
 rd:∃vs,Row W (w.heap.size+1+1) 24 vs∧vs.length=3
 rm:∃us,Row W (w.heap.size+1+1+1) 43 us∧us.length=5
 r:∃vs,Row W gr 24 vs∧vs.length=3
 i:∃us,Row W gi 43 us∧us.length=5
 bel:Below w.heap.size w W
 lr:w.heap.size+1+1+1<gr
 li:w.heap.size+1+1+1<gi
 ne:gr≠gi
section
variable {w W W':World} {gr gi:Nat} {dv mv:List Value}
theorem AB.drew (h:AB w gr gi dv mv W):AB w gr gi dv mv W.drew:=⟨h.d,h.m,h.rd,h.rm,h.r,h.i,h.bel.drew,h.lr,h.li,h.ne⟩
theorem AB.below (h:AB w gr gi dv mv W)(hb:Below W.heap.size W W'):AB w gr gi dv mv W' :=
 let ⟨vs,r1,l1⟩:=h.rd
 let ⟨us,r2,l2⟩:=h.rm
 let ⟨xs,r3,l3⟩:=h.r
 let ⟨ys,r4,l4⟩:=h.i
 ⟨h.d.below hb,h.m.below hb,⟨vs,r1.below hb,l1⟩,⟨us,r2.below hb,l2⟩,⟨xs,r3.below hb,l3⟩,⟨ys,r4.below hb,l4⟩,h.bel.trans (hb.mono h.bel.size),h.lr,h.li,h.ne⟩
theorem AB.setD (h:AB w gr gi dv mv W)(o:Nat)(v:Value):AB w gr gi dv mv (W.setCell ⟨w.heap.size+1+1,o,none⟩ v) :=
 have a1:=h.lr
 have a2:=h.li
 have a3:=h.ne
 let ⟨vs,r1,l1⟩:=h.rd
 let ⟨us,r2,l2⟩:=h.rm
 let ⟨xs,r3,l3⟩:=h.r
 let ⟨ys,r4,l4⟩:=h.i
 ⟨h.d.other (by show _≠w.heap.size+1+1;omega) v,h.m.other (by show _≠w.heap.size+1+1;omega) v,⟨vs.set o v,r1.set o v,by rw [List.length_set,l1]⟩,⟨us,r2.other (by show _≠w.heap.size+1+1;omega) v,l2⟩,⟨xs,r3.other (by show _≠w.heap.size+1+1;omega) v,l3⟩,⟨ys,r4.other (by show _≠w.heap.size+1+1;omega) v,l4⟩,h.bel.setCell (by show _≤w.heap.size+1+1;omega) v,h.lr,h.li,h.ne⟩
theorem AB.setM (h:AB w gr gi dv mv W)(o:Nat)(v:Value):AB w gr gi dv mv (W.setCell ⟨w.heap.size+1+1+1,o,none⟩ v) :=
 have a1:=h.lr
 have a2:=h.li
 have a3:=h.ne
 let ⟨vs,r1,l1⟩:=h.rd
 let ⟨us,r2,l2⟩:=h.rm
 let ⟨xs,r3,l3⟩:=h.r
 let ⟨ys,r4,l4⟩:=h.i
 ⟨h.d.other (by show _≠w.heap.size+1+1+1;omega) v,h.m.other (by show _≠w.heap.size+1+1+1;omega) v,⟨vs,r1.other (by show _≠w.heap.size+1+1+1;omega) v,l1⟩,⟨us.set o v,r2.set o v,by rw [List.length_set,l2]⟩,⟨xs,r3.other (by show _≠w.heap.size+1+1+1;omega) v,l3⟩,⟨ys,r4.other (by show _≠w.heap.size+1+1+1;omega) v,l4⟩,h.bel.setCell (by show _≤w.heap.size+1+1+1;omega) v,h.lr,h.li,h.ne⟩
theorem AB.setR (h:AB w gr gi dv mv W)(o:Nat)(v:Value):AB w gr gi dv mv (W.setCell ⟨gr,o,none⟩ v) :=
 have a1:=h.lr
 have a2:=h.li
 have a3:=h.ne
 let ⟨vs,r1,l1⟩:=h.rd
 let ⟨us,r2,l2⟩:=h.rm
 let ⟨xs,r3,l3⟩:=h.r
 let ⟨ys,r4,l4⟩:=h.i
 ⟨h.d.other (by show _≠gr;omega) v,h.m.other (by show _≠gr;omega) v,⟨vs,r1.other (by show _≠gr;omega) v,l1⟩,⟨us,r2.other (by show _≠gr;omega) v,l2⟩,⟨xs.set o v,r3.set o v,by rw [List.length_set,l3]⟩,⟨ys,r4.other (by show _≠gr;omega) v,l4⟩,h.bel.setCell (by show _≤gr;omega) v,h.lr,h.li,h.ne⟩
theorem AB.setI (h:AB w gr gi dv mv W)(o:Nat)(v:Value):AB w gr gi dv mv (W.setCell ⟨gi,o,none⟩ v) :=
 have a1:=h.lr
 have a2:=h.li
 have a3:=h.ne
 let ⟨vs,r1,l1⟩:=h.rd
 let ⟨us,r2,l2⟩:=h.rm
 let ⟨xs,r3,l3⟩:=h.r
 let ⟨ys,r4,l4⟩:=h.i
 ⟨h.d.other (by show _≠gi;omega) v,h.m.other (by show _≠gi;omega) v,⟨vs,r1.other (by show _≠gi;omega) v,l1⟩,⟨us,r2.other (by show _≠gi;omega) v,l2⟩,⟨xs,r3.other (by show _≠gi;omega) v,l3⟩,⟨ys.set o v,r4.set o v,by rw [List.length_set,l4]⟩,h.bel.setCell (by show _≤gi;omega) v,h.lr,h.li,h.ne⟩
end
structure AD (w:World) (gr gi:Nat) (dv mv:List Value) (A B:Option Addr) (r:Pl.Dg) (W:World):Prop where
 b:AB w gr gi dv mv W
 t:DgT W A B r
section
variable {w W W':World} {gr gi:Nat} {dv mv:List Value} {A B:Option Addr} {r:Pl.Dg}
theorem AD.drew (h:AD w gr gi dv mv A B r W):AD w gr gi dv mv A B r W.drew:=⟨h.b.drew,⟨h.t.s,h.t.m⟩⟩
theorem AD.setD (h:AD w gr gi dv mv A B r W)(o:Nat)(v:Value):AD w gr gi dv mv A B r (W.setCell ⟨w.heap.size+1+1,o,none⟩ v):=⟨h.b.setD o v,let ⟨_,r1,_⟩:=h.b.rd;h.t.store r1 (by decide) v⟩
theorem AD.setM (h:AD w gr gi dv mv A B r W)(o:Nat)(v:Value):AD w gr gi dv mv A B r (W.setCell ⟨w.heap.size+1+1+1,o,none⟩ v):=⟨h.b.setM o v,let ⟨_,r1,_⟩:=h.b.rm;h.t.store r1 (by decide) v⟩
theorem AD.setR (h:AD w gr gi dv mv A B r W)(o:Nat)(v:Value):AD w gr gi dv mv A B r (W.setCell ⟨gr,o,none⟩ v):=⟨h.b.setR o v,let ⟨_,r1,_⟩:=h.b.r;h.t.store r1 (by decide) v⟩
theorem AD.setI (h:AD w gr gi dv mv A B r W)(o:Nat)(v:Value):AD w gr gi dv mv A B r (W.setCell ⟨gi,o,none⟩ v):=⟨h.b.setI o v,let ⟨_,r1,_⟩:=h.b.i;h.t.store r1 (by decide) v⟩
end
theorem cells3 {W:World}{g:Nat}{t:TypeId}{vs:List Value}(h:Row W g t vs)(l:vs.length=3):W.cell? ⟨g,0,none⟩=some (cv W ⟨g,0,none⟩)∧W.cell? ⟨g,1,none⟩=some (cv W ⟨g,1,none⟩)∧W.cell? ⟨g,2,none⟩=some (cv W ⟨g,2,none⟩)∧∀o,W.frozen? ⟨g,o,none⟩=false :=
 ⟨cv_some (h.cell (i:=0) (by omega)),cv_some (h.cell (i:=1) (by omega)),cv_some (h.cell (i:=2) (by omega)),h.free⟩
theorem cells5 {W:World}{g:Nat}{t:TypeId}{vs:List Value}(h:Row W g t vs)(l:vs.length=5):W.cell? ⟨g,0,none⟩=some (cv W ⟨g,0,none⟩)∧W.cell? ⟨g,1,none⟩=some (cv W ⟨g,1,none⟩)∧W.cell? ⟨g,2,none⟩=some (cv W ⟨g,2,none⟩)∧W.cell? ⟨g,3,none⟩=some (cv W ⟨g,3,none⟩)∧W.cell? ⟨g,4,none⟩=some (cv W ⟨g,4,none⟩)∧∀o,W.frozen? ⟨g,o,none⟩=false :=
 ⟨cv_some (h.cell (i:=0) (by omega)),cv_some (h.cell (i:=1) (by omega)),cv_some (h.cell (i:=2) (by omega)),cv_some (h.cell (i:=3) (by omega)),cv_some (h.cell (i:=4) (by omega)),h.free⟩
theorem curl_m (d:Pl.Dg)(hd:Pl.Wf d)(A B:Option Addr)(cp cq m:Nat)(k x y sg:Int)(ov:Bool)(w:World)(hm:m=4 * d.n)(hg:DgAt w A B d)(hx:-1≤x∧x<4 * d.n)(hsg:sg=1∨sg = -1) :
 Calls Tryz.prog 43 #[.agg #[.slice A d.n cp,.slice B m cq,.int .i64 d.lp],.agg #[.int .i64 k,.int .i64 x,.int .i64 y,.int .i64 sg,.bool ov]] w (CurlPost d x sg ov w):=by
 subst hm;exact curl_any d hd A B cp cq k x y sg ov w hg hx hsg
set_option maxRecDepth 100000 in
set_option maxHeartbeats 4000000 in
theorem apply_1 (d:Pl.Dg)(hd:Pl.Valid d)(A B:Option Addr)(cp cq m:Nat)(x y s:Int)(o:Bool)(w:World)(hm:m=4 * d.n)(hg:DgAt w A B d)(hin:inR d.n ⟨1,x,y,s,o⟩) :
 Calls Tryz.prog 20 #[.agg #[.slice A d.n cp,.slice B m cq,.int .i64 d.lp],(Mv.mk 1 x y s o).v] w (ResC (curlableC d x) (crl d x s o) ((⟨2,d.n,0,0,false⟩:Mv)) w):=by
 have hn:=hd.wf.few
 have hlp:=hd.wf.lp
 have HM:=hide hm
 have HG:=hide hg
 have hm2:m≤256:=by omega
 clear hm hg
 have PB0:=hide (boxes4 w (.slice A d.n cp) (.slice B m cq) (.int .i64 (d.lp:Int)) (.int .i64 1) (.int .i64 x) (.int .i64 y) (.int .i64 s) (.bool o))
 unfold W4 at PB0
 obtain ⟨x0,x1,x2,x3,b0,s0⟩:=PB0.out
 have X0:=hide x0
 have X1:=hide x1
 have X2:=hide x2
 have X3:=hide x3
 have B0:=hide b0
 have S0:=hide s0
 clear x0 x1 x2 x3 b0 s0 PB0
 unfold Mv.v
 go_enter Tryz.func20,Tryz.ntmps20
 go_wp2_with fail
 refine (valid_yes d hd A B cp cq m _ HM.out (HG.out.keep B0.out)).mono ?_
 rintro e w1 ⟨rfl,hb1⟩
 have Y0:=hide (X0.out.below hb1)
 have Y1:=hide (X1.out.below hb1)
 have Y2:=hide (X2.out.below hb1)
 have Y3:=hide (X3.out.below hb1)
 have B1:=hide (B0.out.trans (hb1.mono B0.out.size))
 have hsz1:w.heap.size+4≤w1.heap.size:=by have:=hb1.size;have:=S0.out;omega
 clear X0 X1 X2 X3 B0 S0 hb1
 obtain ⟨d0,d1,d2,d3⟩:=box3 Y0.out
 obtain ⟨m0,m1,m2,m3,m4,m5⟩:=box5 Y1.out
 go_wp2_with fail
 refine (inRange_1 d.n x y s o w1 (by omega)).mono ?_
 rintro e w2 ⟨rfl,hb2⟩
 rw [Pl.vb_true hin]
 have hsz:w.heap.size+4≤w2.heap.size:=by have:=hb2.size;omega
 have AB2:=hide (show AB w w2.heap.size (w2.heap.size+1) [.slice A d.n cp,.slice B m cq,.int .i64 (d.lp:Int)] [.int .i64 1,.int .i64 x,.int .i64 y,.int .i64 s,.bool o] ((w2.alloc (.cells #[.slice none 0 0,.slice none 0 0,.int .i64 0] 24)).alloc (.cells #[.int .i64 0,.int .i64 0,.int .i64 0,.int .i64 0,.bool false] 43)) from
  ⟨((Y0.out.below hb2).alloc _).alloc _,((Y1.out.below hb2).alloc _).alloc _,⟨_,((Y2.out.below hb2).alloc _).alloc _,rfl⟩,⟨_,((Y3.out.below hb2).alloc _).alloc _,rfl⟩,⟨_,(row_at (vs:=[_,_,_]) rfl).alloc _,rfl⟩,⟨_,row_at (vs:=[_,_,_,_,_]) (by simp),rfl⟩,((B1.out.trans (hb2.mono B1.out.size)).alloc (B1.out.trans (hb2.mono B1.out.size)).size _).alloc ((B1.out.trans (hb2.mono B1.out.size)).alloc (B1.out.trans (hb2.mono B1.out.size)).size _).size _,by omega,by omega,by omega⟩)
 obtain ⟨d0',d1',d2',d3'⟩:=box3 (Y0.out.below hb2)
 obtain ⟨m0',m1',m2',m3',m4',m5'⟩:=box5 (Y1.out.below hb2)
 clear d0 d1 d2 d3 m0 m1 m2 m3 m4 m5 Y0 Y1 Y2 Y3 B1 hb2 hsz1
 have z1:w.heap.size<w2.heap.size:=by omega
 have z2:w.heap.size+1<w2.heap.size:=by omega
 have hx:-1≤x∧x<4 * d.n:=by have:=hin;unfold inR at this;simp at this;omega
 have hs:s=1∨s = -1:=by have:=hin;unfold inR at this;simp at this;omega
 have HG2:=hide (HG.out.keep AB2.out.bel)
 go_wp2_with fail
 obtain ⟨gr,hgr⟩:∃g,g=w2.heap.size:=⟨_,rfl⟩
 obtain ⟨gi,hgi⟩:∃g,g=w2.heap.size+1:=⟨_,rfl⟩
 rw [←hgi,←hgr] at AB2
 rw [←hgi,←hgr]
 clear hgr hgi
 refine (curl_m d hd.wf A B cp cq m 1 x y s o _ HM.out HG2.out hx hs).mono ?_
 intro e w3 hres
 have AB3:=hide (AB2.out.below hres.2.2)
 obtain ⟨cc,hcc⟩:∃c,c=curlableC d x:=⟨_,rfl⟩
 obtain ⟨rr,hrr⟩:∃r,r=crl d x s o:=⟨_,rfl⟩
 obtain ⟨mm,hmm⟩:∃r,r=(⟨2,d.n,0,0,false⟩:Mv):=⟨_,rfl⟩
 unfold CurlPost at hres
 rw [←hcc,←hrr,←hmm] at hres
 have HCC:=hide hcc
 have HRR:=hide hrr
 have HMM:=hide hmm
 clear hcc hrr hmm d0' d1' d2' d3' m0' m1' m2' m3' m4' m5' AB2 HG2
 by_cases hc:cc=0
 ·obtain ⟨A9,B9,c8,c9,k9,x9,y9,s9,o9,hmv,rfl,hT⟩:=ResOk.split (hres.2.1 hc)
  have HMV:=hide hmv
  have HC:=hide hc
  clear hmv hc
  have AD3:=hide (show AD w gr gi _ _ A9 B9 rr w3 from ⟨AB3.out,hT⟩)
  clear hT
  obtain ⟨N9,hN9⟩:∃n,n=rr.n:=⟨_,rfl⟩
  obtain ⟨L9,hL9⟩:∃n,n=rr.lp:=⟨_,rfl⟩
  rw [←hN9,←hL9]
  have HN9:=hide hN9
  have HL9:=hide hL9
  clear hN9 hL9
  obtain ⟨_,r3,l3⟩:=AB3.out.r
  obtain ⟨_,r4,l4⟩:=AB3.out.i
  obtain ⟨_,r5,l5⟩:=AB3.out.rd
  obtain ⟨_,r6,l6⟩:=AB3.out.rm
  obtain ⟨e0,e1,e2,e3⟩:=cells3 r3 l3
  obtain ⟨f0,f1,f2,f3,f4,f5⟩:=cells5 r4 l4
  obtain ⟨g0,g1,g2,g3⟩:=cells3 r5 l5
  obtain ⟨h0,h1,h2,h3,h4,h5⟩:=cells5 r6 l6
  have y1:gr≠w.heap.size+1+1:=by have:=AB3.out.lr;omega
  have y2:gr≠w.heap.size+1+1+1:=by have:=AB3.out.lr;omega
  have y3:gi≠w.heap.size+1+1:=by have:=AB3.out.li;omega
  have y4:gi≠w.heap.size+1+1+1:=by have:=AB3.out.li;omega
  have y5:gr≠gi:=AB3.out.ne
  have y6:w.heap.size+1+1≠w.heap.size+1+1+1:=by omega
  clear r3 l3 r4 l4 r5 l5 r6 l6
  go_upto_region 22 with fail
  go_region
  go_wp2_with fail
  clear e0 e1 e2 e3 f0 f1 f2 f3 f4 f5 g0 g1 g2 g3 h0 h1 h2 h3 h4 h5
  have AD4:=hide ((((((((AD3.out.setR 0 (.slice A9 N9 c8)).setR 1 (.slice B9 (4 * N9) c9)).setR 2 (.int .i64 (L9:Int))).setI 0 (.int .i64 k9)).setI 1 (.int .i64 x9)).setI 2 (.int .i64 y9)).setI 3 (.int .i64 s9)).setI 4 (.bool o9))
  obtain ⟨_,r5,l5⟩:=AD4.out.b.rd
  obtain ⟨_,r6,l6⟩:=AD4.out.b.rm
  refine bodyPost_ret (v := .tuple #[.agg #[.slice A9 N9 c8,.slice B9 (4 * N9) c9,.int .i64 (L9:Int)],.agg #[.int .i64 k9,.int .i64 x9,.int .i64 y9,.int .i64 s9,.bool o9],.int .i64 0]) ?_ rfl ?_
  ·obtain ⟨e0,e1,e2,e3,e4,e5,e6,e7⟩:=fin8 r5 r6 l5 l6 (by omega) (.slice A9 N9 c8) (.slice B9 (4 * N9) c9) (.int .i64 (L9:Int)) (.int .i64 k9) (.int .i64 x9) (.int .i64 y9) (.int .i64 s9) (.bool o9)
   simp [results,Tryz.results20,go_sem,e0,e1,e2,e3,e4,e5,e6,e7]
  ·have AD5:=(((((((AD4.out.setD 0 (.slice A9 N9 c8)).setD 1 (.slice B9 (4 * N9) c9)).setD 2 (.int .i64 (L9:Int))).setM 0 (.int .i64 k9)).setM 1 (.int .i64 x9)).setM 2 (.int .i64 y9)).setM 3 (.int .i64 s9)).setM 4 (.bool o9)
   rw [←HCC.out,←HRR.out,←HMM.out]
   refine ⟨fun h=>absurd HC.out h,fun _=>⟨A9,B9,c8,c9,by rw [HMV.out,←HN9.out,←HL9.out];rfl,AD5.drew.t⟩,AD5.drew.b.bel⟩
 ·have HC:=hide hc
  have hE:=ResErr.split (hres.1 hc)
  subst hE
  have t1:(cc != 0)=true:=by rw [bne_iff_ne];exact hc
  clear hc
  obtain ⟨_,r3,l3⟩:=AB3.out.r
  obtain ⟨_,r4,l4⟩:=AB3.out.i
  obtain ⟨_,r5,l5⟩:=AB3.out.rd
  obtain ⟨_,r6,l6⟩:=AB3.out.rm
  obtain ⟨e0,e1,e2,e3⟩:=cells3 r3 l3
  obtain ⟨f0,f1,f2,f3,f4,f5⟩:=cells5 r4 l4
  obtain ⟨g0,g1,g2,g3⟩:=cells3 r5 l5
  obtain ⟨h0,h1,h2,h3,h4,h5⟩:=cells5 r6 l6
  have y1:gr≠w.heap.size+1+1:=by have:=AB3.out.lr;omega
  have y2:gr≠w.heap.size+1+1+1:=by have:=AB3.out.lr;omega
  have y3:gi≠w.heap.size+1+1:=by have:=AB3.out.li;omega
  have y4:gi≠w.heap.size+1+1+1:=by have:=AB3.out.li;omega
  have y5:gr≠gi:=AB3.out.ne
  have y6:w.heap.size+1+1≠w.heap.size+1+1+1:=by omega
  clear r3 l3 r4 l4 r5 l5 r6 l6
  go_wp2
  clear e0 e1 e2 e3 f0 f1 f2 f3 f4 f5 g0 g1 g2 g3 h0 h1 h2 h3 h4 h5
  have AB4:=(((((((AB3.out.setR 0 (.slice none 0 0)).setR 1 (.slice none 0 0)).setR 2 (.int .i64 0)).setI 0 (.int .i64 0)).setI 1 (.int .i64 0)).setI 2 (.int .i64 0)).setI 3 (.int .i64 0)).setI 4 (.bool false)
  obtain ⟨_,r5,l5⟩:=AB4.rd
  obtain ⟨_,r6,l6⟩:=AB4.rm
  refine bodyPost_ret (v := .tuple #[nilD,nilM,.int .i64 cc]) ?_ rfl ?_
  ·obtain ⟨e0,e1,e2,e3,e4,e5,e6,e7⟩:=fin8 r5 r6 l5 l6 (by omega) (.slice none 0 0) (.slice none 0 0) (.int .i64 0) (.int .i64 0) (.int .i64 0) (.int .i64 0) (.int .i64 0) (.bool false)
   unfold nilD nilM
   simp [results,Tryz.results20,go_sem,e0,e1,e2,e3,e4,e5,e6,e7]
  ·rw [←HCC.out,←HRR.out,←HMM.out]
   exact ⟨fun _=>(show ResErr _ _ from rfl),fun h=>absurd h HC.out,below8 AB4.bel _ _ _ _ _ _ _ _⟩
theorem uncurl_m (d:Pl.Dg)(hd:Pl.Wf d)(A B:Option Addr)(cp cq m c:Nat)(k y sg:Int)(ov:Bool)(w:World)(hm:m=4 * d.n)(hg:DgAt w A B d)(hc:c<d.n) :
 Calls Tryz.prog 44 #[.agg #[.slice A d.n cp,.slice B m cq,.int .i64 d.lp],.agg #[.int .i64 k,.int .i64 (c:Int),.int .i64 y,.int .i64 sg,.bool ov]] w (UncPost d c w):=by
 subst hm;exact uncurl_any d hd A B cp cq c k y sg ov w hg hc
def unpD (d:Pl.Dg)(x y:Nat):Pl.Dg:=match lensI d x y with
 | some i=>unpDl d (lensOf d (lnH x y i)) x y
 | none=>d
def unpI (d:Pl.Dg)(x y:Nat):Mv:=match lensI d x y with
 | some i=>pusI d (lensOf d (lnH x y i)) x y
 | none=>⟨0,0,0,0,false⟩
theorem unpoke_m (d:Pl.Dg)(hd:Pl.Wf d)(A B:Option Addr)(cp cq m x y:Nat)(k sg:Int)(ov:Bool)(w:World)(hm:m=4 * d.n)(hg:DgAt w A B d)(hxy:x<y)(hy:y<d.n) :
 Calls Tryz.prog 47 #[.agg #[.slice A d.n cp,.slice B m cq,.int .i64 d.lp],.agg #[.int .i64 k,.int .i64 (x:Int),.int .i64 (y:Int),.int .i64 sg,.bool ov]] w (ResC (unpC d x y) (unpD d x y) (unpI d x y) w):=by
 subst hm
 refine (unpoke_any d hd A B cp cq x y k sg ov w hg hxy hy).mono ?_
 rintro e w' ⟨h1,h2,h3⟩
 refine ⟨h1,fun h=>?_,h3⟩
 obtain ⟨i,hi,hr⟩:=h2 h
 unfold unpD unpI
 rw [hi]
 exact hr
set_option maxRecDepth 100000 in
set_option maxHeartbeats 4000000 in
theorem apply_2 (d:Pl.Dg)(hd:Pl.Valid d)(A B:Option Addr)(cp cq m:Nat)(x:Nat)(y s:Int)(o:Bool)(w:World)(hm:m=4 * d.n)(hg:DgAt w A B d)(hin:inR d.n ⟨2,(x:Int),y,s,o⟩) :
 Calls Tryz.prog 20 #[.agg #[.slice A d.n cp,.slice B m cq,.int .i64 d.lp],(Mv.mk 2 (x:Int) y s o).v] w (ResC (uncC d x) (unD d x) (unI d x) w):=by
 have hn:=hd.wf.few
 have hlp:=hd.wf.lp
 have HM:=hide hm
 have HG:=hide hg
 have hm2:m≤256:=by omega
 clear hm hg
 have PB0:=hide (boxes4 w (.slice A d.n cp) (.slice B m cq) (.int .i64 (d.lp:Int)) (.int .i64 2) (.int .i64 (x:Int)) (.int .i64 y) (.int .i64 s) (.bool o))
 unfold W4 at PB0
 obtain ⟨x0,x1,x2,x3,b0,s0⟩:=PB0.out
 have X0:=hide x0
 have X1:=hide x1
 have X2:=hide x2
 have X3:=hide x3
 have B0:=hide b0
 have S0:=hide s0
 clear x0 x1 x2 x3 b0 s0 PB0
 unfold Mv.v
 go_enter Tryz.func20,Tryz.ntmps20
 go_wp2_with fail
 refine (valid_yes d hd A B cp cq m _ HM.out (HG.out.keep B0.out)).mono ?_
 rintro e w1 ⟨rfl,hb1⟩
 have Y0:=hide (X0.out.below hb1)
 have Y1:=hide (X1.out.below hb1)
 have Y2:=hide (X2.out.below hb1)
 have Y3:=hide (X3.out.below hb1)
 have B1:=hide (B0.out.trans (hb1.mono B0.out.size))
 have hsz1:w.heap.size+4≤w1.heap.size:=by have:=hb1.size;have:=S0.out;omega
 clear X0 X1 X2 X3 B0 S0 hb1
 obtain ⟨d0,d1,d2,d3⟩:=box3 Y0.out
 obtain ⟨m0,m1,m2,m3,m4,m5⟩:=box5 Y1.out
 go_wp2_with fail
 refine (inRange_2 d.n (x:Int) y s o w1 (by omega)).mono ?_
 rintro e w2 ⟨rfl,hb2⟩
 rw [Pl.vb_true hin]
 have hsz:w.heap.size+4≤w2.heap.size:=by have:=hb2.size;omega
 have AB2:=hide (show AB w w2.heap.size (w2.heap.size+1) [.slice A d.n cp,.slice B m cq,.int .i64 (d.lp:Int)] [.int .i64 2,.int .i64 (x:Int),.int .i64 y,.int .i64 s,.bool o] ((w2.alloc (.cells #[.slice none 0 0,.slice none 0 0,.int .i64 0] 24)).alloc (.cells #[.int .i64 0,.int .i64 0,.int .i64 0,.int .i64 0,.bool false] 43)) from
  ⟨((Y0.out.below hb2).alloc _).alloc _,((Y1.out.below hb2).alloc _).alloc _,⟨_,((Y2.out.below hb2).alloc _).alloc _,rfl⟩,⟨_,((Y3.out.below hb2).alloc _).alloc _,rfl⟩,⟨_,(row_at (vs:=[_,_,_]) rfl).alloc _,rfl⟩,⟨_,row_at (vs:=[_,_,_,_,_]) (by simp),rfl⟩,((B1.out.trans (hb2.mono B1.out.size)).alloc (B1.out.trans (hb2.mono B1.out.size)).size _).alloc ((B1.out.trans (hb2.mono B1.out.size)).alloc (B1.out.trans (hb2.mono B1.out.size)).size _).size _,by omega,by omega,by omega⟩)
 obtain ⟨d0',d1',d2',d3'⟩:=box3 (Y0.out.below hb2)
 obtain ⟨m0',m1',m2',m3',m4',m5'⟩:=box5 (Y1.out.below hb2)
 clear d0 d1 d2 d3 m0 m1 m2 m3 m4 m5 Y0 Y1 Y2 Y3 B1 hb2 hsz1
 have z1:w.heap.size<w2.heap.size:=by omega
 have z2:w.heap.size+1<w2.heap.size:=by omega
 have hx:x<d.n:=by have:=hin;unfold inR at this;simp at this;omega
 have HG2:=hide (HG.out.keep AB2.out.bel)
 go_wp2_with fail
 obtain ⟨gr,hgr⟩:∃g,g=w2.heap.size:=⟨_,rfl⟩
 obtain ⟨gi,hgi⟩:∃g,g=w2.heap.size+1:=⟨_,rfl⟩
 rw [←hgi,←hgr] at AB2
 rw [←hgi,←hgr]
 clear hgr hgi
 refine (uncurl_m d hd.wf A B cp cq m x 2 y s o _ HM.out HG2.out hx).mono ?_
 intro e w3 hres
 have AB3:=hide (AB2.out.below hres.2.2)
 obtain ⟨cc,hcc⟩:∃c,c=uncC d x:=⟨_,rfl⟩
 obtain ⟨rr,hrr⟩:∃r,r=unD d x:=⟨_,rfl⟩
 obtain ⟨mm,hmm⟩:∃r,r=unI d x:=⟨_,rfl⟩
 unfold UncPost at hres
 rw [←hcc,←hrr,←hmm] at hres
 have HCC:=hide hcc
 have HRR:=hide hrr
 have HMM:=hide hmm
 clear hcc hrr hmm d0' d1' d2' d3' m0' m1' m2' m3' m4' m5' AB2 HG2
 by_cases hc:cc=0
 ·obtain ⟨A9,B9,c8,c9,k9,x9,y9,s9,o9,hmv,rfl,hT⟩:=ResOk.split (hres.2.1 hc)
  have HMV:=hide hmv
  have HC:=hide hc
  clear hmv hc
  have AD3:=hide (show AD w gr gi _ _ A9 B9 rr w3 from ⟨AB3.out,hT⟩)
  clear hT
  obtain ⟨N9,hN9⟩:∃n,n=rr.n:=⟨_,rfl⟩
  obtain ⟨L9,hL9⟩:∃n,n=rr.lp:=⟨_,rfl⟩
  rw [←hN9,←hL9]
  have HN9:=hide hN9
  have HL9:=hide hL9
  clear hN9 hL9
  obtain ⟨_,r3,l3⟩:=AB3.out.r
  obtain ⟨_,r4,l4⟩:=AB3.out.i
  obtain ⟨_,r5,l5⟩:=AB3.out.rd
  obtain ⟨_,r6,l6⟩:=AB3.out.rm
  obtain ⟨e0,e1,e2,e3⟩:=cells3 r3 l3
  obtain ⟨f0,f1,f2,f3,f4,f5⟩:=cells5 r4 l4
  obtain ⟨g0,g1,g2,g3⟩:=cells3 r5 l5
  obtain ⟨h0,h1,h2,h3,h4,h5⟩:=cells5 r6 l6
  have y1:gr≠w.heap.size+1+1:=by have:=AB3.out.lr;omega
  have y2:gr≠w.heap.size+1+1+1:=by have:=AB3.out.lr;omega
  have y3:gi≠w.heap.size+1+1:=by have:=AB3.out.li;omega
  have y4:gi≠w.heap.size+1+1+1:=by have:=AB3.out.li;omega
  have y5:gr≠gi:=AB3.out.ne
  have y6:w.heap.size+1+1≠w.heap.size+1+1+1:=by omega
  clear r3 l3 r4 l4 r5 l5 r6 l6
  go_upto_region 22 with fail
  go_region
  go_wp2_with fail
  clear e0 e1 e2 e3 f0 f1 f2 f3 f4 f5 g0 g1 g2 g3 h0 h1 h2 h3 h4 h5
  have AD4:=hide ((((((((AD3.out.setR 0 (.slice A9 N9 c8)).setR 1 (.slice B9 (4 * N9) c9)).setR 2 (.int .i64 (L9:Int))).setI 0 (.int .i64 k9)).setI 1 (.int .i64 x9)).setI 2 (.int .i64 y9)).setI 3 (.int .i64 s9)).setI 4 (.bool o9))
  obtain ⟨_,r5,l5⟩:=AD4.out.b.rd
  obtain ⟨_,r6,l6⟩:=AD4.out.b.rm
  refine bodyPost_ret (v := .tuple #[.agg #[.slice A9 N9 c8,.slice B9 (4 * N9) c9,.int .i64 (L9:Int)],.agg #[.int .i64 k9,.int .i64 x9,.int .i64 y9,.int .i64 s9,.bool o9],.int .i64 0]) ?_ rfl ?_
  ·obtain ⟨e0,e1,e2,e3,e4,e5,e6,e7⟩:=fin8 r5 r6 l5 l6 (by omega) (.slice A9 N9 c8) (.slice B9 (4 * N9) c9) (.int .i64 (L9:Int)) (.int .i64 k9) (.int .i64 x9) (.int .i64 y9) (.int .i64 s9) (.bool o9)
   simp [results,Tryz.results20,go_sem,e0,e1,e2,e3,e4,e5,e6,e7]
  ·have AD5:=(((((((AD4.out.setD 0 (.slice A9 N9 c8)).setD 1 (.slice B9 (4 * N9) c9)).setD 2 (.int .i64 (L9:Int))).setM 0 (.int .i64 k9)).setM 1 (.int .i64 x9)).setM 2 (.int .i64 y9)).setM 3 (.int .i64 s9)).setM 4 (.bool o9)
   rw [←HCC.out,←HRR.out,←HMM.out]
   refine ⟨fun h=>absurd HC.out h,fun _=>⟨A9,B9,c8,c9,by rw [HMV.out,←HN9.out,←HL9.out];rfl,AD5.drew.t⟩,AD5.drew.b.bel⟩
 ·have HC:=hide hc
  have hE:=ResErr.split (hres.1 hc)
  subst hE
  have t1:(cc != 0)=true:=by rw [bne_iff_ne];exact hc
  clear hc
  obtain ⟨_,r3,l3⟩:=AB3.out.r
  obtain ⟨_,r4,l4⟩:=AB3.out.i
  obtain ⟨_,r5,l5⟩:=AB3.out.rd
  obtain ⟨_,r6,l6⟩:=AB3.out.rm
  obtain ⟨e0,e1,e2,e3⟩:=cells3 r3 l3
  obtain ⟨f0,f1,f2,f3,f4,f5⟩:=cells5 r4 l4
  obtain ⟨g0,g1,g2,g3⟩:=cells3 r5 l5
  obtain ⟨h0,h1,h2,h3,h4,h5⟩:=cells5 r6 l6
  have y1:gr≠w.heap.size+1+1:=by have:=AB3.out.lr;omega
  have y2:gr≠w.heap.size+1+1+1:=by have:=AB3.out.lr;omega
  have y3:gi≠w.heap.size+1+1:=by have:=AB3.out.li;omega
  have y4:gi≠w.heap.size+1+1+1:=by have:=AB3.out.li;omega
  have y5:gr≠gi:=AB3.out.ne
  have y6:w.heap.size+1+1≠w.heap.size+1+1+1:=by omega
  clear r3 l3 r4 l4 r5 l5 r6 l6
  go_wp2
  clear e0 e1 e2 e3 f0 f1 f2 f3 f4 f5 g0 g1 g2 g3 h0 h1 h2 h3 h4 h5
  have AB4:=(((((((AB3.out.setR 0 (.slice none 0 0)).setR 1 (.slice none 0 0)).setR 2 (.int .i64 0)).setI 0 (.int .i64 0)).setI 1 (.int .i64 0)).setI 2 (.int .i64 0)).setI 3 (.int .i64 0)).setI 4 (.bool false)
  obtain ⟨_,r5,l5⟩:=AB4.rd
  obtain ⟨_,r6,l6⟩:=AB4.rm
  refine bodyPost_ret (v := .tuple #[nilD,nilM,.int .i64 cc]) ?_ rfl ?_
  ·obtain ⟨e0,e1,e2,e3,e4,e5,e6,e7⟩:=fin8 r5 r6 l5 l6 (by omega) (.slice none 0 0) (.slice none 0 0) (.int .i64 0) (.int .i64 0) (.int .i64 0) (.int .i64 0) (.int .i64 0) (.bool false)
   unfold nilD nilM
   simp [results,Tryz.results20,go_sem,e0,e1,e2,e3,e4,e5,e6,e7]
  ·rw [←HCC.out,←HRR.out,←HMM.out]
   exact ⟨fun _=>(show ResErr _ _ from rfl),fun h=>absurd h HC.out,below8 AB4.bel _ _ _ _ _ _ _ _⟩
set_option maxRecDepth 100000 in
set_option maxHeartbeats 4000000 in
theorem apply_4 (d:Pl.Dg)(hd:Pl.Valid d)(A B:Option Addr)(cp cq m:Nat)(x y:Nat)(s:Int)(o:Bool)(w:World)(hm:m=4 * d.n)(hg:DgAt w A B d)(hin:inR d.n ⟨4,(x:Int),(y:Int),s,o⟩) :
 Calls Tryz.prog 20 #[.agg #[.slice A d.n cp,.slice B m cq,.int .i64 d.lp],(Mv.mk 4 (x:Int) (y:Int) s o).v] w (ResC (unpC d x y) (unpD d x y) (unpI d x y) w):=by
 have hn:=hd.wf.few
 have hlp:=hd.wf.lp
 have HM:=hide hm
 have HG:=hide hg
 have hm2:m≤256:=by omega
 clear hm hg
 have PB0:=hide (boxes4 w (.slice A d.n cp) (.slice B m cq) (.int .i64 (d.lp:Int)) (.int .i64 4) (.int .i64 (x:Int)) (.int .i64 (y:Int)) (.int .i64 s) (.bool o))
 unfold W4 at PB0
 obtain ⟨x0,x1,x2,x3,b0,s0⟩:=PB0.out
 have X0:=hide x0
 have X1:=hide x1
 have X2:=hide x2
 have X3:=hide x3
 have B0:=hide b0
 have S0:=hide s0
 clear x0 x1 x2 x3 b0 s0 PB0
 unfold Mv.v
 go_enter Tryz.func20,Tryz.ntmps20
 go_wp2_with fail
 refine (valid_yes d hd A B cp cq m _ HM.out (HG.out.keep B0.out)).mono ?_
 rintro e w1 ⟨rfl,hb1⟩
 have Y0:=hide (X0.out.below hb1)
 have Y1:=hide (X1.out.below hb1)
 have Y2:=hide (X2.out.below hb1)
 have Y3:=hide (X3.out.below hb1)
 have B1:=hide (B0.out.trans (hb1.mono B0.out.size))
 have hsz1:w.heap.size+4≤w1.heap.size:=by have:=hb1.size;have:=S0.out;omega
 clear X0 X1 X2 X3 B0 S0 hb1
 obtain ⟨d0,d1,d2,d3⟩:=box3 Y0.out
 obtain ⟨m0,m1,m2,m3,m4,m5⟩:=box5 Y1.out
 go_wp2_with fail
 refine (inRange_4 d.n (x:Int) (y:Int) s o w1 (by omega)).mono ?_
 rintro e w2 ⟨rfl,hb2⟩
 rw [Pl.vb_true hin]
 have hsz:w.heap.size+4≤w2.heap.size:=by have:=hb2.size;omega
 have AB2:=hide (show AB w w2.heap.size (w2.heap.size+1) [.slice A d.n cp,.slice B m cq,.int .i64 (d.lp:Int)] [.int .i64 4,.int .i64 (x:Int),.int .i64 (y:Int),.int .i64 s,.bool o] ((w2.alloc (.cells #[.slice none 0 0,.slice none 0 0,.int .i64 0] 24)).alloc (.cells #[.int .i64 0,.int .i64 0,.int .i64 0,.int .i64 0,.bool false] 43)) from
  ⟨((Y0.out.below hb2).alloc _).alloc _,((Y1.out.below hb2).alloc _).alloc _,⟨_,((Y2.out.below hb2).alloc _).alloc _,rfl⟩,⟨_,((Y3.out.below hb2).alloc _).alloc _,rfl⟩,⟨_,(row_at (vs:=[_,_,_]) rfl).alloc _,rfl⟩,⟨_,row_at (vs:=[_,_,_,_,_]) (by simp),rfl⟩,((B1.out.trans (hb2.mono B1.out.size)).alloc (B1.out.trans (hb2.mono B1.out.size)).size _).alloc ((B1.out.trans (hb2.mono B1.out.size)).alloc (B1.out.trans (hb2.mono B1.out.size)).size _).size _,by omega,by omega,by omega⟩)
 obtain ⟨d0',d1',d2',d3'⟩:=box3 (Y0.out.below hb2)
 obtain ⟨m0',m1',m2',m3',m4',m5'⟩:=box5 (Y1.out.below hb2)
 clear d0 d1 d2 d3 m0 m1 m2 m3 m4 m5 Y0 Y1 Y2 Y3 B1 hb2 hsz1
 have z1:w.heap.size<w2.heap.size:=by omega
 have z2:w.heap.size+1<w2.heap.size:=by omega
 have hx:x<y:=by have:=hin;unfold inR at this;simp at this;omega
 have hy:y<d.n:=by have:=hin;unfold inR at this;simp at this;omega
 have HG2:=hide (HG.out.keep AB2.out.bel)
 go_wp2_with fail
 obtain ⟨gr,hgr⟩:∃g,g=w2.heap.size:=⟨_,rfl⟩
 obtain ⟨gi,hgi⟩:∃g,g=w2.heap.size+1:=⟨_,rfl⟩
 rw [←hgi,←hgr] at AB2
 rw [←hgi,←hgr]
 clear hgr hgi
 refine (unpoke_m d hd.wf A B cp cq m x y 4 s o _ HM.out HG2.out hx hy).mono ?_
 intro e w3 hres
 have AB3:=hide (AB2.out.below hres.2.2)
 obtain ⟨cc,hcc⟩:∃c,c=unpC d x y:=⟨_,rfl⟩
 obtain ⟨rr,hrr⟩:∃r,r=unpD d x y:=⟨_,rfl⟩
 obtain ⟨mm,hmm⟩:∃r,r=unpI d x y:=⟨_,rfl⟩
 unfold ResC at hres
 rw [←hcc,←hrr,←hmm] at hres
 have HCC:=hide hcc
 have HRR:=hide hrr
 have HMM:=hide hmm
 clear hcc hrr hmm d0' d1' d2' d3' m0' m1' m2' m3' m4' m5' AB2 HG2
 by_cases hc:cc=0
 ·obtain ⟨A9,B9,c8,c9,k9,x9,y9,s9,o9,hmv,rfl,hT⟩:=ResOk.split (hres.2.1 hc)
  have HMV:=hide hmv
  have HC:=hide hc
  clear hmv hc
  have AD3:=hide (show AD w gr gi _ _ A9 B9 rr w3 from ⟨AB3.out,hT⟩)
  clear hT
  obtain ⟨N9,hN9⟩:∃n,n=rr.n:=⟨_,rfl⟩
  obtain ⟨L9,hL9⟩:∃n,n=rr.lp:=⟨_,rfl⟩
  rw [←hN9,←hL9]
  have HN9:=hide hN9
  have HL9:=hide hL9
  clear hN9 hL9
  obtain ⟨_,r3,l3⟩:=AB3.out.r
  obtain ⟨_,r4,l4⟩:=AB3.out.i
  obtain ⟨_,r5,l5⟩:=AB3.out.rd
  obtain ⟨_,r6,l6⟩:=AB3.out.rm
  obtain ⟨e0,e1,e2,e3⟩:=cells3 r3 l3
  obtain ⟨f0,f1,f2,f3,f4,f5⟩:=cells5 r4 l4
  obtain ⟨g0,g1,g2,g3⟩:=cells3 r5 l5
  obtain ⟨h0,h1,h2,h3,h4,h5⟩:=cells5 r6 l6
  have y1:gr≠w.heap.size+1+1:=by have:=AB3.out.lr;omega
  have y2:gr≠w.heap.size+1+1+1:=by have:=AB3.out.lr;omega
  have y3:gi≠w.heap.size+1+1:=by have:=AB3.out.li;omega
  have y4:gi≠w.heap.size+1+1+1:=by have:=AB3.out.li;omega
  have y5:gr≠gi:=AB3.out.ne
  have y6:w.heap.size+1+1≠w.heap.size+1+1+1:=by omega
  clear r3 l3 r4 l4 r5 l5 r6 l6
  go_upto_region 22 with fail
  go_region
  go_wp2_with fail
  clear e0 e1 e2 e3 f0 f1 f2 f3 f4 f5 g0 g1 g2 g3 h0 h1 h2 h3 h4 h5
  have AD4:=hide ((((((((AD3.out.setR 0 (.slice A9 N9 c8)).setR 1 (.slice B9 (4 * N9) c9)).setR 2 (.int .i64 (L9:Int))).setI 0 (.int .i64 k9)).setI 1 (.int .i64 x9)).setI 2 (.int .i64 y9)).setI 3 (.int .i64 s9)).setI 4 (.bool o9))
  obtain ⟨_,r5,l5⟩:=AD4.out.b.rd
  obtain ⟨_,r6,l6⟩:=AD4.out.b.rm
  refine bodyPost_ret (v := .tuple #[.agg #[.slice A9 N9 c8,.slice B9 (4 * N9) c9,.int .i64 (L9:Int)],.agg #[.int .i64 k9,.int .i64 x9,.int .i64 y9,.int .i64 s9,.bool o9],.int .i64 0]) ?_ rfl ?_
  ·obtain ⟨e0,e1,e2,e3,e4,e5,e6,e7⟩:=fin8 r5 r6 l5 l6 (by omega) (.slice A9 N9 c8) (.slice B9 (4 * N9) c9) (.int .i64 (L9:Int)) (.int .i64 k9) (.int .i64 x9) (.int .i64 y9) (.int .i64 s9) (.bool o9)
   simp [results,Tryz.results20,go_sem,e0,e1,e2,e3,e4,e5,e6,e7]
  ·have AD5:=(((((((AD4.out.setD 0 (.slice A9 N9 c8)).setD 1 (.slice B9 (4 * N9) c9)).setD 2 (.int .i64 (L9:Int))).setM 0 (.int .i64 k9)).setM 1 (.int .i64 x9)).setM 2 (.int .i64 y9)).setM 3 (.int .i64 s9)).setM 4 (.bool o9)
   rw [←HCC.out,←HRR.out,←HMM.out]
   refine ⟨fun h=>absurd HC.out h,fun _=>⟨A9,B9,c8,c9,by rw [HMV.out,←HN9.out,←HL9.out];rfl,AD5.drew.t⟩,AD5.drew.b.bel⟩
 ·have HC:=hide hc
  have hE:=ResErr.split (hres.1 hc)
  subst hE
  have t1:(cc != 0)=true:=by rw [bne_iff_ne];exact hc
  clear hc
  obtain ⟨_,r3,l3⟩:=AB3.out.r
  obtain ⟨_,r4,l4⟩:=AB3.out.i
  obtain ⟨_,r5,l5⟩:=AB3.out.rd
  obtain ⟨_,r6,l6⟩:=AB3.out.rm
  obtain ⟨e0,e1,e2,e3⟩:=cells3 r3 l3
  obtain ⟨f0,f1,f2,f3,f4,f5⟩:=cells5 r4 l4
  obtain ⟨g0,g1,g2,g3⟩:=cells3 r5 l5
  obtain ⟨h0,h1,h2,h3,h4,h5⟩:=cells5 r6 l6
  have y1:gr≠w.heap.size+1+1:=by have:=AB3.out.lr;omega
  have y2:gr≠w.heap.size+1+1+1:=by have:=AB3.out.lr;omega
  have y3:gi≠w.heap.size+1+1:=by have:=AB3.out.li;omega
  have y4:gi≠w.heap.size+1+1+1:=by have:=AB3.out.li;omega
  have y5:gr≠gi:=AB3.out.ne
  have y6:w.heap.size+1+1≠w.heap.size+1+1+1:=by omega
  clear r3 l3 r4 l4 r5 l5 r6 l6
  go_wp2
  clear e0 e1 e2 e3 f0 f1 f2 f3 f4 f5 g0 g1 g2 g3 h0 h1 h2 h3 h4 h5
  have AB4:=(((((((AB3.out.setR 0 (.slice none 0 0)).setR 1 (.slice none 0 0)).setR 2 (.int .i64 0)).setI 0 (.int .i64 0)).setI 1 (.int .i64 0)).setI 2 (.int .i64 0)).setI 3 (.int .i64 0)).setI 4 (.bool false)
  obtain ⟨_,r5,l5⟩:=AB4.rd
  obtain ⟨_,r6,l6⟩:=AB4.rm
  refine bodyPost_ret (v := .tuple #[nilD,nilM,.int .i64 cc]) ?_ rfl ?_
  ·obtain ⟨e0,e1,e2,e3,e4,e5,e6,e7⟩:=fin8 r5 r6 l5 l6 (by omega) (.slice none 0 0) (.slice none 0 0) (.int .i64 0) (.int .i64 0) (.int .i64 0) (.int .i64 0) (.int .i64 0) (.bool false)
   unfold nilD nilM
   simp [results,Tryz.results20,go_sem,e0,e1,e2,e3,e4,e5,e6,e7]
  ·rw [←HCC.out,←HRR.out,←HMM.out]
   exact ⟨fun _=>(show ResErr _ _ from rfl),fun h=>absurd h HC.out,below8 AB4.bel _ _ _ _ _ _ _ _⟩
def nearP (d:Pl.Dg)(x y:Nat):Prop:=(Pl.Orb (Pl.nx d) x y∨¬Pl.Comp d (x / 4) (y / 4))∧d.m x≠y
noncomputable def pkQ (d:Pl.Dg)(x y sg:Int):Int :=
 if d.lp<needP x y sg then 6 else if Pl.vb (0≤x∧0≤y∧x≠y∧¬nearP d x.toNat y.toNat)=true then 6 else if 64<d.n+2 then 5 else 0
theorem pkC_eq {d:Pl.Dg}{F P:List Nat}(hF:∀x y,x<4 * d.n→y<4 * d.n→(F.getD x 0=F.getD y 0↔Pl.Orb (Pl.nx d) x y))(hP:∀x y,x<d.n→y<d.n→(P.getD x 0=P.getD y 0↔Pl.Comp d x y)){x y sg:Int}(hx:x<4 * d.n)(hy:y<4 * d.n):pkC d F P x y sg=pkQ d x y sg:=by
 unfold pkC pkQ
 by_cases hl:d.lp<needP x y sg
 ·rw [if_pos hl,if_pos hl]
 rw [if_neg hl,if_neg hl]
 by_cases h0:0≤x∧0≤y
 ·have e : nearB F P d x.toNat y.toNat = false ↔ ¬ nearP d x.toNat y.toNat := by
   have h1:=hF x.toNat y.toNat (by omega) (by omega)
   have h2:=hP (x.toNat / 4) (y.toNat / 4) (by omega) (by omega)
   unfold nearB nearP
   rw [←h1,←h2]
   by_cases q1:F.getD x.toNat 0=F.getD y.toNat 0 <;> by_cases q2:P.getD (x.toNat / 4) 0=P.getD (y.toNat / 4) 0 <;> by_cases q3:d.m x.toNat=y.toNat <;> simp [q1,q2,q3]
  by_cases h3:x≠y∧nearB F P d x.toNat y.toNat=false
  ·rw [if_pos (show 0≤x∧0≤y∧x≠y∧nearB F P d x.toNat y.toNat=false from ⟨h0.1,h0.2,h3⟩),if_pos (Pl.vb_true ⟨h0.1,h0.2,h3.1,e.1 h3.2⟩)]
  ·rw [if_neg (show ¬(0≤x∧0≤y∧x≠y∧nearB F P d x.toNat y.toNat=false) from fun h=>h3 h.2.2),if_neg (show ¬(Pl.vb (0≤x∧0≤y∧x≠y∧¬nearP d x.toNat y.toNat)=true) by rw [Pl.vb_false (fun h=>h3 ⟨h.2.2.1,e.2 h.2.2.2⟩)];decide)]
 ·rw [if_neg (show ¬(0≤x∧0≤y∧x≠y∧nearB F P d x.toNat y.toNat=false) from fun h=>h0 ⟨h.1,h.2.1⟩),if_neg (show ¬(Pl.vb (0≤x∧0≤y∧x≠y∧¬nearP d x.toNat y.toNat)=true) by rw [Pl.vb_false (fun h=>h0 ⟨h.1,h.2.1⟩)];decide)]
theorem AB.all {w W:World}{gr gi:Nat}{x0 x1 x2 y0 y1 y2 y3 y4:Value}(h:AB w gr gi [x0,x1,x2] [y0,y1,y2,y3,y4] W) :
 W.cell? ⟨w.heap.size,0,none⟩=some x0∧W.cell? ⟨w.heap.size,1,none⟩=some x1∧W.cell? ⟨w.heap.size,2,none⟩=some x2 ∧
 W.cell? ⟨w.heap.size+1,0,none⟩=some y0∧W.cell? ⟨w.heap.size+1,1,none⟩=some y1∧W.cell? ⟨w.heap.size+1,2,none⟩=some y2∧W.cell? ⟨w.heap.size+1,3,none⟩=some y3∧W.cell? ⟨w.heap.size+1,4,none⟩=some y4 ∧
 W.cell? ⟨gr,0,none⟩=some (cv W ⟨gr,0,none⟩)∧W.cell? ⟨gr,1,none⟩=some (cv W ⟨gr,1,none⟩)∧W.cell? ⟨gr,2,none⟩=some (cv W ⟨gr,2,none⟩) ∧
 W.cell? ⟨gi,0,none⟩=some (cv W ⟨gi,0,none⟩)∧W.cell? ⟨gi,1,none⟩=some (cv W ⟨gi,1,none⟩)∧W.cell? ⟨gi,2,none⟩=some (cv W ⟨gi,2,none⟩)∧W.cell? ⟨gi,3,none⟩=some (cv W ⟨gi,3,none⟩)∧W.cell? ⟨gi,4,none⟩=some (cv W ⟨gi,4,none⟩) ∧
 (∀o,W.frozen? ⟨gr,o,none⟩=false)∧(∀o,W.frozen? ⟨gi,o,none⟩=false)∧AB w gr gi [x0,x1,x2] [y0,y1,y2,y3,y4] W:=by
 obtain ⟨_,r1,k1⟩:=h.r
 obtain ⟨_,r2,k2⟩:=h.i
 obtain ⟨d0,d1,d2,_⟩:=box3 h.d
 obtain ⟨m0,m1,m2,m3,m4,_⟩:=box5 h.m
 obtain ⟨e0,e1,e2,e3⟩:=cells3 r1 k1
 obtain ⟨f0,f1,f2,f3,f4,f5⟩:=cells5 r2 k2
 exact ⟨d0,d1,d2,m0,m1,m2,m3,m4,e0,e1,e2,f0,f1,f2,f3,f4,e3,f5,h⟩
set_option maxRecDepth 100000 in
set_option maxHeartbeats 8000000 in
theorem apply_3 (d:Pl.Dg)(hd:Pl.Valid d)(A B:Option Addr)(cp cq m:Nat)(x y s:Int)(o:Bool)(w:World)(hm:m=4 * d.n)(hg:DgAt w A B d)(hin:inR d.n ⟨3,x,y,s,o⟩) :
 Calls Tryz.prog 20 #[.agg #[.slice A d.n cp,.slice B m cq,.int .i64 d.lp],(Mv.mk 3 x y s o).v] w (ResC (pkQ d x y s) (pkD d x y s o) (⟨4,d.n,d.n+1,0,false⟩:Mv) w):=by
 have hn:=hd.wf.few
 have hlp:=hd.wf.lp
 have HM:=hide hm
 have HG:=hide hg
 have hm2:m≤256:=by omega
 clear hm hg
 have PB0:=hide (boxes4 w (.slice A d.n cp) (.slice B m cq) (.int .i64 (d.lp:Int)) (.int .i64 3) (.int .i64 x) (.int .i64 y) (.int .i64 s) (.bool o))
 unfold W4 at PB0
 obtain ⟨x0,x1,x2,x3,b0,s0⟩:=PB0.out
 have X0:=hide x0
 have X1:=hide x1
 have X2:=hide x2
 have X3:=hide x3
 have B0:=hide b0
 have S0:=hide s0
 clear x0 x1 x2 x3 b0 s0 PB0
 unfold Mv.v
 go_enter Tryz.func20,Tryz.ntmps20
 go_wp2_with fail
 refine (valid_yes d hd A B cp cq m _ HM.out (HG.out.keep B0.out)).mono ?_
 rintro e w1 ⟨rfl,hb1⟩
 have Y0:=hide (X0.out.below hb1)
 have Y1:=hide (X1.out.below hb1)
 have Y2:=hide (X2.out.below hb1)
 have Y3:=hide (X3.out.below hb1)
 have B1:=hide (B0.out.trans (hb1.mono B0.out.size))
 have hsz1:w.heap.size+4≤w1.heap.size:=by have:=hb1.size;have:=S0.out;omega
 clear X0 X1 X2 X3 B0 S0 hb1
 obtain ⟨d0,d1,d2,d3⟩:=box3 Y0.out
 obtain ⟨m0,m1,m2,m3,m4,m5⟩:=box5 Y1.out
 go_wp2_with fail
 refine (inRange_3 d.n x y s o w1 (by omega)).mono ?_
 rintro e w2 ⟨rfl,hb2⟩
 rw [Pl.vb_true hin]
 have hsz:w.heap.size+4≤w2.heap.size:=by have:=hb2.size;omega
 have AB2:=hide (show AB w w2.heap.size (w2.heap.size+1) [.slice A d.n cp,.slice B m cq,.int .i64 (d.lp:Int)] [.int .i64 3,.int .i64 x,.int .i64 y,.int .i64 s,.bool o] ((w2.alloc (.cells #[.slice none 0 0,.slice none 0 0,.int .i64 0] 24)).alloc (.cells #[.int .i64 0,.int .i64 0,.int .i64 0,.int .i64 0,.bool false] 43)) from
  ⟨((Y0.out.below hb2).alloc _).alloc _,((Y1.out.below hb2).alloc _).alloc _,⟨_,((Y2.out.below hb2).alloc _).alloc _,rfl⟩,⟨_,((Y3.out.below hb2).alloc _).alloc _,rfl⟩,⟨_,(row_at (vs:=[_,_,_]) rfl).alloc _,rfl⟩,⟨_,row_at (vs:=[_,_,_,_,_]) (by simp),rfl⟩,((B1.out.trans (hb2.mono B1.out.size)).alloc (B1.out.trans (hb2.mono B1.out.size)).size _).alloc ((B1.out.trans (hb2.mono B1.out.size)).alloc (B1.out.trans (hb2.mono B1.out.size)).size _).size _,by omega,by omega,by omega⟩)
 obtain ⟨d0',d1',d2',d3'⟩:=box3 (Y0.out.below hb2)
 obtain ⟨m0',m1',m2',m3',m4',m5'⟩:=box5 (Y1.out.below hb2)
 clear d0 d1 d2 d3 m0 m1 m2 m3 m4 m5 Y0 Y1 Y2 Y3 B1 hb2 hsz1
 have z1:w.heap.size<w2.heap.size:=by omega
 have z2:w.heap.size+1<w2.heap.size:=by omega
 have hin':=hin
 unfold inR at hin'
 simp only [show ¬((3:Int)=1) by decide,show ¬((3:Int)=2) by decide,show ¬((3:Int)=4) by decide,show ¬((3:Int)=5) by decide,if_false] at hin'
 obtain ⟨i1,i2,i3,i4,i5⟩:=hin'
 have hxr:-2≤x∧x<4 * d.n:=⟨i1,i2⟩
 have hyr:-2≤y∧y<4 * d.n:=⟨i3,i4⟩
 have hs3:s=0∨s=1∨s = -1:=by
  by_cases e1:x≠y
  ·rw [if_pos e1] at i5;omega
  ·rw [if_neg e1] at i5
   by_cases e2:x<0
   ·rw [if_pos e2] at i5;omega
   ·rw [if_neg e2] at i5;omega
 have hsn:s = -1→0≤x:=by
  intro hs
  by_cases e1:x≠y
  ·rw [if_pos e1] at i5;omega
  ·rw [if_neg e1] at i5
   by_cases e2:x<0
   ·rw [if_pos e2] at i5;omega
   ·omega
 clear i1 i2 i3 i4 i5
 go_upto_region 17 with fail
 obtain ⟨gr,hgr⟩:∃g,g=w2.heap.size:=⟨_,rfl⟩
 obtain ⟨gi,hgi⟩:∃g,g=w2.heap.size+1:=⟨_,rfl⟩
 obtain ⟨V2,hV2⟩:∃V:World,V=((w2.alloc (.cells #[.slice none 0 0,.slice none 0 0,.int .i64 0] 24)).alloc (.cells #[.int .i64 0,.int .i64 0,.int .i64 0,.int .i64 0,.bool false] 43)):=⟨_,rfl⟩
 rw [←hgi,←hgr,←hV2] at AB2
 rw [←hgi,←hgr,←hV2]
 clear hgr hgi hV2 d0' d1' d2' d3' m0' m1' m2' m3' m4' m5' z1 z2 hsz
 obtain ⟨cc,hcc⟩:∃c,c=pkQ d x y s:=⟨_,rfl⟩
 obtain ⟨rr,hrr⟩:∃r,r=pkD d x y s o:=⟨_,rfl⟩
 obtain ⟨mm,hmm⟩:∃r,r=(⟨4,d.n,d.n+1,0,false⟩:Mv):=⟨_,rfl⟩
 have HCC:=hide hcc
 have HRR:=hide hrr
 have HMM:=hide hmm
 clear hcc hrr hmm
 by_cases hc:cc=0
 ·have HC:=hide hc
  obtain ⟨c0,c1,c2,c3,c4,c5,c6,c7,c8',c9',c10,c11,c12,c13,c14,c15,c16,c17,_⟩:=AB2.out.all
  go_region_held3 (fun w'=>w'.cell? ⟨w.heap.size,0,none⟩=some (.slice A d.n cp)∧w'.cell? ⟨w.heap.size,1,none⟩=some (.slice B m cq)∧w'.cell? ⟨w.heap.size,2,none⟩=some (.int .i64 (d.lp:Int)) ∧
   w'.cell? ⟨w.heap.size+1,0,none⟩=some (.int .i64 3)∧w'.cell? ⟨w.heap.size+1,1,none⟩=some (.int .i64 x)∧w'.cell? ⟨w.heap.size+1,2,none⟩=some (.int .i64 y)∧w'.cell? ⟨w.heap.size+1,3,none⟩=some (.int .i64 s)∧w'.cell? ⟨w.heap.size+1,4,none⟩=some (.bool o) ∧
   w'.cell? ⟨gr,0,none⟩=some (cv w' ⟨gr,0,none⟩)∧w'.cell? ⟨gr,1,none⟩=some (cv w' ⟨gr,1,none⟩)∧w'.cell? ⟨gr,2,none⟩=some (cv w' ⟨gr,2,none⟩) ∧
   w'.cell? ⟨gi,0,none⟩=some (cv w' ⟨gi,0,none⟩)∧w'.cell? ⟨gi,1,none⟩=some (cv w' ⟨gi,1,none⟩)∧w'.cell? ⟨gi,2,none⟩=some (cv w' ⟨gi,2,none⟩)∧w'.cell? ⟨gi,3,none⟩=some (cv w' ⟨gi,3,none⟩)∧w'.cell? ⟨gi,4,none⟩=some (cv w' ⟨gi,4,none⟩) ∧
   (∀o,w'.frozen? ⟨gr,o,none⟩=false)∧(∀o,w'.frozen? ⟨gi,o,none⟩=false)∧AB w gr gi [.slice A d.n cp,.slice B m cq,.int .i64 (d.lp:Int)] [.int .i64 3,.int .i64 x,.int .i64 y,.int .i64 s,.bool o] w')
   ((go_split_ands;refine AB.all ?_;(repeat (first | (with_reducible assumption) | (with_reducible exact AB2.out) | (with_reducible refine AB.setR ?_ _ _) | (with_reducible refine AB.setI ?_ _ _) | (with_reducible refine AB.drew ?_) | (with_reducible refine AB.below ?_ hb5) | (with_reducible refine AB.below ?_ hb4)))))
   (first
     | (have hx4 := hb4
        clear hx4
        go_at_call 45
        refine Calls.mono (poke_any d hd.wf F P A B L R cp cq cl cr (4 * d.n) 3 x y s o _ rfl hsh hxr hyr hs3 hsn) ?_
        rintro e w5 ⟨hr1,hr2,hb5⟩
        rw [pkC_eq hF hP hxr.2 hyr.2] at hr1 hr2
        obtain ⟨A9,B9,c8,c9,k9,x9,y9,s9,o9,hmv,rfl,hT⟩:=ResOk.split (hr2 (by rw [←HCC.out];exact HC.out))
        have HMV:=hide (show mm=⟨k9,x9,y9,s9,o9⟩ by rw [HMM.out];exact hmv)
        have hT3:=hide (show DgT w5 A9 B9 rr by rw [HRR.out];exact hT)
        have HRN:=hide (show (pkD d x y s o).n=rr.n by rw [HRR.out])
        have HRL:=hide (show (pkD d x y s o).lp=rr.lp by rw [HRR.out])
        clear hmv hT hr1 hr2)
     | (go_at_call 46
        refine Calls.mono (survey_any d hd A B cp cq m _ HM.out ?_) ?_
        ·exact HG.out.keep AB2.out.drew.bel
        rintro e w4 ⟨L,R,cl,cr,F,P,rfl,hsh,hF,hP,hb4⟩))
  clear c0 c1 c2 c3 c4 c5 c6 c7 c8' c9' c10 c11 c12 c13 c14 c15 c16 c17
  have AB3:=hide ((AB2.out.drew.below hb4).below hb5)
  obtain ⟨w3,hw3⟩:∃w3:World,w3=w5:=⟨_,rfl⟩
  rw [←hw3] at AB3 ⊢
  rw [HRN.out,HRL.out]
  have hT:=hT3.out
  rw [←hw3] at hT
  clear hw3 hc
  have AD3:=hide (show AD w gr gi _ _ A9 B9 rr w3 from ⟨AB3.out,hT⟩)
  clear hT
  obtain ⟨N9,hN9⟩:∃n,n=rr.n:=⟨_,rfl⟩
  obtain ⟨L9,hL9⟩:∃n,n=rr.lp:=⟨_,rfl⟩
  rw [←hN9,←hL9]
  have HN9:=hide hN9
  have HL9:=hide hL9
  clear hN9 hL9
  obtain ⟨_,r3,l3⟩:=AB3.out.r
  obtain ⟨_,r4,l4⟩:=AB3.out.i
  obtain ⟨_,r5,l5⟩:=AB3.out.rd
  obtain ⟨_,r6,l6⟩:=AB3.out.rm
  obtain ⟨e0,e1,e2,e3⟩:=cells3 r3 l3
  obtain ⟨f0,f1,f2,f3,f4,f5⟩:=cells5 r4 l4
  obtain ⟨g0,g1,g2,g3⟩:=cells3 r5 l5
  obtain ⟨h0,h1,h2,h3,h4,h5⟩:=cells5 r6 l6
  have y1:gr≠w.heap.size+1+1:=by have:=AB3.out.lr;omega
  have y2:gr≠w.heap.size+1+1+1:=by have:=AB3.out.lr;omega
  have y3:gi≠w.heap.size+1+1:=by have:=AB3.out.li;omega
  have y4:gi≠w.heap.size+1+1+1:=by have:=AB3.out.li;omega
  have y5:gr≠gi:=AB3.out.ne
  have y6:w.heap.size+1+1≠w.heap.size+1+1+1:=by omega
  clear r3 l3 r4 l4 r5 l5 r6 l6
  go_upto_region 22 with fail
  go_region
  go_wp2_with fail
  clear e0 e1 e2 e3 f0 f1 f2 f3 f4 f5 g0 g1 g2 g3 h0 h1 h2 h3 h4 h5
  have AD4:=hide ((((((((AD3.out.setR 0 (.slice A9 N9 c8)).setR 1 (.slice B9 (4 * N9) c9)).setR 2 (.int .i64 (L9:Int))).setI 0 (.int .i64 k9)).setI 1 (.int .i64 x9)).setI 2 (.int .i64 y9)).setI 3 (.int .i64 s9)).setI 4 (.bool o9))
  obtain ⟨_,r5,l5⟩:=AD4.out.b.rd
  obtain ⟨_,r6,l6⟩:=AD4.out.b.rm
  refine bodyPost_ret (v := .tuple #[.agg #[.slice A9 N9 c8,.slice B9 (4 * N9) c9,.int .i64 (L9:Int)],.agg #[.int .i64 k9,.int .i64 x9,.int .i64 y9,.int .i64 s9,.bool o9],.int .i64 0]) ?_ rfl ?_
  ·obtain ⟨e0,e1,e2,e3,e4,e5,e6,e7⟩:=fin8 r5 r6 l5 l6 (by omega) (.slice A9 N9 c8) (.slice B9 (4 * N9) c9) (.int .i64 (L9:Int)) (.int .i64 k9) (.int .i64 x9) (.int .i64 y9) (.int .i64 s9) (.bool o9)
   simp [results,Tryz.results20,go_sem,e0,e1,e2,e3,e4,e5,e6,e7]
  ·have AD5:=(((((((AD4.out.setD 0 (.slice A9 N9 c8)).setD 1 (.slice B9 (4 * N9) c9)).setD 2 (.int .i64 (L9:Int))).setM 0 (.int .i64 k9)).setM 1 (.int .i64 x9)).setM 2 (.int .i64 y9)).setM 3 (.int .i64 s9)).setM 4 (.bool o9)
   rw [←HCC.out,←HRR.out,←HMM.out]
   refine ⟨fun h=>absurd HC.out h,fun _=>⟨A9,B9,c8,c9,by rw [HMV.out,←HN9.out,←HL9.out];rfl,AD5.drew.t⟩,AD5.drew.b.bel⟩
 ·have HC:=hide hc
  obtain ⟨c0,c1,c2,c3,c4,c5,c6,c7,c8',c9',c10,c11,c12,c13,c14,c15,c16,c17,_⟩:=AB2.out.all
  go_region_held3 (fun w'=>w'.cell? ⟨w.heap.size,0,none⟩=some (.slice A d.n cp)∧w'.cell? ⟨w.heap.size,1,none⟩=some (.slice B m cq)∧w'.cell? ⟨w.heap.size,2,none⟩=some (.int .i64 (d.lp:Int)) ∧
   w'.cell? ⟨w.heap.size+1,0,none⟩=some (.int .i64 3)∧w'.cell? ⟨w.heap.size+1,1,none⟩=some (.int .i64 x)∧w'.cell? ⟨w.heap.size+1,2,none⟩=some (.int .i64 y)∧w'.cell? ⟨w.heap.size+1,3,none⟩=some (.int .i64 s)∧w'.cell? ⟨w.heap.size+1,4,none⟩=some (.bool o) ∧
   w'.cell? ⟨gr,0,none⟩=some (cv w' ⟨gr,0,none⟩)∧w'.cell? ⟨gr,1,none⟩=some (cv w' ⟨gr,1,none⟩)∧w'.cell? ⟨gr,2,none⟩=some (cv w' ⟨gr,2,none⟩) ∧
   w'.cell? ⟨gi,0,none⟩=some (cv w' ⟨gi,0,none⟩)∧w'.cell? ⟨gi,1,none⟩=some (cv w' ⟨gi,1,none⟩)∧w'.cell? ⟨gi,2,none⟩=some (cv w' ⟨gi,2,none⟩)∧w'.cell? ⟨gi,3,none⟩=some (cv w' ⟨gi,3,none⟩)∧w'.cell? ⟨gi,4,none⟩=some (cv w' ⟨gi,4,none⟩) ∧
   (∀o,w'.frozen? ⟨gr,o,none⟩=false)∧(∀o,w'.frozen? ⟨gi,o,none⟩=false)∧AB w gr gi [.slice A d.n cp,.slice B m cq,.int .i64 (d.lp:Int)] [.int .i64 3,.int .i64 x,.int .i64 y,.int .i64 s,.bool o] w')
   ((go_split_ands;refine AB.all ?_;(repeat (first | (with_reducible assumption) | (with_reducible exact AB2.out) | (with_reducible refine AB.setR ?_ _ _) | (with_reducible refine AB.setI ?_ _ _) | (with_reducible refine AB.drew ?_) | (with_reducible refine AB.below ?_ hb5) | (with_reducible refine AB.below ?_ hb4)))))
   (first
     | (have hx4 := hb4
        clear hx4
        go_at_call 45
        refine Calls.mono (poke_any d hd.wf F P A B L R cp cq cl cr (4 * d.n) 3 x y s o _ rfl hsh hxr hyr hs3 hsn) ?_
        rintro e w5 ⟨hr1,hr2,hb5⟩
        rw [pkC_eq hF hP hxr.2 hyr.2] at hr1 hr2
        have hE:=ResErr.split (hr1 (by rw [←HCC.out];exact HC.out))
        rw [←HCC.out] at hE
        subst hE
        clear hr1 hr2)
     | (go_at_call 46
        refine Calls.mono (survey_any d hd A B cp cq m _ HM.out ?_) ?_
        ·exact HG.out.keep AB2.out.drew.bel
        rintro e w4 ⟨L,R,cl,cr,F,P,rfl,hsh,hF,hP,hb4⟩))
  clear c0 c1 c2 c3 c4 c5 c6 c7 c8' c9' c10 c11 c12 c13 c14 c15 c16 c17
  have AB3:=hide ((AB2.out.drew.below hb4).below hb5)
  obtain ⟨w3,hw3⟩:∃w3:World,w3=w5:=⟨_,rfl⟩
  rw [←hw3] at AB3 ⊢
  have t1:(cc != 0)=true:=by rw [bne_iff_ne];exact hc
  clear hc hw3
  obtain ⟨_,r3,l3⟩:=AB3.out.r
  obtain ⟨_,r4,l4⟩:=AB3.out.i
  obtain ⟨_,r5,l5⟩:=AB3.out.rd
  obtain ⟨_,r6,l6⟩:=AB3.out.rm
  obtain ⟨e0,e1,e2,e3⟩:=cells3 r3 l3
  obtain ⟨f0,f1,f2,f3,f4,f5⟩:=cells5 r4 l4
  obtain ⟨g0,g1,g2,g3⟩:=cells3 r5 l5
  obtain ⟨h0,h1,h2,h3,h4,h5⟩:=cells5 r6 l6
  have y1:gr≠w.heap.size+1+1:=by have:=AB3.out.lr;omega
  have y2:gr≠w.heap.size+1+1+1:=by have:=AB3.out.lr;omega
  have y3:gi≠w.heap.size+1+1:=by have:=AB3.out.li;omega
  have y4:gi≠w.heap.size+1+1+1:=by have:=AB3.out.li;omega
  have y5:gr≠gi:=AB3.out.ne
  have y6:w.heap.size+1+1≠w.heap.size+1+1+1:=by omega
  clear r3 l3 r4 l4 r5 l5 r6 l6
  go_wp2
  clear e0 e1 e2 e3 f0 f1 f2 f3 f4 f5 g0 g1 g2 g3 h0 h1 h2 h3 h4 h5
  have AB4:=(((((((AB3.out.setR 0 (.slice none 0 0)).setR 1 (.slice none 0 0)).setR 2 (.int .i64 0)).setI 0 (.int .i64 0)).setI 1 (.int .i64 0)).setI 2 (.int .i64 0)).setI 3 (.int .i64 0)).setI 4 (.bool false)
  obtain ⟨_,r5,l5⟩:=AB4.rd
  obtain ⟨_,r6,l6⟩:=AB4.rm
  refine bodyPost_ret (v := .tuple #[nilD,nilM,.int .i64 cc]) ?_ rfl ?_
  ·obtain ⟨e0,e1,e2,e3,e4,e5,e6,e7⟩:=fin8 r5 r6 l5 l6 (by omega) (.slice none 0 0) (.slice none 0 0) (.int .i64 0) (.int .i64 0) (.int .i64 0) (.int .i64 0) (.int .i64 0) (.bool false)
   unfold nilD nilM
   simp [results,Tryz.results20,go_sem,e0,e1,e2,e3,e4,e5,e6,e7]
  ·rw [←HCC.out,←HRR.out,←HMM.out]
   exact ⟨fun _=>(show ResErr _ _ from rfl),fun h=>absurd h HC.out,below8 AB4.bel _ _ _ _ _ _ _ _⟩
end Go.Proofs.YtdgliimmnnhhjaaGreatDoor
end
