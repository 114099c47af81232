/-
 The texts Xf, Xg, Xh, Yf, Rw, Rzb.
-/
import Derived.Test.YtghdiolnonejaaaR04
import Derived.Test.YtghdiolnonejaaaR07
import Derived.Test.YtghdiolnonejaaaR08
import Derived.Test.YtghdiolnonejaaaR09
set_option linter.unusedVariables false
set_option linter.unusedSimpArgs false
section
namespace Go.Proofs.Ytghdiolnonejaaa
open Go Go.RowKit
attribute [local go_sem ↓] Go.wp_at_zero Go.wp_at_succ
def ResC (c:Int) (r:Pl.Dg) (mv:Mv) (w:World) (e:Ending) (w':World):Prop := (c ≠ 0 → ResErr c e) ∧ (c = 0 → ResOk r mv e w') ∧ Below w.heap.size w w'
theorem ResOk.split {r:Pl.Dg} {mv:Mv} {e:Ending} {w':World} (h:ResOk r mv e w'):∃ (A B:Option Addr) (c1 c2:Nat) (k x y s:Int) (o:Bool),mv = ⟨k,x,y,s,o⟩ ∧ e = .returned (.tuple #[.agg #[.slice A r.n c1,.slice B (4 * r.n) c2,.int .i64 r.lp],.agg #[.int .i64 k,.int .i64 x,.int .i64 y,.int .i64 s,.bool o],.int .i64 0]) ∧ DgT w' A B r := by
 obtain ⟨A,B,c1,c2,he,hd⟩:=h
 obtain ⟨k,x,y,s,o⟩:=mv
 exact ⟨A,B,c1,c2,k,x,y,s,o,rfl,he,hd⟩
theorem ResErr.split {c:Int} {e:Ending} (h:ResErr c e):e = .returned (.tuple #[.agg #[.slice none 0 0,.slice none 0 0,.int .i64 0],.agg #[.int .i64 0,.int .i64 0,.int .i64 0,.int .i64 0,.bool false],.int .i64 c]) := h
theorem DgT.store {w:World} {A B:Option Addr} {d:Pl.Dg} {g o:Nat} {t:TypeId} {vs:List Value} (h:DgT w A B d) (hr:Row w g t vs) (hne:3 ≠ t) (v:Value):DgT (w.setCell ⟨g,o,none⟩ v) A B d := ⟨h.s.store hr hne v,h.m.store hr hne v⟩
structure AB (w:World) (gr gi:Nat) (dv mv:List Value) (W:World):Prop where
 d:Row W w.heap.size 24 dv
 m:Row W (w.heap.size + 1) 37 mv
 rd:∃ vs,Row W (w.heap.size + 1 + 1) 24 vs ∧ vs.length = 3
 rm:∃ us,Row W (w.heap.size + 1 + 1 + 1) 37 us ∧ us.length = 5
 r:∃ vs,Row W gr 24 vs ∧ vs.length = 3
 i:∃ us,Row W gi 37 us ∧ us.length = 5
 bel:Below w.heap.size w W
 lr:w.heap.size + 1 + 1 + 1 < gr
 li:w.heap.size + 1 + 1 + 1 < gi
 ne:gr ≠ gi
section
variable {w W W':World} {gr gi:Nat} {dv mv:List Value}
theorem AB.drew (h:AB w gr gi dv mv W):AB w gr gi dv mv W.drew := ⟨h.d,h.m,h.rd,h.rm,h.r,h.i,h.bel.drew,h.lr,h.li,h.ne⟩
theorem AB.below (h:AB w gr gi dv mv W) (hb:Below W.heap.size W W'):AB w gr gi dv mv W' :=
 let ⟨vs,r1,l1⟩:=h.rd
 let ⟨us,r2,l2⟩:=h.rm
 let ⟨xs,r3,l3⟩:=h.r
 let ⟨ys,r4,l4⟩:=h.i
 ⟨h.d.below hb,h.m.below hb,⟨vs,r1.below hb,l1⟩,⟨us,r2.below hb,l2⟩,⟨xs,r3.below hb,l3⟩,⟨ys,r4.below hb,l4⟩,h.bel.trans (hb.mono h.bel.size),h.lr,h.li,h.ne⟩
theorem AB.setD (h:AB w gr gi dv mv W) (o:Nat) (v:Value):AB w gr gi dv mv (W.setCell ⟨w.heap.size + 1 + 1,o,none⟩ v) :=
 have a1:=h.lr
 have a2:=h.li
 have a3:=h.ne
 let ⟨vs,r1,l1⟩:=h.rd
 let ⟨us,r2,l2⟩:=h.rm
 let ⟨xs,r3,l3⟩:=h.r
 let ⟨ys,r4,l4⟩:=h.i
 ⟨h.d.other (by show _ ≠ w.heap.size + 1 + 1; omega) v,h.m.other (by show _ ≠ w.heap.size + 1 + 1; omega) v,⟨vs.set o v,r1.set o v,by rw [List.length_set,l1]⟩,⟨us,r2.other (by show _ ≠ w.heap.size + 1 + 1; omega) v,l2⟩,⟨xs,r3.other (by show _ ≠ w.heap.size + 1 + 1; omega) v,l3⟩,⟨ys,r4.other (by show _ ≠ w.heap.size + 1 + 1; omega) v,l4⟩,h.bel.setCell (by show _ ≤ w.heap.size + 1 + 1; omega) v,h.lr,h.li,h.ne⟩
theorem AB.setM (h:AB w gr gi dv mv W) (o:Nat) (v:Value):AB w gr gi dv mv (W.setCell ⟨w.heap.size + 1 + 1 + 1,o,none⟩ v) :=
 have a1:=h.lr
 have a2:=h.li
 have a3:=h.ne
 let ⟨vs,r1,l1⟩:=h.rd
 let ⟨us,r2,l2⟩:=h.rm
 let ⟨xs,r3,l3⟩:=h.r
 let ⟨ys,r4,l4⟩:=h.i
 ⟨h.d.other (by show _ ≠ w.heap.size + 1 + 1 + 1; omega) v,h.m.other (by show _ ≠ w.heap.size + 1 + 1 + 1; omega) v,⟨vs,r1.other (by show _ ≠ w.heap.size + 1 + 1 + 1; omega) v,l1⟩,⟨us.set o v,r2.set o v,by rw [List.length_set,l2]⟩,⟨xs,r3.other (by show _ ≠ w.heap.size + 1 + 1 + 1; omega) v,l3⟩,⟨ys,r4.other (by show _ ≠ w.heap.size + 1 + 1 + 1; omega) v,l4⟩,h.bel.setCell (by show _ ≤ w.heap.size + 1 + 1 + 1; omega) v,h.lr,h.li,h.ne⟩
theorem AB.setR (h:AB w gr gi dv mv W) (o:Nat) (v:Value):AB w gr gi dv mv (W.setCell ⟨gr,o,none⟩ v) :=
 have a1:=h.lr
 have a2:=h.li
 have a3:=h.ne
 let ⟨vs,r1,l1⟩:=h.rd
 let ⟨us,r2,l2⟩:=h.rm
 let ⟨xs,r3,l3⟩:=h.r
 let ⟨ys,r4,l4⟩:=h.i
 ⟨h.d.other (by show _ ≠ gr; omega) v,h.m.other (by show _ ≠ gr; omega) v,⟨vs,r1.other (by show _ ≠ gr; omega) v,l1⟩,⟨us,r2.other (by show _ ≠ gr; omega) v,l2⟩,⟨xs.set o v,r3.set o v,by rw [List.length_set,l3]⟩,⟨ys,r4.other (by show _ ≠ gr; omega) v,l4⟩,h.bel.setCell (by show _ ≤ gr; omega) v,h.lr,h.li,h.ne⟩
theorem AB.setI (h:AB w gr gi dv mv W) (o:Nat) (v:Value):AB w gr gi dv mv (W.setCell ⟨gi,o,none⟩ v) :=
 have a1:=h.lr
 have a2:=h.li
 have a3:=h.ne
 let ⟨vs,r1,l1⟩:=h.rd
 let ⟨us,r2,l2⟩:=h.rm
 let ⟨xs,r3,l3⟩:=h.r
 let ⟨ys,r4,l4⟩:=h.i
 ⟨h.d.other (by show _ ≠ gi; omega) v,h.m.other (by show _ ≠ gi; omega) v,⟨vs,r1.other (by show _ ≠ gi; omega) v,l1⟩,⟨us,r2.other (by show _ ≠ gi; omega) v,l2⟩,⟨xs,r3.other (by show _ ≠ gi; omega) v,l3⟩,⟨ys.set o v,r4.set o v,by rw [List.length_set,l4]⟩,h.bel.setCell (by show _ ≤ gi; omega) v,h.lr,h.li,h.ne⟩
end
structure AD (w:World) (gr gi:Nat) (dv mv:List Value) (A B:Option Addr) (r:Pl.Dg) (W:World):Prop where
 b:AB w gr gi dv mv W
 t:DgT W A B r
section
variable {w W W':World} {gr gi:Nat} {dv mv:List Value} {A B:Option Addr} {r:Pl.Dg}
theorem AD.drew (h:AD w gr gi dv mv A B r W):AD w gr gi dv mv A B r W.drew := ⟨h.b.drew,⟨h.t.s,h.t.m⟩⟩
theorem AD.setD (h:AD w gr gi dv mv A B r W) (o:Nat) (v:Value):AD w gr gi dv mv A B r (W.setCell ⟨w.heap.size + 1 + 1,o,none⟩ v) := ⟨h.b.setD o v,let ⟨_,r1,_⟩:=h.b.rd; h.t.store r1 (by decide) v⟩
theorem AD.setM (h:AD w gr gi dv mv A B r W) (o:Nat) (v:Value):AD w gr gi dv mv A B r (W.setCell ⟨w.heap.size + 1 + 1 + 1,o,none⟩ v) := ⟨h.b.setM o v,let ⟨_,r1,_⟩:=h.b.rm; h.t.store r1 (by decide) v⟩
theorem AD.setR (h:AD w gr gi dv mv A B r W) (o:Nat) (v:Value):AD w gr gi dv mv A B r (W.setCell ⟨gr,o,none⟩ v) := ⟨h.b.setR o v,let ⟨_,r1,_⟩:=h.b.r; h.t.store r1 (by decide) v⟩
theorem AD.setI (h:AD w gr gi dv mv A B r W) (o:Nat) (v:Value):AD w gr gi dv mv A B r (W.setCell ⟨gi,o,none⟩ v) := ⟨h.b.setI o v,let ⟨_,r1,_⟩:=h.b.i; h.t.store r1 (by decide) v⟩
end
theorem cells3 {W:World} {g:Nat} {t:TypeId} {vs:List Value} (h:Row W g t vs) (l:vs.length = 3):W.cell? ⟨g,0,none⟩ = some (cv W ⟨g,0,none⟩) ∧ W.cell? ⟨g,1,none⟩ = some (cv W ⟨g,1,none⟩) ∧ W.cell? ⟨g,2,none⟩ = some (cv W ⟨g,2,none⟩) ∧ ∀ o,W.frozen? ⟨g,o,none⟩ = false :=
 ⟨cv_some (h.cell (i := 0) (by omega)),cv_some (h.cell (i := 1) (by omega)),cv_some (h.cell (i := 2) (by omega)),h.free⟩
theorem cells5 {W:World} {g:Nat} {t:TypeId} {vs:List Value} (h:Row W g t vs) (l:vs.length = 5):W.cell? ⟨g,0,none⟩ = some (cv W ⟨g,0,none⟩) ∧ W.cell? ⟨g,1,none⟩ = some (cv W ⟨g,1,none⟩) ∧ W.cell? ⟨g,2,none⟩ = some (cv W ⟨g,2,none⟩) ∧ W.cell? ⟨g,3,none⟩ = some (cv W ⟨g,3,none⟩) ∧ W.cell? ⟨g,4,none⟩ = some (cv W ⟨g,4,none⟩) ∧ ∀ o,W.frozen? ⟨g,o,none⟩ = false :=
 ⟨cv_some (h.cell (i := 0) (by omega)),cv_some (h.cell (i := 1) (by omega)),cv_some (h.cell (i := 2) (by omega)),cv_some (h.cell (i := 3) (by omega)),cv_some (h.cell (i := 4) (by omega)),h.free⟩
theorem curl_m (d:Pl.Dg) (hd:Pl.Wf d) (A B:Option Addr) (cp cq m:Nat) (k x y sg:Int) (ov:Bool) (w:World) (hm:m = 4 * d.n) (hg:DgAt w A B d) (hx:-1 ≤ x ∧ x < 4 * d.n) (hsg:sg = 1 ∨ sg = -1) :
 Calls Try.prog 49 #[.agg #[.slice A d.n cp,.slice B m cq,.int .i64 d.lp],.agg #[.int .i64 k,.int .i64 x,.int .i64 y,.int .i64 sg,.bool ov]] w (CurlPost d x sg ov w) := by
 subst hm; exact curl_any d hd A B cp cq k x y sg ov w hg hx hsg
set_option maxRecDepth 100000 in
set_option maxHeartbeats 4000000 in
theorem apply_1 (d:Pl.Dg) (hd:Pl.Valid d) (A B:Option Addr) (cp cq m:Nat) (x y s:Int) (o:Bool) (w:World) (hm:m = 4 * d.n) (hg:DgAt w A B d) (hin:inR d.n ⟨1,x,y,s,o⟩) :
 Calls Try.prog 23 #[.agg #[.slice A d.n cp,.slice B m cq,.int .i64 d.lp],(Mv.mk 1 x y s o).v] w (ResC (curlableC d x) (crl d x s o) ((⟨2,d.n,0,0,false⟩:Mv)) w) := by
 have hn:=hd.wf.few
 have hlp:=hd.wf.lp
 have HM:=hide hm
 have HG:=hide hg
 have hm2:m ≤ 256:=by omega
 clear hm hg
 have PB0:=hide (boxes4 w (.slice A d.n cp) (.slice B m cq) (.int .i64 (d.lp:Int)) (.int .i64 1) (.int .i64 x) (.int .i64 y) (.int .i64 s) (.bool o))
 unfold W4 at PB0
 obtain ⟨x0,x1,x2,x3,b0,s0⟩:=PB0.out
 have X0:=hide x0
 have X1:=hide x1
 have X2:=hide x2
 have X3:=hide x3
 have B0:=hide b0
 have S0:=hide s0
 clear x0 x1 x2 x3 b0 s0 PB0
 unfold Mv.v
 go_enter Try.func23,Try.ntmps23
 go_wp2_with fail
 refine (valid_yes d hd A B cp cq m _ HM.out (HG.out.keep B0.out)).mono ?_
 rintro e w1 ⟨rfl,hb1⟩
 have Y0:=hide (X0.out.below hb1)
 have Y1:=hide (X1.out.below hb1)
 have Y2:=hide (X2.out.below hb1)
 have Y3:=hide (X3.out.below hb1)
 have B1:=hide (B0.out.trans (hb1.mono B0.out.size))
 have hsz1:w.heap.size + 4 ≤ w1.heap.size:=by have := hb1.size; have := S0.out; omega
 clear X0 X1 X2 X3 B0 S0 hb1
 obtain ⟨d0,d1,d2,d3⟩:=box3 Y0.out
 obtain ⟨m0,m1,m2,m3,m4,m5⟩:=box5 Y1.out
 go_wp2_with fail
 refine (inRange_1 d.n x y s o w1 (by omega)).mono ?_
 rintro e w2 ⟨rfl,hb2⟩
 rw [Pl.vb_true hin]
 have hsz:w.heap.size + 4 ≤ w2.heap.size:=by have := hb2.size; omega
 have AB2:=hide (show AB w w2.heap.size (w2.heap.size + 1) [.slice A d.n cp,.slice B m cq,.int .i64 (d.lp:Int)] [.int .i64 1,.int .i64 x,.int .i64 y,.int .i64 s,.bool o] ((w2.alloc (.cells #[.slice none 0 0,.slice none 0 0,.int .i64 0] 24)).alloc (.cells #[.int .i64 0,.int .i64 0,.int .i64 0,.int .i64 0,.bool false] 37)) from
  ⟨((Y0.out.below hb2).alloc _).alloc _,((Y1.out.below hb2).alloc _).alloc _,⟨_,((Y2.out.below hb2).alloc _).alloc _,rfl⟩,⟨_,((Y3.out.below hb2).alloc _).alloc _,rfl⟩,⟨_,(row_at (vs := [_,_,_]) rfl).alloc _,rfl⟩,⟨_,row_at (vs := [_,_,_,_,_]) (by simp),rfl⟩,((B1.out.trans (hb2.mono B1.out.size)).alloc (B1.out.trans (hb2.mono B1.out.size)).size _).alloc ((B1.out.trans (hb2.mono B1.out.size)).alloc (B1.out.trans (hb2.mono B1.out.size)).size _).size _,by omega,by omega,by omega⟩)
 obtain ⟨d0',d1',d2',d3'⟩:=box3 (Y0.out.below hb2)
 obtain ⟨m0',m1',m2',m3',m4',m5'⟩:=box5 (Y1.out.below hb2)
 clear d0 d1 d2 d3 m0 m1 m2 m3 m4 m5 Y0 Y1 Y2 Y3 B1 hb2 hsz1
 have z1:w.heap.size < w2.heap.size:=by omega
 have z2:w.heap.size + 1 < w2.heap.size:=by omega
 have hx:-1 ≤ x ∧ x < 4 * d.n:=by have := hin; unfold inR at this; simp at this; omega
 have hs:s = 1 ∨ s = -1:=by have := hin; unfold inR at this; simp at this; omega
 have HG2:=hide (HG.out.keep AB2.out.bel)
 go_wp2_with fail
 obtain ⟨gr,hgr⟩:∃ g,g = w2.heap.size := ⟨_,rfl⟩
 obtain ⟨gi,hgi⟩:∃ g,g = w2.heap.size + 1 := ⟨_,rfl⟩
 rw [← hgi,← hgr] at AB2
 rw [← hgi,← hgr]
 clear hgr hgi
 refine (curl_m d hd.wf A B cp cq m 1 x y s o _ HM.out HG2.out hx hs).mono ?_
 intro e w3 hres
 have AB3:=hide (AB2.out.below hres.2.2)
 obtain ⟨cc,hcc⟩:∃ c,c = curlableC d x := ⟨_,rfl⟩
 obtain ⟨rr,hrr⟩:∃ r,r = crl d x s o := ⟨_,rfl⟩
 obtain ⟨mm,hmm⟩:∃ r,r = (⟨2,d.n,0,0,false⟩:Mv) := ⟨_,rfl⟩
 unfold CurlPost at hres
 rw [← hcc,← hrr,← hmm] at hres
 have HCC:=hide hcc
 have HRR:=hide hrr
 have HMM:=hide hmm
 clear hcc hrr hmm d0' d1' d2' d3' m0' m1' m2' m3' m4' m5' AB2 HG2
 by_cases hc:cc = 0
 ·obtain ⟨A9,B9,c8,c9,k9,x9,y9,s9,o9,hmv,rfl,hT⟩:=ResOk.split (hres.2.1 hc)
  have HMV:=hide hmv
  have HC:=hide hc
  clear hmv hc
  have AD3:=hide (show AD w gr gi _ _ A9 B9 rr w3 from ⟨AB3.out,hT⟩)
  clear hT
  obtain ⟨N9,hN9⟩:∃ n,n = rr.n := ⟨_,rfl⟩
  obtain ⟨L9,hL9⟩:∃ n,n = rr.lp := ⟨_,rfl⟩
  rw [← hN9,← hL9]
  have HN9:=hide hN9
  have HL9:=hide hL9
  clear hN9 hL9
  obtain ⟨_,r3,l3⟩:=AB3.out.r
  obtain ⟨_,r4,l4⟩:=AB3.out.i
  obtain ⟨_,r5,l5⟩:=AB3.out.rd
  obtain ⟨_,r6,l6⟩:=AB3.out.rm
  obtain ⟨e0,e1,e2,e3⟩:=cells3 r3 l3
  obtain ⟨f0,f1,f2,f3,f4,f5⟩:=cells5 r4 l4
  obtain ⟨g0,g1,g2,g3⟩:=cells3 r5 l5
  obtain ⟨h0,h1,h2,h3,h4,h5⟩:=cells5 r6 l6
  have y1:gr ≠ w.heap.size + 1 + 1:=by have := AB3.out.lr; omega
  have y2:gr ≠ w.heap.size + 1 + 1 + 1:=by have := AB3.out.lr; omega
  have y3:gi ≠ w.heap.size + 1 + 1:=by have := AB3.out.li; omega
  have y4:gi ≠ w.heap.size + 1 + 1 + 1:=by have := AB3.out.li; omega
  have y5:gr ≠ gi:=AB3.out.ne
  have y6:w.heap.size + 1 + 1 ≠ w.heap.size + 1 + 1 + 1:=by omega
  clear r3 l3 r4 l4 r5 l5 r6 l6
  go_upto_region 22 with fail
  go_region
  go_wp2_with fail
  clear e0 e1 e2 e3 f0 f1 f2 f3 f4 f5 g0 g1 g2 g3 h0 h1 h2 h3 h4 h5
  have AD4:=hide ((((((((AD3.out.setR 0 (.slice A9 N9 c8)).setR 1 (.slice B9 (4 * N9) c9)).setR 2 (.int .i64 (L9:Int))).setI 0 (.int .i64 k9)).setI 1 (.int .i64 x9)).setI 2 (.int .i64 y9)).setI 3 (.int .i64 s9)).setI 4 (.bool o9))
  obtain ⟨_,r5,l5⟩:=AD4.out.b.rd
  obtain ⟨_,r6,l6⟩:=AD4.out.b.rm
  refine bodyPost_ret (v := .tuple #[.agg #[.slice A9 N9 c8,.slice B9 (4 * N9) c9,.int .i64 (L9:Int)],.agg #[.int .i64 k9,.int .i64 x9,.int .i64 y9,.int .i64 s9,.bool o9],.int .i64 0]) ?_ rfl ?_
  ·obtain ⟨e0,e1,e2,e3,e4,e5,e6,e7⟩:=fin8 r5 r6 l5 l6 (by omega) (.slice A9 N9 c8) (.slice B9 (4 * N9) c9) (.int .i64 (L9:Int)) (.int .i64 k9) (.int .i64 x9) (.int .i64 y9) (.int .i64 s9) (.bool o9)
   simp [results,Try.results23,go_sem,e0,e1,e2,e3,e4,e5,e6,e7]
  ·have AD5:=(((((((AD4.out.setD 0 (.slice A9 N9 c8)).setD 1 (.slice B9 (4 * N9) c9)).setD 2 (.int .i64 (L9:Int))).setM 0 (.int .i64 k9)).setM 1 (.int .i64 x9)).setM 2 (.int .i64 y9)).setM 3 (.int .i64 s9)).setM 4 (.bool o9)
   rw [← HCC.out,← HRR.out,← HMM.out]
   refine ⟨fun h => absurd HC.out h,fun _ => ⟨A9,B9,c8,c9,by rw [HMV.out,← HN9.out,← HL9.out]; rfl,AD5.drew.t⟩,AD5.drew.b.bel⟩
 ·have HC:=hide hc
  have hE:=ResErr.split (hres.1 hc)
  subst hE
  have t1:(cc != 0) = true:=by rw [bne_iff_ne]; exact hc
  clear hc
  obtain ⟨_,r3,l3⟩:=AB3.out.r
  obtain ⟨_,r4,l4⟩:=AB3.out.i
  obtain ⟨_,r5,l5⟩:=AB3.out.rd
  obtain ⟨_,r6,l6⟩:=AB3.out.rm
  obtain ⟨e0,e1,e2,e3⟩:=cells3 r3 l3
  obtain ⟨f0,f1,f2,f3,f4,f5⟩:=cells5 r4 l4
  obtain ⟨g0,g1,g2,g3⟩:=cells3 r5 l5
  obtain ⟨h0,h1,h2,h3,h4,h5⟩:=cells5 r6 l6
  have y1:gr ≠ w.heap.size + 1 + 1:=by have := AB3.out.lr; omega
  have y2:gr ≠ w.heap.size + 1 + 1 + 1:=by have := AB3.out.lr; omega
  have y3:gi ≠ w.heap.size + 1 + 1:=by have := AB3.out.li; omega
  have y4:gi ≠ w.heap.size + 1 + 1 + 1:=by have := AB3.out.li; omega
  have y5:gr ≠ gi:=AB3.out.ne
  have y6:w.heap.size + 1 + 1 ≠ w.heap.size + 1 + 1 + 1:=by omega
  clear r3 l3 r4 l4 r5 l5 r6 l6
  go_wp2
  clear e0 e1 e2 e3 f0 f1 f2 f3 f4 f5 g0 g1 g2 g3 h0 h1 h2 h3 h4 h5
  have AB4:=(((((((AB3.out.setR 0 (.slice none 0 0)).setR 1 (.slice none 0 0)).setR 2 (.int .i64 0)).setI 0 (.int .i64 0)).setI 1 (.int .i64 0)).setI 2 (.int .i64 0)).setI 3 (.int .i64 0)).setI 4 (.bool false)
  obtain ⟨_,r5,l5⟩:=AB4.rd
  obtain ⟨_,r6,l6⟩:=AB4.rm
  refine bodyPost_ret (v := .tuple #[nilD,nilM,.int .i64 cc]) ?_ rfl ?_
  ·obtain ⟨e0,e1,e2,e3,e4,e5,e6,e7⟩:=fin8 r5 r6 l5 l6 (by omega) (.slice none 0 0) (.slice none 0 0) (.int .i64 0) (.int .i64 0) (.int .i64 0) (.int .i64 0) (.int .i64 0) (.bool false)
   unfold nilD nilM
   simp [results,Try.results23,go_sem,e0,e1,e2,e3,e4,e5,e6,e7]
  ·rw [← HCC.out,← HRR.out,← HMM.out]
   exact ⟨fun _ => (show ResErr _ _ from rfl),fun h => absurd h HC.out,below8 AB4.bel _ _ _ _ _ _ _ _⟩
theorem uncurl_m (d:Pl.Dg) (hd:Pl.Wf d) (A B:Option Addr) (cp cq m c:Nat) (k y sg:Int) (ov:Bool) (w:World) (hm:m = 4 * d.n) (hg:DgAt w A B d) (hc:c < d.n) :
 Calls Try.prog 50 #[.agg #[.slice A d.n cp,.slice B m cq,.int .i64 d.lp],.agg #[.int .i64 k,.int .i64 (c:Int),.int .i64 y,.int .i64 sg,.bool ov]] w (UncPost d c w) := by
 subst hm; exact uncurl_any d hd A B cp cq c k y sg ov w hg hc
def unpD (d:Pl.Dg) (x y:Nat):Pl.Dg := match lensI d x y with
 | some i => unpDl d (lensOf d (lnH x y i)) x y
 | none => d
def unpI (d:Pl.Dg) (x y:Nat):Mv := match lensI d x y with
 | some i => pusI d (lensOf d (lnH x y i)) x y
 | none => ⟨0,0,0,0,false⟩
theorem unpoke_m (d:Pl.Dg) (hd:Pl.Wf d) (A B:Option Addr) (cp cq m x y:Nat) (k sg:Int) (ov:Bool) (w:World) (hm:m = 4 * d.n) (hg:DgAt w A B d) (hxy:x < y) (hy:y < d.n) :
 Calls Try.prog 53 #[.agg #[.slice A d.n cp,.slice B m cq,.int .i64 d.lp],.agg #[.int .i64 k,.int .i64 (x:Int),.int .i64 (y:Int),.int .i64 sg,.bool ov]] w (ResC (unpC d x y) (unpD d x y) (unpI d x y) w) := by
 subst hm
 refine (unpoke_any d hd A B cp cq x y k sg ov w hg hxy hy).mono ?_
 rintro e w' ⟨h1,h2,h3⟩
 refine ⟨h1,fun h => ?_,h3⟩
 obtain ⟨i,hi,hr⟩:=h2 h
 unfold unpD unpI
 rw [hi]
 exact hr
set_option maxRecDepth 100000 in
set_option maxHeartbeats 4000000 in
theorem apply_2 (d:Pl.Dg) (hd:Pl.Valid d) (A B:Option Addr) (cp cq m:Nat) (x:Nat) (y s:Int) (o:Bool) (w:World) (hm:m = 4 * d.n) (hg:DgAt w A B d) (hin:inR d.n ⟨2,(x:Int),y,s,o⟩) :
 Calls Try.prog 23 #[.agg #[.slice A d.n cp,.slice B m cq,.int .i64 d.lp],(Mv.mk 2 (x:Int) y s o).v] w (ResC (uncC d x) (unD d x) (unI d x) w) := by
 have hn:=hd.wf.few
 have hlp:=hd.wf.lp
 have HM:=hide hm
 have HG:=hide hg
 have hm2:m ≤ 256:=by omega
 clear hm hg
 have PB0:=hide (boxes4 w (.slice A d.n cp) (.slice B m cq) (.int .i64 (d.lp:Int)) (.int .i64 2) (.int .i64 (x:Int)) (.int .i64 y) (.int .i64 s) (.bool o))
 unfold W4 at PB0
 obtain ⟨x0,x1,x2,x3,b0,s0⟩:=PB0.out
 have X0:=hide x0
 have X1:=hide x1
 have X2:=hide x2
 have X3:=hide x3
 have B0:=hide b0
 have S0:=hide s0
 clear x0 x1 x2 x3 b0 s0 PB0
 unfold Mv.v
 go_enter Try.func23,Try.ntmps23
 go_wp2_with fail
 refine (valid_yes d hd A B cp cq m _ HM.out (HG.out.keep B0.out)).mono ?_
 rintro e w1 ⟨rfl,hb1⟩
 have Y0:=hide (X0.out.below hb1)
 have Y1:=hide (X1.out.below hb1)
 have Y2:=hide (X2.out.below hb1)
 have Y3:=hide (X3.out.below hb1)
 have B1:=hide (B0.out.trans (hb1.mono B0.out.size))
 have hsz1:w.heap.size + 4 ≤ w1.heap.size:=by have := hb1.size; have := S0.out; omega
 clear X0 X1 X2 X3 B0 S0 hb1
 obtain ⟨d0,d1,d2,d3⟩:=box3 Y0.out
 obtain ⟨m0,m1,m2,m3,m4,m5⟩:=box5 Y1.out
 go_wp2_with fail
 refine (inRange_2 d.n (x:Int) y s o w1 (by omega)).mono ?_
 rintro e w2 ⟨rfl,hb2⟩
 rw [Pl.vb_true hin]
 have hsz:w.heap.size + 4 ≤ w2.heap.size:=by have := hb2.size; omega
 have AB2:=hide (show AB w w2.heap.size (w2.heap.size + 1) [.slice A d.n cp,.slice B m cq,.int .i64 (d.lp:Int)] [.int .i64 2,.int .i64 (x:Int),.int .i64 y,.int .i64 s,.bool o] ((w2.alloc (.cells #[.slice none 0 0,.slice none 0 0,.int .i64 0] 24)).alloc (.cells #[.int .i64 0,.int .i64 0,.int .i64 0,.int .i64 0,.bool false] 37)) from
  ⟨((Y0.out.below hb2).alloc _).alloc _,((Y1.out.below hb2).alloc _).alloc _,⟨_,((Y2.out.below hb2).alloc _).alloc _,rfl⟩,⟨_,((Y3.out.below hb2).alloc _).alloc _,rfl⟩,⟨_,(row_at (vs := [_,_,_]) rfl).alloc _,rfl⟩,⟨_,row_at (vs := [_,_,_,_,_]) (by simp),rfl⟩,((B1.out.trans (hb2.mono B1.out.size)).alloc (B1.out.trans (hb2.mono B1.out.size)).size _).alloc ((B1.out.trans (hb2.mono B1.out.size)).alloc (B1.out.trans (hb2.mono B1.out.size)).size _).size _,by omega,by omega,by omega⟩)
 obtain ⟨d0',d1',d2',d3'⟩:=box3 (Y0.out.below hb2)
 obtain ⟨m0',m1',m2',m3',m4',m5'⟩:=box5 (Y1.out.below hb2)
 clear d0 d1 d2 d3 m0 m1 m2 m3 m4 m5 Y0 Y1 Y2 Y3 B1 hb2 hsz1
 have z1:w.heap.size < w2.heap.size:=by omega
 have z2:w.heap.size + 1 < w2.heap.size:=by omega
 have hx:x < d.n:=by have := hin; unfold inR at this; simp at this; omega
 have HG2:=hide (HG.out.keep AB2.out.bel)
 go_wp2_with fail
 obtain ⟨gr,hgr⟩:∃ g,g = w2.heap.size := ⟨_,rfl⟩
 obtain ⟨gi,hgi⟩:∃ g,g = w2.heap.size + 1 := ⟨_,rfl⟩
 rw [← hgi,← hgr] at AB2
 rw [← hgi,← hgr]
 clear hgr hgi
 refine (uncurl_m d hd.wf A B cp cq m x 2 y s o _ HM.out HG2.out hx).mono ?_
 intro e w3 hres
 have AB3:=hide (AB2.out.below hres.2.2)
 obtain ⟨cc,hcc⟩:∃ c,c = uncC d x := ⟨_,rfl⟩
 obtain ⟨rr,hrr⟩:∃ r,r = unD d x := ⟨_,rfl⟩
 obtain ⟨mm,hmm⟩:∃ r,r = unI d x := ⟨_,rfl⟩
 unfold UncPost at hres
 rw [← hcc,← hrr,← hmm] at hres
 have HCC:=hide hcc
 have HRR:=hide hrr
 have HMM:=hide hmm
 clear hcc hrr hmm d0' d1' d2' d3' m0' m1' m2' m3' m4' m5' AB2 HG2
 by_cases hc:cc = 0
 ·obtain ⟨A9,B9,c8,c9,k9,x9,y9,s9,o9,hmv,rfl,hT⟩:=ResOk.split (hres.2.1 hc)
  have HMV:=hide hmv
  have HC:=hide hc
  clear hmv hc
  have AD3:=hide (show AD w gr gi _ _ A9 B9 rr w3 from ⟨AB3.out,hT⟩)
  clear hT
  obtain ⟨N9,hN9⟩:∃ n,n = rr.n := ⟨_,rfl⟩
  obtain ⟨L9,hL9⟩:∃ n,n = rr.lp := ⟨_,rfl⟩
  rw [← hN9,← hL9]
  have HN9:=hide hN9
  have HL9:=hide hL9
  clear hN9 hL9
  obtain ⟨_,r3,l3⟩:=AB3.out.r
  obtain ⟨_,r4,l4⟩:=AB3.out.i
  obtain ⟨_,r5,l5⟩:=AB3.out.rd
  obtain ⟨_,r6,l6⟩:=AB3.out.rm
  obtain ⟨e0,e1,e2,e3⟩:=cells3 r3 l3
  obtain ⟨f0,f1,f2,f3,f4,f5⟩:=cells5 r4 l4
  obtain ⟨g0,g1,g2,g3⟩:=cells3 r5 l5
  obtain ⟨h0,h1,h2,h3,h4,h5⟩:=cells5 r6 l6
  have y1:gr ≠ w.heap.size + 1 + 1:=by have := AB3.out.lr; omega
  have y2:gr ≠ w.heap.size + 1 + 1 + 1:=by have := AB3.out.lr; omega
  have y3:gi ≠ w.heap.size + 1 + 1:=by have := AB3.out.li; omega
  have y4:gi ≠ w.heap.size + 1 + 1 + 1:=by have := AB3.out.li; omega
  have y5:gr ≠ gi:=AB3.out.ne
  have y6:w.heap.size + 1 + 1 ≠ w.heap.size + 1 + 1 + 1:=by omega
  clear r3 l3 r4 l4 r5 l5 r6 l6
  go_upto_region 22 with fail
  go_region
  go_wp2_with fail
  clear e0 e1 e2 e3 f0 f1 f2 f3 f4 f5 g0 g1 g2 g3 h0 h1 h2 h3 h4 h5
  have AD4:=hide ((((((((AD3.out.setR 0 (.slice A9 N9 c8)).setR 1 (.slice B9 (4 * N9) c9)).setR 2 (.int .i64 (L9:Int))).setI 0 (.int .i64 k9)).setI 1 (.int .i64 x9)).setI 2 (.int .i64 y9)).setI 3 (.int .i64 s9)).setI 4 (.bool o9))
  obtain ⟨_,r5,l5⟩:=AD4.out.b.rd
  obtain ⟨_,r6,l6⟩:=AD4.out.b.rm
  refine bodyPost_ret (v := .tuple #[.agg #[.slice A9 N9 c8,.slice B9 (4 * N9) c9,.int .i64 (L9:Int)],.agg #[.int .i64 k9,.int .i64 x9,.int .i64 y9,.int .i64 s9,.bool o9],.int .i64 0]) ?_ rfl ?_
  ·obtain ⟨e0,e1,e2,e3,e4,e5,e6,e7⟩:=fin8 r5 r6 l5 l6 (by omega) (.slice A9 N9 c8) (.slice B9 (4 * N9) c9) (.int .i64 (L9:Int)) (.int .i64 k9) (.int .i64 x9) (.int .i64 y9) (.int .i64 s9) (.bool o9)
   simp [results,Try.results23,go_sem,e0,e1,e2,e3,e4,e5,e6,e7]
  ·have AD5:=(((((((AD4.out.setD 0 (.slice A9 N9 c8)).setD 1 (.slice B9 (4 * N9) c9)).setD 2 (.int .i64 (L9:Int))).setM 0 (.int .i64 k9)).setM 1 (.int .i64 x9)).setM 2 (.int .i64 y9)).setM 3 (.int .i64 s9)).setM 4 (.bool o9)
   rw [← HCC.out,← HRR.out,← HMM.out]
   refine ⟨fun h => absurd HC.out h,fun _ => ⟨A9,B9,c8,c9,by rw [HMV.out,← HN9.out,← HL9.out]; rfl,AD5.drew.t⟩,AD5.drew.b.bel⟩
 ·have HC:=hide hc
  have hE:=ResErr.split (hres.1 hc)
  subst hE
  have t1:(cc != 0) = true:=by rw [bne_iff_ne]; exact hc
  clear hc
  obtain ⟨_,r3,l3⟩:=AB3.out.r
  obtain ⟨_,r4,l4⟩:=AB3.out.i
  obtain ⟨_,r5,l5⟩:=AB3.out.rd
  obtain ⟨_,r6,l6⟩:=AB3.out.rm
  obtain ⟨e0,e1,e2,e3⟩:=cells3 r3 l3
  obtain ⟨f0,f1,f2,f3,f4,f5⟩:=cells5 r4 l4
  obtain ⟨g0,g1,g2,g3⟩:=cells3 r5 l5
  obtain ⟨h0,h1,h2,h3,h4,h5⟩:=cells5 r6 l6
  have y1:gr ≠ w.heap.size + 1 + 1:=by have := AB3.out.lr; omega
  have y2:gr ≠ w.heap.size + 1 + 1 + 1:=by have := AB3.out.lr; omega
  have y3:gi ≠ w.heap.size + 1 + 1:=by have := AB3.out.li; omega
  have y4:gi ≠ w.heap.size + 1 + 1 + 1:=by have := AB3.out.li; omega
  have y5:gr ≠ gi:=AB3.out.ne
  have y6:w.heap.size + 1 + 1 ≠ w.heap.size + 1 + 1 + 1:=by omega
  clear r3 l3 r4 l4 r5 l5 r6 l6
  go_wp2
  clear e0 e1 e2 e3 f0 f1 f2 f3 f4 f5 g0 g1 g2 g3 h0 h1 h2 h3 h4 h5
  have AB4:=(((((((AB3.out.setR 0 (.slice none 0 0)).setR 1 (.slice none 0 0)).setR 2 (.int .i64 0)).setI 0 (.int .i64 0)).setI 1 (.int .i64 0)).setI 2 (.int .i64 0)).setI 3 (.int .i64 0)).setI 4 (.bool false)
  obtain ⟨_,r5,l5⟩:=AB4.rd
  obtain ⟨_,r6,l6⟩:=AB4.rm
  refine bodyPost_ret (v := .tuple #[nilD,nilM,.int .i64 cc]) ?_ rfl ?_
  ·obtain ⟨e0,e1,e2,e3,e4,e5,e6,e7⟩:=fin8 r5 r6 l5 l6 (by omega) (.slice none 0 0) (.slice none 0 0) (.int .i64 0) (.int .i64 0) (.int .i64 0) (.int .i64 0) (.int .i64 0) (.bool false)
   unfold nilD nilM
   simp [results,Try.results23,go_sem,e0,e1,e2,e3,e4,e5,e6,e7]
  ·rw [← HCC.out,← HRR.out,← HMM.out]
   exact ⟨fun _ => (show ResErr _ _ from rfl),fun h => absurd h HC.out,below8 AB4.bel _ _ _ _ _ _ _ _⟩
set_option maxRecDepth 100000 in
set_option maxHeartbeats 4000000 in
theorem apply_4 (d:Pl.Dg) (hd:Pl.Valid d) (A B:Option Addr) (cp cq m:Nat) (x y:Nat) (s:Int) (o:Bool) (w:World) (hm:m = 4 * d.n) (hg:DgAt w A B d) (hin:inR d.n ⟨4,(x:Int),(y:Int),s,o⟩) :
 Calls Try.prog 23 #[.agg #[.slice A d.n cp,.slice B m cq,.int .i64 d.lp],(Mv.mk 4 (x:Int) (y:Int) s o).v] w (ResC (unpC d x y) (unpD d x y) (unpI d x y) w) := by
 have hn:=hd.wf.few
 have hlp:=hd.wf.lp
 have HM:=hide hm
 have HG:=hide hg
 have hm2:m ≤ 256:=by omega
 clear hm hg
 have PB0:=hide (boxes4 w (.slice A d.n cp) (.slice B m cq) (.int .i64 (d.lp:Int)) (.int .i64 4) (.int .i64 (x:Int)) (.int .i64 (y:Int)) (.int .i64 s) (.bool o))
 unfold W4 at PB0
 obtain ⟨x0,x1,x2,x3,b0,s0⟩:=PB0.out
 have X0:=hide x0
 have X1:=hide x1
 have X2:=hide x2
 have X3:=hide x3
 have B0:=hide b0
 have S0:=hide s0
 clear x0 x1 x2 x3 b0 s0 PB0
 unfold Mv.v
 go_enter Try.func23,Try.ntmps23
 go_wp2_with fail
 refine (valid_yes d hd A B cp cq m _ HM.out (HG.out.keep B0.out)).mono ?_
 rintro e w1 ⟨rfl,hb1⟩
 have Y0:=hide (X0.out.below hb1)
 have Y1:=hide (X1.out.below hb1)
 have Y2:=hide (X2.out.below hb1)
 have Y3:=hide (X3.out.below hb1)
 have B1:=hide (B0.out.trans (hb1.mono B0.out.size))
 have hsz1:w.heap.size + 4 ≤ w1.heap.size:=by have := hb1.size; have := S0.out; omega
 clear X0 X1 X2 X3 B0 S0 hb1
 obtain ⟨d0,d1,d2,d3⟩:=box3 Y0.out
 obtain ⟨m0,m1,m2,m3,m4,m5⟩:=box5 Y1.out
 go_wp2_with fail
 refine (inRange_4 d.n (x:Int) (y:Int) s o w1 (by omega)).mono ?_
 rintro e w2 ⟨rfl,hb2⟩
 rw [Pl.vb_true hin]
 have hsz:w.heap.size + 4 ≤ w2.heap.size:=by have := hb2.size; omega
 have AB2:=hide (show AB w w2.heap.size (w2.heap.size + 1) [.slice A d.n cp,.slice B m cq,.int .i64 (d.lp:Int)] [.int .i64 4,.int .i64 (x:Int),.int .i64 (y:Int),.int .i64 s,.bool o] ((w2.alloc (.cells #[.slice none 0 0,.slice none 0 0,.int .i64 0] 24)).alloc (.cells #[.int .i64 0,.int .i64 0,.int .i64 0,.int .i64 0,.bool false] 37)) from
  ⟨((Y0.out.below hb2).alloc _).alloc _,((Y1.out.below hb2).alloc _).alloc _,⟨_,((Y2.out.below hb2).alloc _).alloc _,rfl⟩,⟨_,((Y3.out.below hb2).alloc _).alloc _,rfl⟩,⟨_,(row_at (vs := [_,_,_]) rfl).alloc _,rfl⟩,⟨_,row_at (vs := [_,_,_,_,_]) (by simp),rfl⟩,((B1.out.trans (hb2.mono B1.out.size)).alloc (B1.out.trans (hb2.mono B1.out.size)).size _).alloc ((B1.out.trans (hb2.mono B1.out.size)).alloc (B1.out.trans (hb2.mono B1.out.size)).size _).size _,by omega,by omega,by omega⟩)
 obtain ⟨d0',d1',d2',d3'⟩:=box3 (Y0.out.below hb2)
 obtain ⟨m0',m1',m2',m3',m4',m5'⟩:=box5 (Y1.out.below hb2)
 clear d0 d1 d2 d3 m0 m1 m2 m3 m4 m5 Y0 Y1 Y2 Y3 B1 hb2 hsz1
 have z1:w.heap.size < w2.heap.size:=by omega
 have z2:w.heap.size + 1 < w2.heap.size:=by omega
 have hx:x < y:=by have := hin; unfold inR at this; simp at this; omega
 have hy:y < d.n:=by have := hin; unfold inR at this; simp at this; omega
 have HG2:=hide (HG.out.keep AB2.out.bel)
 go_wp2_with fail
 obtain ⟨gr,hgr⟩:∃ g,g = w2.heap.size := ⟨_,rfl⟩
 obtain ⟨gi,hgi⟩:∃ g,g = w2.heap.size + 1 := ⟨_,rfl⟩
 rw [← hgi,← hgr] at AB2
 rw [← hgi,← hgr]
 clear hgr hgi
 refine (unpoke_m d hd.wf A B cp cq m x y 4 s o _ HM.out HG2.out hx hy).mono ?_
 intro e w3 hres
 have AB3:=hide (AB2.out.below hres.2.2)
 obtain ⟨cc,hcc⟩:∃ c,c = unpC d x y := ⟨_,rfl⟩
 obtain ⟨rr,hrr⟩:∃ r,r = unpD d x y := ⟨_,rfl⟩
 obtain ⟨mm,hmm⟩:∃ r,r = unpI d x y := ⟨_,rfl⟩
 unfold ResC at hres
 rw [← hcc,← hrr,← hmm] at hres
 have HCC:=hide hcc
 have HRR:=hide hrr
 have HMM:=hide hmm
 clear hcc hrr hmm d0' d1' d2' d3' m0' m1' m2' m3' m4' m5' AB2 HG2
 by_cases hc:cc = 0
 ·obtain ⟨A9,B9,c8,c9,k9,x9,y9,s9,o9,hmv,rfl,hT⟩:=ResOk.split (hres.2.1 hc)
  have HMV:=hide hmv
  have HC:=hide hc
  clear hmv hc
  have AD3:=hide (show AD w gr gi _ _ A9 B9 rr w3 from ⟨AB3.out,hT⟩)
  clear hT
  obtain ⟨N9,hN9⟩:∃ n,n = rr.n := ⟨_,rfl⟩
  obtain ⟨L9,hL9⟩:∃ n,n = rr.lp := ⟨_,rfl⟩
  rw [← hN9,← hL9]
  have HN9:=hide hN9
  have HL9:=hide hL9
  clear hN9 hL9
  obtain ⟨_,r3,l3⟩:=AB3.out.r
  obtain ⟨_,r4,l4⟩:=AB3.out.i
  obtain ⟨_,r5,l5⟩:=AB3.out.rd
  obtain ⟨_,r6,l6⟩:=AB3.out.rm
  obtain ⟨e0,e1,e2,e3⟩:=cells3 r3 l3
  obtain ⟨f0,f1,f2,f3,f4,f5⟩:=cells5 r4 l4
  obtain ⟨g0,g1,g2,g3⟩:=cells3 r5 l5
  obtain ⟨h0,h1,h2,h3,h4,h5⟩:=cells5 r6 l6
  have y1:gr ≠ w.heap.size + 1 + 1:=by have := AB3.out.lr; omega
  have y2:gr ≠ w.heap.size + 1 + 1 + 1:=by have := AB3.out.lr; omega
  have y3:gi ≠ w.heap.size + 1 + 1:=by have := AB3.out.li; omega
  have y4:gi ≠ w.heap.size + 1 + 1 + 1:=by have := AB3.out.li; omega
  have y5:gr ≠ gi:=AB3.out.ne
  have y6:w.heap.size + 1 + 1 ≠ w.heap.size + 1 + 1 + 1:=by omega
  clear r3 l3 r4 l4 r5 l5 r6 l6
  go_upto_region 22 with fail
  go_region
  go_wp2_with fail
  clear e0 e1 e2 e3 f0 f1 f2 f3 f4 f5 g0 g1 g2 g3 h0 h1 h2 h3 h4 h5
  have AD4:=hide ((((((((AD3.out.setR 0 (.slice A9 N9 c8)).setR 1 (.slice B9 (4 * N9) c9)).setR 2 (.int .i64 (L9:Int))).setI 0 (.int .i64 k9)).setI 1 (.int .i64 x9)).setI 2 (.int .i64 y9)).setI 3 (.int .i64 s9)).setI 4 (.bool o9))
  obtain ⟨_,r5,l5⟩:=AD4.out.b.rd
  obtain ⟨_,r6,l6⟩:=AD4.out.b.rm
  refine bodyPost_ret (v := .tuple #[.agg #[.slice A9 N9 c8,.slice B9 (4 * N9) c9,.int .i64 (L9:Int)],.agg #[.int .i64 k9,.int .i64 x9,.int .i64 y9,.int .i64 s9,.bool o9],.int .i64 0]) ?_ rfl ?_
  ·obtain ⟨e0,e1,e2,e3,e4,e5,e6,e7⟩:=fin8 r5 r6 l5 l6 (by omega) (.slice A9 N9 c8) (.slice B9 (4 * N9) c9) (.int .i64 (L9:Int)) (.int .i64 k9) (.int .i64 x9) (.int .i64 y9) (.int .i64 s9) (.bool o9)
   simp [results,Try.results23,go_sem,e0,e1,e2,e3,e4,e5,e6,e7]
  ·have AD5:=(((((((AD4.out.setD 0 (.slice A9 N9 c8)).setD 1 (.slice B9 (4 * N9) c9)).setD 2 (.int .i64 (L9:Int))).setM 0 (.int .i64 k9)).setM 1 (.int .i64 x9)).setM 2 (.int .i64 y9)).setM 3 (.int .i64 s9)).setM 4 (.bool o9)
   rw [← HCC.out,← HRR.out,← HMM.out]
   refine ⟨fun h => absurd HC.out h,fun _ => ⟨A9,B9,c8,c9,by rw [HMV.out,← HN9.out,← HL9.out]; rfl,AD5.drew.t⟩,AD5.drew.b.bel⟩
 ·have HC:=hide hc
  have hE:=ResErr.split (hres.1 hc)
  subst hE
  have t1:(cc != 0) = true:=by rw [bne_iff_ne]; exact hc
  clear hc
  obtain ⟨_,r3,l3⟩:=AB3.out.r
  obtain ⟨_,r4,l4⟩:=AB3.out.i
  obtain ⟨_,r5,l5⟩:=AB3.out.rd
  obtain ⟨_,r6,l6⟩:=AB3.out.rm
  obtain ⟨e0,e1,e2,e3⟩:=cells3 r3 l3
  obtain ⟨f0,f1,f2,f3,f4,f5⟩:=cells5 r4 l4
  obtain ⟨g0,g1,g2,g3⟩:=cells3 r5 l5
  obtain ⟨h0,h1,h2,h3,h4,h5⟩:=cells5 r6 l6
  have y1:gr ≠ w.heap.size + 1 + 1:=by have := AB3.out.lr; omega
  have y2:gr ≠ w.heap.size + 1 + 1 + 1:=by have := AB3.out.lr; omega
  have y3:gi ≠ w.heap.size + 1 + 1:=by have := AB3.out.li; omega
  have y4:gi ≠ w.heap.size + 1 + 1 + 1:=by have := AB3.out.li; omega
  have y5:gr ≠ gi:=AB3.out.ne
  have y6:w.heap.size + 1 + 1 ≠ w.heap.size + 1 + 1 + 1:=by omega
  clear r3 l3 r4 l4 r5 l5 r6 l6
  go_wp2
  clear e0 e1 e2 e3 f0 f1 f2 f3 f4 f5 g0 g1 g2 g3 h0 h1 h2 h3 h4 h5
  have AB4:=(((((((AB3.out.setR 0 (.slice none 0 0)).setR 1 (.slice none 0 0)).setR 2 (.int .i64 0)).setI 0 (.int .i64 0)).setI 1 (.int .i64 0)).setI 2 (.int .i64 0)).setI 3 (.int .i64 0)).setI 4 (.bool false)
  obtain ⟨_,r5,l5⟩:=AB4.rd
  obtain ⟨_,r6,l6⟩:=AB4.rm
  refine bodyPost_ret (v := .tuple #[nilD,nilM,.int .i64 cc]) ?_ rfl ?_
  ·obtain ⟨e0,e1,e2,e3,e4,e5,e6,e7⟩:=fin8 r5 r6 l5 l6 (by omega) (.slice none 0 0) (.slice none 0 0) (.int .i64 0) (.int .i64 0) (.int .i64 0) (.int .i64 0) (.int .i64 0) (.bool false)
   unfold nilD nilM
   simp [results,Try.results23,go_sem,e0,e1,e2,e3,e4,e5,e6,e7]
  ·rw [← HCC.out,← HRR.out,← HMM.out]
   exact ⟨fun _ => (show ResErr _ _ from rfl),fun h => absurd h HC.out,below8 AB4.bel _ _ _ _ _ _ _ _⟩
def nearP (d:Pl.Dg) (x y:Nat):Prop := (Pl.Orb (Pl.nx d) x y ∨ ¬ Pl.Comp d (x / 4) (y / 4)) ∧ d.m x ≠ y
noncomputable def pkQ (d:Pl.Dg) (x y sg:Int):Int :=
 if d.lp < needP x y sg then 6 else if Pl.vb (0 ≤ x ∧ 0 ≤ y ∧ x ≠ y ∧ ¬ nearP d x.toNat y.toNat) = true then 6 else if 64 < d.n + 2 then 5 else 0
theorem pkC_eq {d:Pl.Dg} {F P:List Nat} (hF:∀ x y,x < 4 * d.n → y < 4 * d.n → (F.getD x 0 = F.getD y 0 ↔ Pl.Orb (Pl.nx d) x y)) (hP:∀ x y,x < d.n → y < d.n → (P.getD x 0 = P.getD y 0 ↔ Pl.Comp d x y)) {x y sg:Int} (hx:x < 4 * d.n) (hy:y < 4 * d.n):pkC d F P x y sg = pkQ d x y sg := by
 unfold pkC pkQ
 by_cases hl:d.lp < needP x y sg
 ·rw [if_pos hl,if_pos hl]
 rw [if_neg hl,if_neg hl]
 by_cases h0:0 ≤ x ∧ 0 ≤ y
 ·have e : nearB F P d x.toNat y.toNat = false ↔ ¬ nearP d x.toNat y.toNat := by
   have h1:=hF x.toNat y.toNat (by omega) (by omega)
   have h2:=hP (x.toNat / 4) (y.toNat / 4) (by omega) (by omega)
   unfold nearB nearP
   rw [← h1,← h2]
   by_cases q1:F.getD x.toNat 0 = F.getD y.toNat 0 <;> by_cases q2:P.getD (x.toNat / 4) 0 = P.getD (y.toNat / 4) 0 <;> by_cases q3:d.m x.toNat = y.toNat <;> simp [q1,q2,q3]
  by_cases h3:x ≠ y ∧ nearB F P d x.toNat y.toNat = false
  ·rw [if_pos (show 0 ≤ x ∧ 0 ≤ y ∧ x ≠ y ∧ nearB F P d x.toNat y.toNat = false from ⟨h0.1,h0.2,h3⟩),if_pos (Pl.vb_true ⟨h0.1,h0.2,h3.1,e.1 h3.2⟩)]
  ·rw [if_neg (show ¬ (0 ≤ x ∧ 0 ≤ y ∧ x ≠ y ∧ nearB F P d x.toNat y.toNat = false) from fun h => h3 h.2.2),if_neg (show ¬ (Pl.vb (0 ≤ x ∧ 0 ≤ y ∧ x ≠ y ∧ ¬ nearP d x.toNat y.toNat) = true) by rw [Pl.vb_false (fun h => h3 ⟨h.2.2.1,e.2 h.2.2.2⟩)]; decide)]
 ·rw [if_neg (show ¬ (0 ≤ x ∧ 0 ≤ y ∧ x ≠ y ∧ nearB F P d x.toNat y.toNat = false) from fun h => h0 ⟨h.1,h.2.1⟩),if_neg (show ¬ (Pl.vb (0 ≤ x ∧ 0 ≤ y ∧ x ≠ y ∧ ¬ nearP d x.toNat y.toNat) = true) by rw [Pl.vb_false (fun h => h0 ⟨h.1,h.2.1⟩)]; decide)]
theorem AB.all {w W:World} {gr gi:Nat} {x0 x1 x2 y0 y1 y2 y3 y4:Value} (h:AB w gr gi [x0,x1,x2] [y0,y1,y2,y3,y4] W) :
 W.cell? ⟨w.heap.size,0,none⟩ = some x0 ∧ W.cell? ⟨w.heap.size,1,none⟩ = some x1 ∧ W.cell? ⟨w.heap.size,2,none⟩ = some x2 ∧
 W.cell? ⟨w.heap.size + 1,0,none⟩ = some y0 ∧ W.cell? ⟨w.heap.size + 1,1,none⟩ = some y1 ∧ W.cell? ⟨w.heap.size + 1,2,none⟩ = some y2 ∧ W.cell? ⟨w.heap.size + 1,3,none⟩ = some y3 ∧ W.cell? ⟨w.heap.size + 1,4,none⟩ = some y4 ∧
 W.cell? ⟨gr,0,none⟩ = some (cv W ⟨gr,0,none⟩) ∧ W.cell? ⟨gr,1,none⟩ = some (cv W ⟨gr,1,none⟩) ∧ W.cell? ⟨gr,2,none⟩ = some (cv W ⟨gr,2,none⟩) ∧
 W.cell? ⟨gi,0,none⟩ = some (cv W ⟨gi,0,none⟩) ∧ W.cell? ⟨gi,1,none⟩ = some (cv W ⟨gi,1,none⟩) ∧ W.cell? ⟨gi,2,none⟩ = some (cv W ⟨gi,2,none⟩) ∧ W.cell? ⟨gi,3,none⟩ = some (cv W ⟨gi,3,none⟩) ∧ W.cell? ⟨gi,4,none⟩ = some (cv W ⟨gi,4,none⟩) ∧
 (∀ o,W.frozen? ⟨gr,o,none⟩ = false) ∧ (∀ o,W.frozen? ⟨gi,o,none⟩ = false) ∧ AB w gr gi [x0,x1,x2] [y0,y1,y2,y3,y4] W := by
 obtain ⟨_,r1,k1⟩:=h.r
 obtain ⟨_,r2,k2⟩:=h.i
 obtain ⟨d0,d1,d2,_⟩:=box3 h.d
 obtain ⟨m0,m1,m2,m3,m4,_⟩:=box5 h.m
 obtain ⟨e0,e1,e2,e3⟩:=cells3 r1 k1
 obtain ⟨f0,f1,f2,f3,f4,f5⟩:=cells5 r2 k2
 exact ⟨d0,d1,d2,m0,m1,m2,m3,m4,e0,e1,e2,f0,f1,f2,f3,f4,e3,f5,h⟩
set_option maxRecDepth 100000 in
set_option maxHeartbeats 8000000 in
theorem apply_3 (d:Pl.Dg) (hd:Pl.Valid d) (A B:Option Addr) (cp cq m:Nat) (x y s:Int) (o:Bool) (w:World) (hm:m = 4 * d.n) (hg:DgAt w A B d) (hin:inR d.n ⟨3,x,y,s,o⟩) :
 Calls Try.prog 23 #[.agg #[.slice A d.n cp,.slice B m cq,.int .i64 d.lp],(Mv.mk 3 x y s o).v] w (ResC (pkQ d x y s) (pkD d x y s o) (⟨4,d.n,d.n + 1,0,false⟩:Mv) w) := by
 have hn:=hd.wf.few
 have hlp:=hd.wf.lp
 have HM:=hide hm
 have HG:=hide hg
 have hm2:m ≤ 256:=by omega
 clear hm hg
 have PB0:=hide (boxes4 w (.slice A d.n cp) (.slice B m cq) (.int .i64 (d.lp:Int)) (.int .i64 3) (.int .i64 x) (.int .i64 y) (.int .i64 s) (.bool o))
 unfold W4 at PB0
 obtain ⟨x0,x1,x2,x3,b0,s0⟩:=PB0.out
 have X0:=hide x0
 have X1:=hide x1
 have X2:=hide x2
 have X3:=hide x3
 have B0:=hide b0
 have S0:=hide s0
 clear x0 x1 x2 x3 b0 s0 PB0
 unfold Mv.v
 go_enter Try.func23,Try.ntmps23
 go_wp2_with fail
 refine (valid_yes d hd A B cp cq m _ HM.out (HG.out.keep B0.out)).mono ?_
 rintro e w1 ⟨rfl,hb1⟩
 have Y0:=hide (X0.out.below hb1)
 have Y1:=hide (X1.out.below hb1)
 have Y2:=hide (X2.out.below hb1)
 have Y3:=hide (X3.out.below hb1)
 have B1:=hide (B0.out.trans (hb1.mono B0.out.size))
 have hsz1:w.heap.size + 4 ≤ w1.heap.size:=by have := hb1.size; have := S0.out; omega
 clear X0 X1 X2 X3 B0 S0 hb1
 obtain ⟨d0,d1,d2,d3⟩:=box3 Y0.out
 obtain ⟨m0,m1,m2,m3,m4,m5⟩:=box5 Y1.out
 go_wp2_with fail
 refine (inRange_3 d.n x y s o w1 (by omega)).mono ?_
 rintro e w2 ⟨rfl,hb2⟩
 rw [Pl.vb_true hin]
 have hsz:w.heap.size + 4 ≤ w2.heap.size:=by have := hb2.size; omega
 have AB2:=hide (show AB w w2.heap.size (w2.heap.size + 1) [.slice A d.n cp,.slice B m cq,.int .i64 (d.lp:Int)] [.int .i64 3,.int .i64 x,.int .i64 y,.int .i64 s,.bool o] ((w2.alloc (.cells #[.slice none 0 0,.slice none 0 0,.int .i64 0] 24)).alloc (.cells #[.int .i64 0,.int .i64 0,.int .i64 0,.int .i64 0,.bool false] 37)) from
  ⟨((Y0.out.below hb2).alloc _).alloc _,((Y1.out.below hb2).alloc _).alloc _,⟨_,((Y2.out.below hb2).alloc _).alloc _,rfl⟩,⟨_,((Y3.out.below hb2).alloc _).alloc _,rfl⟩,⟨_,(row_at (vs := [_,_,_]) rfl).alloc _,rfl⟩,⟨_,row_at (vs := [_,_,_,_,_]) (by simp),rfl⟩,((B1.out.trans (hb2.mono B1.out.size)).alloc (B1.out.trans (hb2.mono B1.out.size)).size _).alloc ((B1.out.trans (hb2.mono B1.out.size)).alloc (B1.out.trans (hb2.mono B1.out.size)).size _).size _,by omega,by omega,by omega⟩)
 obtain ⟨d0',d1',d2',d3'⟩:=box3 (Y0.out.below hb2)
 obtain ⟨m0',m1',m2',m3',m4',m5'⟩:=box5 (Y1.out.below hb2)
 clear d0 d1 d2 d3 m0 m1 m2 m3 m4 m5 Y0 Y1 Y2 Y3 B1 hb2 hsz1
 have z1:w.heap.size < w2.heap.size:=by omega
 have z2:w.heap.size + 1 < w2.heap.size:=by omega
 have hin':=hin
 unfold inR at hin'
 simp only [show ¬ ((3:Int) = 1) by decide,show ¬ ((3:Int) = 2) by decide,show ¬ ((3:Int) = 4) by decide,show ¬ ((3:Int) = 5) by decide,if_false] at hin'
 obtain ⟨i1,i2,i3,i4,i5⟩:=hin'
 have hxr:-2 ≤ x ∧ x < 4 * d.n:=⟨i1,i2⟩
 have hyr:-2 ≤ y ∧ y < 4 * d.n:=⟨i3,i4⟩
 have hs3:s = 0 ∨ s = 1 ∨ s = -1:=by
  by_cases e1:x ≠ y
  ·rw [if_pos e1] at i5; omega
  ·rw [if_neg e1] at i5
   by_cases e2:x < 0
   ·rw [if_pos e2] at i5; omega
   ·rw [if_neg e2] at i5; omega
 have hsn:s = -1 → 0 ≤ x:=by
  intro hs
  by_cases e1:x ≠ y
  ·rw [if_pos e1] at i5; omega
  ·rw [if_neg e1] at i5
   by_cases e2:x < 0
   ·rw [if_pos e2] at i5; omega
   ·omega
 clear i1 i2 i3 i4 i5
 go_upto_region 17 with fail
 obtain ⟨gr,hgr⟩:∃ g,g = w2.heap.size := ⟨_,rfl⟩
 obtain ⟨gi,hgi⟩:∃ g,g = w2.heap.size + 1 := ⟨_,rfl⟩
 obtain ⟨V2,hV2⟩:∃ V:World,V = ((w2.alloc (.cells #[.slice none 0 0,.slice none 0 0,.int .i64 0] 24)).alloc (.cells #[.int .i64 0,.int .i64 0,.int .i64 0,.int .i64 0,.bool false] 37)) := ⟨_,rfl⟩
 rw [← hgi,← hgr,← hV2] at AB2
 rw [← hgi,← hgr,← hV2]
 clear hgr hgi hV2 d0' d1' d2' d3' m0' m1' m2' m3' m4' m5' z1 z2 hsz
 obtain ⟨cc,hcc⟩:∃ c,c = pkQ d x y s := ⟨_,rfl⟩
 obtain ⟨rr,hrr⟩:∃ r,r = pkD d x y s o := ⟨_,rfl⟩
 obtain ⟨mm,hmm⟩:∃ r,r = (⟨4,d.n,d.n + 1,0,false⟩:Mv) := ⟨_,rfl⟩
 have HCC:=hide hcc
 have HRR:=hide hrr
 have HMM:=hide hmm
 clear hcc hrr hmm
 by_cases hc:cc = 0
 ·have HC:=hide hc
  obtain ⟨c0,c1,c2,c3,c4,c5,c6,c7,c8',c9',c10,c11,c12,c13,c14,c15,c16,c17,_⟩:=AB2.out.all
  go_region_held3 (fun w' => w'.cell? ⟨w.heap.size,0,none⟩ = some (.slice A d.n cp) ∧ w'.cell? ⟨w.heap.size,1,none⟩ = some (.slice B m cq) ∧ w'.cell? ⟨w.heap.size,2,none⟩ = some (.int .i64 (d.lp:Int)) ∧
   w'.cell? ⟨w.heap.size + 1,0,none⟩ = some (.int .i64 3) ∧ w'.cell? ⟨w.heap.size + 1,1,none⟩ = some (.int .i64 x) ∧ w'.cell? ⟨w.heap.size + 1,2,none⟩ = some (.int .i64 y) ∧ w'.cell? ⟨w.heap.size + 1,3,none⟩ = some (.int .i64 s) ∧ w'.cell? ⟨w.heap.size + 1,4,none⟩ = some (.bool o) ∧
   w'.cell? ⟨gr,0,none⟩ = some (cv w' ⟨gr,0,none⟩) ∧ w'.cell? ⟨gr,1,none⟩ = some (cv w' ⟨gr,1,none⟩) ∧ w'.cell? ⟨gr,2,none⟩ = some (cv w' ⟨gr,2,none⟩) ∧
   w'.cell? ⟨gi,0,none⟩ = some (cv w' ⟨gi,0,none⟩) ∧ w'.cell? ⟨gi,1,none⟩ = some (cv w' ⟨gi,1,none⟩) ∧ w'.cell? ⟨gi,2,none⟩ = some (cv w' ⟨gi,2,none⟩) ∧ w'.cell? ⟨gi,3,none⟩ = some (cv w' ⟨gi,3,none⟩) ∧ w'.cell? ⟨gi,4,none⟩ = some (cv w' ⟨gi,4,none⟩) ∧
   (∀ o,w'.frozen? ⟨gr,o,none⟩ = false) ∧ (∀ o,w'.frozen? ⟨gi,o,none⟩ = false) ∧ AB w gr gi [.slice A d.n cp,.slice B m cq,.int .i64 (d.lp:Int)] [.int .i64 3,.int .i64 x,.int .i64 y,.int .i64 s,.bool o] w')
   ((go_split_ands; refine AB.all ?_; (repeat (first | (with_reducible assumption) | (with_reducible exact AB2.out) | (with_reducible refine AB.setR ?_ _ _) | (with_reducible refine AB.setI ?_ _ _) | (with_reducible refine AB.drew ?_) | (with_reducible refine AB.below ?_ hb5) | (with_reducible refine AB.below ?_ hb4)))))
   (first
     | (have hx4 := hb4
        clear hx4
        go_at_call 51
        refine Calls.mono (poke_any d hd.wf F P A B L R cp cq cl cr (4 * d.n) 3 x y s o _ rfl hsh hxr hyr hs3 hsn) ?_
        rintro e w5 ⟨hr1,hr2,hb5⟩
        rw [pkC_eq hF hP hxr.2 hyr.2] at hr1 hr2
        obtain ⟨A9,B9,c8,c9,k9,x9,y9,s9,o9,hmv,rfl,hT⟩:=ResOk.split (hr2 (by rw [← HCC.out]; exact HC.out))
        have HMV:=hide (show mm = ⟨k9,x9,y9,s9,o9⟩ by rw [HMM.out]; exact hmv)
        have hT3:=hide (show DgT w5 A9 B9 rr by rw [HRR.out]; exact hT)
        have HRN:=hide (show (pkD d x y s o).n = rr.n by rw [HRR.out])
        have HRL:=hide (show (pkD d x y s o).lp = rr.lp by rw [HRR.out])
        clear hmv hT hr1 hr2)
     | (go_at_call 52
        refine Calls.mono (survey_any d hd A B cp cq m _ HM.out ?_) ?_
        ·exact HG.out.keep AB2.out.drew.bel
        rintro e w4 ⟨L,R,cl,cr,F,P,rfl,hsh,hF,hP,hb4⟩))
  clear c0 c1 c2 c3 c4 c5 c6 c7 c8' c9' c10 c11 c12 c13 c14 c15 c16 c17
  have AB3:=hide ((AB2.out.drew.below hb4).below hb5)
  obtain ⟨w3,hw3⟩:∃ w3:World,w3 = w5 := ⟨_,rfl⟩
  rw [← hw3] at AB3 ⊢
  rw [HRN.out,HRL.out]
  have hT:=hT3.out
  rw [← hw3] at hT
  clear hw3 hc
  have AD3:=hide (show AD w gr gi _ _ A9 B9 rr w3 from ⟨AB3.out,hT⟩)
  clear hT
  obtain ⟨N9,hN9⟩:∃ n,n = rr.n := ⟨_,rfl⟩
  obtain ⟨L9,hL9⟩:∃ n,n = rr.lp := ⟨_,rfl⟩
  rw [← hN9,← hL9]
  have HN9:=hide hN9
  have HL9:=hide hL9
  clear hN9 hL9
  obtain ⟨_,r3,l3⟩:=AB3.out.r
  obtain ⟨_,r4,l4⟩:=AB3.out.i
  obtain ⟨_,r5,l5⟩:=AB3.out.rd
  obtain ⟨_,r6,l6⟩:=AB3.out.rm
  obtain ⟨e0,e1,e2,e3⟩:=cells3 r3 l3
  obtain ⟨f0,f1,f2,f3,f4,f5⟩:=cells5 r4 l4
  obtain ⟨g0,g1,g2,g3⟩:=cells3 r5 l5
  obtain ⟨h0,h1,h2,h3,h4,h5⟩:=cells5 r6 l6
  have y1:gr ≠ w.heap.size + 1 + 1:=by have := AB3.out.lr; omega
  have y2:gr ≠ w.heap.size + 1 + 1 + 1:=by have := AB3.out.lr; omega
  have y3:gi ≠ w.heap.size + 1 + 1:=by have := AB3.out.li; omega
  have y4:gi ≠ w.heap.size + 1 + 1 + 1:=by have := AB3.out.li; omega
  have y5:gr ≠ gi:=AB3.out.ne
  have y6:w.heap.size + 1 + 1 ≠ w.heap.size + 1 + 1 + 1:=by omega
  clear r3 l3 r4 l4 r5 l5 r6 l6
  go_upto_region 22 with fail
  go_region
  go_wp2_with fail
  clear e0 e1 e2 e3 f0 f1 f2 f3 f4 f5 g0 g1 g2 g3 h0 h1 h2 h3 h4 h5
  have AD4:=hide ((((((((AD3.out.setR 0 (.slice A9 N9 c8)).setR 1 (.slice B9 (4 * N9) c9)).setR 2 (.int .i64 (L9:Int))).setI 0 (.int .i64 k9)).setI 1 (.int .i64 x9)).setI 2 (.int .i64 y9)).setI 3 (.int .i64 s9)).setI 4 (.bool o9))
  obtain ⟨_,r5,l5⟩:=AD4.out.b.rd
  obtain ⟨_,r6,l6⟩:=AD4.out.b.rm
  refine bodyPost_ret (v := .tuple #[.agg #[.slice A9 N9 c8,.slice B9 (4 * N9) c9,.int .i64 (L9:Int)],.agg #[.int .i64 k9,.int .i64 x9,.int .i64 y9,.int .i64 s9,.bool o9],.int .i64 0]) ?_ rfl ?_
  ·obtain ⟨e0,e1,e2,e3,e4,e5,e6,e7⟩:=fin8 r5 r6 l5 l6 (by omega) (.slice A9 N9 c8) (.slice B9 (4 * N9) c9) (.int .i64 (L9:Int)) (.int .i64 k9) (.int .i64 x9) (.int .i64 y9) (.int .i64 s9) (.bool o9)
   simp [results,Try.results23,go_sem,e0,e1,e2,e3,e4,e5,e6,e7]
  ·have AD5:=(((((((AD4.out.setD 0 (.slice A9 N9 c8)).setD 1 (.slice B9 (4 * N9) c9)).setD 2 (.int .i64 (L9:Int))).setM 0 (.int .i64 k9)).setM 1 (.int .i64 x9)).setM 2 (.int .i64 y9)).setM 3 (.int .i64 s9)).setM 4 (.bool o9)
   rw [← HCC.out,← HRR.out,← HMM.out]
   refine ⟨fun h => absurd HC.out h,fun _ => ⟨A9,B9,c8,c9,by rw [HMV.out,← HN9.out,← HL9.out]; rfl,AD5.drew.t⟩,AD5.drew.b.bel⟩
 ·have HC:=hide hc
  obtain ⟨c0,c1,c2,c3,c4,c5,c6,c7,c8',c9',c10,c11,c12,c13,c14,c15,c16,c17,_⟩:=AB2.out.all
  go_region_held3 (fun w' => w'.cell? ⟨w.heap.size,0,none⟩ = some (.slice A d.n cp) ∧ w'.cell? ⟨w.heap.size,1,none⟩ = some (.slice B m cq) ∧ w'.cell? ⟨w.heap.size,2,none⟩ = some (.int .i64 (d.lp:Int)) ∧
   w'.cell? ⟨w.heap.size + 1,0,none⟩ = some (.int .i64 3) ∧ w'.cell? ⟨w.heap.size + 1,1,none⟩ = some (.int .i64 x) ∧ w'.cell? ⟨w.heap.size + 1,2,none⟩ = some (.int .i64 y) ∧ w'.cell? ⟨w.heap.size + 1,3,none⟩ = some (.int .i64 s) ∧ w'.cell? ⟨w.heap.size + 1,4,none⟩ = some (.bool o) ∧
   w'.cell? ⟨gr,0,none⟩ = some (cv w' ⟨gr,0,none⟩) ∧ w'.cell? ⟨gr,1,none⟩ = some (cv w' ⟨gr,1,none⟩) ∧ w'.cell? ⟨gr,2,none⟩ = some (cv w' ⟨gr,2,none⟩) ∧
   w'.cell? ⟨gi,0,none⟩ = some (cv w' ⟨gi,0,none⟩) ∧ w'.cell? ⟨gi,1,none⟩ = some (cv w' ⟨gi,1,none⟩) ∧ w'.cell? ⟨gi,2,none⟩ = some (cv w' ⟨gi,2,none⟩) ∧ w'.cell? ⟨gi,3,none⟩ = some (cv w' ⟨gi,3,none⟩) ∧ w'.cell? ⟨gi,4,none⟩ = some (cv w' ⟨gi,4,none⟩) ∧
   (∀ o,w'.frozen? ⟨gr,o,none⟩ = false) ∧ (∀ o,w'.frozen? ⟨gi,o,none⟩ = false) ∧ AB w gr gi [.slice A d.n cp,.slice B m cq,.int .i64 (d.lp:Int)] [.int .i64 3,.int .i64 x,.int .i64 y,.int .i64 s,.bool o] w')
   ((go_split_ands; refine AB.all ?_; (repeat (first | (with_reducible assumption) | (with_reducible exact AB2.out) | (with_reducible refine AB.setR ?_ _ _) | (with_reducible refine AB.setI ?_ _ _) | (with_reducible refine AB.drew ?_) | (with_reducible refine AB.below ?_ hb5) | (with_reducible refine AB.below ?_ hb4)))))
   (first
     | (have hx4 := hb4
        clear hx4
        go_at_call 51
        refine Calls.mono (poke_any d hd.wf F P A B L R cp cq cl cr (4 * d.n) 3 x y s o _ rfl hsh hxr hyr hs3 hsn) ?_
        rintro e w5 ⟨hr1,hr2,hb5⟩
        rw [pkC_eq hF hP hxr.2 hyr.2] at hr1 hr2
        have hE:=ResErr.split (hr1 (by rw [← HCC.out]; exact HC.out))
        rw [← HCC.out] at hE
        subst hE
        clear hr1 hr2)
     | (go_at_call 52
        refine Calls.mono (survey_any d hd A B cp cq m _ HM.out ?_) ?_
        ·exact HG.out.keep AB2.out.drew.bel
        rintro e w4 ⟨L,R,cl,cr,F,P,rfl,hsh,hF,hP,hb4⟩))
  clear c0 c1 c2 c3 c4 c5 c6 c7 c8' c9' c10 c11 c12 c13 c14 c15 c16 c17
  have AB3:=hide ((AB2.out.drew.below hb4).below hb5)
  obtain ⟨w3,hw3⟩:∃ w3:World,w3 = w5 := ⟨_,rfl⟩
  rw [← hw3] at AB3 ⊢
  have t1:(cc != 0) = true:=by rw [bne_iff_ne]; exact hc
  clear hc hw3
  obtain ⟨_,r3,l3⟩:=AB3.out.r
  obtain ⟨_,r4,l4⟩:=AB3.out.i
  obtain ⟨_,r5,l5⟩:=AB3.out.rd
  obtain ⟨_,r6,l6⟩:=AB3.out.rm
  obtain ⟨e0,e1,e2,e3⟩:=cells3 r3 l3
  obtain ⟨f0,f1,f2,f3,f4,f5⟩:=cells5 r4 l4
  obtain ⟨g0,g1,g2,g3⟩:=cells3 r5 l5
  obtain ⟨h0,h1,h2,h3,h4,h5⟩:=cells5 r6 l6
  have y1:gr ≠ w.heap.size + 1 + 1:=by have := AB3.out.lr; omega
  have y2:gr ≠ w.heap.size + 1 + 1 + 1:=by have := AB3.out.lr; omega
  have y3:gi ≠ w.heap.size + 1 + 1:=by have := AB3.out.li; omega
  have y4:gi ≠ w.heap.size + 1 + 1 + 1:=by have := AB3.out.li; omega
  have y5:gr ≠ gi:=AB3.out.ne
  have y6:w.heap.size + 1 + 1 ≠ w.heap.size + 1 + 1 + 1:=by omega
  clear r3 l3 r4 l4 r5 l5 r6 l6
  go_wp2
  clear e0 e1 e2 e3 f0 f1 f2 f3 f4 f5 g0 g1 g2 g3 h0 h1 h2 h3 h4 h5
  have AB4:=(((((((AB3.out.setR 0 (.slice none 0 0)).setR 1 (.slice none 0 0)).setR 2 (.int .i64 0)).setI 0 (.int .i64 0)).setI 1 (.int .i64 0)).setI 2 (.int .i64 0)).setI 3 (.int .i64 0)).setI 4 (.bool false)
  obtain ⟨_,r5,l5⟩:=AB4.rd
  obtain ⟨_,r6,l6⟩:=AB4.rm
  refine bodyPost_ret (v := .tuple #[nilD,nilM,.int .i64 cc]) ?_ rfl ?_
  ·obtain ⟨e0,e1,e2,e3,e4,e5,e6,e7⟩:=fin8 r5 r6 l5 l6 (by omega) (.slice none 0 0) (.slice none 0 0) (.int .i64 0) (.int .i64 0) (.int .i64 0) (.int .i64 0) (.int .i64 0) (.bool false)
   unfold nilD nilM
   simp [results,Try.results23,go_sem,e0,e1,e2,e3,e4,e5,e6,e7]
  ·rw [← HCC.out,← HRR.out,← HMM.out]
   exact ⟨fun _ => (show ResErr _ _ from rfl),fun h => absurd h HC.out,below8 AB4.bel _ _ _ _ _ _ _ _⟩
end Go.Proofs.Ytghdiolnonejaaa
end
section
namespace Go.Proofs.Ytghdiolnonejaaa
open Go Go.RowKit
theorem getD_set2 (l:List Nat) (a b k z:Nat) (ha:a < l.length):(l.set a b).getD k z = if k = a then b else l.getD k z := by
 rw [List.getD_eq_getElem?_getD,List.getElem?_set,List.getD_eq_getElem?_getD]
 by_cases h:a = k
 ·subst h; simp [ha]
 ·rw [if_neg h,if_neg (Ne.symm h)]
theorem jn_m (l:List Nat) (a b k z:Nat) (ha:a < l.length) (hb:b < l.length):(jn l a b).getD k z = if k = b then a else if k = a then b else l.getD k z := by
 unfold jn
 rw [getD_set2 _ _ _ _ _ (by simpa using hb),getD_set2 _ _ _ _ _ ha]
theorem app_m {l:List Nat} {r:List Nat} {k z:Nat} (h:k < l.length):(l ++ r).getD k z = l.getD k z := by
 rw [List.getD_eq_getElem?_getD,List.getD_eq_getElem?_getD,List.getElem?_append_left h]
theorem kq (n:Nat) (sg:Int) (ov:Bool) (hs:sg = 1 ∨ sg = -1):Pl.Kq n (kI0 n sg ov) (kO0 n sg ov) (kI1 n sg ov) (kO1 n sg ov) := by
 unfold Pl.Kq kI0 kO0 kI1 kO1
 rcases hs with rfl | rfl <;> cases ov <;> simp
theorem crl_s {d:Pl.Dg} {x sg:Int} {ov:Bool} {c:Nat} (h:c < d.n):(crl d x sg ov).s c = d.s c := by
 unfold Pl.Dg.s crl
 simp only
 rw [List.getD_eq_getElem?_getD,List.getElem?_append_left h,← List.getD_eq_getElem?_getD]
theorem crl_s' (d:Pl.Dg) (x sg:Int) (ov:Bool):(crl d x sg ov).s d.n = sg := by
 unfold Pl.Dg.s crl Pl.Dg.n
 simp
theorem crl_kd {d:Pl.Dg} (hd:Pl.Wf d) {x sg:Int} {ov:Bool} (hs:sg = 1 ∨ sg = -1) (hn:d.n + 1 ≤ 64) (m1:(crl d x sg ov).m (kO0 d.n sg ov) = kI1 d.n sg ov) (m2:(crl d x sg ov).m (kI1 d.n sg ov) = kO0 d.n sg ov) :
 Pl.Kd d (crl d x sg ov) (kI0 d.n sg ov) (kO0 d.n sg ov) (kI1 d.n sg ov) (kO1 d.n sg ov) := by
 have s':=crl_s' d x sg ov
 have w1:∀ e,e < 4 → (4 * d.n + e) / 4 = d.n:=fun e h => by omega
 have w2:∀ e,e < 4 → (4 * d.n + e) % 4 = e:=fun e h => by omega
 have o:∀ e,e < 4 → Pl.out (crl d x sg ov) (4 * d.n + e) = (e == 2 || (e == 1 && sg == 1) || (e == 3 && sg == -1)):=fun e h => by
  unfold Pl.out; rw [w1 e h,w2 e h,s']
 have o0:=o 0 (by omega)
 have o1:=o 1 (by omega)
 have o2:=o 2 (by omega)
 have o3:=o 3 (by omega)
 rw [Nat.add_zero] at o0
 refine ⟨hn,crl_n _ _ _ _,?_,?_,fun c hc => crl_s hc,by rw [s']; exact hs,kq d.n sg ov hs,?_,?_,?_,?_,m1,m2⟩
 ·unfold crl
  have:=hd.len
  simp only
  split <;> (simp [jn_len,this]; omega)
 ·have:=hd.lp
  unfold crl; simp only; split <;> omega
 ·rcases hs with rfl | rfl <;> cases ov <;> simp [kI0,o0,o1,o2,o3]
 ·rcases hs with rfl | rfl <;> cases ov <;> simp [kI1,o0,o1,o2,o3]
 ·rcases hs with rfl | rfl <;> cases ov <;> simp [kO0,o0,o1,o2,o3]
 ·rcases hs with rfl | rfl <;> cases ov <;> simp [kO1,o0,o1,o2,o3]
theorem crl_mloop {d:Pl.Dg} (hd:Pl.Wf d) {x sg:Int} {ov:Bool} (hs:sg = 1 ∨ sg = -1) (hx:x < 0) (k:Nat):(crl d x sg ov).m k =
 if k = kI0 d.n sg ov then kO1 d.n sg ov else if k = kO1 d.n sg ov then kI0 d.n sg ov else if k = kI1 d.n sg ov then kO0 d.n sg ov else if k = kO0 d.n sg ov then kI1 d.n sg ov else (d.mt ++ List.replicate 4 0).getD k k := by
 obtain ⟨a1,a2,a3,a4,_⟩:=(kq d.n sg ov hs).bd
 have hl:=hd.len
 have e:(crl d x sg ov).mt = jn (jn (d.mt ++ List.replicate 4 0) (kO0 d.n sg ov) (kI1 d.n sg ov)) (kO1 d.n sg ov) (kI0 d.n sg ov):=by unfold crl; simp only [if_pos hx]
 unfold Pl.Dg.m
 rw [e,jn_m _ _ _ _ _ (by rw [jn_len]; simp; omega) (by rw [jn_len]; simp; omega),jn_m _ _ _ _ _ (by simp; omega) (by simp; omega)]
theorem crl_loop {d:Pl.Dg} (hd:Pl.Valid d) {x sg:Int} {ov:Bool} (hs:sg = 1 ∨ sg = -1) (hn:d.n + 1 ≤ 64) (hx:x < 0):Pl.Valid (crl d x sg ov) := by
 obtain ⟨a1,a2,a3,a4,n1,n2,n3,n4,n5,n6⟩:=(kq d.n sg ov hs).bd
 have hm:=crl_mloop hd.wf (x := x) (ov := ov) hs hx
 have hl:=hd.wf.len
 refine Pl.Kd.loop hd (crl_kd hd.wf hs hn ?_ ?_) (fun h hh => ?_) ?_ ?_
 ·rw [hm,if_neg (Ne.symm n1),if_neg n5,if_neg n4,if_pos rfl]
 ·rw [hm,if_neg (Ne.symm n2),if_neg n6,if_pos rfl]
 ·rw [hm,if_neg (by omega),if_neg (by omega),if_neg (by omega),if_neg (by omega),app_m (by omega)]; rfl
 ·rw [hm,if_neg (Ne.symm n3),if_pos rfl]
 ·rw [hm,if_pos rfl]
theorem crl_edge {d:Pl.Dg} (hd:Pl.Valid d) {x:Nat} {sg:Int} {ov:Bool} (hs:sg = 1 ∨ sg = -1) (hn:d.n + 1 ≤ 64) (hx:x < 4 * d.n) (ho:Pl.out d x = true):Pl.Valid (crl d (x:Int) sg ov) := by
 obtain ⟨a1,a2,a3,a4,n1,n2,n3,n4,n5,n6⟩:=(kq d.n sg ov hs).bd
 have hl:=hd.wf.len
 have hy:=hd.wf.lt x hx
 have hne:=hd.wf.ne x hx
 have e:(crl d (x:Int) sg ov).mt = jn (jn (jn (d.mt ++ List.replicate 4 0) (kO0 d.n sg ov) (kI1 d.n sg ov)) (kO1 d.n sg ov) (d.m x)) x (kI0 d.n sg ov):=by
  unfold crl; simp only [if_neg (show ¬ ((x:Int) < 0) by omega),Int.toNat_natCast]
 have hm:∀ k,(crl d (x:Int) sg ov).m k = if k = kI0 d.n sg ov then x else if k = x then kI0 d.n sg ov else if k = d.m x then kO1 d.n sg ov else if k = kO1 d.n sg ov then d.m x else if k = kI1 d.n sg ov then kO0 d.n sg ov else if k = kO0 d.n sg ov then kI1 d.n sg ov else (d.mt ++ List.replicate 4 0).getD k k:=fun k => by
  show (crl d (x:Int) sg ov).mt.getD k k = _
  rw [e,jn_m _ _ _ _ _ (by rw [jn_len,jn_len]; simp; omega) (by rw [jn_len,jn_len]; simp; omega),jn_m _ _ _ _ _ (by rw [jn_len]; simp; omega) (by rw [jn_len]; simp; omega),jn_m _ _ _ _ _ (by simp; omega) (by simp; omega)]
 refine Pl.Kd.edge hd (crl_kd hd.wf hs hn ?_ ?_) hx ho (fun h hh h1 h2 => ?_) ?_ ?_ ?_ ?_
 ·rw [hm,if_neg (Ne.symm n1),if_neg (by omega),if_neg (by omega),if_neg n5,if_neg n4,if_pos rfl]
 ·rw [hm,if_neg (Ne.symm n2),if_neg (by omega),if_neg (by omega),if_neg n6,if_pos rfl]
 ·rw [hm,if_neg (by omega),if_neg h1,if_neg h2,if_neg (by omega),if_neg (by omega),if_neg (by omega),app_m (by omega)]; rfl
 ·rw [hm,if_neg (Ne.symm n3),if_neg (by omega),if_neg (by omega),if_pos rfl]
 ·rw [hm,if_neg (by omega),if_neg hne,if_pos rfl]
 ·rw [hm,if_neg (by omega),if_pos rfl]
 ·rw [hm,if_pos rfl]
theorem valid_empty {l:Nat} (h:l ≤ 64):Pl.Valid ⟨[],[],l⟩ :=
 ⟨⟨Nat.zero_le 64,rfl,h,fun c hc => absurd hc (Nat.not_lt_zero _),fun c hc => absurd hc (by show ¬ c < 4 * 0; omega),fun c hc => absurd hc (by show ¬ c < 4 * 0; omega),fun c hc => absurd hc (by show ¬ c < 4 * 0; omega),fun c hc => absurd hc (by show ¬ c < 4 * 0; omega)⟩,fun c hc => absurd hc (Nat.not_lt_zero _)⟩
def two:Pl.Dg := ⟨[-1,1],[6,5,4,7,2,1,0,3],0⟩
theorem two_is:pkD ⟨[],[],2⟩ (-1) (-1) 0 false = two := by rfl
theorem least_two {f:Nat → Nat} {h:Nat} (e:f (f h) = h):Pl.Least f h ↔ h ≤ f h := by
 have key:∀ k,Pl.it f k h = h ∨ Pl.it f k h = f h:=by
  intro k
  induction k with
  | zero => exact .inl rfl
  | succ k ih =>
    show f (Pl.it f k h) = h ∨ f (Pl.it f k h) = f h
    rcases ih with ih | ih <;> rw [ih]
    ·exact .inr rfl
    ·exact .inl e
 constructor
 ·intro hl; exact hl 1
 ·intro hl k
  rcases key k with h1 | h1 <;> rw [h1]
  ·omega
  ·exact hl
theorem all_lt {p:Nat → Prop} [DecidablePred p] {n:Nat} (h:∀ k:Fin n,p k):∀ k,k < n → p k := fun k hk => h ⟨k,hk⟩
theorem two_wf:Pl.Wf two := by
 refine ⟨by decide,by decide,by decide,all_lt (n := 2) (p := fun c => two.s c = 1 ∨ two.s c = -1) (by decide),all_lt (n := 8) (p := fun c => two.m c < 4 * two.n) (by decide),all_lt (n := 8) (p := fun c => two.m c ≠ c) (by decide),all_lt (n := 8) (p := fun c => two.m (two.m c) = c) (by decide),all_lt (n := 8) (p := fun c => Pl.out two c ≠ Pl.out two (two.m c)) (by decide)⟩
theorem two_con:Pl.Comp two 0 1 ∧ Pl.Comp two 1 0 := by
 unfold Pl.Comp
 refine ⟨?_,?_⟩
 ·have h1:Pl.Con Pl.rot two.m 0 (Pl.rot (Pl.rot 0)):=.left (.left .refl)
  exact Pl.Con.right h1
 ·have h1:Pl.Con Pl.rot two.m 4 (Pl.rot (Pl.rot (two.m 4))):=.left (.left (.right .refl))
  exact h1
theorem two_valid:Pl.Valid two := by
 refine ⟨two_wf,fun c hc => ?_⟩
 have hc2:c = 0 ∨ c = 1:=by have:c < 2 := hc; omega
 have cc:∀ b,b < 2 → Pl.Comp two c b:=fun b hb => by
  have hb2:b = 0 ∨ b = 1:=by omega
  rcases hc2 with rfl | rfl <;> rcases hb2 with rfl | rfl
  ·exact .refl
  ·exact two_con.1
  ·exact two_con.2
  ·exact .refl
 have e1:Pl.cnt (fun b => Pl.Comp two c b) two.n = 2:=by
  show Pl.cnt _ 2 = 2
  rw [Pl.cnt_step_pos (cc 1 (by omega)),Pl.cnt_step_pos (cc 0 (by omega))]; rfl
 have le:∀ h,h < 8 → (Pl.Least (Pl.nx two) h ∧ Pl.Comp two c (h / 4) ↔ h ≤ Pl.nx two h):=fun h hh => by
  have e:Pl.nx two (Pl.nx two h) = h:=all_lt (n := 8) (p := fun h => Pl.nx two (Pl.nx two h) = h) (by decide) h hh
  rw [least_two e]
  exact ⟨fun h => h.1,fun h1 => ⟨h1,cc _ (by omega)⟩⟩
 have e2:Pl.cnt (fun h => Pl.Least (Pl.nx two) h ∧ Pl.Comp two c (h / 4)) (4 * two.n) = 4:=by
  show Pl.cnt _ 8 = 4
  rw [Pl.cnt_congr (q := fun h => h ≤ Pl.nx two h) 8 le]
  rw [Pl.cnt_step_neg (by decide),Pl.cnt_step_neg (by decide),Pl.cnt_step_neg (by decide),Pl.cnt_step_neg (by decide),Pl.cnt_step_pos (by decide),Pl.cnt_step_pos (by decide),Pl.cnt_step_pos (by decide),Pl.cnt_step_pos (by decide)]
  rfl
 rw [e1,e2]
theorem two_unp:unpC two 0 1 = 0 ∧ unpD two 0 1 = ⟨[],[],2⟩ ∧ (unpI two 0 1).kind = 3 := by
 refine ⟨by rfl,by rfl,by rfl⟩
end Go.Proofs.Ytghdiolnonejaaa
end
section
namespace Go.Proofs.Ytghdiolnonejaaa
open Go Go.RowKit
theorem ints_eq (A B:Option Addr) (n ca cb:Nat) (xs:List Int) (w:World) (hx:IntsAt w A n xs) (hy:IntsAt w B n xs) (hn:n ≤ 100000) :
 Calls Try.prog 44 #[.slice A n ca,.slice B n cb] w fun e w' => e = .returned (.bool true) ∧ Below w.heap.size w w' := by
 have HX:=hide hx
 have HY:=hide hy
 clear hx hy
 go_enter Try.func44,Try.ntmps44
 go_wp2
 go_loopg [5] n (fun g i wx => ∃ k:Nat,k + g = n ∧ i = .int .i64 k ∧ Below w.heap.size w wx)
 case atStart => exact ⟨0,by omega,rfl,Below.refl _ _⟩
 case round =>
  obtain ⟨k,hkg,rfl,hb⟩:=hrel
  have HB:=hide hb
  have HKG:=hide hkg
  clear hb
  by_cases hk:k < n
  ·have hki:(k:Int) < (n:Int):=by omega
   obtain ⟨b,o,rfl,c1⟩:=(HX.out.keep HB.out).at_ hk
   obtain ⟨b2,o2,rfl,c2⟩:=(HY.out.keep HB.out).at_ hk
   have k0:(0:Int) ≤ (k:Int):=by omega
   obtain ⟨u,hu⟩:∃ u,u = xs.getD k 0 := ⟨_,rfl⟩
   rw [← hu] at c1 c2
   clear hu hkg
   go_upto_region 6 with fail
   go_quiet (fail)
   go_wp2
   go_roundg (gk - 1)
   case measure => have := HKG.out; omega
   case rel => exact ⟨k + 1,by have := HKG.out; omega,by go_num,below_drewN HB.out _⟩
  ·have hki:¬ ((k:Int) < (n:Int)):=by omega
   clear hkg
   go_wp2
   go_ret
   exact ⟨rfl,HB.out⟩
theorem none_at (w:World) (l:Nat):DgAt w none none ⟨[],[],l⟩:=⟨RowAt.nil w,RowAt.nil w⟩
theorem ap1 (w:World):Calls Try.prog 23 #[.agg #[.slice none 0 0,.slice none 0 0,.int .i64 1],.agg #[.int .i64 1,.int .i64 (-1),.int .i64 0,.int .i64 1,.bool false]] w
 fun e w' => ∃ (A B:Option Addr) (c1 c2:Nat),e = .returned (.tuple #[.agg #[.slice A 1 c1,.slice B 4 c2,.int .i64 0],.agg #[.int .i64 2,.int .i64 0,.int .i64 0,.int .i64 0,.bool false],.int .i64 0]) ∧ IntsAt w' A 1 [1] ∧ IntsAt w' B 4 [1,0,3,2] ∧ Below w.heap.size w w' := by
 refine (apply_1 ⟨[],[],1⟩ (valid_empty (by omega)) none none 0 0 0 (-1) 0 1 false w rfl (none_at w 1) (by unfold inR; simp [Pl.Dg.n])).mono ?_
 rintro e w' ⟨_,h2,hb⟩
 obtain ⟨A,B,c1,c2,he,hd⟩:=h2 (by rfl)
 exact ⟨A,B,c1,c2,he,hd.at.s,hd.at.m,hb⟩
theorem ap2 (w:World):Calls Try.prog 23 #[.agg #[.slice none 0 0,.slice none 0 0,.int .i64 2],.agg #[.int .i64 3,.int .i64 (-1),.int .i64 (-1),.int .i64 0,.bool false]] w
 fun e w' => ∃ (A B:Option Addr) (c1 c2:Nat),e = .returned (.tuple #[.agg #[.slice A 2 c1,.slice B 8 c2,.int .i64 0],.agg #[.int .i64 4,.int .i64 0,.int .i64 1,.int .i64 0,.bool false],.int .i64 0]) ∧ DgAt w' A B two ∧ Below w.heap.size w w' := by
 refine (apply_3 ⟨[],[],2⟩ (valid_empty (by omega)) none none 0 0 0 (-1) (-1) 0 false w rfl (none_at w 2) (by unfold inR; simp [Pl.Dg.n])).mono ?_
 rintro e w' ⟨_,h2,hb⟩
 have hc:pkQ ⟨[],[],2⟩ (-1) (-1) 0 = 0:=by
  unfold pkQ
  rw [Pl.vb_false (fun h => absurd h.1 (by decide))]
  rfl
 obtain ⟨A,B,c1,c2,he,hd⟩:=h2 hc
 rw [two_is] at he hd
 exact ⟨A,B,c1,c2,he,hd.at,hb⟩
theorem ap3 (A B:Option Addr) (c1 c2:Nat) (w:World) (hg:DgAt w A B two):Calls Try.prog 23 #[.agg #[.slice A 2 c1,.slice B 8 c2,.int .i64 0],.agg #[.int .i64 4,.int .i64 0,.int .i64 1,.int .i64 0,.bool false]] w
 fun e w' => ∃ (A B:Option Addr) (c1 c2:Nat) (x y s:Int) (o:Bool),e = .returned (.tuple #[.agg #[.slice A 0 c1,.slice B 0 c2,.int .i64 2],.agg #[.int .i64 3,.int .i64 x,.int .i64 y,.int .i64 s,.bool o],.int .i64 0]) ∧ Below w.heap.size w w' := by
 refine (apply_4 two two_valid A B c1 c2 8 0 1 0 false w rfl hg (by unfold inR; simp [Pl.Dg.n,two])).mono ?_
 rintro e w' ⟨_,h2,hb⟩
 obtain ⟨hc,hD,hI⟩:=two_unp
 obtain ⟨A,B,c1,c2,k,x,y,s,o,hm,he,hd⟩:=(h2 hc).split
 rw [hD] at he
 rw [hm] at hI
 have hk:k = 3:=hI
 subst hk
 exact ⟨A,B,c1,c2,x,y,s,o,he,hb⟩
set_option maxRecDepth 100000 in
set_option maxHeartbeats 4000000 in
theorem awake_true (w:World):Calls Try.prog 27 #[] w fun e w' => e = .returned (.bool true) ∧ Below w.heap.size w w' := by
 go_enter Try.func27,Try.ntmps27
 go_wp2_with fail
 refine (ap1 w).mono ?_
 rintro e w1 ⟨A1,B1,c1,c2,rfl,hs1,hm1,hb1⟩
 have HS1:=hide hs1
 have HM1:=hide hm1
 have B1':=hide hb1
 clear hs1 hm1 hb1
 go_wp2_with fail
 refine (ap2 _).mono ?_
 rintro e w2 ⟨A2,B2,c3,c4,rfl,hg2,hb2⟩
 have HG2:=hide hg2
 have B2':=hide hb2
 clear hg2 hb2
 have R1:=hide (show Row w2 w1.heap.size 24 [.slice A1 1 c1,.slice B1 4 c2,.int .i64 0] from ((row_at (vs := [_,_,_]) rfl).alloc _).below B2'.out)
 have R2:=hide (show Row w2 (w1.heap.size + 1) 37 [.int .i64 2,.int .i64 0,.int .i64 0,.int .i64 0,.bool false] from (row_at (vs := [_,_,_,_,_]) (by simp)).below B2'.out)
 have C2:=hide (show Below w.heap.size w w2 from ((B1'.out.alloc B1'.out.size (.cells #[.slice A1 1 c1,.slice B1 4 c2,.int .i64 0] 24)).alloc (B1'.out.alloc B1'.out.size (.cells #[.slice A1 1 c1,.slice B1 4 c2,.int .i64 0] 24)).size _).trans (B2'.out.mono ((B1'.out.alloc B1'.out.size (.cells #[.slice A1 1 c1,.slice B1 4 c2,.int .i64 0] 24)).alloc (B1'.out.alloc B1'.out.size (.cells #[.slice A1 1 c1,.slice B1 4 c2,.int .i64 0] 24)).size _).size))
 have D12:=hide (show Below w1.heap.size w1 w2 from (((Below.refl _ _).alloc (Nat.le_refl _) (.cells #[.slice A1 1 c1,.slice B1 4 c2,.int .i64 0] 24)).alloc (by simp) (.cells #[.int .i64 2,.int .i64 0,.int .i64 0,.int .i64 0,.bool false] 37)).trans (B2'.out.mono (by simp; omega)))
 go_wp2_with fail
 refine (ap3 A2 B2 c3 c4 _ (HG2.out.keep (((Below.refl _ _).alloc (Nat.le_refl _) _).alloc (by simp) _))).mono ?_
 rintro e w3 ⟨A3,B3,c5,c6,x3,y3,s3,o3,rfl,hb3⟩
 have B3':=hide hb3
 clear hb3
 have S1:=hide (show Row w3 w2.heap.size 24 [.slice A2 2 c3,.slice B2 8 c4,.int .i64 0] from ((row_at (vs := [_,_,_]) rfl).alloc _).below B3'.out)
 have D23:=hide (show Below w2.heap.size w2 w3 from (((Below.refl _ _).alloc (Nat.le_refl _) (.cells #[.slice A2 2 c3,.slice B2 8 c4,.int .i64 0] 24)).alloc (by simp) (.cells #[.int .i64 4,.int .i64 0,.int .i64 1,.int .i64 0,.bool false] 37)).trans (B3'.out.mono (by simp; omega)))
 have C3:=hide (show Below w.heap.size w w3 from C2.out.trans (D23.out.mono C2.out.size))
 have HS3:=hide (HS1.out.keep (D12.out.trans (D23.out.mono D12.out.size)))
 have HM3:=hide (HM1.out.keep (D12.out.trans (D23.out.mono D12.out.size)))
 obtain ⟨r0,r1,r2,r3⟩:=box3 (R1.out.below D23.out)
 obtain ⟨t0,t1,t2,t3,t4,t5⟩:=box5 (R2.out.below D23.out)
 obtain ⟨s0,s1,s2,s3'⟩:=box3 S1.out
 obtain ⟨b,o,rfl,cs⟩:=HS3.out.at_ (k := 0) (by omega)
 have hlb:b < w3.heap.size:=lt_of_cell cs
 have cs':w3.cell? ⟨b,o,none⟩ = some (.int .i64 1):=cs
 clear cs
 have q1:w1.heap.size < w3.heap.size:=lt_of_cell r0
 have q2:w1.heap.size + 1 < w3.heap.size:=lt_of_cell t0
 have q3:w2.heap.size < w3.heap.size:=lt_of_cell s0
 go_wp2_with fail
 have W4:=hide (show Below w3.heap.size w3 (((w3.alloc (.cells #[.slice A3 0 c5,.slice B3 0 c6,.int .i64 2] 24)).alloc (.cells #[.int .i64 3,.int .i64 x3,.int .i64 y3,.int .i64 s3,.bool o3] 37)).alloc (.cells #[.int .i64 1,.int .i64 0,.int .i64 3,.int .i64 2] 3)) from (((Below.refl _ _).alloc (Nat.le_refl _) _).alloc (by simp) _).alloc (by simp; omega) _)
 have I4:=hide (show IntsAt (((w3.alloc (.cells #[.slice A3 0 c5,.slice B3 0 c6,.int .i64 2] 24)).alloc (.cells #[.int .i64 3,.int .i64 x3,.int .i64 y3,.int .i64 s3,.bool o3] 37)).alloc (.cells #[.int .i64 1,.int .i64 0,.int .i64 3,.int .i64 2] 3)) (some ⟨w3.heap.size + 1 + 1,0,none⟩) 4 [1,0,3,2] from
  IRow.ints (zs := [1,0,3,2]) (row_at (vs := [_,_,_,_]) (by simp)))
 have V1:=hide (show Row (((w3.alloc (.cells #[.slice A3 0 c5,.slice B3 0 c6,.int .i64 2] 24)).alloc (.cells #[.int .i64 3,.int .i64 x3,.int .i64 y3,.int .i64 s3,.bool o3] 37)).alloc (.cells #[.int .i64 1,.int .i64 0,.int .i64 3,.int .i64 2] 3)) w3.heap.size 24 [.slice A3 0 c5,.slice B3 0 c6,.int .i64 2] from ((row_at (vs := [_,_,_]) rfl).alloc _).alloc _)
 have V2:=hide (show Row (((w3.alloc (.cells #[.slice A3 0 c5,.slice B3 0 c6,.int .i64 2] 24)).alloc (.cells #[.int .i64 3,.int .i64 x3,.int .i64 y3,.int .i64 s3,.bool o3] 37)).alloc (.cells #[.int .i64 1,.int .i64 0,.int .i64 3,.int .i64 2] 3)) (w3.heap.size + 1) 37 [.int .i64 3,.int .i64 x3,.int .i64 y3,.int .i64 s3,.bool o3] from (row_at (vs := [_,_,_,_,_]) (by simp)).alloc _)
 refine (ints_eq B1 (some ⟨w3.heap.size + 1 + 1,0,none⟩) 4 c2 4 [1,0,3,2] _ (HM3.out.keep W4.out) I4.out (by omega)).mono ?_
 rintro e w5 ⟨rfl,hb5⟩
 have C5:=hide (C3.out.trans ((W4.out.trans (hb5.mono W4.out.size)).mono C3.out.size))
 have T1:=hide (S1.out.below (W4.out.trans (hb5.mono W4.out.size)))
 have U1:=hide (V1.out.below hb5)
 have U2:=hide (V2.out.below hb5)
 clear r0 r1 r2 r3 t0 t1 t2 t3 t4 t5 s0 s1 s2 s3' q1 q2 q3 hb5 hlb cs'
 obtain ⟨s0,s1,s2,s3'⟩:=box3 T1.out
 obtain ⟨r0,r1,r2,r3⟩:=box3 U1.out
 obtain ⟨t0,t1,t2,t3,t4,t5⟩:=box5 U2.out
 go_wp2
 go_ret
 exact ⟨rfl,C5.out⟩
end Go.Proofs.Ytghdiolnonejaaa
end
section
namespace Go.Proofs.Ytghdiolnonejaaa
open Go Go.RowKit
attribute [local go_sem ↓] Go.wp_at_zero Go.wp_at_succ
theorem row3 {W:World} {g:Nat} {t:TypeId} {vs:List Value} (h:Row W g t vs) (l:vs.length = 3) (y0 y1 y2:Value) :
 Row (((W.setCell ⟨g,0,none⟩ y0).setCell ⟨g,1,none⟩ y1).setCell ⟨g,2,none⟩ y2) g t [y0,y1,y2] := by
 obtain ⟨a,b,c,rfl⟩:∃ a b c,vs = [a,b,c] := by
  match vs,l with
  | [a,b,c],_ => exact ⟨a,b,c,rfl⟩
 exact ((h.set 0 y0).set 1 y1).set 2 y2
theorem below3 {w W:World} {g:Nat} (h:Below w.heap.size w W) (hg:w.heap.size ≤ g) (y0 y1 y2:Value):Below w.heap.size w (((W.setCell ⟨g,0,none⟩ y0).setCell ⟨g,1,none⟩ y1).setCell ⟨g,2,none⟩ y2) :=
 ((h.setCell (by show _ ≤ g; exact hg) y0).setCell (by show _ ≤ g; exact hg) y1).setCell (by show _ ≤ g; exact hg) y2
end Go.Proofs.Ytghdiolnonejaaa
end
section
namespace Go.Proofs.Ytghdiolnonejaaa
open Go Go.RowKit
attribute [local go_sem ↓] Go.wp_at_zero Go.wp_at_succ
theorem shrS_len (gs:List Nat) (sg:List Int):(Pl.shrS gs sg).length = (Pl.left sg.length gs).length := by unfold Pl.shrS; simp
section
variable {base:Nat} {w W W' W2:World} {vS vM:Value} {n q gK:Nat} {lp:Int} {mv bk:List Value} {ss:List Int} {l:List Nat}
end
section
variable {base:Nat} {w W:World} {vS vM k x y s o b0 b3 b4:Value} {n q gK:Nat} {lp:Int} {ss:List Int} {l:List Nat}
end
end Go.Proofs.Ytghdiolnonejaaa
end
section
namespace Go.Proofs.Ytghdiolnonejaaa
open Go Go.RowKit
attribute [local go_sem ↓] Go.wp_at_zero Go.wp_at_succ
def prs (l:List Nat):List Value := l.map (fun k:Nat => Value.int .i64 k)
section
variable {base:Nat} {w W W' W2:World} {vS vM:Value} {n q:Nat} {lp:Int} {mv:List Value} {ss:List Int} {l:List Nat}
end
structure SQ (base:Nat) (w w2:World) (vS vM:Value) (n q:Nat) (lp:Int) (mv:List Value) (ss:List Int) (l:List Nat) (gt:Nat) (tl:List Int) (v:Value) (qn:Nat) (E:List Nat) (W:World):Prop where
 k:RK base w vS vM n q lp mv ss l W
 t:IRow W gt tl
 e:W.ownsRow (gt + 1) 93 2 v qn (prs E)
 lo:w.heap.size + 4 ≤ gt
 gt2:w2.heap.size = gt
 b2:Below w2.heap.size w2 W
 hS:∀ g,vS.ownBlock = some g → g < w.heap.size
 hM:∀ g,vM.ownBlock = some g → g < w.heap.size
section
variable {base:Nat} {w w2 W W' W2:World} {vS vM v v':Value} {n q gt qn:Nat} {lp:Int} {mv:List Value} {ss tl:List Int} {l E:List Nat}
end
section
variable {base:Nat} {w W W' W2:World} {vS vM:Value} {n q gt ge gO g1 c1 g2 c2 b3 gV:Nat} {lp:Int} {mv bk:List Value} {ss tl:List Int} {l L L':List Nat} {E:Nat → Nat}
end
end Go.Proofs.Ytghdiolnonejaaa
end
