/-
 The texts Xf, Xk, Xl, Xg, Xh, Za, Zb, Yf, Xq.
-/
import Derived.Test.YtghdiolnonejaaaGreatDoorS05
import Derived.Test.YtghdiolnonejaaaGreatDoorS06
set_option linter.unusedVariables false
set_option linter.unusedSimpArgs false
section
namespace Go.Proofs.YtghdiolnonejaaaGreatDoor
open Go Go.RowKit
attribute [local go_sem ↓] Go.wp_at_zero Go.wp_at_succ
def ResC (c:Int) (r:Pl.Dg) (mv:Mv) (w:World) (e:Ending) (w':World):Prop := (c ≠ 0 → ResErr c e) ∧ (c = 0 → ResOk r mv e w') ∧ Below w.heap.size w w'
theorem ResOk.split {r:Pl.Dg} {mv:Mv} {e:Ending} {w':World} (h:ResOk r mv e w'):∃ (A B:Option Addr) (c1 c2:Nat) (k x y s:Int) (o:Bool),mv = ⟨k,x,y,s,o⟩ ∧ e = .returned (.tuple #[.agg #[.slice A r.n c1,.slice B (4 * r.n) c2,.int .i64 r.lp],.agg #[.int .i64 k,.int .i64 x,.int .i64 y,.int .i64 s,.bool o],.int .i64 0]) ∧ DgT w' A B r := by
 obtain ⟨A,B,c1,c2,he,hd⟩:=h
 obtain ⟨k,x,y,s,o⟩:=mv
 exact ⟨A,B,c1,c2,k,x,y,s,o,rfl,he,hd⟩
theorem ResErr.split {c:Int} {e:Ending} (h:ResErr c e):e = .returned (.tuple #[.agg #[.slice none 0 0,.slice none 0 0,.int .i64 0],.agg #[.int .i64 0,.int .i64 0,.int .i64 0,.int .i64 0,.bool false],.int .i64 c]) := h
theorem DgT.store {w:World} {A B:Option Addr} {d:Pl.Dg} {g o:Nat} {t:TypeId} {vs:List Value} (h:DgT w A B d) (hr:Row w g t vs) (hne:3 ≠ t) (v:Value):DgT (w.setCell ⟨g,o,none⟩ v) A B d := ⟨h.s.store hr hne v,h.m.store hr hne v⟩
structure AB (w:World) (gr gi:Nat) (dv mv:List Value) (W:World):Prop where
 d:Row W w.heap.size 24 dv
 m:Row W (w.heap.size + 1) 43 mv
 rd:∃ vs,Row W (w.heap.size + 1 + 1) 24 vs ∧ vs.length = 3
 rm:∃ us,Row W (w.heap.size + 1 + 1 + 1) 43 us ∧ us.length = 5
 r:∃ vs,Row W gr 24 vs ∧ vs.length = 3
 i:∃ us,Row W gi 43 us ∧ us.length = 5
 bel:Below w.heap.size w W
 lr:w.heap.size + 1 + 1 + 1 < gr
 li:w.heap.size + 1 + 1 + 1 < gi
 ne:gr ≠ gi
section
variable {w W W':World} {gr gi:Nat} {dv mv:List Value}
theorem AB.drew (h:AB w gr gi dv mv W):AB w gr gi dv mv W.drew := ⟨h.d,h.m,h.rd,h.rm,h.r,h.i,h.bel.drew,h.lr,h.li,h.ne⟩
theorem AB.below (h:AB w gr gi dv mv W) (hb:Below W.heap.size W W'):AB w gr gi dv mv W' :=
 let ⟨vs,r1,l1⟩:=h.rd
 let ⟨us,r2,l2⟩:=h.rm
 let ⟨xs,r3,l3⟩:=h.r
 let ⟨ys,r4,l4⟩:=h.i
 ⟨h.d.below hb,h.m.below hb,⟨vs,r1.below hb,l1⟩,⟨us,r2.below hb,l2⟩,⟨xs,r3.below hb,l3⟩,⟨ys,r4.below hb,l4⟩,h.bel.trans (hb.mono h.bel.size),h.lr,h.li,h.ne⟩
theorem AB.setD (h:AB w gr gi dv mv W) (o:Nat) (v:Value):AB w gr gi dv mv (W.setCell ⟨w.heap.size + 1 + 1,o,none⟩ v) :=
 have a1:=h.lr
 have a2:=h.li
 have a3:=h.ne
 let ⟨vs,r1,l1⟩:=h.rd
 let ⟨us,r2,l2⟩:=h.rm
 let ⟨xs,r3,l3⟩:=h.r
 let ⟨ys,r4,l4⟩:=h.i
 ⟨h.d.other (by show _ ≠ w.heap.size + 1 + 1; omega) v,h.m.other (by show _ ≠ w.heap.size + 1 + 1; omega) v,⟨vs.set o v,r1.set o v,by rw [List.length_set,l1]⟩,⟨us,r2.other (by show _ ≠ w.heap.size + 1 + 1; omega) v,l2⟩,⟨xs,r3.other (by show _ ≠ w.heap.size + 1 + 1; omega) v,l3⟩,⟨ys,r4.other (by show _ ≠ w.heap.size + 1 + 1; omega) v,l4⟩,h.bel.setCell (by show _ ≤ w.heap.size + 1 + 1; omega) v,h.lr,h.li,h.ne⟩
theorem AB.setM (h:AB w gr gi dv mv W) (o:Nat) (v:Value):AB w gr gi dv mv (W.setCell ⟨w.heap.size + 1 + 1 + 1,o,none⟩ v) :=
 have a1:=h.lr
 have a2:=h.li
 have a3:=h.ne
 let ⟨vs,r1,l1⟩:=h.rd
 let ⟨us,r2,l2⟩:=h.rm
 let ⟨xs,r3,l3⟩:=h.r
 let ⟨ys,r4,l4⟩:=h.i
 ⟨h.d.other (by show _ ≠ w.heap.size + 1 + 1 + 1; omega) v,h.m.other (by show _ ≠ w.heap.size + 1 + 1 + 1; omega) v,⟨vs,r1.other (by show _ ≠ w.heap.size + 1 + 1 + 1; omega) v,l1⟩,⟨us.set o v,r2.set o v,by rw [List.length_set,l2]⟩,⟨xs,r3.other (by show _ ≠ w.heap.size + 1 + 1 + 1; omega) v,l3⟩,⟨ys,r4.other (by show _ ≠ w.heap.size + 1 + 1 + 1; omega) v,l4⟩,h.bel.setCell (by show _ ≤ w.heap.size + 1 + 1 + 1; omega) v,h.lr,h.li,h.ne⟩
theorem AB.setR (h:AB w gr gi dv mv W) (o:Nat) (v:Value):AB w gr gi dv mv (W.setCell ⟨gr,o,none⟩ v) :=
 have a1:=h.lr
 have a2:=h.li
 have a3:=h.ne
 let ⟨vs,r1,l1⟩:=h.rd
 let ⟨us,r2,l2⟩:=h.rm
 let ⟨xs,r3,l3⟩:=h.r
 let ⟨ys,r4,l4⟩:=h.i
 ⟨h.d.other (by show _ ≠ gr; omega) v,h.m.other (by show _ ≠ gr; omega) v,⟨vs,r1.other (by show _ ≠ gr; omega) v,l1⟩,⟨us,r2.other (by show _ ≠ gr; omega) v,l2⟩,⟨xs.set o v,r3.set o v,by rw [List.length_set,l3]⟩,⟨ys,r4.other (by show _ ≠ gr; omega) v,l4⟩,h.bel.setCell (by show _ ≤ gr; omega) v,h.lr,h.li,h.ne⟩
theorem AB.setI (h:AB w gr gi dv mv W) (o:Nat) (v:Value):AB w gr gi dv mv (W.setCell ⟨gi,o,none⟩ v) :=
 have a1:=h.lr
 have a2:=h.li
 have a3:=h.ne
 let ⟨vs,r1,l1⟩:=h.rd
 let ⟨us,r2,l2⟩:=h.rm
 let ⟨xs,r3,l3⟩:=h.r
 let ⟨ys,r4,l4⟩:=h.i
 ⟨h.d.other (by show _ ≠ gi; omega) v,h.m.other (by show _ ≠ gi; omega) v,⟨vs,r1.other (by show _ ≠ gi; omega) v,l1⟩,⟨us,r2.other (by show _ ≠ gi; omega) v,l2⟩,⟨xs,r3.other (by show _ ≠ gi; omega) v,l3⟩,⟨ys.set o v,r4.set o v,by rw [List.length_set,l4]⟩,h.bel.setCell (by show _ ≤ gi; omega) v,h.lr,h.li,h.ne⟩
end
structure AD (w:World) (gr gi:Nat) (dv mv:List Value) (A B:Option Addr) (r:Pl.Dg) (W:World):Prop where
 b:AB w gr gi dv mv W
 t:DgT W A B r
section
variable {w W W':World} {gr gi:Nat} {dv mv:List Value} {A B:Option Addr} {r:Pl.Dg}
theorem AD.drew (h:AD w gr gi dv mv A B r W):AD w gr gi dv mv A B r W.drew := ⟨h.b.drew,⟨h.t.s,h.t.m⟩⟩
theorem AD.setD (h:AD w gr gi dv mv A B r W) (o:Nat) (v:Value):AD w gr gi dv mv A B r (W.setCell ⟨w.heap.size + 1 + 1,o,none⟩ v) := ⟨h.b.setD o v,let ⟨_,r1,_⟩:=h.b.rd; h.t.store r1 (by decide) v⟩
theorem AD.setM (h:AD w gr gi dv mv A B r W) (o:Nat) (v:Value):AD w gr gi dv mv A B r (W.setCell ⟨w.heap.size + 1 + 1 + 1,o,none⟩ v) := ⟨h.b.setM o v,let ⟨_,r1,_⟩:=h.b.rm; h.t.store r1 (by decide) v⟩
theorem AD.setR (h:AD w gr gi dv mv A B r W) (o:Nat) (v:Value):AD w gr gi dv mv A B r (W.setCell ⟨gr,o,none⟩ v) := ⟨h.b.setR o v,let ⟨_,r1,_⟩:=h.b.r; h.t.store r1 (by decide) v⟩
theorem AD.setI (h:AD w gr gi dv mv A B r W) (o:Nat) (v:Value):AD w gr gi dv mv A B r (W.setCell ⟨gi,o,none⟩ v) := ⟨h.b.setI o v,let ⟨_,r1,_⟩:=h.b.i; h.t.store r1 (by decide) v⟩
end
theorem cells3 {W:World} {g:Nat} {t:TypeId} {vs:List Value} (h:Row W g t vs) (l:vs.length = 3):W.cell? ⟨g,0,none⟩ = some (cv W ⟨g,0,none⟩) ∧ W.cell? ⟨g,1,none⟩ = some (cv W ⟨g,1,none⟩) ∧ W.cell? ⟨g,2,none⟩ = some (cv W ⟨g,2,none⟩) ∧ ∀ o,W.frozen? ⟨g,o,none⟩ = false :=
 ⟨cv_some (h.cell (i := 0) (by omega)),cv_some (h.cell (i := 1) (by omega)),cv_some (h.cell (i := 2) (by omega)),h.free⟩
theorem cells5 {W:World} {g:Nat} {t:TypeId} {vs:List Value} (h:Row W g t vs) (l:vs.length = 5):W.cell? ⟨g,0,none⟩ = some (cv W ⟨g,0,none⟩) ∧ W.cell? ⟨g,1,none⟩ = some (cv W ⟨g,1,none⟩) ∧ W.cell? ⟨g,2,none⟩ = some (cv W ⟨g,2,none⟩) ∧ W.cell? ⟨g,3,none⟩ = some (cv W ⟨g,3,none⟩) ∧ W.cell? ⟨g,4,none⟩ = some (cv W ⟨g,4,none⟩) ∧ ∀ o,W.frozen? ⟨g,o,none⟩ = false :=
 ⟨cv_some (h.cell (i := 0) (by omega)),cv_some (h.cell (i := 1) (by omega)),cv_some (h.cell (i := 2) (by omega)),cv_some (h.cell (i := 3) (by omega)),cv_some (h.cell (i := 4) (by omega)),h.free⟩
theorem curl_m (d:Pl.Dg) (hd:Pl.Wf d) (A B:Option Addr) (cp cq m:Nat) (k x y sg:Int) (ov:Bool) (w:World) (hm:m = 4 * d.n) (hg:DgAt w A B d) (hx:-1 ≤ x ∧ x < 4 * d.n) (hsg:sg = 1 ∨ sg = -1) :
 Calls Tryz.prog 46 #[.agg #[.slice A d.n cp,.slice B m cq,.int .i64 d.lp],.agg #[.int .i64 k,.int .i64 x,.int .i64 y,.int .i64 sg,.bool ov]] w (CurlPost d x sg ov w) := by
 subst hm; exact curl_any d hd A B cp cq k x y sg ov w hg hx hsg
set_option maxRecDepth 100000 in
set_option maxHeartbeats 4000000 in
theorem apply_1 (d:Pl.Dg) (hd:Pl.Valid d) (A B:Option Addr) (cp cq m:Nat) (x y s:Int) (o:Bool) (w:World) (hm:m = 4 * d.n) (hg:DgAt w A B d) (hin:inR d.n ⟨1,x,y,s,o⟩) :
 Calls Tryz.prog 26 #[.agg #[.slice A d.n cp,.slice B m cq,.int .i64 d.lp],(Mv.mk 1 x y s o).v] w (ResC (curlableC d x) (crl d x s o) ((⟨2,d.n,0,0,false⟩:Mv)) w) := by
 have hn:=hd.wf.few
 have hlp:=hd.wf.lp
 have HM:=hide hm
 have HG:=hide hg
 have hm2:m ≤ 256:=by omega
 clear hm hg
 have PB0:=hide (boxes4 w (.slice A d.n cp) (.slice B m cq) (.int .i64 (d.lp:Int)) (.int .i64 1) (.int .i64 x) (.int .i64 y) (.int .i64 s) (.bool o))
 unfold W4 at PB0
 obtain ⟨x0,x1,x2,x3,b0,s0⟩:=PB0.out
 have X0:=hide x0
 have X1:=hide x1
 have X2:=hide x2
 have X3:=hide x3
 have B0:=hide b0
 have S0:=hide s0
 clear x0 x1 x2 x3 b0 s0 PB0
 unfold Mv.v
 go_enter Tryz.func26,Tryz.ntmps26
 go_wp2_with fail
 refine (valid_yes d hd A B cp cq m _ HM.out (HG.out.keep B0.out)).mono ?_
 rintro e w1 ⟨rfl,hb1⟩
 have Y0:=hide (X0.out.below hb1)
 have Y1:=hide (X1.out.below hb1)
 have Y2:=hide (X2.out.below hb1)
 have Y3:=hide (X3.out.below hb1)
 have B1:=hide (B0.out.trans (hb1.mono B0.out.size))
 have hsz1:w.heap.size + 4 ≤ w1.heap.size:=by have := hb1.size; have := S0.out; omega
 clear X0 X1 X2 X3 B0 S0 hb1
 obtain ⟨d0,d1,d2,d3⟩:=box3 Y0.out
 obtain ⟨m0,m1,m2,m3,m4,m5⟩:=box5 Y1.out
 go_wp2_with fail
 refine (inRange_1 d.n x y s o w1 (by omega)).mono ?_
 rintro e w2 ⟨rfl,hb2⟩
 rw [Pl.vb_true hin]
 have hsz:w.heap.size + 4 ≤ w2.heap.size:=by have := hb2.size; omega
 have AB2:=hide (show AB w w2.heap.size (w2.heap.size + 1) [.slice A d.n cp,.slice B m cq,.int .i64 (d.lp:Int)] [.int .i64 1,.int .i64 x,.int .i64 y,.int .i64 s,.bool o] ((w2.alloc (.cells #[.slice none 0 0,.slice none 0 0,.int .i64 0] 24)).alloc (.cells #[.int .i64 0,.int .i64 0,.int .i64 0,.int .i64 0,.bool false] 43)) from
  ⟨((Y0.out.below hb2).alloc _).alloc _,((Y1.out.below hb2).alloc _).alloc _,⟨_,((Y2.out.below hb2).alloc _).alloc _,rfl⟩,⟨_,((Y3.out.below hb2).alloc _).alloc _,rfl⟩,⟨_,(row_at (vs := [_,_,_]) rfl).alloc _,rfl⟩,⟨_,row_at (vs := [_,_,_,_,_]) (by simp),rfl⟩,((B1.out.trans (hb2.mono B1.out.size)).alloc (B1.out.trans (hb2.mono B1.out.size)).size _).alloc ((B1.out.trans (hb2.mono B1.out.size)).alloc (B1.out.trans (hb2.mono B1.out.size)).size _).size _,by omega,by omega,by omega⟩)
 obtain ⟨d0',d1',d2',d3'⟩:=box3 (Y0.out.below hb2)
 obtain ⟨m0',m1',m2',m3',m4',m5'⟩:=box5 (Y1.out.below hb2)
 clear d0 d1 d2 d3 m0 m1 m2 m3 m4 m5 Y0 Y1 Y2 Y3 B1 hb2 hsz1
 have z1:w.heap.size < w2.heap.size:=by omega
 have z2:w.heap.size + 1 < w2.heap.size:=by omega
 have hx:-1 ≤ x ∧ x < 4 * d.n:=by have := hin; unfold inR at this; simp at this; omega
 have hs:s = 1 ∨ s = -1:=by have := hin; unfold inR at this; simp at this; omega
 have HG2:=hide (HG.out.keep AB2.out.bel)
 go_wp2_with fail
 obtain ⟨gr,hgr⟩:∃ g,g = w2.heap.size := ⟨_,rfl⟩
 obtain ⟨gi,hgi⟩:∃ g,g = w2.heap.size + 1 := ⟨_,rfl⟩
 rw [← hgi,← hgr] at AB2
 rw [← hgi,← hgr]
 clear hgr hgi
 refine (curl_m d hd.wf A B cp cq m 1 x y s o _ HM.out HG2.out hx hs).mono ?_
 intro e w3 hres
 have AB3:=hide (AB2.out.below hres.2.2)
 obtain ⟨cc,hcc⟩:∃ c,c = curlableC d x := ⟨_,rfl⟩
 obtain ⟨rr,hrr⟩:∃ r,r = crl d x s o := ⟨_,rfl⟩
 obtain ⟨mm,hmm⟩:∃ r,r = (⟨2,d.n,0,0,false⟩:Mv) := ⟨_,rfl⟩
 unfold CurlPost at hres
 rw [← hcc,← hrr,← hmm] at hres
 have HCC:=hide hcc
 have HRR:=hide hrr
 have HMM:=hide hmm
 clear hcc hrr hmm d0' d1' d2' d3' m0' m1' m2' m3' m4' m5' AB2 HG2
 by_cases hc:cc = 0
 ·obtain ⟨A9,B9,c8,c9,k9,x9,y9,s9,o9,hmv,rfl,hT⟩:=ResOk.split (hres.2.1 hc)
  have HMV:=hide hmv
  have HC:=hide hc
  clear hmv hc
  have AD3:=hide (show AD w gr gi _ _ A9 B9 rr w3 from ⟨AB3.out,hT⟩)
  clear hT
  obtain ⟨N9,hN9⟩:∃ n,n = rr.n := ⟨_,rfl⟩
  obtain ⟨L9,hL9⟩:∃ n,n = rr.lp := ⟨_,rfl⟩
  rw [← hN9,← hL9]
  have HN9:=hide hN9
  have HL9:=hide hL9
  clear hN9 hL9
  obtain ⟨_,r3,l3⟩:=AB3.out.r
  obtain ⟨_,r4,l4⟩:=AB3.out.i
  obtain ⟨_,r5,l5⟩:=AB3.out.rd
  obtain ⟨_,r6,l6⟩:=AB3.out.rm
  obtain ⟨e0,e1,e2,e3⟩:=cells3 r3 l3
  obtain ⟨f0,f1,f2,f3,f4,f5⟩:=cells5 r4 l4
  obtain ⟨g0,g1,g2,g3⟩:=cells3 r5 l5
  obtain ⟨h0,h1,h2,h3,h4,h5⟩:=cells5 r6 l6
  have y1:gr ≠ w.heap.size + 1 + 1:=by have := AB3.out.lr; omega
  have y2:gr ≠ w.heap.size + 1 + 1 + 1:=by have := AB3.out.lr; omega
  have y3:gi ≠ w.heap.size + 1 + 1:=by have := AB3.out.li; omega
  have y4:gi ≠ w.heap.size + 1 + 1 + 1:=by have := AB3.out.li; omega
  have y5:gr ≠ gi:=AB3.out.ne
  have y6:w.heap.size + 1 + 1 ≠ w.heap.size + 1 + 1 + 1:=by omega
  clear r3 l3 r4 l4 r5 l5 r6 l6
  go_upto_region 22 with fail
  go_region
  go_wp2_with fail
  clear e0 e1 e2 e3 f0 f1 f2 f3 f4 f5 g0 g1 g2 g3 h0 h1 h2 h3 h4 h5
  have AD4:=hide ((((((((AD3.out.setR 0 (.slice A9 N9 c8)).setR 1 (.slice B9 (4 * N9) c9)).setR 2 (.int .i64 (L9:Int))).setI 0 (.int .i64 k9)).setI 1 (.int .i64 x9)).setI 2 (.int .i64 y9)).setI 3 (.int .i64 s9)).setI 4 (.bool o9))
  obtain ⟨_,r5,l5⟩:=AD4.out.b.rd
  obtain ⟨_,r6,l6⟩:=AD4.out.b.rm
  refine bodyPost_ret (v := .tuple #[.agg #[.slice A9 N9 c8,.slice B9 (4 * N9) c9,.int .i64 (L9:Int)],.agg #[.int .i64 k9,.int .i64 x9,.int .i64 y9,.int .i64 s9,.bool o9],.int .i64 0]) ?_ rfl ?_
  ·obtain ⟨e0,e1,e2,e3,e4,e5,e6,e7⟩:=fin8 r5 r6 l5 l6 (by omega) (.slice A9 N9 c8) (.slice B9 (4 * N9) c9) (.int .i64 (L9:Int)) (.int .i64 k9) (.int .i64 x9) (.int .i64 y9) (.int .i64 s9) (.bool o9)
   simp [results,Tryz.results26,go_sem,e0,e1,e2,e3,e4,e5,e6,e7]
  ·have AD5:=(((((((AD4.out.setD 0 (.slice A9 N9 c8)).setD 1 (.slice B9 (4 * N9) c9)).setD 2 (.int .i64 (L9:Int))).setM 0 (.int .i64 k9)).setM 1 (.int .i64 x9)).setM 2 (.int .i64 y9)).setM 3 (.int .i64 s9)).setM 4 (.bool o9)
   rw [← HCC.out,← HRR.out,← HMM.out]
   refine ⟨fun h => absurd HC.out h,fun _ => ⟨A9,B9,c8,c9,by rw [HMV.out,← HN9.out,← HL9.out]; rfl,AD5.drew.t⟩,AD5.drew.b.bel⟩
 ·have HC:=hide hc
  have hE:=ResErr.split (hres.1 hc)
  subst hE
  have t1:(cc != 0) = true:=by rw [bne_iff_ne]; exact hc
  clear hc
  obtain ⟨_,r3,l3⟩:=AB3.out.r
  obtain ⟨_,r4,l4⟩:=AB3.out.i
  obtain ⟨_,r5,l5⟩:=AB3.out.rd
  obtain ⟨_,r6,l6⟩:=AB3.out.rm
  obtain ⟨e0,e1,e2,e3⟩:=cells3 r3 l3
  obtain ⟨f0,f1,f2,f3,f4,f5⟩:=cells5 r4 l4
  obtain ⟨g0,g1,g2,g3⟩:=cells3 r5 l5
  obtain ⟨h0,h1,h2,h3,h4,h5⟩:=cells5 r6 l6
  have y1:gr ≠ w.heap.size + 1 + 1:=by have := AB3.out.lr; omega
  have y2:gr ≠ w.heap.size + 1 + 1 + 1:=by have := AB3.out.lr; omega
  have y3:gi ≠ w.heap.size + 1 + 1:=by have := AB3.out.li; omega
  have y4:gi ≠ w.heap.size + 1 + 1 + 1:=by have := AB3.out.li; omega
  have y5:gr ≠ gi:=AB3.out.ne
  have y6:w.heap.size + 1 + 1 ≠ w.heap.size + 1 + 1 + 1:=by omega
  clear r3 l3 r4 l4 r5 l5 r6 l6
  go_wp2
  clear e0 e1 e2 e3 f0 f1 f2 f3 f4 f5 g0 g1 g2 g3 h0 h1 h2 h3 h4 h5
  have AB4:=(((((((AB3.out.setR 0 (.slice none 0 0)).setR 1 (.slice none 0 0)).setR 2 (.int .i64 0)).setI 0 (.int .i64 0)).setI 1 (.int .i64 0)).setI 2 (.int .i64 0)).setI 3 (.int .i64 0)).setI 4 (.bool false)
  obtain ⟨_,r5,l5⟩:=AB4.rd
  obtain ⟨_,r6,l6⟩:=AB4.rm
  refine bodyPost_ret (v := .tuple #[nilD,nilM,.int .i64 cc]) ?_ rfl ?_
  ·obtain ⟨e0,e1,e2,e3,e4,e5,e6,e7⟩:=fin8 r5 r6 l5 l6 (by omega) (.slice none 0 0) (.slice none 0 0) (.int .i64 0) (.int .i64 0) (.int .i64 0) (.int .i64 0) (.int .i64 0) (.bool false)
   unfold nilD nilM
   simp [results,Tryz.results26,go_sem,e0,e1,e2,e3,e4,e5,e6,e7]
  ·rw [← HCC.out,← HRR.out,← HMM.out]
   exact ⟨fun _ => (show ResErr _ _ from rfl),fun h => absurd h HC.out,below8 AB4.bel _ _ _ _ _ _ _ _⟩
theorem uncurl_m (d:Pl.Dg) (hd:Pl.Wf d) (A B:Option Addr) (cp cq m c:Nat) (k y sg:Int) (ov:Bool) (w:World) (hm:m = 4 * d.n) (hg:DgAt w A B d) (hc:c < d.n) :
 Calls Tryz.prog 47 #[.agg #[.slice A d.n cp,.slice B m cq,.int .i64 d.lp],.agg #[.int .i64 k,.int .i64 (c:Int),.int .i64 y,.int .i64 sg,.bool ov]] w (UncPost d c w) := by
 subst hm; exact uncurl_any d hd A B cp cq c k y sg ov w hg hc
def unpD (d:Pl.Dg) (x y:Nat):Pl.Dg := match lensI d x y with
 | some i => unpDl d (lensOf d (lnH x y i)) x y
 | none => d
def unpI (d:Pl.Dg) (x y:Nat):Mv := match lensI d x y with
 | some i => pusI d (lensOf d (lnH x y i)) x y
 | none => ⟨0,0,0,0,false⟩
theorem unpoke_m (d:Pl.Dg) (hd:Pl.Wf d) (A B:Option Addr) (cp cq m x y:Nat) (k sg:Int) (ov:Bool) (w:World) (hm:m = 4 * d.n) (hg:DgAt w A B d) (hxy:x < y) (hy:y < d.n) :
 Calls Tryz.prog 50 #[.agg #[.slice A d.n cp,.slice B m cq,.int .i64 d.lp],.agg #[.int .i64 k,.int .i64 (x:Int),.int .i64 (y:Int),.int .i64 sg,.bool ov]] w (ResC (unpC d x y) (unpD d x y) (unpI d x y) w) := by
 subst hm
 refine (unpoke_any d hd A B cp cq x y k sg ov w hg hxy hy).mono ?_
 rintro e w' ⟨h1,h2,h3⟩
 refine ⟨h1,fun h => ?_,h3⟩
 obtain ⟨i,hi,hr⟩:=h2 h
 unfold unpD unpI
 rw [hi]
 exact hr
set_option maxRecDepth 100000 in
set_option maxHeartbeats 4000000 in
theorem apply_2 (d:Pl.Dg) (hd:Pl.Valid d) (A B:Option Addr) (cp cq m:Nat) (x:Nat) (y s:Int) (o:Bool) (w:World) (hm:m = 4 * d.n) (hg:DgAt w A B d) (hin:inR d.n ⟨2,(x:Int),y,s,o⟩) :
 Calls Tryz.prog 26 #[.agg #[.slice A d.n cp,.slice B m cq,.int .i64 d.lp],(Mv.mk 2 (x:Int) y s o).v] w (ResC (uncC d x) (unD d x) (unI d x) w) := by
 have hn:=hd.wf.few
 have hlp:=hd.wf.lp
 have HM:=hide hm
 have HG:=hide hg
 have hm2:m ≤ 256:=by omega
 clear hm hg
 have PB0:=hide (boxes4 w (.slice A d.n cp) (.slice B m cq) (.int .i64 (d.lp:Int)) (.int .i64 2) (.int .i64 (x:Int)) (.int .i64 y) (.int .i64 s) (.bool o))
 unfold W4 at PB0
 obtain ⟨x0,x1,x2,x3,b0,s0⟩:=PB0.out
 have X0:=hide x0
 have X1:=hide x1
 have X2:=hide x2
 have X3:=hide x3
 have B0:=hide b0
 have S0:=hide s0
 clear x0 x1 x2 x3 b0 s0 PB0
 unfold Mv.v
 go_enter Tryz.func26,Tryz.ntmps26
 go_wp2_with fail
 refine (valid_yes d hd A B cp cq m _ HM.out (HG.out.keep B0.out)).mono ?_
 rintro e w1 ⟨rfl,hb1⟩
 have Y0:=hide (X0.out.below hb1)
 have Y1:=hide (X1.out.below hb1)
 have Y2:=hide (X2.out.below hb1)
 have Y3:=hide (X3.out.below hb1)
 have B1:=hide (B0.out.trans (hb1.mono B0.out.size))
 have hsz1:w.heap.size + 4 ≤ w1.heap.size:=by have := hb1.size; have := S0.out; omega
 clear X0 X1 X2 X3 B0 S0 hb1
 obtain ⟨d0,d1,d2,d3⟩:=box3 Y0.out
 obtain ⟨m0,m1,m2,m3,m4,m5⟩:=box5 Y1.out
 go_wp2_with fail
 refine (inRange_2 d.n (x:Int) y s o w1 (by omega)).mono ?_
 rintro e w2 ⟨rfl,hb2⟩
 rw [Pl.vb_true hin]
 have hsz:w.heap.size + 4 ≤ w2.heap.size:=by have := hb2.size; omega
 have AB2:=hide (show AB w w2.heap.size (w2.heap.size + 1) [.slice A d.n cp,.slice B m cq,.int .i64 (d.lp:Int)] [.int .i64 2,.int .i64 (x:Int),.int .i64 y,.int .i64 s,.bool o] ((w2.alloc (.cells #[.slice none 0 0,.slice none 0 0,.int .i64 0] 24)).alloc (.cells #[.int .i64 0,.int .i64 0,.int .i64 0,.int .i64 0,.bool false] 43)) from
  ⟨((Y0.out.below hb2).alloc _).alloc _,((Y1.out.below hb2).alloc _).alloc _,⟨_,((Y2.out.below hb2).alloc _).alloc _,rfl⟩,⟨_,((Y3.out.below hb2).alloc _).alloc _,rfl⟩,⟨_,(row_at (vs := [_,_,_]) rfl).alloc _,rfl⟩,⟨_,row_at (vs := [_,_,_,_,_]) (by simp),rfl⟩,((B1.out.trans (hb2.mono B1.out.size)).alloc (B1.out.trans (hb2.mono B1.out.size)).size _).alloc ((B1.out.trans (hb2.mono B1.out.size)).alloc (B1.out.trans (hb2.mono B1.out.size)).size _).size _,by omega,by omega,by omega⟩)
 obtain ⟨d0',d1',d2',d3'⟩:=box3 (Y0.out.below hb2)
 obtain ⟨m0',m1',m2',m3',m4',m5'⟩:=box5 (Y1.out.below hb2)
 clear d0 d1 d2 d3 m0 m1 m2 m3 m4 m5 Y0 Y1 Y2 Y3 B1 hb2 hsz1
 have z1:w.heap.size < w2.heap.size:=by omega
 have z2:w.heap.size + 1 < w2.heap.size:=by omega
 have hx:x < d.n:=by have := hin; unfold inR at this; simp at this; omega
 have HG2:=hide (HG.out.keep AB2.out.bel)
 go_wp2_with fail
 obtain ⟨gr,hgr⟩:∃ g,g = w2.heap.size := ⟨_,rfl⟩
 obtain ⟨gi,hgi⟩:∃ g,g = w2.heap.size + 1 := ⟨_,rfl⟩
 rw [← hgi,← hgr] at AB2
 rw [← hgi,← hgr]
 clear hgr hgi
 refine (uncurl_m d hd.wf A B cp cq m x 2 y s o _ HM.out HG2.out hx).mono ?_
 intro e w3 hres
 have AB3:=hide (AB2.out.below hres.2.2)
 obtain ⟨cc,hcc⟩:∃ c,c = uncC d x := ⟨_,rfl⟩
 obtain ⟨rr,hrr⟩:∃ r,r = unD d x := ⟨_,rfl⟩
 obtain ⟨mm,hmm⟩:∃ r,r = unI d x := ⟨_,rfl⟩
 unfold UncPost at hres
 rw [← hcc,← hrr,← hmm] at hres
 have HCC:=hide hcc
 have HRR:=hide hrr
 have HMM:=hide hmm
 clear hcc hrr hmm d0' d1' d2' d3' m0' m1' m2' m3' m4' m5' AB2 HG2
 by_cases hc:cc = 0
 ·obtain ⟨A9,B9,c8,c9,k9,x9,y9,s9,o9,hmv,rfl,hT⟩:=ResOk.split (hres.2.1 hc)
  have HMV:=hide hmv
  have HC:=hide hc
  clear hmv hc
  have AD3:=hide (show AD w gr gi _ _ A9 B9 rr w3 from ⟨AB3.out,hT⟩)
  clear hT
  obtain ⟨N9,hN9⟩:∃ n,n = rr.n := ⟨_,rfl⟩
  obtain ⟨L9,hL9⟩:∃ n,n = rr.lp := ⟨_,rfl⟩
  rw [← hN9,← hL9]
  have HN9:=hide hN9
  have HL9:=hide hL9
  clear hN9 hL9
  obtain ⟨_,r3,l3⟩:=AB3.out.r
  obtain ⟨_,r4,l4⟩:=AB3.out.i
  obtain ⟨_,r5,l5⟩:=AB3.out.rd
  obtain ⟨_,r6,l6⟩:=AB3.out.rm
  obtain ⟨e0,e1,e2,e3⟩:=cells3 r3 l3
  obtain ⟨f0,f1,f2,f3,f4,f5⟩:=cells5 r4 l4
  obtain ⟨g0,g1,g2,g3⟩:=cells3 r5 l5
  obtain ⟨h0,h1,h2,h3,h4,h5⟩:=cells5 r6 l6
  have y1:gr ≠ w.heap.size + 1 + 1:=by have := AB3.out.lr; omega
  have y2:gr ≠ w.heap.size + 1 + 1 + 1:=by have := AB3.out.lr; omega
  have y3:gi ≠ w.heap.size + 1 + 1:=by have := AB3.out.li; omega
  have y4:gi ≠ w.heap.size + 1 + 1 + 1:=by have := AB3.out.li; omega
  have y5:gr ≠ gi:=AB3.out.ne
  have y6:w.heap.size + 1 + 1 ≠ w.heap.size + 1 + 1 + 1:=by omega
  clear r3 l3 r4 l4 r5 l5 r6 l6
  go_upto_region 22 with fail
  go_region
  go_wp2_with fail
  clear e0 e1 e2 e3 f0 f1 f2 f3 f4 f5 g0 g1 g2 g3 h0 h1 h2 h3 h4 h5
  have AD4:=hide ((((((((AD3.out.setR 0 (.slice A9 N9 c8)).setR 1 (.slice B9 (4 * N9) c9)).setR 2 (.int .i64 (L9:Int))).setI 0 (.int .i64 k9)).setI 1 (.int .i64 x9)).setI 2 (.int .i64 y9)).setI 3 (.int .i64 s9)).setI 4 (.bool o9))
  obtain ⟨_,r5,l5⟩:=AD4.out.b.rd
  obtain ⟨_,r6,l6⟩:=AD4.out.b.rm
  refine bodyPost_ret (v := .tuple #[.agg #[.slice A9 N9 c8,.slice B9 (4 * N9) c9,.int .i64 (L9:Int)],.agg #[.int .i64 k9,.int .i64 x9,.int .i64 y9,.int .i64 s9,.bool o9],.int .i64 0]) ?_ rfl ?_
  ·obtain ⟨e0,e1,e2,e3,e4,e5,e6,e7⟩:=fin8 r5 r6 l5 l6 (by omega) (.slice A9 N9 c8) (.slice B9 (4 * N9) c9) (.int .i64 (L9:Int)) (.int .i64 k9) (.int .i64 x9) (.int .i64 y9) (.int .i64 s9) (.bool o9)
   simp [results,Tryz.results26,go_sem,e0,e1,e2,e3,e4,e5,e6,e7]
  ·have AD5:=(((((((AD4.out.setD 0 (.slice A9 N9 c8)).setD 1 (.slice B9 (4 * N9) c9)).setD 2 (.int .i64 (L9:Int))).setM 0 (.int .i64 k9)).setM 1 (.int .i64 x9)).setM 2 (.int .i64 y9)).setM 3 (.int .i64 s9)).setM 4 (.bool o9)
   rw [← HCC.out,← HRR.out,← HMM.out]
   refine ⟨fun h => absurd HC.out h,fun _ => ⟨A9,B9,c8,c9,by rw [HMV.out,← HN9.out,← HL9.out]; rfl,AD5.drew.t⟩,AD5.drew.b.bel⟩
 ·have HC:=hide hc
  have hE:=ResErr.split (hres.1 hc)
  subst hE
  have t1:(cc != 0) = true:=by rw [bne_iff_ne]; exact hc
  clear hc
  obtain ⟨_,r3,l3⟩:=AB3.out.r
  obtain ⟨_,r4,l4⟩:=AB3.out.i
  obtain ⟨_,r5,l5⟩:=AB3.out.rd
  obtain ⟨_,r6,l6⟩:=AB3.out.rm
  obtain ⟨e0,e1,e2,e3⟩:=cells3 r3 l3
  obtain ⟨f0,f1,f2,f3,f4,f5⟩:=cells5 r4 l4
  obtain ⟨g0,g1,g2,g3⟩:=cells3 r5 l5
  obtain ⟨h0,h1,h2,h3,h4,h5⟩:=cells5 r6 l6
  have y1:gr ≠ w.heap.size + 1 + 1:=by have := AB3.out.lr; omega
  have y2:gr ≠ w.heap.size + 1 + 1 + 1:=by have := AB3.out.lr; omega
  have y3:gi ≠ w.heap.size + 1 + 1:=by have := AB3.out.li; omega
  have y4:gi ≠ w.heap.size + 1 + 1 + 1:=by have := AB3.out.li; omega
  have y5:gr ≠ gi:=AB3.out.ne
  have y6:w.heap.size + 1 + 1 ≠ w.heap.size + 1 + 1 + 1:=by omega
  clear r3 l3 r4 l4 r5 l5 r6 l6
  go_wp2
  clear e0 e1 e2 e3 f0 f1 f2 f3 f4 f5 g0 g1 g2 g3 h0 h1 h2 h3 h4 h5
  have AB4:=(((((((AB3.out.setR 0 (.slice none 0 0)).setR 1 (.slice none 0 0)).setR 2 (.int .i64 0)).setI 0 (.int .i64 0)).setI 1 (.int .i64 0)).setI 2 (.int .i64 0)).setI 3 (.int .i64 0)).setI 4 (.bool false)
  obtain ⟨_,r5,l5⟩:=AB4.rd
  obtain ⟨_,r6,l6⟩:=AB4.rm
  refine bodyPost_ret (v := .tuple #[nilD,nilM,.int .i64 cc]) ?_ rfl ?_
  ·obtain ⟨e0,e1,e2,e3,e4,e5,e6,e7⟩:=fin8 r5 r6 l5 l6 (by omega) (.slice none 0 0) (.slice none 0 0) (.int .i64 0) (.int .i64 0) (.int .i64 0) (.int .i64 0) (.int .i64 0) (.bool false)
   unfold nilD nilM
   simp [results,Tryz.results26,go_sem,e0,e1,e2,e3,e4,e5,e6,e7]
  ·rw [← HCC.out,← HRR.out,← HMM.out]
   exact ⟨fun _ => (show ResErr _ _ from rfl),fun h => absurd h HC.out,below8 AB4.bel _ _ _ _ _ _ _ _⟩
set_option maxRecDepth 100000 in
set_option maxHeartbeats 4000000 in
theorem apply_4 (d:Pl.Dg) (hd:Pl.Valid d) (A B:Option Addr) (cp cq m:Nat) (x y:Nat) (s:Int) (o:Bool) (w:World) (hm:m = 4 * d.n) (hg:DgAt w A B d) (hin:inR d.n ⟨4,(x:Int),(y:Int),s,o⟩) :
 Calls Tryz.prog 26 #[.agg #[.slice A d.n cp,.slice B m cq,.int .i64 d.lp],(Mv.mk 4 (x:Int) (y:Int) s o).v] w (ResC (unpC d x y) (unpD d x y) (unpI d x y) w) := by
 have hn:=hd.wf.few
 have hlp:=hd.wf.lp
 have HM:=hide hm
 have HG:=hide hg
 have hm2:m ≤ 256:=by omega
 clear hm hg
 have PB0:=hide (boxes4 w (.slice A d.n cp) (.slice B m cq) (.int .i64 (d.lp:Int)) (.int .i64 4) (.int .i64 (x:Int)) (.int .i64 (y:Int)) (.int .i64 s) (.bool o))
 unfold W4 at PB0
 obtain ⟨x0,x1,x2,x3,b0,s0⟩:=PB0.out
 have X0:=hide x0
 have X1:=hide x1
 have X2:=hide x2
 have X3:=hide x3
 have B0:=hide b0
 have S0:=hide s0
 clear x0 x1 x2 x3 b0 s0 PB0
 unfold Mv.v
 go_enter Tryz.func26,Tryz.ntmps26
 go_wp2_with fail
 refine (valid_yes d hd A B cp cq m _ HM.out (HG.out.keep B0.out)).mono ?_
 rintro e w1 ⟨rfl,hb1⟩
 have Y0:=hide (X0.out.below hb1)
 have Y1:=hide (X1.out.below hb1)
 have Y2:=hide (X2.out.below hb1)
 have Y3:=hide (X3.out.below hb1)
 have B1:=hide (B0.out.trans (hb1.mono B0.out.size))
 have hsz1:w.heap.size + 4 ≤ w1.heap.size:=by have := hb1.size; have := S0.out; omega
 clear X0 X1 X2 X3 B0 S0 hb1
 obtain ⟨d0,d1,d2,d3⟩:=box3 Y0.out
 obtain ⟨m0,m1,m2,m3,m4,m5⟩:=box5 Y1.out
 go_wp2_with fail
 refine (inRange_4 d.n (x:Int) (y:Int) s o w1 (by omega)).mono ?_
 rintro e w2 ⟨rfl,hb2⟩
 rw [Pl.vb_true hin]
 have hsz:w.heap.size + 4 ≤ w2.heap.size:=by have := hb2.size; omega
 have AB2:=hide (show AB w w2.heap.size (w2.heap.size + 1) [.slice A d.n cp,.slice B m cq,.int .i64 (d.lp:Int)] [.int .i64 4,.int .i64 (x:Int),.int .i64 (y:Int),.int .i64 s,.bool o] ((w2.alloc (.cells #[.slice none 0 0,.slice none 0 0,.int .i64 0] 24)).alloc (.cells #[.int .i64 0,.int .i64 0,.int .i64 0,.int .i64 0,.bool false] 43)) from
  ⟨((Y0.out.below hb2).alloc _).alloc _,((Y1.out.below hb2).alloc _).alloc _,⟨_,((Y2.out.below hb2).alloc _).alloc _,rfl⟩,⟨_,((Y3.out.below hb2).alloc _).alloc _,rfl⟩,⟨_,(row_at (vs := [_,_,_]) rfl).alloc _,rfl⟩,⟨_,row_at (vs := [_,_,_,_,_]) (by simp),rfl⟩,((B1.out.trans (hb2.mono B1.out.size)).alloc (B1.out.trans (hb2.mono B1.out.size)).size _).alloc ((B1.out.trans (hb2.mono B1.out.size)).alloc (B1.out.trans (hb2.mono B1.out.size)).size _).size _,by omega,by omega,by omega⟩)
 obtain ⟨d0',d1',d2',d3'⟩:=box3 (Y0.out.below hb2)
 obtain ⟨m0',m1',m2',m3',m4',m5'⟩:=box5 (Y1.out.below hb2)
 clear d0 d1 d2 d3 m0 m1 m2 m3 m4 m5 Y0 Y1 Y2 Y3 B1 hb2 hsz1
 have z1:w.heap.size < w2.heap.size:=by omega
 have z2:w.heap.size + 1 < w2.heap.size:=by omega
 have hx:x < y:=by have := hin; unfold inR at this; simp at this; omega
 have hy:y < d.n:=by have := hin; unfold inR at this; simp at this; omega
 have HG2:=hide (HG.out.keep AB2.out.bel)
 go_wp2_with fail
 obtain ⟨gr,hgr⟩:∃ g,g = w2.heap.size := ⟨_,rfl⟩
 obtain ⟨gi,hgi⟩:∃ g,g = w2.heap.size + 1 := ⟨_,rfl⟩
 rw [← hgi,← hgr] at AB2
 rw [← hgi,← hgr]
 clear hgr hgi
 refine (unpoke_m d hd.wf A B cp cq m x y 4 s o _ HM.out HG2.out hx hy).mono ?_
 intro e w3 hres
 have AB3:=hide (AB2.out.below hres.2.2)
 obtain ⟨cc,hcc⟩:∃ c,c = unpC d x y := ⟨_,rfl⟩
 obtain ⟨rr,hrr⟩:∃ r,r = unpD d x y := ⟨_,rfl⟩
 obtain ⟨mm,hmm⟩:∃ r,r = unpI d x y := ⟨_,rfl⟩
 unfold ResC at hres
 rw [← hcc,← hrr,← hmm] at hres
 have HCC:=hide hcc
 have HRR:=hide hrr
 have HMM:=hide hmm
 clear hcc hrr hmm d0' d1' d2' d3' m0' m1' m2' m3' m4' m5' AB2 HG2
 by_cases hc:cc = 0
 ·obtain ⟨A9,B9,c8,c9,k9,x9,y9,s9,o9,hmv,rfl,hT⟩:=ResOk.split (hres.2.1 hc)
  have HMV:=hide hmv
  have HC:=hide hc
  clear hmv hc
  have AD3:=hide (show AD w gr gi _ _ A9 B9 rr w3 from ⟨AB3.out,hT⟩)
  clear hT
  obtain ⟨N9,hN9⟩:∃ n,n = rr.n := ⟨_,rfl⟩
  obtain ⟨L9,hL9⟩:∃ n,n = rr.lp := ⟨_,rfl⟩
  rw [← hN9,← hL9]
  have HN9:=hide hN9
  have HL9:=hide hL9
  clear hN9 hL9
  obtain ⟨_,r3,l3⟩:=AB3.out.r
  obtain ⟨_,r4,l4⟩:=AB3.out.i
  obtain ⟨_,r5,l5⟩:=AB3.out.rd
  obtain ⟨_,r6,l6⟩:=AB3.out.rm
  obtain ⟨e0,e1,e2,e3⟩:=cells3 r3 l3
  obtain ⟨f0,f1,f2,f3,f4,f5⟩:=cells5 r4 l4
  obtain ⟨g0,g1,g2,g3⟩:=cells3 r5 l5
  obtain ⟨h0,h1,h2,h3,h4,h5⟩:=cells5 r6 l6
  have y1:gr ≠ w.heap.size + 1 + 1:=by have := AB3.out.lr; omega
  have y2:gr ≠ w.heap.size + 1 + 1 + 1:=by have := AB3.out.lr; omega
  have y3:gi ≠ w.heap.size + 1 + 1:=by have := AB3.out.li; omega
  have y4:gi ≠ w.heap.size + 1 + 1 + 1:=by have := AB3.out.li; omega
  have y5:gr ≠ gi:=AB3.out.ne
  have y6:w.heap.size + 1 + 1 ≠ w.heap.size + 1 + 1 + 1:=by omega
  clear r3 l3 r4 l4 r5 l5 r6 l6
  go_upto_region 22 with fail
  go_region
  go_wp2_with fail
  clear e0 e1 e2 e3 f0 f1 f2 f3 f4 f5 g0 g1 g2 g3 h0 h1 h2 h3 h4 h5
  have AD4:=hide ((((((((AD3.out.setR 0 (.slice A9 N9 c8)).setR 1 (.slice B9 (4 * N9) c9)).setR 2 (.int .i64 (L9:Int))).setI 0 (.int .i64 k9)).setI 1 (.int .i64 x9)).setI 2 (.int .i64 y9)).setI 3 (.int .i64 s9)).setI 4 (.bool o9))
  obtain ⟨_,r5,l5⟩:=AD4.out.b.rd
  obtain ⟨_,r6,l6⟩:=AD4.out.b.rm
  refine bodyPost_ret (v := .tuple #[.agg #[.slice A9 N9 c8,.slice B9 (4 * N9) c9,.int .i64 (L9:Int)],.agg #[.int .i64 k9,.int .i64 x9,.int .i64 y9,.int .i64 s9,.bool o9],.int .i64 0]) ?_ rfl ?_
  ·obtain ⟨e0,e1,e2,e3,e4,e5,e6,e7⟩:=fin8 r5 r6 l5 l6 (by omega) (.slice A9 N9 c8) (.slice B9 (4 * N9) c9) (.int .i64 (L9:Int)) (.int .i64 k9) (.int .i64 x9) (.int .i64 y9) (.int .i64 s9) (.bool o9)
   simp [results,Tryz.results26,go_sem,e0,e1,e2,e3,e4,e5,e6,e7]
  ·have AD5:=(((((((AD4.out.setD 0 (.slice A9 N9 c8)).setD 1 (.slice B9 (4 * N9) c9)).setD 2 (.int .i64 (L9:Int))).setM 0 (.int .i64 k9)).setM 1 (.int .i64 x9)).setM 2 (.int .i64 y9)).setM 3 (.int .i64 s9)).setM 4 (.bool o9)
   rw [← HCC.out,← HRR.out,← HMM.out]
   refine ⟨fun h => absurd HC.out h,fun _ => ⟨A9,B9,c8,c9,by rw [HMV.out,← HN9.out,← HL9.out]; rfl,AD5.drew.t⟩,AD5.drew.b.bel⟩
 ·have HC:=hide hc
  have hE:=ResErr.split (hres.1 hc)
  subst hE
  have t1:(cc != 0) = true:=by rw [bne_iff_ne]; exact hc
  clear hc
  obtain ⟨_,r3,l3⟩:=AB3.out.r
  obtain ⟨_,r4,l4⟩:=AB3.out.i
  obtain ⟨_,r5,l5⟩:=AB3.out.rd
  obtain ⟨_,r6,l6⟩:=AB3.out.rm
  obtain ⟨e0,e1,e2,e3⟩:=cells3 r3 l3
  obtain ⟨f0,f1,f2,f3,f4,f5⟩:=cells5 r4 l4
  obtain ⟨g0,g1,g2,g3⟩:=cells3 r5 l5
  obtain ⟨h0,h1,h2,h3,h4,h5⟩:=cells5 r6 l6
  have y1:gr ≠ w.heap.size + 1 + 1:=by have := AB3.out.lr; omega
  have y2:gr ≠ w.heap.size + 1 + 1 + 1:=by have := AB3.out.lr; omega
  have y3:gi ≠ w.heap.size + 1 + 1:=by have := AB3.out.li; omega
  have y4:gi ≠ w.heap.size + 1 + 1 + 1:=by have := AB3.out.li; omega
  have y5:gr ≠ gi:=AB3.out.ne
  have y6:w.heap.size + 1 + 1 ≠ w.heap.size + 1 + 1 + 1:=by omega
  clear r3 l3 r4 l4 r5 l5 r6 l6
  go_wp2
  clear e0 e1 e2 e3 f0 f1 f2 f3 f4 f5 g0 g1 g2 g3 h0 h1 h2 h3 h4 h5
  have AB4:=(((((((AB3.out.setR 0 (.slice none 0 0)).setR 1 (.slice none 0 0)).setR 2 (.int .i64 0)).setI 0 (.int .i64 0)).setI 1 (.int .i64 0)).setI 2 (.int .i64 0)).setI 3 (.int .i64 0)).setI 4 (.bool false)
  obtain ⟨_,r5,l5⟩:=AB4.rd
  obtain ⟨_,r6,l6⟩:=AB4.rm
  refine bodyPost_ret (v := .tuple #[nilD,nilM,.int .i64 cc]) ?_ rfl ?_
  ·obtain ⟨e0,e1,e2,e3,e4,e5,e6,e7⟩:=fin8 r5 r6 l5 l6 (by omega) (.slice none 0 0) (.slice none 0 0) (.int .i64 0) (.int .i64 0) (.int .i64 0) (.int .i64 0) (.int .i64 0) (.bool false)
   unfold nilD nilM
   simp [results,Tryz.results26,go_sem,e0,e1,e2,e3,e4,e5,e6,e7]
  ·rw [← HCC.out,← HRR.out,← HMM.out]
   exact ⟨fun _ => (show ResErr _ _ from rfl),fun h => absurd h HC.out,below8 AB4.bel _ _ _ _ _ _ _ _⟩
def nearP (d:Pl.Dg) (x y:Nat):Prop := (Pl.Orb (Pl.nx d) x y ∨ ¬ Pl.Comp d (x / 4) (y / 4)) ∧ d.m x ≠ y
noncomputable def pkQ (d:Pl.Dg) (x y sg:Int):Int :=
 if d.lp < needP x y sg then 6 else if Pl.vb (0 ≤ x ∧ 0 ≤ y ∧ x ≠ y ∧ ¬ nearP d x.toNat y.toNat) = true then 6 else if 64 < d.n + 2 then 5 else 0
theorem pkC_eq {d:Pl.Dg} {F P:List Nat} (hF:∀ x y,x < 4 * d.n → y < 4 * d.n → (F.getD x 0 = F.getD y 0 ↔ Pl.Orb (Pl.nx d) x y)) (hP:∀ x y,x < d.n → y < d.n → (P.getD x 0 = P.getD y 0 ↔ Pl.Comp d x y)) {x y sg:Int} (hx:x < 4 * d.n) (hy:y < 4 * d.n):pkC d F P x y sg = pkQ d x y sg := by
 unfold pkC pkQ
 by_cases hl:d.lp < needP x y sg
 ·rw [if_pos hl,if_pos hl]
 rw [if_neg hl,if_neg hl]
 by_cases h0:0 ≤ x ∧ 0 ≤ y
 ·have e : nearB F P d x.toNat y.toNat = false ↔ ¬ nearP d x.toNat y.toNat := by
   have h1:=hF x.toNat y.toNat (by omega) (by omega)
   have h2:=hP (x.toNat / 4) (y.toNat / 4) (by omega) (by omega)
   unfold nearB nearP
   rw [← h1,← h2]
   by_cases q1:F.getD x.toNat 0 = F.getD y.toNat 0 <;> by_cases q2:P.getD (x.toNat / 4) 0 = P.getD (y.toNat / 4) 0 <;> by_cases q3:d.m x.toNat = y.toNat <;> simp [q1,q2,q3]
  by_cases h3:x ≠ y ∧ nearB F P d x.toNat y.toNat = false
  ·rw [if_pos (show 0 ≤ x ∧ 0 ≤ y ∧ x ≠ y ∧ nearB F P d x.toNat y.toNat = false from ⟨h0.1,h0.2,h3⟩),if_pos (Pl.vb_true ⟨h0.1,h0.2,h3.1,e.1 h3.2⟩)]
  ·rw [if_neg (show ¬ (0 ≤ x ∧ 0 ≤ y ∧ x ≠ y ∧ nearB F P d x.toNat y.toNat = false) from fun h => h3 h.2.2),if_neg (show ¬ (Pl.vb (0 ≤ x ∧ 0 ≤ y ∧ x ≠ y ∧ ¬ nearP d x.toNat y.toNat) = true) by rw [Pl.vb_false (fun h => h3 ⟨h.2.2.1,e.2 h.2.2.2⟩)]; decide)]
 ·rw [if_neg (show ¬ (0 ≤ x ∧ 0 ≤ y ∧ x ≠ y ∧ nearB F P d x.toNat y.toNat = false) from fun h => h0 ⟨h.1,h.2.1⟩),if_neg (show ¬ (Pl.vb (0 ≤ x ∧ 0 ≤ y ∧ x ≠ y ∧ ¬ nearP d x.toNat y.toNat) = true) by rw [Pl.vb_false (fun h => h0 ⟨h.1,h.2.1⟩)]; decide)]
end Go.Proofs.YtghdiolnonejaaaGreatDoor
end
section
namespace Go.Proofs.YtghdiolnonejaaaGreatDoor
open Go Go.RowKit
attribute [local go_sem ↓] Go.wp_at_zero Go.wp_at_succ
noncomputable def apC (d:Pl.Dg) (m:Mv):Int :=
 if m.kind < 1 ∨ 5 < m.kind then 11 else if Pl.vb (inR d.n m) = false then 2 else if m.kind = 1 then curlableC d m.x else if m.kind = 2 then uncC d m.x.toNat else if m.kind = 3 then pkQ d m.x m.y m.sign else if m.kind = 4 then unpC d m.x.toNat m.y.toNat else sldC d m.x.toNat
def apD (d:Pl.Dg) (m:Mv):Pl.Dg :=
 if m.kind = 1 then crl d m.x m.sign m.over else if m.kind = 2 then unD d m.x.toNat else if m.kind = 3 then pkD d m.x m.y m.sign m.over else if m.kind = 4 then unpD d m.x.toNat m.y.toNat else sldD d m.x.toNat
def apI (d:Pl.Dg) (m:Mv):Mv :=
 if m.kind = 1 then ⟨2,d.n,0,0,false⟩ else if m.kind = 2 then unI d m.x.toNat else if m.kind = 3 then ⟨4,d.n,d.n + 1,0,false⟩ else if m.kind = 4 then unpI d m.x.toNat m.y.toNat else sldI d m.x.toNat
end Go.Proofs.YtghdiolnonejaaaGreatDoor
end
section
namespace Go.Proofs.YtghdiolnonejaaaGreatDoor
open Go Go.RowKit
def byK (m:Mv) (s:Int):Int := if m.kind = 1 then m.sign else if m.kind = 2 then -s else 0
def moreK (m:Mv):Int := if m.kind = 1 then 1 else if m.kind = 2 then -1 else if m.kind = 3 then 2 else if m.kind = 4 then -2 else 0
def Sml (l:List Int):Prop := ∀ z,z ∈ l → -1 ≤ z ∧ z ≤ 1
theorem wf_sml {d:Pl.Dg} (hd:Pl.Wf d):Sml d.sg := fun z hz => by
 obtain ⟨k,hk,rfl⟩:=List.getElem_of_mem hz
 have:=hd.sign k hk
 unfold Pl.Dg.s at this
 rw [List.getD_eq_getElem?_getD,List.getElem?_eq_getElem hk] at this
 simp at this
 omega
theorem sml_app {l r:List Int} (h:Sml l) (h':Sml r):Sml (l ++ r) := fun z hz => by
 rcases List.mem_append.1 hz with h1 | h1
 ·exact h z h1
 ·exact h' z h1
theorem shr_sml {l:List Int} (h:Sml l) (gs:List Nat):Sml (Pl.shrS gs l) := fun z hz => by
 unfold Pl.shrS at hz
 obtain ⟨c,_,rfl⟩:=List.mem_map.1 hz
 rw [List.getD_eq_getElem?_getD]
 cases hc:l[c]? with
 | none => simp
 | some v => exact h v (List.mem_of_getElem? hc)
theorem sgn2_sml (a b:Nat):-1 ≤ sgn2 a b ∧ sgn2 a b ≤ 1 := by unfold sgn2; split <;> omega
theorem poke_signs (d:Pl.Dg) (x y:Int) (ov:Bool):sgn2 (un0 d x y ov) (ov0 d x y ov) + sgn2 (un1 d x y ov) (ov1 d x y ov) = 0 := by
 unfold sgn2 un0 ov0 un1 ov1 lnS th0 th1 plc
 cases ov <;> cases fwd d y <;> cases fwd d x <;> decide
theorem signs_law {d:Pl.Dg} (hd:Pl.Valid d) (m:Mv) (h:apC d m = 0) :
 (apD d m).sg.sum = d.sg.sum + byK m (apI d m).sign ∧ ((apD d m).sg.length:Int) = d.sg.length + moreK m ∧ Sml (apD d m).sg := by
 obtain ⟨k,x,y,s,o⟩:=m
 have hs:=wf_sml hd.wf
 by_cases hk:k < 1 ∨ 5 < k
 ·unfold apC at h; rw [if_pos hk] at h; exact absurd h (by decide)
 by_cases hin:inR d.n ⟨k,x,y,s,o⟩
 ·have hv:¬ (Pl.vb (inR d.n ⟨k,x,y,s,o⟩) = false):=by rw [Pl.vb_true hin]; decide
  have e0:apC d ⟨k,x,y,s,o⟩ = if k = 1 then curlableC d x else if k = 2 then uncC d x.toNat else if k = 3 then pkQ d x y s else if k = 4 then unpC d x.toNat y.toNat else sldC d x.toNat:=by unfold apC; rw [if_neg hk,if_neg hv]
  rw [e0] at h
  have hk5:k = 1 ∨ k = 2 ∨ k = 3 ∨ k = 4 ∨ k = 5:=by omega
  rcases hk5 with rfl | rfl | rfl | rfl | rfl
  ·have hsg:s = 1 ∨ s = -1:=by have := hin; unfold inR at this; simp at this; omega
   refine ⟨?_,?_,?_⟩
   ·show (d.sg ++ [s]).sum = d.sg.sum + s
    simp
   ·show ((d.sg ++ [s]).length:Int) = d.sg.length + 1
    simp
   ·show Sml (d.sg ++ [s])
    exact sml_app hs (fun z hz => by simp at hz; subst hz; omega)
  ·obtain ⟨c,rfl⟩:=Int.eq_ofNat_of_zero_le (show 0 ≤ x by have := hin; unfold inR at this; simp at this; omega)
   have hc:c < d.sg.length:=by have := hin; unfold inR at this; simp [Pl.Dg.n] at this; omega
   refine ⟨?_,?_,?_⟩
   ·show (Pl.shrS [c] d.sg).sum = d.sg.sum + -(d.s c)
    rw [Pl.shrS_one d.sg hc]
    show _ - d.sg.getD c 0 = _ + -(d.sg.getD c 0)
    omega
   ·show ((Pl.shrS [c] d.sg).length:Int) = d.sg.length + -1
    have:=Pl.left_one hc
    rw [Pl.shrS_len]
    omega
   ·show Sml (Pl.shrS [c] d.sg)
    exact shr_sml hs _
  ·refine ⟨?_,?_,?_⟩
   ·show (d.sg ++ [_,_]).sum = d.sg.sum + 0
    have:=poke_signs d x y o
    simp
    omega
   ·show ((d.sg ++ [_,_]).length:Int) = d.sg.length + 2
    simp
   ·show Sml (d.sg ++ [_,_])
    refine sml_app hs (fun z hz => ?_)
    simp at hz
    rcases hz with rfl | rfl <;> exact sgn2_sml _ _
  ·obtain ⟨a,rfl⟩:=Int.eq_ofNat_of_zero_le (show 0 ≤ x by have := hin; unfold inR at this; simp at this; omega)
   obtain ⟨b,rfl⟩:=Int.eq_ofNat_of_zero_le (show 0 ≤ y by have := hin; unfold inR at this; simp at this; omega)
   have hab:a < b ∧ b < d.n:=by have := hin; unfold inR at this; simp at this; omega
   have h':unpC d a b = 0:=h
   have eD:apD d ⟨4,(a:Int),(b:Int),s,o⟩ = unpD d a b:=rfl
   cases hL:lensI d a b with
   | none => unfold unpC at h'; rw [hL] at h'; exact absurd (show (6:Int) = 0 from h') (by decide)
   | some i =>
     have eS:(unpD d a b).sg = Pl.shrS [a,b] d.sg:=by unfold unpD; rw [hL]; rfl
     obtain ⟨h1,h2,h3⟩:=lens_is hL
     have hi:=lens_lt hL
     have hl:lnH a b i < 4 * d.n:=by unfold lnH; split <;> omega
     have sg:=Pl.lens_signs hd.wf hl h2 h3
     rw [h1] at sg
     have sab:d.s a + d.s b = 0:=by
      unfold lnH lnO at sg
      by_cases h4:i < 4
      ·rw [if_pos h4,if_pos h4,show (4 * a + i) / 4 = a by omega] at sg
       exact sg
      ·rw [if_neg h4,if_neg h4,show (4 * b + i - 4) / 4 = b by omega] at sg
       omega
     have hb:b < d.sg.length:=hab.2
     rw [eD,eS]
     refine ⟨?_,?_,?_⟩
     ·show (Pl.shrS [a,b] d.sg).sum = d.sg.sum + 0
      rw [Pl.shrS_two d.sg hab.1 hb]
      unfold Pl.Dg.s at sab
      omega
     ·show ((Pl.shrS [a,b] d.sg).length:Int) = d.sg.length + -2
      have:=Pl.left_two hab.1 hb
      rw [Pl.shrS_len]
      omega
     ·exact shr_sml hs _
  ·refine ⟨?_,?_,?_⟩
   ·show d.sg.sum = d.sg.sum + 0
    omega
   ·show (d.sg.length:Int) = d.sg.length + 0
    omega
   ·exact hs
 ·unfold apC at h
  rw [if_neg hk,if_pos (Pl.vb_false hin)] at h
  exact absurd h (by decide)
end Go.Proofs.YtghdiolnonejaaaGreatDoor
end
section
namespace Go.Proofs.YtghdiolnonejaaaGreatDoor
open Go Go.RowKit
theorem getD_set2 (l:List Nat) (a b k z:Nat) (ha:a < l.length):(l.set a b).getD k z = if k = a then b else l.getD k z := by
 rw [List.getD_eq_getElem?_getD,List.getElem?_set,List.getD_eq_getElem?_getD]
 by_cases h:a = k
 ·subst h; simp [ha]
 ·rw [if_neg h,if_neg (Ne.symm h)]
theorem jn_m (l:List Nat) (a b k z:Nat) (ha:a < l.length) (hb:b < l.length):(jn l a b).getD k z = if k = b then a else if k = a then b else l.getD k z := by
 unfold jn
 rw [getD_set2 _ _ _ _ _ (by simpa using hb),getD_set2 _ _ _ _ _ ha]
theorem app_m {l:List Nat} {r:List Nat} {k z:Nat} (h:k < l.length):(l ++ r).getD k z = l.getD k z := by
 rw [List.getD_eq_getElem?_getD,List.getD_eq_getElem?_getD,List.getElem?_append_left h]
theorem kq (n:Nat) (sg:Int) (ov:Bool) (hs:sg = 1 ∨ sg = -1):Pl.Kq n (kI0 n sg ov) (kO0 n sg ov) (kI1 n sg ov) (kO1 n sg ov) := by
 unfold Pl.Kq kI0 kO0 kI1 kO1
 rcases hs with rfl | rfl <;> cases ov <;> simp
theorem crl_s {d:Pl.Dg} {x sg:Int} {ov:Bool} {c:Nat} (h:c < d.n):(crl d x sg ov).s c = d.s c := by
 unfold Pl.Dg.s crl
 simp only
 rw [List.getD_eq_getElem?_getD,List.getElem?_append_left h,← List.getD_eq_getElem?_getD]
theorem crl_s' (d:Pl.Dg) (x sg:Int) (ov:Bool):(crl d x sg ov).s d.n = sg := by
 unfold Pl.Dg.s crl Pl.Dg.n
 simp
theorem crl_kd {d:Pl.Dg} (hd:Pl.Wf d) {x sg:Int} {ov:Bool} (hs:sg = 1 ∨ sg = -1) (hn:d.n + 1 ≤ 64) (m1:(crl d x sg ov).m (kO0 d.n sg ov) = kI1 d.n sg ov) (m2:(crl d x sg ov).m (kI1 d.n sg ov) = kO0 d.n sg ov) :
 Pl.Kd d (crl d x sg ov) (kI0 d.n sg ov) (kO0 d.n sg ov) (kI1 d.n sg ov) (kO1 d.n sg ov) := by
 have s':=crl_s' d x sg ov
 have w1:∀ e,e < 4 → (4 * d.n + e) / 4 = d.n:=fun e h => by omega
 have w2:∀ e,e < 4 → (4 * d.n + e) % 4 = e:=fun e h => by omega
 have o:∀ e,e < 4 → Pl.out (crl d x sg ov) (4 * d.n + e) = (e == 2 || (e == 1 && sg == 1) || (e == 3 && sg == -1)):=fun e h => by
  unfold Pl.out; rw [w1 e h,w2 e h,s']
 have o0:=o 0 (by omega)
 have o1:=o 1 (by omega)
 have o2:=o 2 (by omega)
 have o3:=o 3 (by omega)
 rw [Nat.add_zero] at o0
 refine ⟨hn,crl_n _ _ _ _,?_,?_,fun c hc => crl_s hc,by rw [s']; exact hs,kq d.n sg ov hs,?_,?_,?_,?_,m1,m2⟩
 ·unfold crl
  have:=hd.len
  simp only
  split <;> (simp [jn_len,this]; omega)
 ·have:=hd.lp
  unfold crl; simp only; split <;> omega
 ·rcases hs with rfl | rfl <;> cases ov <;> simp [kI0,o0,o1,o2,o3]
 ·rcases hs with rfl | rfl <;> cases ov <;> simp [kI1,o0,o1,o2,o3]
 ·rcases hs with rfl | rfl <;> cases ov <;> simp [kO0,o0,o1,o2,o3]
 ·rcases hs with rfl | rfl <;> cases ov <;> simp [kO1,o0,o1,o2,o3]
theorem crl_mloop {d:Pl.Dg} (hd:Pl.Wf d) {x sg:Int} {ov:Bool} (hs:sg = 1 ∨ sg = -1) (hx:x < 0) (k:Nat):(crl d x sg ov).m k =
 if k = kI0 d.n sg ov then kO1 d.n sg ov else if k = kO1 d.n sg ov then kI0 d.n sg ov else if k = kI1 d.n sg ov then kO0 d.n sg ov else if k = kO0 d.n sg ov then kI1 d.n sg ov else (d.mt ++ List.replicate 4 0).getD k k := by
 obtain ⟨a1,a2,a3,a4,_⟩:=(kq d.n sg ov hs).bd
 have hl:=hd.len
 have e:(crl d x sg ov).mt = jn (jn (d.mt ++ List.replicate 4 0) (kO0 d.n sg ov) (kI1 d.n sg ov)) (kO1 d.n sg ov) (kI0 d.n sg ov):=by unfold crl; simp only [if_pos hx]
 unfold Pl.Dg.m
 rw [e,jn_m _ _ _ _ _ (by rw [jn_len]; simp; omega) (by rw [jn_len]; simp; omega),jn_m _ _ _ _ _ (by simp; omega) (by simp; omega)]
theorem crl_loop {d:Pl.Dg} (hd:Pl.Valid d) {x sg:Int} {ov:Bool} (hs:sg = 1 ∨ sg = -1) (hn:d.n + 1 ≤ 64) (hx:x < 0):Pl.Valid (crl d x sg ov) := by
 obtain ⟨a1,a2,a3,a4,n1,n2,n3,n4,n5,n6⟩:=(kq d.n sg ov hs).bd
 have hm:=crl_mloop hd.wf (x := x) (ov := ov) hs hx
 have hl:=hd.wf.len
 refine Pl.Kd.loop hd (crl_kd hd.wf hs hn ?_ ?_) (fun h hh => ?_) ?_ ?_
 ·rw [hm,if_neg (Ne.symm n1),if_neg n5,if_neg n4,if_pos rfl]
 ·rw [hm,if_neg (Ne.symm n2),if_neg n6,if_pos rfl]
 ·rw [hm,if_neg (by omega),if_neg (by omega),if_neg (by omega),if_neg (by omega),app_m (by omega)]; rfl
 ·rw [hm,if_neg (Ne.symm n3),if_pos rfl]
 ·rw [hm,if_pos rfl]
theorem crl_edge {d:Pl.Dg} (hd:Pl.Valid d) {x:Nat} {sg:Int} {ov:Bool} (hs:sg = 1 ∨ sg = -1) (hn:d.n + 1 ≤ 64) (hx:x < 4 * d.n) (ho:Pl.out d x = true):Pl.Valid (crl d (x:Int) sg ov) := by
 obtain ⟨a1,a2,a3,a4,n1,n2,n3,n4,n5,n6⟩:=(kq d.n sg ov hs).bd
 have hl:=hd.wf.len
 have hy:=hd.wf.lt x hx
 have hne:=hd.wf.ne x hx
 have e:(crl d (x:Int) sg ov).mt = jn (jn (jn (d.mt ++ List.replicate 4 0) (kO0 d.n sg ov) (kI1 d.n sg ov)) (kO1 d.n sg ov) (d.m x)) x (kI0 d.n sg ov):=by
  unfold crl; simp only [if_neg (show ¬ ((x:Int) < 0) by omega),Int.toNat_natCast]
 have hm:∀ k,(crl d (x:Int) sg ov).m k = if k = kI0 d.n sg ov then x else if k = x then kI0 d.n sg ov else if k = d.m x then kO1 d.n sg ov else if k = kO1 d.n sg ov then d.m x else if k = kI1 d.n sg ov then kO0 d.n sg ov else if k = kO0 d.n sg ov then kI1 d.n sg ov else (d.mt ++ List.replicate 4 0).getD k k:=fun k => by
  show (crl d (x:Int) sg ov).mt.getD k k = _
  rw [e,jn_m _ _ _ _ _ (by rw [jn_len,jn_len]; simp; omega) (by rw [jn_len,jn_len]; simp; omega),jn_m _ _ _ _ _ (by rw [jn_len]; simp; omega) (by rw [jn_len]; simp; omega),jn_m _ _ _ _ _ (by simp; omega) (by simp; omega)]
 refine Pl.Kd.edge hd (crl_kd hd.wf hs hn ?_ ?_) hx ho (fun h hh h1 h2 => ?_) ?_ ?_ ?_ ?_
 ·rw [hm,if_neg (Ne.symm n1),if_neg (by omega),if_neg (by omega),if_neg n5,if_neg n4,if_pos rfl]
 ·rw [hm,if_neg (Ne.symm n2),if_neg (by omega),if_neg (by omega),if_neg n6,if_pos rfl]
 ·rw [hm,if_neg (by omega),if_neg h1,if_neg h2,if_neg (by omega),if_neg (by omega),if_neg (by omega),app_m (by omega)]; rfl
 ·rw [hm,if_neg (Ne.symm n3),if_neg (by omega),if_neg (by omega),if_pos rfl]
 ·rw [hm,if_neg (by omega),if_neg hne,if_pos rfl]
 ·rw [hm,if_neg (by omega),if_pos rfl]
 ·rw [hm,if_pos rfl]
theorem valid_empty {l:Nat} (h:l ≤ 64):Pl.Valid ⟨[],[],l⟩ :=
 ⟨⟨Nat.zero_le 64,rfl,h,fun c hc => absurd hc (Nat.not_lt_zero _),fun c hc => absurd hc (by show ¬ c < 4 * 0; omega),fun c hc => absurd hc (by show ¬ c < 4 * 0; omega),fun c hc => absurd hc (by show ¬ c < 4 * 0; omega),fun c hc => absurd hc (by show ¬ c < 4 * 0; omega)⟩,fun c hc => absurd hc (Nat.not_lt_zero _)⟩
end Go.Proofs.YtghdiolnonejaaaGreatDoor
end
section
namespace Go.Proofs.YtghdiolnonejaaaGreatDoor
open Go Go.RowKit
theorem none_at (w:World) (l:Nat):DgAt w none none ⟨[],[],l⟩:=⟨RowAt.nil w,RowAt.nil w⟩
end Go.Proofs.YtghdiolnonejaaaGreatDoor
end
section
namespace Go.Proofs.YtghdiolnonejaaaGreatDoor
open Go Go.RowKit
theorem apC_zero {d:Pl.Dg} {m:Mv} (h:apC d m = 0):(1 ≤ m.kind ∧ m.kind ≤ 5) ∧ inR d.n m ∧
 (if m.kind = 1 then curlableC d m.x else if m.kind = 2 then uncC d m.x.toNat else if m.kind = 3 then pkQ d m.x m.y m.sign else if m.kind = 4 then unpC d m.x.toNat m.y.toNat else sldC d m.x.toNat) = 0 := by
 unfold apC at h
 by_cases hk:m.kind < 1 ∨ 5 < m.kind
 ·rw [if_pos hk] at h; exact absurd h (by decide)
 ·rw [if_neg hk] at h
  by_cases hv:Pl.vb (inR d.n m) = false
  ·rw [if_pos hv] at h; exact absurd h (by decide)
  ·rw [if_neg hv] at h
   exact ⟨by omega,Pl.vb_iff.1 (by simpa using hv),h⟩
theorem crl_ok {d:Pl.Dg} (hd:Pl.Valid d) {x s:Int} {ov:Bool} (hx:-1 ≤ x ∧ x < 4 * d.n) (hs:s = 1 ∨ s = -1) (h:curlableC d x = 0):Pl.Valid (crl d x s ov) ∧ Pl.Same d (crl d x s ov) := by
 unfold curlableC at h
 obtain ⟨a1,a2,a3,a4,n1,n2,n3,n4,n5,n6⟩:=(kq d.n s ov hs).bd
 have hl:=hd.wf.len
 by_cases hx0:x < 0
 ·rw [if_pos hx0] at h
  have hlp:¬ d.lp = 0:=fun e => by rw [if_pos e] at h; exact absurd h (by decide)
  rw [if_neg hlp] at h
  have hn:d.n + 1 ≤ 64:=Nat.le_of_not_lt fun e => by unfold fullC at h; rw [if_pos e] at h; exact absurd h (by decide)
  have hv:=crl_loop hd (x := x) (ov := ov) hs hn hx0
  have hm:=crl_mloop hd.wf (x := x) (ov := ov) hs hx0
  refine ⟨hv,Pl.Kd.same0 hd hv (crl_kd hd.wf hs hn ?_ ?_) (fun h hh => ?_) ?_ ?_⟩
  ·rw [hm,if_neg (Ne.symm n1),if_neg n5,if_neg n4,if_pos rfl]
  ·rw [hm,if_neg (Ne.symm n2),if_neg n6,if_pos rfl]
  ·rw [hm,if_neg (by omega),if_neg (by omega),if_neg (by omega),if_neg (by omega),app_m (by omega)]; rfl
  ·rw [hm,if_pos rfl]
  ·show d.lp = (if x < 0 then d.lp - 1 else d.lp) + 1
   rw [if_pos hx0]; omega
 ·rw [if_neg hx0] at h
  obtain ⟨k,rfl⟩:=Int.eq_ofNat_of_zero_le (Int.not_lt.1 hx0)
  have hk:k < 4 * d.n:=by omega
  rw [Int.toNat_natCast] at h
  by_cases ho:Pl.out d k = true
  ·rw [if_pos ho] at h
   have hn:d.n + 1 ≤ 64:=Nat.le_of_not_lt fun e => by unfold fullC at h; rw [if_pos e] at h; exact absurd h (by decide)
   have hv:=crl_edge hd (ov := ov) hs hn hk ho
   have hy:=hd.wf.lt k hk
   have hne:=hd.wf.ne k hk
   have e:(crl d (k:Int) s ov).mt = jn (jn (jn (d.mt ++ List.replicate 4 0) (kO0 d.n s ov) (kI1 d.n s ov)) (kO1 d.n s ov) (d.m k)) k (kI0 d.n s ov):=by
    unfold crl; simp only [if_neg (show ¬ ((k:Int) < 0) by omega),Int.toNat_natCast]
   have hm:∀ z,(crl d (k:Int) s ov).m z = if z = kI0 d.n s ov then k else if z = k then kI0 d.n s ov else if z = d.m k then kO1 d.n s ov else if z = kO1 d.n s ov then d.m k else if z = kI1 d.n s ov then kO0 d.n s ov else if z = kO0 d.n s ov then kI1 d.n s ov else (d.mt ++ List.replicate 4 0).getD z z:=fun z => by
    show (crl d (k:Int) s ov).mt.getD z z = _
    rw [e,jn_m _ _ _ _ _ (by rw [jn_len,jn_len]; simp; omega) (by rw [jn_len,jn_len]; simp; omega),jn_m _ _ _ _ _ (by rw [jn_len]; simp; omega) (by rw [jn_len]; simp; omega),jn_m _ _ _ _ _ (by simp; omega) (by simp; omega)]
   refine ⟨hv,Pl.Kd.same hd hv (crl_kd hd.wf hs hn ?_ ?_) hk (fun h hh h1 h2 => ?_) ?_ ?_ ?_ ?_ ?_⟩
   ·rw [hm,if_neg (Ne.symm n1),if_neg (by omega),if_neg (by omega),if_neg n5,if_neg n4,if_pos rfl]
   ·rw [hm,if_neg (Ne.symm n2),if_neg (by omega),if_neg (by omega),if_neg n6,if_pos rfl]
   ·rw [hm,if_neg (by omega),if_neg h1,if_neg h2,if_neg (by omega),if_neg (by omega),if_neg (by omega),app_m (by omega)]; rfl
   ·rw [hm,if_neg (Ne.symm n3),if_neg (by omega),if_neg (by omega),if_pos rfl]
   ·rw [hm,if_neg (by omega),if_neg hne,if_pos rfl]
   ·rw [hm,if_neg (by omega),if_pos rfl]
   ·rw [hm,if_pos rfl]
   ·show d.lp = if (k:Int) < 0 then d.lp - 1 else d.lp
    rw [if_neg (by omega)]
  ·rw [if_neg ho] at h; exact absurd h (by decide)
theorem kk_div (d:Pl.Dg) (c:Nat):kk d c / 4 = c := by unfold kk; split <;> (try split) <;> omega
theorem jn_jl (l:List Nat) (a b:Nat):jn l a b = Pl.jl l a b := rfl
theorem unD_ok {d:Pl.Dg} (hd:Pl.Valid d) {c:Nat} (hc:c < d.n) (h:uncC d c = 0):Pl.Valid (unD d c) ∧ Pl.Same d (unD d c) := by
 have hw:=hd.wf
 have ho:=kk_lt hc
 have hod:=kk_div d c
 unfold uncC at h
 by_cases hk:d.m (kk d c) / 4 = c
 ·rw [if_pos hk] at h
  have hk2:d.m (kk d c) / 4 = kk d c / 4:=by rw [hod,hk]
  unfold unD unM
  by_cases hn:d.m (kA d c) = kB d c
  ·rw [if_pos hn] at h
   have hl:d.lp + 1 ≤ 64:=Nat.le_of_not_lt fun e => by rw [if_pos e] at h; exact absurd h (by decide)
   rw [if_pos hn,if_pos hn]
   have v:=Pl.kink_valid0 hd ho hk2 hn hl
   have s:=Pl.kink_same0 hd ho hk2 hn hl rfl
   rw [hod] at v s
   exact ⟨v,s⟩
  ·rw [if_neg hn,if_neg hn]
   have hA:=kA_lt hc
   have hB:=kB_lt hw hc
   have nAB:d.m (kA d c) ≠ d.m (kB d c):=fun e => hw.ne _ ho (Pl.tn_inj (hw.bij.inj _ _ hA hB e).symm)
   have hmt:∀ z,z < 4 * d.n → (jn d.mt (d.m (kA d c)) (d.m (kB d c))).getD z 0 = if z = d.m (kA d c) then d.m (kB d c) else if z = d.m (kB d c) then d.m (kA d c) else d.m z:=fun z hz => by
    rw [jn_jl,Pl.jl_at (by rw [hw.len]; exact hw.lt _ hA) (by rw [hw.len]; exact hw.lt _ hB),Pl.dg_m hw hz]
    by_cases z1:z = d.m (kB d c)
    ·rw [if_pos z1,if_neg (fun e => nAB (e.symm.trans z1)),if_pos z1]
    ·rw [if_neg z1,if_neg z1]
   have v:=Pl.kink_valid hd ho hk2 hn hw.lp hmt
   have s:=Pl.kink_same hd ho hk2 hn hw.lp rfl hmt
   rw [hod] at v s
   exact ⟨v,s⟩
 ·rw [if_neg hk] at h; exact absurd h (by decide)
theorem lens_lens {d:Pl.Dg} (hd:Pl.Wf d) {x y i:Nat} (hxy:x < y) (hy:y < d.n) (h:lensI d x y = some i) :
 Pl.Lens d (lnH x y i) (d.m (lnH x y i)) ∧ ((x = lnH x y i / 4 ∧ y = d.m (lnH x y i) / 4) ∨ (x = d.m (lnH x y i) / 4 ∧ y = lnH x y i / 4)) ∧ Pl.nx d (lnH x y i) = Pl.tn (d.m (lnH x y i)) 3 ∧ d.m (Pl.tn (d.m (lnH x y i)) 3) = Pl.tn (lnH x y i) 1 := by
 obtain ⟨h1,h2,h3⟩:=lens_is h
 have hi:=lens_lt h
 have hl:lnH x y i < 4 * d.n:=by unfold lnH; split <;> omega
 have hu:=hd.lt _ hl
 have e1:d.m (Pl.tn (d.m (lnH x y i)) 3) = Pl.tn (lnH x y i) 1:=by
  unfold Pl.nx at h2
  unfold Pl.tn at h2 ⊢
  omega
 have e2:Pl.nx d (lnH x y i) / 4 = d.m (lnH x y i) / 4:=by unfold Pl.nx; rw [Pl.tn_div]
 have e3:lnH x y i / 4 = if i < 4 then x else y:=by unfold lnH; split <;> omega
 rw [e2] at h1
 unfold lnO at h1
 have hp:(x = lnH x y i / 4 ∧ y = d.m (lnH x y i) / 4) ∨ (x = d.m (lnH x y i) / 4 ∧ y = lnH x y i / 4):=by
  by_cases h4:i < 4
  ·rw [if_pos h4] at h1 e3; exact .inl ⟨e3.symm,h1.symm⟩
  ·rw [if_neg h4] at h1 e3; exact .inr ⟨h1.symm,e3.symm⟩
 refine ⟨⟨hl,rfl,by rw [← e1,hd.inv _ (Pl.tn_lt hu)],fun e => ?_⟩,hp,rfl,e1⟩
 rcases hp with ⟨a,b⟩ | ⟨a,b⟩ <;> omega
theorem unp_at {d:Pl.Dg} (hd:Pl.Valid d) {h u:Nat} (L:Pl.Lens d h u) (l:Ln) (e2:l.p2 = Pl.tn h 2) (e3:l.p3 = Pl.tn h 3) (f0:l.q0 = Pl.tn u 2) (f3:l.q3 = Pl.tn u 1) :
 unpL d l = d.lp + (if d.m (Pl.tn h 2) = Pl.tn u 2 then 1 else 0) + (if Pl.lA d h u (Pl.tn h 3) = Pl.tn u 1 then 1 else 0) ∧
 ∀ z,z < 4 * d.n → z / 4 ≠ h / 4 → z / 4 ≠ u / 4 → (unpB d l).getD z 0 = Pl.lB d h u z := by
 have hw:=hd.wf
 have hh:=L.hh
 have hu:=L.hu hw
 have A:=L.la hd
 have E:=L.ne
 have hA:Pl.tn h 2 < 4 * d.n:=Pl.tn_lt hh
 have hB:Pl.tn u 2 < 4 * d.n:=Pl.tn_lt hu
 have h3:Pl.tn h 3 < 4 * d.n:=Pl.tn_lt hh
 have u1:Pl.tn u 1 < 4 * d.n:=Pl.tn_lt hu
 have al:∀ z,z < 4 * d.n → z ≠ Pl.tn h 2 → z ≠ Pl.tn u 2 → (unpA d l).getD z 0 = Pl.lA d h u z:=fun z hz z1 z2 => by
  unfold unpA
  rw [e2,f0,Pl.dg_m hw hA,Pl.dg_m hw hB]
  by_cases c:d.m (Pl.tn h 2) = Pl.tn u 2
  ·rw [if_pos c,Pl.Lens.lA_c c,Pl.dg_m hw hz]
  ·rw [if_neg c,jn_jl,Pl.jl_at (by rw [hw.len]; exact hw.lt _ hA) (by rw [hw.len]; exact hw.lt _ hB),Pl.dg_m hw hz]
   obtain ⟨b1,b2,b3⟩:=L.lA_e hw c
   by_cases z4:z = d.m (Pl.tn u 2)
   ·rw [if_pos z4,z4,b2]
   ·rw [if_neg z4]
    by_cases z3:z = d.m (Pl.tn h 2)
    ·rw [if_pos z3,z3,b1]
    ·rw [if_neg z3,b3 z z1 z2 z3 z4]
 have alen:(unpA d l).length = 4 * d.n:=by unfold unpA; split <;> simp [jn_len,hw.len]
 have a3:=al (Pl.tn h 3) h3 (Pl.tn_ne (by omega)) (Pl.pm E)
 have a1:=al (Pl.tn u 1) u1 (Ne.symm (Pl.pm E)) (Pl.tn_ne (by omega))
 constructor
 ·unfold unpL
  rw [e2,f0,e3,f3,Pl.dg_m hw hA,a3]
 ·intro z hz n1 n2
  have z0:∀ k,z ≠ Pl.tn h k:=fun k e => n1 (by rw [e,Pl.tn_div])
  have z1:∀ k,z ≠ Pl.tn u k:=fun k e => n2 (by rw [e,Pl.tn_div])
  unfold unpB
  rw [e3,f3,a3,a1]
  by_cases c:Pl.lA d h u (Pl.tn h 3) = Pl.tn u 1
  ·rw [if_pos c,Pl.Lens.lB_c c,al z hz (z0 2) (z1 2)]
  ·rw [if_neg c,jn_jl,Pl.jl_at (by rw [alen]; exact A.hm.ab.maps _ h3) (by rw [alen]; exact A.hm.ab.maps _ u1),al z hz (z0 2) (z1 2)]
   obtain ⟨b1,b2,b3⟩:=L.lB_e hd c
   by_cases z4:z = Pl.lA d h u (Pl.tn u 1)
   ·rw [if_pos z4,z4,b2]
   ·rw [if_neg z4]
    by_cases z3:z = Pl.lA d h u (Pl.tn h 3)
    ·rw [if_pos z3,z3,b1]
    ·rw [if_neg z3,b3 z (z0 3) (z1 1) z3 z4]
theorem unpD_ok {d:Pl.Dg} (hd:Pl.Valid d) {x y:Nat} (hxy:x < y) (hy:y < d.n) (h:unpC d x y = 0):Pl.Valid (unpD d x y) ∧ Pl.Same d (unpD d x y) := by
 unfold unpC at h
 unfold unpD
 cases hL:lensI d x y with
 | none => rw [hL] at h; exact absurd (show (6:Int) = 0 from h) (by decide)
 | some i =>
   rw [hL] at h
   have h':(if 64 < unpL d (lensOf d (lnH x y i)) then (5:Int) else 0) = 0:=h
   have hl:unpL d (lensOf d (lnH x y i)) ≤ 64:=Nat.le_of_not_lt fun e => by rw [if_pos e] at h'; exact absurd h' (by decide)
   obtain ⟨L,hp,e1,e2⟩:=lens_lens hd.wf hxy hy hL
   obtain ⟨g1,g2⟩:=unp_at hd L (lensOf d (lnH x y i)) rfl (by show Pl.tn (d.m (Pl.nx d (lnH x y i))) 2 = _; rw [e1,e2]; exact Pl.tn12 _) rfl (by show Pl.tn (Pl.nx d (lnH x y i)) 2 = _; rw [e1]; exact Pl.tn32 _)
   have hmt:∀ z,Pl.stay d [x,y] z → (unpB d (lensOf d (lnH x y i))).getD z 0 = Pl.lB d (lnH x y i) (d.m (lnH x y i)) z:=fun z hz => by
    have hz2:¬ (z / 4 = x ∨ z / 4 = y):=by have := hz.2; simpa using this
    refine g2 z hz.1 ?_ ?_ <;> rcases hp with ⟨a,b⟩ | ⟨a,b⟩ <;> omega
   exact ⟨L.valid hd hxy hp hl hmt,L.same hd hxy hp hl g1 hmt⟩
theorem sldD_ok {d:Pl.Dg} (hd:Pl.Valid d) {h:Nat} (hh:h < 4 * d.n) (hi:is3 d h):Pl.Valid (sldD d h) ∧ Pl.Same d (sldD d h) :=
 have hw:=(Pl.Valid.iff.1 hd).1
 ⟨sld_valid hd hh hi,(tr_of hh hi).same hd rfl rfl (sF_len hw h 3) (sld_m hw hh hi)⟩
end Go.Proofs.YtghdiolnonejaaaGreatDoor
end
section
namespace Go.Proofs.YtghdiolnonejaaaGreatDoor
open Go Go.RowKit
theorem fwd_nat (d:Pl.Dg) (x:Nat):fwd d (x:Int) = Pl.out d x := by
 unfold fwd
 rw [if_neg (by omega),if_pos (by omega),Int.toNat_natCast]
theorem plc_pp (n s t:Nat) (h:s ≤ 4):plc n s t = Pl.pp n (4 - s) t := by unfold plc Pl.pp; omega
theorem unS_le (d:Pl.Dg) (x y:Int) (ov:Bool):un0 d x y ov ≤ 4 ∧ un1 d x y ov ≤ 4 := by
 unfold un0 un1 lnS th0 th1
 cases ov <;> cases fwd d x <;> cases fwd d y <;> decide
def pkF (d:Pl.Dg) (x y:Int) (ov:Bool):Nat := 4 - un0 d x y ov
def pkG (d:Pl.Dg) (x y:Int) (ov:Bool):Nat := 4 - un1 d x y ov
theorem pP_pp (d:Pl.Dg) (x y:Int) (ov:Bool) (t:Nat):pP d x y ov t = Pl.pp d.n (pkF d x y ov) t := plc_pp _ _ _ (unS_le d x y ov).1
theorem pQ_pp (d:Pl.Dg) (x y:Int) (ov:Bool) (t:Nat):pQ d x y ov t = Pl.pp (d.n + 1) (pkG d x y ov) t := plc_pp _ _ _ (unS_le d x y ov).2
theorem pk0_l0 (d:Pl.Dg) (x y:Int) (ov:Bool):pk0 d x y ov = Pl.pkL0 d (pkF d x y ov) (pkG d x y ov) := by
 unfold pk0 Pl.pkL0
 rw [pP_pp,pQ_pp,pQ_pp,pP_pp]
 rfl
theorem app_s0 (l:List Int) (a b:Int) (c:Nat) (h:c < l.length):(l ++ [a,b]).getD c 0 = l.getD c 0 := by
 rw [List.getD_eq_getElem?_getD,List.getD_eq_getElem?_getD,List.getElem?_append_left h]
theorem app_s1 (l:List Int) (a b:Int):(l ++ [a,b]).getD l.length 0 = a := by
 rw [List.getD_eq_getElem?_getD,List.getElem?_append_right (Nat.le_refl _)]; simp
theorem app_s2 (l:List Int) (a b:Int):(l ++ [a,b]).getD (l.length + 1) 0 = b := by
 rw [List.getD_eq_getElem?_getD,List.getElem?_append_right (by omega)]; simp
theorem out_pp (d:Pl.Dg) (n f t:Nat):Pl.out d (Pl.pp n f t) = ((t + f) % 4 == 2 || ((t + f) % 4 == 1 && d.s n == 1) || ((t + f) % 4 == 3 && d.s n == -1)) := by
 unfold Pl.out
 rw [show Pl.pp n f t % 4 = (t + f) % 4 by unfold Pl.pp; omega,show Pl.pp n f t / 4 = n by unfold Pl.pp; omega]
theorem pk_pd {d:Pl.Dg} (hd:Pl.Valid d) (x y sg:Int) (ov:Bool) (hn:d.n + 2 ≤ 64) (hl:(pkL d x y sg).toNat ≤ 64):Pl.Pd d (pkD d x y sg ov) (pkF d x y ov) (pkG d x y ov) (fwd d x) (fwd d y) := by
 have s0:(pkD d x y sg ov).s d.n = sgn2 (un0 d x y ov) (ov0 d x y ov):=app_s1 _ _ _
 have s1:(pkD d x y sg ov).s (d.n + 1) = sgn2 (un1 d x y ov) (ov1 d x y ov):=app_s2 _ _ _
 refine ⟨hn,by unfold Pl.Dg.n pkD; simp,hl,fun c hc => app_s0 _ _ _ _ hc,by rw [s0]; unfold sgn2; split <;> simp,by rw [s1]; unfold sgn2; split <;> simp,?_,?_,?_,?_,?_,?_,?_,?_⟩
 all_goals
  rw [out_pp]
  first
   | rw [s0]
   | rw [s1]
  try unfold pkF
  try unfold pkG
  try unfold sgn2
  try unfold un0
  try unfold un1
  try unfold ov0
  try unfold ov1
  try unfold lnS
  try unfold th0
  try unfold th1
  try unfold plc
  cases ov <;> cases fwd d x <;> cases fwd d y <;> decide
theorem pk_ok {d:Pl.Dg} (hd:Pl.Valid d) {x y sg:Int} {ov:Bool} (hin:inR d.n ⟨3,x,y,sg,ov⟩) (h:pkQ d x y sg = 0):Pl.Valid (pkD d x y sg ov) ∧ Pl.Same d (pkD d x y sg ov) ∧
 ∃ c1 c2,Pl.Out d (pkD d x y sg ov) (pkF d x y ov) (pkG d x y ov) c1 c2 ∧ d.lp = (pkD d x y sg ov).lp + c1 + c2 := by
 have hw:=hd.wf
 have hlp:=hw.lp
 unfold inR at hin
 simp only at hin
 rw [if_neg (by decide),if_neg (by decide),if_neg (by decide),if_neg (by decide)] at hin
 obtain ⟨x1,x2,y1,y2,hs⟩:=hin
 unfold pkQ at h
 have hneed:¬ d.lp < needP x y sg:=fun e => by rw [if_pos e] at h; exact absurd h (by decide)
 rw [if_neg hneed] at h
 have hnear:¬ Pl.vb (0 ≤ x ∧ 0 ≤ y ∧ x ≠ y ∧ ¬ nearP d x.toNat y.toNat) = true:=fun e => by rw [if_pos e] at h; exact absurd h (by decide)
 rw [if_neg hnear] at h
 have hn:d.n + 2 ≤ 64:=Nat.le_of_not_lt fun e => by rw [if_pos e] at h; exact absurd h (by decide)
 rw [Pl.vb_iff] at hnear
 unfold needP at hneed
 have mt:(pkD d x y sg ov).mt = pkM d x y sg ov:=rfl
 have lpe:(pkD d x y sg ov).lp = (pkL d x y sg).toNat:=rfl
 by_cases hs0:sg = 0
 ·subst hs0
  have eM:pkM d x y 0 ov = leadM d (leadM d (pk0 d x y ov) y (pQ d x y ov 0) (pP d x y ov 2)) x (pP d x y ov 3) (pQ d x y ov 3):=by
   unfold pkM; rw [if_neg (by simp),if_neg (by decide),if_neg (by decide)]
  rw [eM,pk0_l0,pQ_pp,pP_pp,pP_pp,pQ_pp] at mt
  by_cases hx:x < 0 <;> by_cases hy:y < 0
  ·rw [if_pos hx,if_pos ⟨hy,rfl⟩] at hneed
   have eL:(pkL d x y 0).toNat = d.lp - 2:=by unfold pkL; simp [hx,hy]; try omega
   have K:=pk_pd hd x y 0 ov hn (by rw [eL]; omega)
   have mt':=mt
   unfold leadM at mt'
   rw [if_pos hx,if_pos hy] at mt'
   have Y:=K.yloop hd
   have v:=Y.1.xloop hd K mt'
   have O:=K.out_loops hd v mt'
   exact ⟨v,O.same hd v (by rw [lpe,eL]; omega),1,1,O,by rw [lpe,eL]; omega⟩
  ·obtain ⟨k,rfl⟩:=Int.eq_ofNat_of_zero_le (Int.not_lt.1 hy)
   have hk:k < 4 * d.n:=by omega
   rw [if_pos hx,if_neg (fun e => hy e.1)] at hneed
   have eL:(pkL d x (k:Int) 0).toNat = d.lp - 1:=by unfold pkL; simp [hx,hy]; try omega
   have K:=pk_pd hd x (k:Int) 0 ov hn (by rw [eL]; omega)
   have mt':=mt
   unfold leadM at mt'
   rw [if_pos hx,if_neg hy,Int.toNat_natCast] at mt'
   obtain ⟨b,Y,_⟩:=K.yedge hd hk (fwd_nat d k).symm
   have v:=Y.xloop hd K mt'
   have O:=K.out_yedge hd v hk mt'
   exact ⟨v,O.same hd v (by rw [lpe,eL]; omega),0,1,O,by rw [lpe,eL]; omega⟩
  ·obtain ⟨k,rfl⟩:=Int.eq_ofNat_of_zero_le (Int.not_lt.1 hx)
   have hk:k < 4 * d.n:=by omega
   rw [if_neg hx,if_pos ⟨hy,rfl⟩] at hneed
   have eL:(pkL d (k:Int) y 0).toNat = d.lp - 1:=by unfold pkL; simp [hx,hy]; try omega
   have K:=pk_pd hd (k:Int) y 0 ov hn (by rw [eL]; omega)
   have mt':=mt
   unfold leadM at mt'
   rw [if_neg hx,if_pos hy,Int.toNat_natCast] at mt'
   have Y:=K.yloop hd
   have v:=Y.1.xedge0 hd K Y.2 hk (fwd_nat d k).symm mt'
   have O:=K.out_xedge hd v hk mt'
   exact ⟨v,O.same hd v (by rw [lpe,eL]; omega),1,0,O,by rw [lpe,eL]; omega⟩
  ·obtain ⟨k,rfl⟩:=Int.eq_ofNat_of_zero_le (Int.not_lt.1 hx)
   obtain ⟨j,rfl⟩:=Int.eq_ofNat_of_zero_le (Int.not_lt.1 hy)
   have hk:k < 4 * d.n:=by omega
   have hj:j < 4 * d.n:=by omega
   have hne:(k:Int) ≠ (j:Int):=fun e => by rw [if_neg (fun n => n e),if_neg hx] at hs; omega
   have hkj:k ≠ j:=fun e => hne (by rw [e])
   have near:nearP d k j:=Classical.byContradiction fun e => hnear ⟨by omega,by omega,hne,by rw [Int.toNat_natCast,Int.toNat_natCast]; exact e⟩
   have eL:(pkL d (k:Int) (j:Int) 0).toNat = d.lp:=by unfold pkL; simp [hx,hy]
   have K:=pk_pd hd (k:Int) (j:Int) 0 ov hn (by rw [eL]; omega)
   have mt':=mt
   unfold leadM at mt'
   rw [if_neg hx,if_neg hy,Int.toNat_natCast,Int.toNat_natCast] at mt'
   have v:=K.edges hd hk hj (fwd_nat d k).symm (fwd_nat d j).symm hkj near.2 near.1 mt'
   have O:=K.out_edges hd v hk hj hkj near.2 mt'
   exact ⟨v,O.same hd v (by rw [lpe,eL]; omega),0,0,O,by rw [lpe,eL]; omega⟩
 ·have hxy:x = y:=Classical.byContradiction fun e => hs0 (by rw [if_pos e] at hs; exact hs)
  subst hxy
  rw [if_neg (by simp)] at hs
  by_cases hx:x < 0
  ·rw [if_pos hx] at hs
   have eM:pkM d x x sg ov = jn (jn (pk0 d x x ov) (pQ d x x ov 3) (pQ d x x ov 0)) (pP d x x ov 2) (pP d x x ov 3):=by unfold pkM; rw [if_pos ⟨hs0,hx⟩]
   rw [eM,pk0_l0,pQ_pp,pQ_pp,pP_pp,pP_pp] at mt
   rw [if_pos hx,if_neg (fun e => hs0 e.2)] at hneed
   have eL:(pkL d x x sg).toNat = d.lp - 1:=by unfold pkL; rw [if_pos ⟨hs0,hx⟩]; omega
   have K:=pk_pd hd x x sg ov hn (by rw [eL]; omega)
   have v:=K.self0 hd mt
   have O:=K.out_self0 hd v mt
   exact ⟨v,O.same hd v (by rw [lpe,eL]; omega),0,1,O,by rw [lpe,eL]; omega⟩
  ·rw [if_neg hx] at hs
   obtain ⟨k,rfl⟩:=Int.eq_ofNat_of_zero_le (Int.not_lt.1 hx)
   have hk:k < 4 * d.n:=by omega
   have eL:(pkL d (k:Int) (k:Int) sg).toNat = d.lp:=by unfold pkL; rw [if_neg (fun e => hx e.2),if_neg hs0]; omega
   have K:=pk_pd hd (k:Int) (k:Int) sg ov hn (by rw [eL]; omega)
   rcases hs with rfl | rfl
   ·have eM : pkM d (k : Int) (k : Int) 1 ov = jn (jn (jn (pk0 d (k : Int) (k : Int) ov) k (pP d (k : Int) (k : Int) ov 3)) (pQ d (k : Int) (k : Int) ov 3) (pQ d (k : Int) (k : Int) ov 0)) (pP d (k : Int) (k : Int) ov 2) (d.m k) := by
     unfold pkM; rw [if_neg (fun e => hx e.2),if_pos rfl,Int.toNat_natCast]
    rw [eM,pk0_l0,pQ_pp,pQ_pp,pP_pp,pP_pp] at mt
    have v:=K.self1 hd hk (fwd_nat d k).symm mt
    have O:=K.out_self1 hd v hk mt
    exact ⟨v,O.same hd v (by rw [lpe,eL]; omega),0,0,O,by rw [lpe,eL]; omega⟩
   ·have eM : pkM d (k : Int) (k : Int) (-1) ov = jn (jn (jn (pk0 d (k : Int) (k : Int) ov) k (pQ d (k : Int) (k : Int) ov 0)) (pP d (k : Int) (k : Int) ov 2) (pP d (k : Int) (k : Int) ov 3)) (pQ d (k : Int) (k : Int) ov 3) (d.m k) := by
     unfold pkM; rw [if_neg (fun e => hx e.2),if_neg (by decide),if_pos rfl,Int.toNat_natCast]
    rw [eM,pk0_l0,pQ_pp,pQ_pp,pP_pp,pP_pp] at mt
    have v:=K.self2 hd hk (fwd_nat d k).symm mt
    have O:=K.out_self2 hd v hk mt
    exact ⟨v,O.same hd v (by rw [lpe,eL]; omega),0,0,O,by rw [lpe,eL]; omega⟩
theorem ap_ok {d:Pl.Dg} (hd:Pl.Valid d) {m:Mv} (h:apC d m = 0):Pl.Valid (apD d m) ∧ Pl.Same d (apD d m) := by
 obtain ⟨hk,hin,hc⟩:=apC_zero h
 obtain ⟨k,x,y,s,o⟩:=m
 simp only at hk hc
 have hk5:k = 1 ∨ k = 2 ∨ k = 3 ∨ k = 4 ∨ k = 5:=by omega
 rcases hk5 with rfl | rfl | rfl | rfl | rfl
 ·have hb:(-1 ≤ x ∧ x < 4 * d.n) ∧ (s = 1 ∨ s = -1):=by unfold inR at hin; simp at hin; exact ⟨⟨hin.1,hin.2.1⟩,hin.2.2.2⟩
  exact crl_ok hd hb.1 hb.2 hc
 ·obtain ⟨c,rfl⟩:=Int.eq_ofNat_of_zero_le (show 0 ≤ x by unfold inR at hin; simp at hin; omega)
  have hcn:c < d.n:=by unfold inR at hin; simp at hin; omega
  exact unD_ok hd hcn hc
 ·have:=pk_ok hd hin hc
  exact ⟨this.1,this.2.1⟩
 ·obtain ⟨a,rfl⟩:=Int.eq_ofNat_of_zero_le (show 0 ≤ x by unfold inR at hin; simp at hin; omega)
  obtain ⟨b,rfl⟩:=Int.eq_ofNat_of_zero_le (show 0 ≤ y by unfold inR at hin; simp at hin; omega)
  have hab:a < b ∧ b < d.n:=by unfold inR at hin; simp at hin; omega
  exact unpD_ok hd hab.1 hab.2 hc
 ·obtain ⟨c,rfl⟩:=Int.eq_ofNat_of_zero_le (show 0 ≤ x by unfold inR at hin; simp at hin; omega)
  have hcn:c < 4 * d.n:=by unfold inR at hin; simp at hin; omega
  have hc':sldC d c = 0:=hc
  have ht:isT d c:=Classical.byContradiction fun e => by unfold sldC at hc'; rw [if_neg e] at hc'; exact absurd hc' (by decide)
  exact sldD_ok hd hcn ht.1
end Go.Proofs.YtghdiolnonejaaaGreatDoor
end
section
namespace Go.Proofs.YtghdiolnonejaaaGreatDoor
open Go Go.RowKit
attribute [local go_sem ↓] Go.wp_at_zero Go.wp_at_succ
theorem row3 {W:World} {g:Nat} {t:TypeId} {vs:List Value} (h:Row W g t vs) (l:vs.length = 3) (y0 y1 y2:Value) :
 Row (((W.setCell ⟨g,0,none⟩ y0).setCell ⟨g,1,none⟩ y1).setCell ⟨g,2,none⟩ y2) g t [y0,y1,y2] := by
 obtain ⟨a,b,c,rfl⟩:∃ a b c,vs = [a,b,c] := by
  match vs,l with
  | [a,b,c],_ => exact ⟨a,b,c,rfl⟩
 exact ((h.set 0 y0).set 1 y1).set 2 y2
theorem DgT.set3 {W:World} {A B:Option Addr} {d:Pl.Dg} {g:Nat} {vs:List Value} (h:DgT W A B d) (hr:Row W g 24 vs) (y0 y1 y2:Value):DgT (((W.setCell ⟨g,0,none⟩ y0).setCell ⟨g,1,none⟩ y1).setCell ⟨g,2,none⟩ y2) A B d :=
 ((h.store hr (by decide) y0).store (hr.set 0 y0) (by decide) y1).store ((hr.set 0 y0).set 1 y1) (by decide) y2
theorem below3 {w W:World} {g:Nat} (h:Below w.heap.size w W) (hg:w.heap.size ≤ g) (y0 y1 y2:Value):Below w.heap.size w (((W.setCell ⟨g,0,none⟩ y0).setCell ⟨g,1,none⟩ y1).setCell ⟨g,2,none⟩ y2) :=
 ((h.setCell (by show _ ≤ g; exact hg) y0).setCell (by show _ ≤ g; exact hg) y1).setCell (by show _ ≤ g; exact hg) y2
end Go.Proofs.YtghdiolnonejaaaGreatDoor
end
section
namespace Go.Proofs.YtghdiolnonejaaaGreatDoor
open Go Go.RowKit
attribute [local go_sem ↓] Go.wp_at_zero Go.wp_at_succ
def seen (L:List Mv) (x q:Nat):Bool := (L.take q).any (fun z => z.x == (x:Int))
end Go.Proofs.YtghdiolnonejaaaGreatDoor
end
