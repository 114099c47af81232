/-
 The texts Xf, Xg, Rw.
-/
import Derived.Test.YtghdiolnonejaaaGreatDoorA05
set_option linter.unusedVariables false
set_option linter.unusedSimpArgs false
section
namespace Go.Proofs.YtghdiolnonejaaaGreatDoor
open Go Go.RowKit
attribute [local go_sem ↓] Go.wp_at_zero Go.wp_at_succ
def ResC (c:Int) (r:Pl.Dg) (mv:Mv) (w:World) (e:Ending) (w':World):Prop := (c ≠ 0 → ResErr c e) ∧ (c = 0 → ResOk r mv e w') ∧ Below w.heap.size w w'
theorem ResOk.split {r:Pl.Dg} {mv:Mv} {e:Ending} {w':World} (h:ResOk r mv e w'):∃ (A B:Option Addr) (c1 c2:Nat) (k x y s:Int) (o:Bool),mv = ⟨k,x,y,s,o⟩ ∧ e = .returned (.tuple #[.agg #[.slice A r.n c1,.slice B (4 * r.n) c2,.int .i64 r.lp],.agg #[.int .i64 k,.int .i64 x,.int .i64 y,.int .i64 s,.bool o],.int .i64 0]) ∧ DgT w' A B r := by
 obtain ⟨A,B,c1,c2,he,hd⟩:=h
 obtain ⟨k,x,y,s,o⟩:=mv
 exact ⟨A,B,c1,c2,k,x,y,s,o,rfl,he,hd⟩
theorem ResErr.split {c:Int} {e:Ending} (h:ResErr c e):e = .returned (.tuple #[.agg #[.slice none 0 0,.slice none 0 0,.int .i64 0],.agg #[.int .i64 0,.int .i64 0,.int .i64 0,.int .i64 0,.bool false],.int .i64 c]) := h
theorem DgT.store {w:World} {A B:Option Addr} {d:Pl.Dg} {g o:Nat} {t:TypeId} {vs:List Value} (h:DgT w A B d) (hr:Row w g t vs) (hne:3 ≠ t) (v:Value):DgT (w.setCell ⟨g,o,none⟩ v) A B d := ⟨h.s.store hr hne v,h.m.store hr hne v⟩
structure AB (w:World) (gr gi:Nat) (dv mv:List Value) (W:World):Prop where
 d:Row W w.heap.size 24 dv
 m:Row W (w.heap.size + 1) 43 mv
 rd:∃ vs,Row W (w.heap.size + 1 + 1) 24 vs ∧ vs.length = 3
 rm:∃ us,Row W (w.heap.size + 1 + 1 + 1) 43 us ∧ us.length = 5
 r:∃ vs,Row W gr 24 vs ∧ vs.length = 3
 i:∃ us,Row W gi 43 us ∧ us.length = 5
 bel:Below w.heap.size w W
 lr:w.heap.size + 1 + 1 + 1 < gr
 li:w.heap.size + 1 + 1 + 1 < gi
 ne:gr ≠ gi
section
variable {w W W':World} {gr gi:Nat} {dv mv:List Value}
theorem AB.drew (h:AB w gr gi dv mv W):AB w gr gi dv mv W.drew := ⟨h.d,h.m,h.rd,h.rm,h.r,h.i,h.bel.drew,h.lr,h.li,h.ne⟩
theorem AB.below (h:AB w gr gi dv mv W) (hb:Below W.heap.size W W'):AB w gr gi dv mv W' :=
 let ⟨vs,r1,l1⟩:=h.rd
 let ⟨us,r2,l2⟩:=h.rm
 let ⟨xs,r3,l3⟩:=h.r
 let ⟨ys,r4,l4⟩:=h.i
 ⟨h.d.below hb,h.m.below hb,⟨vs,r1.below hb,l1⟩,⟨us,r2.below hb,l2⟩,⟨xs,r3.below hb,l3⟩,⟨ys,r4.below hb,l4⟩,h.bel.trans (hb.mono h.bel.size),h.lr,h.li,h.ne⟩
theorem AB.setD (h:AB w gr gi dv mv W) (o:Nat) (v:Value):AB w gr gi dv mv (W.setCell ⟨w.heap.size + 1 + 1,o,none⟩ v) :=
 have a1:=h.lr
 have a2:=h.li
 have a3:=h.ne
 let ⟨vs,r1,l1⟩:=h.rd
 let ⟨us,r2,l2⟩:=h.rm
 let ⟨xs,r3,l3⟩:=h.r
 let ⟨ys,r4,l4⟩:=h.i
 ⟨h.d.other (by show _ ≠ w.heap.size + 1 + 1; omega) v,h.m.other (by show _ ≠ w.heap.size + 1 + 1; omega) v,⟨vs.set o v,r1.set o v,by rw [List.length_set,l1]⟩,⟨us,r2.other (by show _ ≠ w.heap.size + 1 + 1; omega) v,l2⟩,⟨xs,r3.other (by show _ ≠ w.heap.size + 1 + 1; omega) v,l3⟩,⟨ys,r4.other (by show _ ≠ w.heap.size + 1 + 1; omega) v,l4⟩,h.bel.setCell (by show _ ≤ w.heap.size + 1 + 1; omega) v,h.lr,h.li,h.ne⟩
theorem AB.setM (h:AB w gr gi dv mv W) (o:Nat) (v:Value):AB w gr gi dv mv (W.setCell ⟨w.heap.size + 1 + 1 + 1,o,none⟩ v) :=
 have a1:=h.lr
 have a2:=h.li
 have a3:=h.ne
 let ⟨vs,r1,l1⟩:=h.rd
 let ⟨us,r2,l2⟩:=h.rm
 let ⟨xs,r3,l3⟩:=h.r
 let ⟨ys,r4,l4⟩:=h.i
 ⟨h.d.other (by show _ ≠ w.heap.size + 1 + 1 + 1; omega) v,h.m.other (by show _ ≠ w.heap.size + 1 + 1 + 1; omega) v,⟨vs,r1.other (by show _ ≠ w.heap.size + 1 + 1 + 1; omega) v,l1⟩,⟨us.set o v,r2.set o v,by rw [List.length_set,l2]⟩,⟨xs,r3.other (by show _ ≠ w.heap.size + 1 + 1 + 1; omega) v,l3⟩,⟨ys,r4.other (by show _ ≠ w.heap.size + 1 + 1 + 1; omega) v,l4⟩,h.bel.setCell (by show _ ≤ w.heap.size + 1 + 1 + 1; omega) v,h.lr,h.li,h.ne⟩
theorem AB.setR (h:AB w gr gi dv mv W) (o:Nat) (v:Value):AB w gr gi dv mv (W.setCell ⟨gr,o,none⟩ v) :=
 have a1:=h.lr
 have a2:=h.li
 have a3:=h.ne
 let ⟨vs,r1,l1⟩:=h.rd
 let ⟨us,r2,l2⟩:=h.rm
 let ⟨xs,r3,l3⟩:=h.r
 let ⟨ys,r4,l4⟩:=h.i
 ⟨h.d.other (by show _ ≠ gr; omega) v,h.m.other (by show _ ≠ gr; omega) v,⟨vs,r1.other (by show _ ≠ gr; omega) v,l1⟩,⟨us,r2.other (by show _ ≠ gr; omega) v,l2⟩,⟨xs.set o v,r3.set o v,by rw [List.length_set,l3]⟩,⟨ys,r4.other (by show _ ≠ gr; omega) v,l4⟩,h.bel.setCell (by show _ ≤ gr; omega) v,h.lr,h.li,h.ne⟩
theorem AB.setI (h:AB w gr gi dv mv W) (o:Nat) (v:Value):AB w gr gi dv mv (W.setCell ⟨gi,o,none⟩ v) :=
 have a1:=h.lr
 have a2:=h.li
 have a3:=h.ne
 let ⟨vs,r1,l1⟩:=h.rd
 let ⟨us,r2,l2⟩:=h.rm
 let ⟨xs,r3,l3⟩:=h.r
 let ⟨ys,r4,l4⟩:=h.i
 ⟨h.d.other (by show _ ≠ gi; omega) v,h.m.other (by show _ ≠ gi; omega) v,⟨vs,r1.other (by show _ ≠ gi; omega) v,l1⟩,⟨us,r2.other (by show _ ≠ gi; omega) v,l2⟩,⟨xs,r3.other (by show _ ≠ gi; omega) v,l3⟩,⟨ys.set o v,r4.set o v,by rw [List.length_set,l4]⟩,h.bel.setCell (by show _ ≤ gi; omega) v,h.lr,h.li,h.ne⟩
end
structure AD (w:World) (gr gi:Nat) (dv mv:List Value) (A B:Option Addr) (r:Pl.Dg) (W:World):Prop where
 b:AB w gr gi dv mv W
 t:DgT W A B r
section
variable {w W W':World} {gr gi:Nat} {dv mv:List Value} {A B:Option Addr} {r:Pl.Dg}
theorem AD.drew (h:AD w gr gi dv mv A B r W):AD w gr gi dv mv A B r W.drew := ⟨h.b.drew,⟨h.t.s,h.t.m⟩⟩
theorem AD.setD (h:AD w gr gi dv mv A B r W) (o:Nat) (v:Value):AD w gr gi dv mv A B r (W.setCell ⟨w.heap.size + 1 + 1,o,none⟩ v) := ⟨h.b.setD o v,let ⟨_,r1,_⟩:=h.b.rd; h.t.store r1 (by decide) v⟩
theorem AD.setM (h:AD w gr gi dv mv A B r W) (o:Nat) (v:Value):AD w gr gi dv mv A B r (W.setCell ⟨w.heap.size + 1 + 1 + 1,o,none⟩ v) := ⟨h.b.setM o v,let ⟨_,r1,_⟩:=h.b.rm; h.t.store r1 (by decide) v⟩
theorem AD.setR (h:AD w gr gi dv mv A B r W) (o:Nat) (v:Value):AD w gr gi dv mv A B r (W.setCell ⟨gr,o,none⟩ v) := ⟨h.b.setR o v,let ⟨_,r1,_⟩:=h.b.r; h.t.store r1 (by decide) v⟩
theorem AD.setI (h:AD w gr gi dv mv A B r W) (o:Nat) (v:Value):AD w gr gi dv mv A B r (W.setCell ⟨gi,o,none⟩ v) := ⟨h.b.setI o v,let ⟨_,r1,_⟩:=h.b.i; h.t.store r1 (by decide) v⟩
end
theorem cells3 {W:World} {g:Nat} {t:TypeId} {vs:List Value} (h:Row W g t vs) (l:vs.length = 3):W.cell? ⟨g,0,none⟩ = some (cv W ⟨g,0,none⟩) ∧ W.cell? ⟨g,1,none⟩ = some (cv W ⟨g,1,none⟩) ∧ W.cell? ⟨g,2,none⟩ = some (cv W ⟨g,2,none⟩) ∧ ∀ o,W.frozen? ⟨g,o,none⟩ = false :=
 ⟨cv_some (h.cell (i := 0) (by omega)),cv_some (h.cell (i := 1) (by omega)),cv_some (h.cell (i := 2) (by omega)),h.free⟩
theorem cells5 {W:World} {g:Nat} {t:TypeId} {vs:List Value} (h:Row W g t vs) (l:vs.length = 5):W.cell? ⟨g,0,none⟩ = some (cv W ⟨g,0,none⟩) ∧ W.cell? ⟨g,1,none⟩ = some (cv W ⟨g,1,none⟩) ∧ W.cell? ⟨g,2,none⟩ = some (cv W ⟨g,2,none⟩) ∧ W.cell? ⟨g,3,none⟩ = some (cv W ⟨g,3,none⟩) ∧ W.cell? ⟨g,4,none⟩ = some (cv W ⟨g,4,none⟩) ∧ ∀ o,W.frozen? ⟨g,o,none⟩ = false :=
 ⟨cv_some (h.cell (i := 0) (by omega)),cv_some (h.cell (i := 1) (by omega)),cv_some (h.cell (i := 2) (by omega)),cv_some (h.cell (i := 3) (by omega)),cv_some (h.cell (i := 4) (by omega)),h.free⟩
theorem uncurl_m (d:Pl.Dg) (hd:Pl.Wf d) (A B:Option Addr) (cp cq m c:Nat) (k y sg:Int) (ov:Bool) (w:World) (hm:m = 4 * d.n) (hg:DgAt w A B d) (hc:c < d.n) :
 Calls Tryz.prog 47 #[.agg #[.slice A d.n cp,.slice B m cq,.int .i64 d.lp],.agg #[.int .i64 k,.int .i64 (c:Int),.int .i64 y,.int .i64 sg,.bool ov]] w (UncPost d c w) := by
 subst hm; exact uncurl_any d hd A B cp cq c k y sg ov w hg hc
def unpD (d:Pl.Dg) (x y:Nat):Pl.Dg := match lensI d x y with
 | some i => unpDl d (lensOf d (lnH x y i)) x y
 | none => d
def unpI (d:Pl.Dg) (x y:Nat):Mv := match lensI d x y with
 | some i => pusI d (lensOf d (lnH x y i)) x y
 | none => ⟨0,0,0,0,false⟩
theorem unpoke_m (d:Pl.Dg) (hd:Pl.Wf d) (A B:Option Addr) (cp cq m x y:Nat) (k sg:Int) (ov:Bool) (w:World) (hm:m = 4 * d.n) (hg:DgAt w A B d) (hxy:x < y) (hy:y < d.n) :
 Calls Tryz.prog 50 #[.agg #[.slice A d.n cp,.slice B m cq,.int .i64 d.lp],.agg #[.int .i64 k,.int .i64 (x:Int),.int .i64 (y:Int),.int .i64 sg,.bool ov]] w (ResC (unpC d x y) (unpD d x y) (unpI d x y) w) := by
 subst hm
 refine (unpoke_any d hd A B cp cq x y k sg ov w hg hxy hy).mono ?_
 rintro e w' ⟨h1,h2,h3⟩
 refine ⟨h1,fun h => ?_,h3⟩
 obtain ⟨i,hi,hr⟩:=h2 h
 unfold unpD unpI
 rw [hi]
 exact hr
set_option maxRecDepth 100000 in
set_option maxHeartbeats 4000000 in
theorem apply_2 (d:Pl.Dg) (hd:Pl.Valid d) (A B:Option Addr) (cp cq m:Nat) (x:Nat) (y s:Int) (o:Bool) (w:World) (hm:m = 4 * d.n) (hg:DgAt w A B d) (hin:inR d.n ⟨2,(x:Int),y,s,o⟩) :
 Calls Tryz.prog 26 #[.agg #[.slice A d.n cp,.slice B m cq,.int .i64 d.lp],(Mv.mk 2 (x:Int) y s o).v] w (ResC (uncC d x) (unD d x) (unI d x) w) := by
 have hn:=hd.wf.few
 have hlp:=hd.wf.lp
 have HM:=hide hm
 have HG:=hide hg
 have hm2:m ≤ 256:=by omega
 clear hm hg
 have PB0:=hide (boxes4 w (.slice A d.n cp) (.slice B m cq) (.int .i64 (d.lp:Int)) (.int .i64 2) (.int .i64 (x:Int)) (.int .i64 y) (.int .i64 s) (.bool o))
 unfold W4 at PB0
 obtain ⟨x0,x1,x2,x3,b0,s0⟩:=PB0.out
 have X0:=hide x0
 have X1:=hide x1
 have X2:=hide x2
 have X3:=hide x3
 have B0:=hide b0
 have S0:=hide s0
 clear x0 x1 x2 x3 b0 s0 PB0
 unfold Mv.v
 go_enter Tryz.func26,Tryz.ntmps26
 go_wp2_with fail
 refine (valid_yes d hd A B cp cq m _ HM.out (HG.out.keep B0.out)).mono ?_
 rintro e w1 ⟨rfl,hb1⟩
 have Y0:=hide (X0.out.below hb1)
 have Y1:=hide (X1.out.below hb1)
 have Y2:=hide (X2.out.below hb1)
 have Y3:=hide (X3.out.below hb1)
 have B1:=hide (B0.out.trans (hb1.mono B0.out.size))
 have hsz1:w.heap.size + 4 ≤ w1.heap.size:=by have := hb1.size; have := S0.out; omega
 clear X0 X1 X2 X3 B0 S0 hb1
 obtain ⟨d0,d1,d2,d3⟩:=box3 Y0.out
 obtain ⟨m0,m1,m2,m3,m4,m5⟩:=box5 Y1.out
 go_wp2_with fail
 refine (inRange_2 d.n (x:Int) y s o w1 (by omega)).mono ?_
 rintro e w2 ⟨rfl,hb2⟩
 rw [Pl.vb_true hin]
 have hsz:w.heap.size + 4 ≤ w2.heap.size:=by have := hb2.size; omega
 have AB2:=hide (show AB w w2.heap.size (w2.heap.size + 1) [.slice A d.n cp,.slice B m cq,.int .i64 (d.lp:Int)] [.int .i64 2,.int .i64 (x:Int),.int .i64 y,.int .i64 s,.bool o] ((w2.alloc (.cells #[.slice none 0 0,.slice none 0 0,.int .i64 0] 24)).alloc (.cells #[.int .i64 0,.int .i64 0,.int .i64 0,.int .i64 0,.bool false] 43)) from
  ⟨((Y0.out.below hb2).alloc _).alloc _,((Y1.out.below hb2).alloc _).alloc _,⟨_,((Y2.out.below hb2).alloc _).alloc _,rfl⟩,⟨_,((Y3.out.below hb2).alloc _).alloc _,rfl⟩,⟨_,(row_at (vs := [_,_,_]) rfl).alloc _,rfl⟩,⟨_,row_at (vs := [_,_,_,_,_]) (by simp),rfl⟩,((B1.out.trans (hb2.mono B1.out.size)).alloc (B1.out.trans (hb2.mono B1.out.size)).size _).alloc ((B1.out.trans (hb2.mono B1.out.size)).alloc (B1.out.trans (hb2.mono B1.out.size)).size _).size _,by omega,by omega,by omega⟩)
 obtain ⟨d0',d1',d2',d3'⟩:=box3 (Y0.out.below hb2)
 obtain ⟨m0',m1',m2',m3',m4',m5'⟩:=box5 (Y1.out.below hb2)
 clear d0 d1 d2 d3 m0 m1 m2 m3 m4 m5 Y0 Y1 Y2 Y3 B1 hb2 hsz1
 have z1:w.heap.size < w2.heap.size:=by omega
 have z2:w.heap.size + 1 < w2.heap.size:=by omega
 have hx:x < d.n:=by have := hin; unfold inR at this; simp at this; omega
 have HG2:=hide (HG.out.keep AB2.out.bel)
 go_wp2_with fail
 obtain ⟨gr,hgr⟩:∃ g,g = w2.heap.size := ⟨_,rfl⟩
 obtain ⟨gi,hgi⟩:∃ g,g = w2.heap.size + 1 := ⟨_,rfl⟩
 rw [← hgi,← hgr] at AB2
 rw [← hgi,← hgr]
 clear hgr hgi
 refine (uncurl_m d hd.wf A B cp cq m x 2 y s o _ HM.out HG2.out hx).mono ?_
 intro e w3 hres
 have AB3:=hide (AB2.out.below hres.2.2)
 obtain ⟨cc,hcc⟩:∃ c,c = uncC d x := ⟨_,rfl⟩
 obtain ⟨rr,hrr⟩:∃ r,r = unD d x := ⟨_,rfl⟩
 obtain ⟨mm,hmm⟩:∃ r,r = unI d x := ⟨_,rfl⟩
 unfold UncPost at hres
 rw [← hcc,← hrr,← hmm] at hres
 have HCC:=hide hcc
 have HRR:=hide hrr
 have HMM:=hide hmm
 clear hcc hrr hmm d0' d1' d2' d3' m0' m1' m2' m3' m4' m5' AB2 HG2
 by_cases hc:cc = 0
 ·obtain ⟨A9,B9,c8,c9,k9,x9,y9,s9,o9,hmv,rfl,hT⟩:=ResOk.split (hres.2.1 hc)
  have HMV:=hide hmv
  have HC:=hide hc
  clear hmv hc
  have AD3:=hide (show AD w gr gi _ _ A9 B9 rr w3 from ⟨AB3.out,hT⟩)
  clear hT
  obtain ⟨N9,hN9⟩:∃ n,n = rr.n := ⟨_,rfl⟩
  obtain ⟨L9,hL9⟩:∃ n,n = rr.lp := ⟨_,rfl⟩
  rw [← hN9,← hL9]
  have HN9:=hide hN9
  have HL9:=hide hL9
  clear hN9 hL9
  obtain ⟨_,r3,l3⟩:=AB3.out.r
  obtain ⟨_,r4,l4⟩:=AB3.out.i
  obtain ⟨_,r5,l5⟩:=AB3.out.rd
  obtain ⟨_,r6,l6⟩:=AB3.out.rm
  obtain ⟨e0,e1,e2,e3⟩:=cells3 r3 l3
  obtain ⟨f0,f1,f2,f3,f4,f5⟩:=cells5 r4 l4
  obtain ⟨g0,g1,g2,g3⟩:=cells3 r5 l5
  obtain ⟨h0,h1,h2,h3,h4,h5⟩:=cells5 r6 l6
  have y1:gr ≠ w.heap.size + 1 + 1:=by have := AB3.out.lr; omega
  have y2:gr ≠ w.heap.size + 1 + 1 + 1:=by have := AB3.out.lr; omega
  have y3:gi ≠ w.heap.size + 1 + 1:=by have := AB3.out.li; omega
  have y4:gi ≠ w.heap.size + 1 + 1 + 1:=by have := AB3.out.li; omega
  have y5:gr ≠ gi:=AB3.out.ne
  have y6:w.heap.size + 1 + 1 ≠ w.heap.size + 1 + 1 + 1:=by omega
  clear r3 l3 r4 l4 r5 l5 r6 l6
  go_upto_region 22 with fail
  go_region
  go_wp2_with fail
  clear e0 e1 e2 e3 f0 f1 f2 f3 f4 f5 g0 g1 g2 g3 h0 h1 h2 h3 h4 h5
  have AD4:=hide ((((((((AD3.out.setR 0 (.slice A9 N9 c8)).setR 1 (.slice B9 (4 * N9) c9)).setR 2 (.int .i64 (L9:Int))).setI 0 (.int .i64 k9)).setI 1 (.int .i64 x9)).setI 2 (.int .i64 y9)).setI 3 (.int .i64 s9)).setI 4 (.bool o9))
  obtain ⟨_,r5,l5⟩:=AD4.out.b.rd
  obtain ⟨_,r6,l6⟩:=AD4.out.b.rm
  refine bodyPost_ret (v := .tuple #[.agg #[.slice A9 N9 c8,.slice B9 (4 * N9) c9,.int .i64 (L9:Int)],.agg #[.int .i64 k9,.int .i64 x9,.int .i64 y9,.int .i64 s9,.bool o9],.int .i64 0]) ?_ rfl ?_
  ·obtain ⟨e0,e1,e2,e3,e4,e5,e6,e7⟩:=fin8 r5 r6 l5 l6 (by omega) (.slice A9 N9 c8) (.slice B9 (4 * N9) c9) (.int .i64 (L9:Int)) (.int .i64 k9) (.int .i64 x9) (.int .i64 y9) (.int .i64 s9) (.bool o9)
   simp [results,Tryz.results26,go_sem,e0,e1,e2,e3,e4,e5,e6,e7]
  ·have AD5:=(((((((AD4.out.setD 0 (.slice A9 N9 c8)).setD 1 (.slice B9 (4 * N9) c9)).setD 2 (.int .i64 (L9:Int))).setM 0 (.int .i64 k9)).setM 1 (.int .i64 x9)).setM 2 (.int .i64 y9)).setM 3 (.int .i64 s9)).setM 4 (.bool o9)
   rw [← HCC.out,← HRR.out,← HMM.out]
   refine ⟨fun h => absurd HC.out h,fun _ => ⟨A9,B9,c8,c9,by rw [HMV.out,← HN9.out,← HL9.out]; rfl,AD5.drew.t⟩,AD5.drew.b.bel⟩
 ·have HC:=hide hc
  have hE:=ResErr.split (hres.1 hc)
  subst hE
  have t1:(cc != 0) = true:=by rw [bne_iff_ne]; exact hc
  clear hc
  obtain ⟨_,r3,l3⟩:=AB3.out.r
  obtain ⟨_,r4,l4⟩:=AB3.out.i
  obtain ⟨_,r5,l5⟩:=AB3.out.rd
  obtain ⟨_,r6,l6⟩:=AB3.out.rm
  obtain ⟨e0,e1,e2,e3⟩:=cells3 r3 l3
  obtain ⟨f0,f1,f2,f3,f4,f5⟩:=cells5 r4 l4
  obtain ⟨g0,g1,g2,g3⟩:=cells3 r5 l5
  obtain ⟨h0,h1,h2,h3,h4,h5⟩:=cells5 r6 l6
  have y1:gr ≠ w.heap.size + 1 + 1:=by have := AB3.out.lr; omega
  have y2:gr ≠ w.heap.size + 1 + 1 + 1:=by have := AB3.out.lr; omega
  have y3:gi ≠ w.heap.size + 1 + 1:=by have := AB3.out.li; omega
  have y4:gi ≠ w.heap.size + 1 + 1 + 1:=by have := AB3.out.li; omega
  have y5:gr ≠ gi:=AB3.out.ne
  have y6:w.heap.size + 1 + 1 ≠ w.heap.size + 1 + 1 + 1:=by omega
  clear r3 l3 r4 l4 r5 l5 r6 l6
  go_wp2
  clear e0 e1 e2 e3 f0 f1 f2 f3 f4 f5 g0 g1 g2 g3 h0 h1 h2 h3 h4 h5
  have AB4:=(((((((AB3.out.setR 0 (.slice none 0 0)).setR 1 (.slice none 0 0)).setR 2 (.int .i64 0)).setI 0 (.int .i64 0)).setI 1 (.int .i64 0)).setI 2 (.int .i64 0)).setI 3 (.int .i64 0)).setI 4 (.bool false)
  obtain ⟨_,r5,l5⟩:=AB4.rd
  obtain ⟨_,r6,l6⟩:=AB4.rm
  refine bodyPost_ret (v := .tuple #[nilD,nilM,.int .i64 cc]) ?_ rfl ?_
  ·obtain ⟨e0,e1,e2,e3,e4,e5,e6,e7⟩:=fin8 r5 r6 l5 l6 (by omega) (.slice none 0 0) (.slice none 0 0) (.int .i64 0) (.int .i64 0) (.int .i64 0) (.int .i64 0) (.int .i64 0) (.bool false)
   unfold nilD nilM
   simp [results,Tryz.results26,go_sem,e0,e1,e2,e3,e4,e5,e6,e7]
  ·rw [← HCC.out,← HRR.out,← HMM.out]
   exact ⟨fun _ => (show ResErr _ _ from rfl),fun h => absurd h HC.out,below8 AB4.bel _ _ _ _ _ _ _ _⟩
set_option maxRecDepth 100000 in
set_option maxHeartbeats 4000000 in
theorem apply_4 (d:Pl.Dg) (hd:Pl.Valid d) (A B:Option Addr) (cp cq m:Nat) (x y:Nat) (s:Int) (o:Bool) (w:World) (hm:m = 4 * d.n) (hg:DgAt w A B d) (hin:inR d.n ⟨4,(x:Int),(y:Int),s,o⟩) :
 Calls Tryz.prog 26 #[.agg #[.slice A d.n cp,.slice B m cq,.int .i64 d.lp],(Mv.mk 4 (x:Int) (y:Int) s o).v] w (ResC (unpC d x y) (unpD d x y) (unpI d x y) w) := by
 have hn:=hd.wf.few
 have hlp:=hd.wf.lp
 have HM:=hide hm
 have HG:=hide hg
 have hm2:m ≤ 256:=by omega
 clear hm hg
 have PB0:=hide (boxes4 w (.slice A d.n cp) (.slice B m cq) (.int .i64 (d.lp:Int)) (.int .i64 4) (.int .i64 (x:Int)) (.int .i64 (y:Int)) (.int .i64 s) (.bool o))
 unfold W4 at PB0
 obtain ⟨x0,x1,x2,x3,b0,s0⟩:=PB0.out
 have X0:=hide x0
 have X1:=hide x1
 have X2:=hide x2
 have X3:=hide x3
 have B0:=hide b0
 have S0:=hide s0
 clear x0 x1 x2 x3 b0 s0 PB0
 unfold Mv.v
 go_enter Tryz.func26,Tryz.ntmps26
 go_wp2_with fail
 refine (valid_yes d hd A B cp cq m _ HM.out (HG.out.keep B0.out)).mono ?_
 rintro e w1 ⟨rfl,hb1⟩
 have Y0:=hide (X0.out.below hb1)
 have Y1:=hide (X1.out.below hb1)
 have Y2:=hide (X2.out.below hb1)
 have Y3:=hide (X3.out.below hb1)
 have B1:=hide (B0.out.trans (hb1.mono B0.out.size))
 have hsz1:w.heap.size + 4 ≤ w1.heap.size:=by have := hb1.size; have := S0.out; omega
 clear X0 X1 X2 X3 B0 S0 hb1
 obtain ⟨d0,d1,d2,d3⟩:=box3 Y0.out
 obtain ⟨m0,m1,m2,m3,m4,m5⟩:=box5 Y1.out
 go_wp2_with fail
 refine (inRange_4 d.n (x:Int) (y:Int) s o w1 (by omega)).mono ?_
 rintro e w2 ⟨rfl,hb2⟩
 rw [Pl.vb_true hin]
 have hsz:w.heap.size + 4 ≤ w2.heap.size:=by have := hb2.size; omega
 have AB2:=hide (show AB w w2.heap.size (w2.heap.size + 1) [.slice A d.n cp,.slice B m cq,.int .i64 (d.lp:Int)] [.int .i64 4,.int .i64 (x:Int),.int .i64 (y:Int),.int .i64 s,.bool o] ((w2.alloc (.cells #[.slice none 0 0,.slice none 0 0,.int .i64 0] 24)).alloc (.cells #[.int .i64 0,.int .i64 0,.int .i64 0,.int .i64 0,.bool false] 43)) from
  ⟨((Y0.out.below hb2).alloc _).alloc _,((Y1.out.below hb2).alloc _).alloc _,⟨_,((Y2.out.below hb2).alloc _).alloc _,rfl⟩,⟨_,((Y3.out.below hb2).alloc _).alloc _,rfl⟩,⟨_,(row_at (vs := [_,_,_]) rfl).alloc _,rfl⟩,⟨_,row_at (vs := [_,_,_,_,_]) (by simp),rfl⟩,((B1.out.trans (hb2.mono B1.out.size)).alloc (B1.out.trans (hb2.mono B1.out.size)).size _).alloc ((B1.out.trans (hb2.mono B1.out.size)).alloc (B1.out.trans (hb2.mono B1.out.size)).size _).size _,by omega,by omega,by omega⟩)
 obtain ⟨d0',d1',d2',d3'⟩:=box3 (Y0.out.below hb2)
 obtain ⟨m0',m1',m2',m3',m4',m5'⟩:=box5 (Y1.out.below hb2)
 clear d0 d1 d2 d3 m0 m1 m2 m3 m4 m5 Y0 Y1 Y2 Y3 B1 hb2 hsz1
 have z1:w.heap.size < w2.heap.size:=by omega
 have z2:w.heap.size + 1 < w2.heap.size:=by omega
 have hx:x < y:=by have := hin; unfold inR at this; simp at this; omega
 have hy:y < d.n:=by have := hin; unfold inR at this; simp at this; omega
 have HG2:=hide (HG.out.keep AB2.out.bel)
 go_wp2_with fail
 obtain ⟨gr,hgr⟩:∃ g,g = w2.heap.size := ⟨_,rfl⟩
 obtain ⟨gi,hgi⟩:∃ g,g = w2.heap.size + 1 := ⟨_,rfl⟩
 rw [← hgi,← hgr] at AB2
 rw [← hgi,← hgr]
 clear hgr hgi
 refine (unpoke_m d hd.wf A B cp cq m x y 4 s o _ HM.out HG2.out hx hy).mono ?_
 intro e w3 hres
 have AB3:=hide (AB2.out.below hres.2.2)
 obtain ⟨cc,hcc⟩:∃ c,c = unpC d x y := ⟨_,rfl⟩
 obtain ⟨rr,hrr⟩:∃ r,r = unpD d x y := ⟨_,rfl⟩
 obtain ⟨mm,hmm⟩:∃ r,r = unpI d x y := ⟨_,rfl⟩
 unfold ResC at hres
 rw [← hcc,← hrr,← hmm] at hres
 have HCC:=hide hcc
 have HRR:=hide hrr
 have HMM:=hide hmm
 clear hcc hrr hmm d0' d1' d2' d3' m0' m1' m2' m3' m4' m5' AB2 HG2
 by_cases hc:cc = 0
 ·obtain ⟨A9,B9,c8,c9,k9,x9,y9,s9,o9,hmv,rfl,hT⟩:=ResOk.split (hres.2.1 hc)
  have HMV:=hide hmv
  have HC:=hide hc
  clear hmv hc
  have AD3:=hide (show AD w gr gi _ _ A9 B9 rr w3 from ⟨AB3.out,hT⟩)
  clear hT
  obtain ⟨N9,hN9⟩:∃ n,n = rr.n := ⟨_,rfl⟩
  obtain ⟨L9,hL9⟩:∃ n,n = rr.lp := ⟨_,rfl⟩
  rw [← hN9,← hL9]
  have HN9:=hide hN9
  have HL9:=hide hL9
  clear hN9 hL9
  obtain ⟨_,r3,l3⟩:=AB3.out.r
  obtain ⟨_,r4,l4⟩:=AB3.out.i
  obtain ⟨_,r5,l5⟩:=AB3.out.rd
  obtain ⟨_,r6,l6⟩:=AB3.out.rm
  obtain ⟨e0,e1,e2,e3⟩:=cells3 r3 l3
  obtain ⟨f0,f1,f2,f3,f4,f5⟩:=cells5 r4 l4
  obtain ⟨g0,g1,g2,g3⟩:=cells3 r5 l5
  obtain ⟨h0,h1,h2,h3,h4,h5⟩:=cells5 r6 l6
  have y1:gr ≠ w.heap.size + 1 + 1:=by have := AB3.out.lr; omega
  have y2:gr ≠ w.heap.size + 1 + 1 + 1:=by have := AB3.out.lr; omega
  have y3:gi ≠ w.heap.size + 1 + 1:=by have := AB3.out.li; omega
  have y4:gi ≠ w.heap.size + 1 + 1 + 1:=by have := AB3.out.li; omega
  have y5:gr ≠ gi:=AB3.out.ne
  have y6:w.heap.size + 1 + 1 ≠ w.heap.size + 1 + 1 + 1:=by omega
  clear r3 l3 r4 l4 r5 l5 r6 l6
  go_upto_region 22 with fail
  go_region
  go_wp2_with fail
  clear e0 e1 e2 e3 f0 f1 f2 f3 f4 f5 g0 g1 g2 g3 h0 h1 h2 h3 h4 h5
  have AD4:=hide ((((((((AD3.out.setR 0 (.slice A9 N9 c8)).setR 1 (.slice B9 (4 * N9) c9)).setR 2 (.int .i64 (L9:Int))).setI 0 (.int .i64 k9)).setI 1 (.int .i64 x9)).setI 2 (.int .i64 y9)).setI 3 (.int .i64 s9)).setI 4 (.bool o9))
  obtain ⟨_,r5,l5⟩:=AD4.out.b.rd
  obtain ⟨_,r6,l6⟩:=AD4.out.b.rm
  refine bodyPost_ret (v := .tuple #[.agg #[.slice A9 N9 c8,.slice B9 (4 * N9) c9,.int .i64 (L9:Int)],.agg #[.int .i64 k9,.int .i64 x9,.int .i64 y9,.int .i64 s9,.bool o9],.int .i64 0]) ?_ rfl ?_
  ·obtain ⟨e0,e1,e2,e3,e4,e5,e6,e7⟩:=fin8 r5 r6 l5 l6 (by omega) (.slice A9 N9 c8) (.slice B9 (4 * N9) c9) (.int .i64 (L9:Int)) (.int .i64 k9) (.int .i64 x9) (.int .i64 y9) (.int .i64 s9) (.bool o9)
   simp [results,Tryz.results26,go_sem,e0,e1,e2,e3,e4,e5,e6,e7]
  ·have AD5:=(((((((AD4.out.setD 0 (.slice A9 N9 c8)).setD 1 (.slice B9 (4 * N9) c9)).setD 2 (.int .i64 (L9:Int))).setM 0 (.int .i64 k9)).setM 1 (.int .i64 x9)).setM 2 (.int .i64 y9)).setM 3 (.int .i64 s9)).setM 4 (.bool o9)
   rw [← HCC.out,← HRR.out,← HMM.out]
   refine ⟨fun h => absurd HC.out h,fun _ => ⟨A9,B9,c8,c9,by rw [HMV.out,← HN9.out,← HL9.out]; rfl,AD5.drew.t⟩,AD5.drew.b.bel⟩
 ·have HC:=hide hc
  have hE:=ResErr.split (hres.1 hc)
  subst hE
  have t1:(cc != 0) = true:=by rw [bne_iff_ne]; exact hc
  clear hc
  obtain ⟨_,r3,l3⟩:=AB3.out.r
  obtain ⟨_,r4,l4⟩:=AB3.out.i
  obtain ⟨_,r5,l5⟩:=AB3.out.rd
  obtain ⟨_,r6,l6⟩:=AB3.out.rm
  obtain ⟨e0,e1,e2,e3⟩:=cells3 r3 l3
  obtain ⟨f0,f1,f2,f3,f4,f5⟩:=cells5 r4 l4
  obtain ⟨g0,g1,g2,g3⟩:=cells3 r5 l5
  obtain ⟨h0,h1,h2,h3,h4,h5⟩:=cells5 r6 l6
  have y1:gr ≠ w.heap.size + 1 + 1:=by have := AB3.out.lr; omega
  have y2:gr ≠ w.heap.size + 1 + 1 + 1:=by have := AB3.out.lr; omega
  have y3:gi ≠ w.heap.size + 1 + 1:=by have := AB3.out.li; omega
  have y4:gi ≠ w.heap.size + 1 + 1 + 1:=by have := AB3.out.li; omega
  have y5:gr ≠ gi:=AB3.out.ne
  have y6:w.heap.size + 1 + 1 ≠ w.heap.size + 1 + 1 + 1:=by omega
  clear r3 l3 r4 l4 r5 l5 r6 l6
  go_wp2
  clear e0 e1 e2 e3 f0 f1 f2 f3 f4 f5 g0 g1 g2 g3 h0 h1 h2 h3 h4 h5
  have AB4:=(((((((AB3.out.setR 0 (.slice none 0 0)).setR 1 (.slice none 0 0)).setR 2 (.int .i64 0)).setI 0 (.int .i64 0)).setI 1 (.int .i64 0)).setI 2 (.int .i64 0)).setI 3 (.int .i64 0)).setI 4 (.bool false)
  obtain ⟨_,r5,l5⟩:=AB4.rd
  obtain ⟨_,r6,l6⟩:=AB4.rm
  refine bodyPost_ret (v := .tuple #[nilD,nilM,.int .i64 cc]) ?_ rfl ?_
  ·obtain ⟨e0,e1,e2,e3,e4,e5,e6,e7⟩:=fin8 r5 r6 l5 l6 (by omega) (.slice none 0 0) (.slice none 0 0) (.int .i64 0) (.int .i64 0) (.int .i64 0) (.int .i64 0) (.int .i64 0) (.bool false)
   unfold nilD nilM
   simp [results,Tryz.results26,go_sem,e0,e1,e2,e3,e4,e5,e6,e7]
  ·rw [← HCC.out,← HRR.out,← HMM.out]
   exact ⟨fun _ => (show ResErr _ _ from rfl),fun h => absurd h HC.out,below8 AB4.bel _ _ _ _ _ _ _ _⟩
def nearP (d:Pl.Dg) (x y:Nat):Prop := (Pl.Orb (Pl.nx d) x y ∨ ¬ Pl.Comp d (x / 4) (y / 4)) ∧ d.m x ≠ y
noncomputable def pkQ (d:Pl.Dg) (x y sg:Int):Int :=
 if d.lp < needP x y sg then 6 else if Pl.vb (0 ≤ x ∧ 0 ≤ y ∧ x ≠ y ∧ ¬ nearP d x.toNat y.toNat) = true then 6 else if 64 < d.n + 2 then 5 else 0
end Go.Proofs.YtghdiolnonejaaaGreatDoor
end
section
namespace Go.Proofs.YtghdiolnonejaaaGreatDoor
open Go Go.RowKit
theorem getD_set2 (l:List Nat) (a b k z:Nat) (ha:a < l.length):(l.set a b).getD k z = if k = a then b else l.getD k z := by
 rw [List.getD_eq_getElem?_getD,List.getElem?_set,List.getD_eq_getElem?_getD]
 by_cases h:a = k
 ·subst h; simp [ha]
 ·rw [if_neg h,if_neg (Ne.symm h)]
theorem jn_m (l:List Nat) (a b k z:Nat) (ha:a < l.length) (hb:b < l.length):(jn l a b).getD k z = if k = b then a else if k = a then b else l.getD k z := by
 unfold jn
 rw [getD_set2 _ _ _ _ _ (by simpa using hb),getD_set2 _ _ _ _ _ ha]
theorem app_m {l:List Nat} {r:List Nat} {k z:Nat} (h:k < l.length):(l ++ r).getD k z = l.getD k z := by
 rw [List.getD_eq_getElem?_getD,List.getD_eq_getElem?_getD,List.getElem?_append_left h]
theorem kq (n:Nat) (sg:Int) (ov:Bool) (hs:sg = 1 ∨ sg = -1):Pl.Kq n (kI0 n sg ov) (kO0 n sg ov) (kI1 n sg ov) (kO1 n sg ov) := by
 unfold Pl.Kq kI0 kO0 kI1 kO1
 rcases hs with rfl | rfl <;> cases ov <;> simp
theorem crl_s {d:Pl.Dg} {x sg:Int} {ov:Bool} {c:Nat} (h:c < d.n):(crl d x sg ov).s c = d.s c := by
 unfold Pl.Dg.s crl
 simp only
 rw [List.getD_eq_getElem?_getD,List.getElem?_append_left h,← List.getD_eq_getElem?_getD]
theorem crl_s' (d:Pl.Dg) (x sg:Int) (ov:Bool):(crl d x sg ov).s d.n = sg := by
 unfold Pl.Dg.s crl Pl.Dg.n
 simp
theorem crl_kd {d:Pl.Dg} (hd:Pl.Wf d) {x sg:Int} {ov:Bool} (hs:sg = 1 ∨ sg = -1) (hn:d.n + 1 ≤ 64) (m1:(crl d x sg ov).m (kO0 d.n sg ov) = kI1 d.n sg ov) (m2:(crl d x sg ov).m (kI1 d.n sg ov) = kO0 d.n sg ov) :
 Pl.Kd d (crl d x sg ov) (kI0 d.n sg ov) (kO0 d.n sg ov) (kI1 d.n sg ov) (kO1 d.n sg ov) := by
 have s':=crl_s' d x sg ov
 have w1:∀ e,e < 4 → (4 * d.n + e) / 4 = d.n:=fun e h => by omega
 have w2:∀ e,e < 4 → (4 * d.n + e) % 4 = e:=fun e h => by omega
 have o:∀ e,e < 4 → Pl.out (crl d x sg ov) (4 * d.n + e) = (e == 2 || (e == 1 && sg == 1) || (e == 3 && sg == -1)):=fun e h => by
  unfold Pl.out; rw [w1 e h,w2 e h,s']
 have o0:=o 0 (by omega)
 have o1:=o 1 (by omega)
 have o2:=o 2 (by omega)
 have o3:=o 3 (by omega)
 rw [Nat.add_zero] at o0
 refine ⟨hn,crl_n _ _ _ _,?_,?_,fun c hc => crl_s hc,by rw [s']; exact hs,kq d.n sg ov hs,?_,?_,?_,?_,m1,m2⟩
 ·unfold crl
  have:=hd.len
  simp only
  split <;> (simp [jn_len,this]; omega)
 ·have:=hd.lp
  unfold crl; simp only; split <;> omega
 ·rcases hs with rfl | rfl <;> cases ov <;> simp [kI0,o0,o1,o2,o3]
 ·rcases hs with rfl | rfl <;> cases ov <;> simp [kI1,o0,o1,o2,o3]
 ·rcases hs with rfl | rfl <;> cases ov <;> simp [kO0,o0,o1,o2,o3]
 ·rcases hs with rfl | rfl <;> cases ov <;> simp [kO1,o0,o1,o2,o3]
theorem crl_mloop {d:Pl.Dg} (hd:Pl.Wf d) {x sg:Int} {ov:Bool} (hs:sg = 1 ∨ sg = -1) (hx:x < 0) (k:Nat):(crl d x sg ov).m k =
 if k = kI0 d.n sg ov then kO1 d.n sg ov else if k = kO1 d.n sg ov then kI0 d.n sg ov else if k = kI1 d.n sg ov then kO0 d.n sg ov else if k = kO0 d.n sg ov then kI1 d.n sg ov else (d.mt ++ List.replicate 4 0).getD k k := by
 obtain ⟨a1,a2,a3,a4,_⟩:=(kq d.n sg ov hs).bd
 have hl:=hd.len
 have e:(crl d x sg ov).mt = jn (jn (d.mt ++ List.replicate 4 0) (kO0 d.n sg ov) (kI1 d.n sg ov)) (kO1 d.n sg ov) (kI0 d.n sg ov):=by unfold crl; simp only [if_pos hx]
 unfold Pl.Dg.m
 rw [e,jn_m _ _ _ _ _ (by rw [jn_len]; simp; omega) (by rw [jn_len]; simp; omega),jn_m _ _ _ _ _ (by simp; omega) (by simp; omega)]
theorem crl_loop {d:Pl.Dg} (hd:Pl.Valid d) {x sg:Int} {ov:Bool} (hs:sg = 1 ∨ sg = -1) (hn:d.n + 1 ≤ 64) (hx:x < 0):Pl.Valid (crl d x sg ov) := by
 obtain ⟨a1,a2,a3,a4,n1,n2,n3,n4,n5,n6⟩:=(kq d.n sg ov hs).bd
 have hm:=crl_mloop hd.wf (x := x) (ov := ov) hs hx
 have hl:=hd.wf.len
 refine Pl.Kd.loop hd (crl_kd hd.wf hs hn ?_ ?_) (fun h hh => ?_) ?_ ?_
 ·rw [hm,if_neg (Ne.symm n1),if_neg n5,if_neg n4,if_pos rfl]
 ·rw [hm,if_neg (Ne.symm n2),if_neg n6,if_pos rfl]
 ·rw [hm,if_neg (by omega),if_neg (by omega),if_neg (by omega),if_neg (by omega),app_m (by omega)]; rfl
 ·rw [hm,if_neg (Ne.symm n3),if_pos rfl]
 ·rw [hm,if_pos rfl]
theorem crl_edge {d:Pl.Dg} (hd:Pl.Valid d) {x:Nat} {sg:Int} {ov:Bool} (hs:sg = 1 ∨ sg = -1) (hn:d.n + 1 ≤ 64) (hx:x < 4 * d.n) (ho:Pl.out d x = true):Pl.Valid (crl d (x:Int) sg ov) := by
 obtain ⟨a1,a2,a3,a4,n1,n2,n3,n4,n5,n6⟩:=(kq d.n sg ov hs).bd
 have hl:=hd.wf.len
 have hy:=hd.wf.lt x hx
 have hne:=hd.wf.ne x hx
 have e:(crl d (x:Int) sg ov).mt = jn (jn (jn (d.mt ++ List.replicate 4 0) (kO0 d.n sg ov) (kI1 d.n sg ov)) (kO1 d.n sg ov) (d.m x)) x (kI0 d.n sg ov):=by
  unfold crl; simp only [if_neg (show ¬ ((x:Int) < 0) by omega),Int.toNat_natCast]
 have hm:∀ k,(crl d (x:Int) sg ov).m k = if k = kI0 d.n sg ov then x else if k = x then kI0 d.n sg ov else if k = d.m x then kO1 d.n sg ov else if k = kO1 d.n sg ov then d.m x else if k = kI1 d.n sg ov then kO0 d.n sg ov else if k = kO0 d.n sg ov then kI1 d.n sg ov else (d.mt ++ List.replicate 4 0).getD k k:=fun k => by
  show (crl d (x:Int) sg ov).mt.getD k k = _
  rw [e,jn_m _ _ _ _ _ (by rw [jn_len,jn_len]; simp; omega) (by rw [jn_len,jn_len]; simp; omega),jn_m _ _ _ _ _ (by rw [jn_len]; simp; omega) (by rw [jn_len]; simp; omega),jn_m _ _ _ _ _ (by simp; omega) (by simp; omega)]
 refine Pl.Kd.edge hd (crl_kd hd.wf hs hn ?_ ?_) hx ho (fun h hh h1 h2 => ?_) ?_ ?_ ?_ ?_
 ·rw [hm,if_neg (Ne.symm n1),if_neg (by omega),if_neg (by omega),if_neg n5,if_neg n4,if_pos rfl]
 ·rw [hm,if_neg (Ne.symm n2),if_neg (by omega),if_neg (by omega),if_neg n6,if_pos rfl]
 ·rw [hm,if_neg (by omega),if_neg h1,if_neg h2,if_neg (by omega),if_neg (by omega),if_neg (by omega),app_m (by omega)]; rfl
 ·rw [hm,if_neg (Ne.symm n3),if_neg (by omega),if_neg (by omega),if_pos rfl]
 ·rw [hm,if_neg (by omega),if_neg hne,if_pos rfl]
 ·rw [hm,if_neg (by omega),if_pos rfl]
 ·rw [hm,if_pos rfl]
theorem valid_empty {l:Nat} (h:l ≤ 64):Pl.Valid ⟨[],[],l⟩ :=
 ⟨⟨Nat.zero_le 64,rfl,h,fun c hc => absurd hc (Nat.not_lt_zero _),fun c hc => absurd hc (by show ¬ c < 4 * 0; omega),fun c hc => absurd hc (by show ¬ c < 4 * 0; omega),fun c hc => absurd hc (by show ¬ c < 4 * 0; omega),fun c hc => absurd hc (by show ¬ c < 4 * 0; omega)⟩,fun c hc => absurd hc (Nat.not_lt_zero _)⟩
end Go.Proofs.YtghdiolnonejaaaGreatDoor
end
section
namespace Go.Proofs.YtghdiolnonejaaaGreatDoor
open Go Go.RowKit
attribute [local go_sem ↓] Go.wp_at_zero Go.wp_at_succ
theorem shrS_len (gs:List Nat) (sg:List Int):(Pl.shrS gs sg).length = (Pl.left sg.length gs).length := by unfold Pl.shrS; simp
section
variable {base:Nat} {w W W' W2:World} {vS vM:Value} {n q gK:Nat} {lp:Int} {mv bk:List Value} {ss:List Int} {l:List Nat}
end
section
variable {base:Nat} {w W:World} {vS vM k x y s o b0 b3 b4:Value} {n q gK:Nat} {lp:Int} {ss:List Int} {l:List Nat}
end
end Go.Proofs.YtghdiolnonejaaaGreatDoor
end
