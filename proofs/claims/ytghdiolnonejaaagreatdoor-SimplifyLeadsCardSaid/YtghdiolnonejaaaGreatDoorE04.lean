/-
 The texts Xf, Xo, Xk, Xl, Xg, Yf, Cmp, Xq, Rw, Rzb.
-/
import Derived.Test.YtghdiolnonejaaaGreatDoorE03
import Derived.Test.YtghdiolnonejaaaGreatDoorE05
set_option linter.unusedVariables false
set_option linter.unusedSimpArgs false
section
namespace Go.Proofs.YtghdiolnonejaaaGreatDoor
open Go Go.RowKit
attribute [local go_sem ↓] Go.wp_at_zero Go.wp_at_succ
def ResC (c:Int) (r:Pl.Dg) (mv:Mv) (w:World) (e:Ending) (w':World):Prop := (c ≠ 0 → ResErr c e) ∧ (c = 0 → ResOk r mv e w') ∧ Below w.heap.size w w'
theorem ResOk.split {r:Pl.Dg} {mv:Mv} {e:Ending} {w':World} (h:ResOk r mv e w'):∃ (A B:Option Addr) (c1 c2:Nat) (k x y s:Int) (o:Bool),mv = ⟨k,x,y,s,o⟩ ∧ e = .returned (.tuple #[.agg #[.slice A r.n c1,.slice B (4 * r.n) c2,.int .i64 r.lp],.agg #[.int .i64 k,.int .i64 x,.int .i64 y,.int .i64 s,.bool o],.int .i64 0]) ∧ DgT w' A B r := by
 obtain ⟨A,B,c1,c2,he,hd⟩:=h
 obtain ⟨k,x,y,s,o⟩:=mv
 exact ⟨A,B,c1,c2,k,x,y,s,o,rfl,he,hd⟩
theorem ResErr.split {c:Int} {e:Ending} (h:ResErr c e):e = .returned (.tuple #[.agg #[.slice none 0 0,.slice none 0 0,.int .i64 0],.agg #[.int .i64 0,.int .i64 0,.int .i64 0,.int .i64 0,.bool false],.int .i64 c]) := h
theorem DgT.store {w:World} {A B:Option Addr} {d:Pl.Dg} {g o:Nat} {t:TypeId} {vs:List Value} (h:DgT w A B d) (hr:Row w g t vs) (hne:3 ≠ t) (v:Value):DgT (w.setCell ⟨g,o,none⟩ v) A B d := ⟨h.s.store hr hne v,h.m.store hr hne v⟩
structure AB (w:World) (gr gi:Nat) (dv mv:List Value) (W:World):Prop where
 d:Row W w.heap.size 24 dv
 m:Row W (w.heap.size + 1) 43 mv
 rd:∃ vs,Row W (w.heap.size + 1 + 1) 24 vs ∧ vs.length = 3
 rm:∃ us,Row W (w.heap.size + 1 + 1 + 1) 43 us ∧ us.length = 5
 r:∃ vs,Row W gr 24 vs ∧ vs.length = 3
 i:∃ us,Row W gi 43 us ∧ us.length = 5
 bel:Below w.heap.size w W
 lr:w.heap.size + 1 + 1 + 1 < gr
 li:w.heap.size + 1 + 1 + 1 < gi
 ne:gr ≠ gi
section
variable {w W W':World} {gr gi:Nat} {dv mv:List Value}
theorem AB.drew (h:AB w gr gi dv mv W):AB w gr gi dv mv W.drew := ⟨h.d,h.m,h.rd,h.rm,h.r,h.i,h.bel.drew,h.lr,h.li,h.ne⟩
theorem AB.below (h:AB w gr gi dv mv W) (hb:Below W.heap.size W W'):AB w gr gi dv mv W' :=
 let ⟨vs,r1,l1⟩:=h.rd
 let ⟨us,r2,l2⟩:=h.rm
 let ⟨xs,r3,l3⟩:=h.r
 let ⟨ys,r4,l4⟩:=h.i
 ⟨h.d.below hb,h.m.below hb,⟨vs,r1.below hb,l1⟩,⟨us,r2.below hb,l2⟩,⟨xs,r3.below hb,l3⟩,⟨ys,r4.below hb,l4⟩,h.bel.trans (hb.mono h.bel.size),h.lr,h.li,h.ne⟩
theorem AB.setD (h:AB w gr gi dv mv W) (o:Nat) (v:Value):AB w gr gi dv mv (W.setCell ⟨w.heap.size + 1 + 1,o,none⟩ v) :=
 have a1:=h.lr
 have a2:=h.li
 have a3:=h.ne
 let ⟨vs,r1,l1⟩:=h.rd
 let ⟨us,r2,l2⟩:=h.rm
 let ⟨xs,r3,l3⟩:=h.r
 let ⟨ys,r4,l4⟩:=h.i
 ⟨h.d.other (by show _ ≠ w.heap.size + 1 + 1; omega) v,h.m.other (by show _ ≠ w.heap.size + 1 + 1; omega) v,⟨vs.set o v,r1.set o v,by rw [List.length_set,l1]⟩,⟨us,r2.other (by show _ ≠ w.heap.size + 1 + 1; omega) v,l2⟩,⟨xs,r3.other (by show _ ≠ w.heap.size + 1 + 1; omega) v,l3⟩,⟨ys,r4.other (by show _ ≠ w.heap.size + 1 + 1; omega) v,l4⟩,h.bel.setCell (by show _ ≤ w.heap.size + 1 + 1; omega) v,h.lr,h.li,h.ne⟩
theorem AB.setM (h:AB w gr gi dv mv W) (o:Nat) (v:Value):AB w gr gi dv mv (W.setCell ⟨w.heap.size + 1 + 1 + 1,o,none⟩ v) :=
 have a1:=h.lr
 have a2:=h.li
 have a3:=h.ne
 let ⟨vs,r1,l1⟩:=h.rd
 let ⟨us,r2,l2⟩:=h.rm
 let ⟨xs,r3,l3⟩:=h.r
 let ⟨ys,r4,l4⟩:=h.i
 ⟨h.d.other (by show _ ≠ w.heap.size + 1 + 1 + 1; omega) v,h.m.other (by show _ ≠ w.heap.size + 1 + 1 + 1; omega) v,⟨vs,r1.other (by show _ ≠ w.heap.size + 1 + 1 + 1; omega) v,l1⟩,⟨us.set o v,r2.set o v,by rw [List.length_set,l2]⟩,⟨xs,r3.other (by show _ ≠ w.heap.size + 1 + 1 + 1; omega) v,l3⟩,⟨ys,r4.other (by show _ ≠ w.heap.size + 1 + 1 + 1; omega) v,l4⟩,h.bel.setCell (by show _ ≤ w.heap.size + 1 + 1 + 1; omega) v,h.lr,h.li,h.ne⟩
theorem AB.setR (h:AB w gr gi dv mv W) (o:Nat) (v:Value):AB w gr gi dv mv (W.setCell ⟨gr,o,none⟩ v) :=
 have a1:=h.lr
 have a2:=h.li
 have a3:=h.ne
 let ⟨vs,r1,l1⟩:=h.rd
 let ⟨us,r2,l2⟩:=h.rm
 let ⟨xs,r3,l3⟩:=h.r
 let ⟨ys,r4,l4⟩:=h.i
 ⟨h.d.other (by show _ ≠ gr; omega) v,h.m.other (by show _ ≠ gr; omega) v,⟨vs,r1.other (by show _ ≠ gr; omega) v,l1⟩,⟨us,r2.other (by show _ ≠ gr; omega) v,l2⟩,⟨xs.set o v,r3.set o v,by rw [List.length_set,l3]⟩,⟨ys,r4.other (by show _ ≠ gr; omega) v,l4⟩,h.bel.setCell (by show _ ≤ gr; omega) v,h.lr,h.li,h.ne⟩
theorem AB.setI (h:AB w gr gi dv mv W) (o:Nat) (v:Value):AB w gr gi dv mv (W.setCell ⟨gi,o,none⟩ v) :=
 have a1:=h.lr
 have a2:=h.li
 have a3:=h.ne
 let ⟨vs,r1,l1⟩:=h.rd
 let ⟨us,r2,l2⟩:=h.rm
 let ⟨xs,r3,l3⟩:=h.r
 let ⟨ys,r4,l4⟩:=h.i
 ⟨h.d.other (by show _ ≠ gi; omega) v,h.m.other (by show _ ≠ gi; omega) v,⟨vs,r1.other (by show _ ≠ gi; omega) v,l1⟩,⟨us,r2.other (by show _ ≠ gi; omega) v,l2⟩,⟨xs,r3.other (by show _ ≠ gi; omega) v,l3⟩,⟨ys.set o v,r4.set o v,by rw [List.length_set,l4]⟩,h.bel.setCell (by show _ ≤ gi; omega) v,h.lr,h.li,h.ne⟩
end
structure AD (w:World) (gr gi:Nat) (dv mv:List Value) (A B:Option Addr) (r:Pl.Dg) (W:World):Prop where
 b:AB w gr gi dv mv W
 t:DgT W A B r
section
variable {w W W':World} {gr gi:Nat} {dv mv:List Value} {A B:Option Addr} {r:Pl.Dg}
theorem AD.drew (h:AD w gr gi dv mv A B r W):AD w gr gi dv mv A B r W.drew := ⟨h.b.drew,⟨h.t.s,h.t.m⟩⟩
theorem AD.setD (h:AD w gr gi dv mv A B r W) (o:Nat) (v:Value):AD w gr gi dv mv A B r (W.setCell ⟨w.heap.size + 1 + 1,o,none⟩ v) := ⟨h.b.setD o v,let ⟨_,r1,_⟩:=h.b.rd; h.t.store r1 (by decide) v⟩
theorem AD.setM (h:AD w gr gi dv mv A B r W) (o:Nat) (v:Value):AD w gr gi dv mv A B r (W.setCell ⟨w.heap.size + 1 + 1 + 1,o,none⟩ v) := ⟨h.b.setM o v,let ⟨_,r1,_⟩:=h.b.rm; h.t.store r1 (by decide) v⟩
theorem AD.setR (h:AD w gr gi dv mv A B r W) (o:Nat) (v:Value):AD w gr gi dv mv A B r (W.setCell ⟨gr,o,none⟩ v) := ⟨h.b.setR o v,let ⟨_,r1,_⟩:=h.b.r; h.t.store r1 (by decide) v⟩
theorem AD.setI (h:AD w gr gi dv mv A B r W) (o:Nat) (v:Value):AD w gr gi dv mv A B r (W.setCell ⟨gi,o,none⟩ v) := ⟨h.b.setI o v,let ⟨_,r1,_⟩:=h.b.i; h.t.store r1 (by decide) v⟩
end
theorem cells3 {W:World} {g:Nat} {t:TypeId} {vs:List Value} (h:Row W g t vs) (l:vs.length = 3):W.cell? ⟨g,0,none⟩ = some (cv W ⟨g,0,none⟩) ∧ W.cell? ⟨g,1,none⟩ = some (cv W ⟨g,1,none⟩) ∧ W.cell? ⟨g,2,none⟩ = some (cv W ⟨g,2,none⟩) ∧ ∀ o,W.frozen? ⟨g,o,none⟩ = false :=
 ⟨cv_some (h.cell (i := 0) (by omega)),cv_some (h.cell (i := 1) (by omega)),cv_some (h.cell (i := 2) (by omega)),h.free⟩
theorem cells5 {W:World} {g:Nat} {t:TypeId} {vs:List Value} (h:Row W g t vs) (l:vs.length = 5):W.cell? ⟨g,0,none⟩ = some (cv W ⟨g,0,none⟩) ∧ W.cell? ⟨g,1,none⟩ = some (cv W ⟨g,1,none⟩) ∧ W.cell? ⟨g,2,none⟩ = some (cv W ⟨g,2,none⟩) ∧ W.cell? ⟨g,3,none⟩ = some (cv W ⟨g,3,none⟩) ∧ W.cell? ⟨g,4,none⟩ = some (cv W ⟨g,4,none⟩) ∧ ∀ o,W.frozen? ⟨g,o,none⟩ = false :=
 ⟨cv_some (h.cell (i := 0) (by omega)),cv_some (h.cell (i := 1) (by omega)),cv_some (h.cell (i := 2) (by omega)),cv_some (h.cell (i := 3) (by omega)),cv_some (h.cell (i := 4) (by omega)),h.free⟩
theorem uncurl_m (d:Pl.Dg) (hd:Pl.Wf d) (A B:Option Addr) (cp cq m c:Nat) (k y sg:Int) (ov:Bool) (w:World) (hm:m = 4 * d.n) (hg:DgAt w A B d) (hc:c < d.n) :
 Calls Tryz.prog 47 #[.agg #[.slice A d.n cp,.slice B m cq,.int .i64 d.lp],.agg #[.int .i64 k,.int .i64 (c:Int),.int .i64 y,.int .i64 sg,.bool ov]] w (UncPost d c w) := by
 subst hm; exact uncurl_any d hd A B cp cq c k y sg ov w hg hc
def unpD (d:Pl.Dg) (x y:Nat):Pl.Dg := match lensI d x y with
 | some i => unpDl d (lensOf d (lnH x y i)) x y
 | none => d
def unpI (d:Pl.Dg) (x y:Nat):Mv := match lensI d x y with
 | some i => pusI d (lensOf d (lnH x y i)) x y
 | none => ⟨0,0,0,0,false⟩
theorem unpoke_m (d:Pl.Dg) (hd:Pl.Wf d) (A B:Option Addr) (cp cq m x y:Nat) (k sg:Int) (ov:Bool) (w:World) (hm:m = 4 * d.n) (hg:DgAt w A B d) (hxy:x < y) (hy:y < d.n) :
 Calls Tryz.prog 50 #[.agg #[.slice A d.n cp,.slice B m cq,.int .i64 d.lp],.agg #[.int .i64 k,.int .i64 (x:Int),.int .i64 (y:Int),.int .i64 sg,.bool ov]] w (ResC (unpC d x y) (unpD d x y) (unpI d x y) w) := by
 subst hm
 refine (unpoke_any d hd A B cp cq x y k sg ov w hg hxy hy).mono ?_
 rintro e w' ⟨h1,h2,h3⟩
 refine ⟨h1,fun h => ?_,h3⟩
 obtain ⟨i,hi,hr⟩:=h2 h
 unfold unpD unpI
 rw [hi]
 exact hr
set_option maxRecDepth 100000 in
set_option maxHeartbeats 4000000 in
theorem apply_2 (d:Pl.Dg) (hd:Pl.Valid d) (A B:Option Addr) (cp cq m:Nat) (x:Nat) (y s:Int) (o:Bool) (w:World) (hm:m = 4 * d.n) (hg:DgAt w A B d) (hin:inR d.n ⟨2,(x:Int),y,s,o⟩) :
 Calls Tryz.prog 26 #[.agg #[.slice A d.n cp,.slice B m cq,.int .i64 d.lp],(Mv.mk 2 (x:Int) y s o).v] w (ResC (uncC d x) (unD d x) (unI d x) w) := by
 have hn:=hd.wf.few
 have hlp:=hd.wf.lp
 have HM:=hide hm
 have HG:=hide hg
 have hm2:m ≤ 256:=by omega
 clear hm hg
 have PB0:=hide (boxes4 w (.slice A d.n cp) (.slice B m cq) (.int .i64 (d.lp:Int)) (.int .i64 2) (.int .i64 (x:Int)) (.int .i64 y) (.int .i64 s) (.bool o))
 unfold W4 at PB0
 obtain ⟨x0,x1,x2,x3,b0,s0⟩:=PB0.out
 have X0:=hide x0
 have X1:=hide x1
 have X2:=hide x2
 have X3:=hide x3
 have B0:=hide b0
 have S0:=hide s0
 clear x0 x1 x2 x3 b0 s0 PB0
 unfold Mv.v
 go_enter Tryz.func26,Tryz.ntmps26
 go_wp2_with fail
 refine (valid_yes d hd A B cp cq m _ HM.out (HG.out.keep B0.out)).mono ?_
 rintro e w1 ⟨rfl,hb1⟩
 have Y0:=hide (X0.out.below hb1)
 have Y1:=hide (X1.out.below hb1)
 have Y2:=hide (X2.out.below hb1)
 have Y3:=hide (X3.out.below hb1)
 have B1:=hide (B0.out.trans (hb1.mono B0.out.size))
 have hsz1:w.heap.size + 4 ≤ w1.heap.size:=by have := hb1.size; have := S0.out; omega
 clear X0 X1 X2 X3 B0 S0 hb1
 obtain ⟨d0,d1,d2,d3⟩:=box3 Y0.out
 obtain ⟨m0,m1,m2,m3,m4,m5⟩:=box5 Y1.out
 go_wp2_with fail
 refine (inRange_2 d.n (x:Int) y s o w1 (by omega)).mono ?_
 rintro e w2 ⟨rfl,hb2⟩
 rw [Pl.vb_true hin]
 have hsz:w.heap.size + 4 ≤ w2.heap.size:=by have := hb2.size; omega
 have AB2:=hide (show AB w w2.heap.size (w2.heap.size + 1) [.slice A d.n cp,.slice B m cq,.int .i64 (d.lp:Int)] [.int .i64 2,.int .i64 (x:Int),.int .i64 y,.int .i64 s,.bool o] ((w2.alloc (.cells #[.slice none 0 0,.slice none 0 0,.int .i64 0] 24)).alloc (.cells #[.int .i64 0,.int .i64 0,.int .i64 0,.int .i64 0,.bool false] 43)) from
  ⟨((Y0.out.below hb2).alloc _).alloc _,((Y1.out.below hb2).alloc _).alloc _,⟨_,((Y2.out.below hb2).alloc _).alloc _,rfl⟩,⟨_,((Y3.out.below hb2).alloc _).alloc _,rfl⟩,⟨_,(row_at (vs := [_,_,_]) rfl).alloc _,rfl⟩,⟨_,row_at (vs := [_,_,_,_,_]) (by simp),rfl⟩,((B1.out.trans (hb2.mono B1.out.size)).alloc (B1.out.trans (hb2.mono B1.out.size)).size _).alloc ((B1.out.trans (hb2.mono B1.out.size)).alloc (B1.out.trans (hb2.mono B1.out.size)).size _).size _,by omega,by omega,by omega⟩)
 obtain ⟨d0',d1',d2',d3'⟩:=box3 (Y0.out.below hb2)
 obtain ⟨m0',m1',m2',m3',m4',m5'⟩:=box5 (Y1.out.below hb2)
 clear d0 d1 d2 d3 m0 m1 m2 m3 m4 m5 Y0 Y1 Y2 Y3 B1 hb2 hsz1
 have z1:w.heap.size < w2.heap.size:=by omega
 have z2:w.heap.size + 1 < w2.heap.size:=by omega
 have hx:x < d.n:=by have := hin; unfold inR at this; simp at this; omega
 have HG2:=hide (HG.out.keep AB2.out.bel)
 go_wp2_with fail
 obtain ⟨gr,hgr⟩:∃ g,g = w2.heap.size := ⟨_,rfl⟩
 obtain ⟨gi,hgi⟩:∃ g,g = w2.heap.size + 1 := ⟨_,rfl⟩
 rw [← hgi,← hgr] at AB2
 rw [← hgi,← hgr]
 clear hgr hgi
 refine (uncurl_m d hd.wf A B cp cq m x 2 y s o _ HM.out HG2.out hx).mono ?_
 intro e w3 hres
 have AB3:=hide (AB2.out.below hres.2.2)
 obtain ⟨cc,hcc⟩:∃ c,c = uncC d x := ⟨_,rfl⟩
 obtain ⟨rr,hrr⟩:∃ r,r = unD d x := ⟨_,rfl⟩
 obtain ⟨mm,hmm⟩:∃ r,r = unI d x := ⟨_,rfl⟩
 unfold UncPost at hres
 rw [← hcc,← hrr,← hmm] at hres
 have HCC:=hide hcc
 have HRR:=hide hrr
 have HMM:=hide hmm
 clear hcc hrr hmm d0' d1' d2' d3' m0' m1' m2' m3' m4' m5' AB2 HG2
 by_cases hc:cc = 0
 ·obtain ⟨A9,B9,c8,c9,k9,x9,y9,s9,o9,hmv,rfl,hT⟩:=ResOk.split (hres.2.1 hc)
  have HMV:=hide hmv
  have HC:=hide hc
  clear hmv hc
  have AD3:=hide (show AD w gr gi _ _ A9 B9 rr w3 from ⟨AB3.out,hT⟩)
  clear hT
  obtain ⟨N9,hN9⟩:∃ n,n = rr.n := ⟨_,rfl⟩
  obtain ⟨L9,hL9⟩:∃ n,n = rr.lp := ⟨_,rfl⟩
  rw [← hN9,← hL9]
  have HN9:=hide hN9
  have HL9:=hide hL9
  clear hN9 hL9
  obtain ⟨_,r3,l3⟩:=AB3.out.r
  obtain ⟨_,r4,l4⟩:=AB3.out.i
  obtain ⟨_,r5,l5⟩:=AB3.out.rd
  obtain ⟨_,r6,l6⟩:=AB3.out.rm
  obtain ⟨e0,e1,e2,e3⟩:=cells3 r3 l3
  obtain ⟨f0,f1,f2,f3,f4,f5⟩:=cells5 r4 l4
  obtain ⟨g0,g1,g2,g3⟩:=cells3 r5 l5
  obtain ⟨h0,h1,h2,h3,h4,h5⟩:=cells5 r6 l6
  have y1:gr ≠ w.heap.size + 1 + 1:=by have := AB3.out.lr; omega
  have y2:gr ≠ w.heap.size + 1 + 1 + 1:=by have := AB3.out.lr; omega
  have y3:gi ≠ w.heap.size + 1 + 1:=by have := AB3.out.li; omega
  have y4:gi ≠ w.heap.size + 1 + 1 + 1:=by have := AB3.out.li; omega
  have y5:gr ≠ gi:=AB3.out.ne
  have y6:w.heap.size + 1 + 1 ≠ w.heap.size + 1 + 1 + 1:=by omega
  clear r3 l3 r4 l4 r5 l5 r6 l6
  go_upto_region 22 with fail
  go_region
  go_wp2_with fail
  clear e0 e1 e2 e3 f0 f1 f2 f3 f4 f5 g0 g1 g2 g3 h0 h1 h2 h3 h4 h5
  have AD4:=hide ((((((((AD3.out.setR 0 (.slice A9 N9 c8)).setR 1 (.slice B9 (4 * N9) c9)).setR 2 (.int .i64 (L9:Int))).setI 0 (.int .i64 k9)).setI 1 (.int .i64 x9)).setI 2 (.int .i64 y9)).setI 3 (.int .i64 s9)).setI 4 (.bool o9))
  obtain ⟨_,r5,l5⟩:=AD4.out.b.rd
  obtain ⟨_,r6,l6⟩:=AD4.out.b.rm
  refine bodyPost_ret (v := .tuple #[.agg #[.slice A9 N9 c8,.slice B9 (4 * N9) c9,.int .i64 (L9:Int)],.agg #[.int .i64 k9,.int .i64 x9,.int .i64 y9,.int .i64 s9,.bool o9],.int .i64 0]) ?_ rfl ?_
  ·obtain ⟨e0,e1,e2,e3,e4,e5,e6,e7⟩:=fin8 r5 r6 l5 l6 (by omega) (.slice A9 N9 c8) (.slice B9 (4 * N9) c9) (.int .i64 (L9:Int)) (.int .i64 k9) (.int .i64 x9) (.int .i64 y9) (.int .i64 s9) (.bool o9)
   simp [results,Tryz.results26,go_sem,e0,e1,e2,e3,e4,e5,e6,e7]
  ·have AD5:=(((((((AD4.out.setD 0 (.slice A9 N9 c8)).setD 1 (.slice B9 (4 * N9) c9)).setD 2 (.int .i64 (L9:Int))).setM 0 (.int .i64 k9)).setM 1 (.int .i64 x9)).setM 2 (.int .i64 y9)).setM 3 (.int .i64 s9)).setM 4 (.bool o9)
   rw [← HCC.out,← HRR.out,← HMM.out]
   refine ⟨fun h => absurd HC.out h,fun _ => ⟨A9,B9,c8,c9,by rw [HMV.out,← HN9.out,← HL9.out]; rfl,AD5.drew.t⟩,AD5.drew.b.bel⟩
 ·have HC:=hide hc
  have hE:=ResErr.split (hres.1 hc)
  subst hE
  have t1:(cc != 0) = true:=by rw [bne_iff_ne]; exact hc
  clear hc
  obtain ⟨_,r3,l3⟩:=AB3.out.r
  obtain ⟨_,r4,l4⟩:=AB3.out.i
  obtain ⟨_,r5,l5⟩:=AB3.out.rd
  obtain ⟨_,r6,l6⟩:=AB3.out.rm
  obtain ⟨e0,e1,e2,e3⟩:=cells3 r3 l3
  obtain ⟨f0,f1,f2,f3,f4,f5⟩:=cells5 r4 l4
  obtain ⟨g0,g1,g2,g3⟩:=cells3 r5 l5
  obtain ⟨h0,h1,h2,h3,h4,h5⟩:=cells5 r6 l6
  have y1:gr ≠ w.heap.size + 1 + 1:=by have := AB3.out.lr; omega
  have y2:gr ≠ w.heap.size + 1 + 1 + 1:=by have := AB3.out.lr; omega
  have y3:gi ≠ w.heap.size + 1 + 1:=by have := AB3.out.li; omega
  have y4:gi ≠ w.heap.size + 1 + 1 + 1:=by have := AB3.out.li; omega
  have y5:gr ≠ gi:=AB3.out.ne
  have y6:w.heap.size + 1 + 1 ≠ w.heap.size + 1 + 1 + 1:=by omega
  clear r3 l3 r4 l4 r5 l5 r6 l6
  go_wp2
  clear e0 e1 e2 e3 f0 f1 f2 f3 f4 f5 g0 g1 g2 g3 h0 h1 h2 h3 h4 h5
  have AB4:=(((((((AB3.out.setR 0 (.slice none 0 0)).setR 1 (.slice none 0 0)).setR 2 (.int .i64 0)).setI 0 (.int .i64 0)).setI 1 (.int .i64 0)).setI 2 (.int .i64 0)).setI 3 (.int .i64 0)).setI 4 (.bool false)
  obtain ⟨_,r5,l5⟩:=AB4.rd
  obtain ⟨_,r6,l6⟩:=AB4.rm
  refine bodyPost_ret (v := .tuple #[nilD,nilM,.int .i64 cc]) ?_ rfl ?_
  ·obtain ⟨e0,e1,e2,e3,e4,e5,e6,e7⟩:=fin8 r5 r6 l5 l6 (by omega) (.slice none 0 0) (.slice none 0 0) (.int .i64 0) (.int .i64 0) (.int .i64 0) (.int .i64 0) (.int .i64 0) (.bool false)
   unfold nilD nilM
   simp [results,Tryz.results26,go_sem,e0,e1,e2,e3,e4,e5,e6,e7]
  ·rw [← HCC.out,← HRR.out,← HMM.out]
   exact ⟨fun _ => (show ResErr _ _ from rfl),fun h => absurd h HC.out,below8 AB4.bel _ _ _ _ _ _ _ _⟩
set_option maxRecDepth 100000 in
set_option maxHeartbeats 4000000 in
theorem apply_4 (d:Pl.Dg) (hd:Pl.Valid d) (A B:Option Addr) (cp cq m:Nat) (x y:Nat) (s:Int) (o:Bool) (w:World) (hm:m = 4 * d.n) (hg:DgAt w A B d) (hin:inR d.n ⟨4,(x:Int),(y:Int),s,o⟩) :
 Calls Tryz.prog 26 #[.agg #[.slice A d.n cp,.slice B m cq,.int .i64 d.lp],(Mv.mk 4 (x:Int) (y:Int) s o).v] w (ResC (unpC d x y) (unpD d x y) (unpI d x y) w) := by
 have hn:=hd.wf.few
 have hlp:=hd.wf.lp
 have HM:=hide hm
 have HG:=hide hg
 have hm2:m ≤ 256:=by omega
 clear hm hg
 have PB0:=hide (boxes4 w (.slice A d.n cp) (.slice B m cq) (.int .i64 (d.lp:Int)) (.int .i64 4) (.int .i64 (x:Int)) (.int .i64 (y:Int)) (.int .i64 s) (.bool o))
 unfold W4 at PB0
 obtain ⟨x0,x1,x2,x3,b0,s0⟩:=PB0.out
 have X0:=hide x0
 have X1:=hide x1
 have X2:=hide x2
 have X3:=hide x3
 have B0:=hide b0
 have S0:=hide s0
 clear x0 x1 x2 x3 b0 s0 PB0
 unfold Mv.v
 go_enter Tryz.func26,Tryz.ntmps26
 go_wp2_with fail
 refine (valid_yes d hd A B cp cq m _ HM.out (HG.out.keep B0.out)).mono ?_
 rintro e w1 ⟨rfl,hb1⟩
 have Y0:=hide (X0.out.below hb1)
 have Y1:=hide (X1.out.below hb1)
 have Y2:=hide (X2.out.below hb1)
 have Y3:=hide (X3.out.below hb1)
 have B1:=hide (B0.out.trans (hb1.mono B0.out.size))
 have hsz1:w.heap.size + 4 ≤ w1.heap.size:=by have := hb1.size; have := S0.out; omega
 clear X0 X1 X2 X3 B0 S0 hb1
 obtain ⟨d0,d1,d2,d3⟩:=box3 Y0.out
 obtain ⟨m0,m1,m2,m3,m4,m5⟩:=box5 Y1.out
 go_wp2_with fail
 refine (inRange_4 d.n (x:Int) (y:Int) s o w1 (by omega)).mono ?_
 rintro e w2 ⟨rfl,hb2⟩
 rw [Pl.vb_true hin]
 have hsz:w.heap.size + 4 ≤ w2.heap.size:=by have := hb2.size; omega
 have AB2:=hide (show AB w w2.heap.size (w2.heap.size + 1) [.slice A d.n cp,.slice B m cq,.int .i64 (d.lp:Int)] [.int .i64 4,.int .i64 (x:Int),.int .i64 (y:Int),.int .i64 s,.bool o] ((w2.alloc (.cells #[.slice none 0 0,.slice none 0 0,.int .i64 0] 24)).alloc (.cells #[.int .i64 0,.int .i64 0,.int .i64 0,.int .i64 0,.bool false] 43)) from
  ⟨((Y0.out.below hb2).alloc _).alloc _,((Y1.out.below hb2).alloc _).alloc _,⟨_,((Y2.out.below hb2).alloc _).alloc _,rfl⟩,⟨_,((Y3.out.below hb2).alloc _).alloc _,rfl⟩,⟨_,(row_at (vs := [_,_,_]) rfl).alloc _,rfl⟩,⟨_,row_at (vs := [_,_,_,_,_]) (by simp),rfl⟩,((B1.out.trans (hb2.mono B1.out.size)).alloc (B1.out.trans (hb2.mono B1.out.size)).size _).alloc ((B1.out.trans (hb2.mono B1.out.size)).alloc (B1.out.trans (hb2.mono B1.out.size)).size _).size _,by omega,by omega,by omega⟩)
 obtain ⟨d0',d1',d2',d3'⟩:=box3 (Y0.out.below hb2)
 obtain ⟨m0',m1',m2',m3',m4',m5'⟩:=box5 (Y1.out.below hb2)
 clear d0 d1 d2 d3 m0 m1 m2 m3 m4 m5 Y0 Y1 Y2 Y3 B1 hb2 hsz1
 have z1:w.heap.size < w2.heap.size:=by omega
 have z2:w.heap.size + 1 < w2.heap.size:=by omega
 have hx:x < y:=by have := hin; unfold inR at this; simp at this; omega
 have hy:y < d.n:=by have := hin; unfold inR at this; simp at this; omega
 have HG2:=hide (HG.out.keep AB2.out.bel)
 go_wp2_with fail
 obtain ⟨gr,hgr⟩:∃ g,g = w2.heap.size := ⟨_,rfl⟩
 obtain ⟨gi,hgi⟩:∃ g,g = w2.heap.size + 1 := ⟨_,rfl⟩
 rw [← hgi,← hgr] at AB2
 rw [← hgi,← hgr]
 clear hgr hgi
 refine (unpoke_m d hd.wf A B cp cq m x y 4 s o _ HM.out HG2.out hx hy).mono ?_
 intro e w3 hres
 have AB3:=hide (AB2.out.below hres.2.2)
 obtain ⟨cc,hcc⟩:∃ c,c = unpC d x y := ⟨_,rfl⟩
 obtain ⟨rr,hrr⟩:∃ r,r = unpD d x y := ⟨_,rfl⟩
 obtain ⟨mm,hmm⟩:∃ r,r = unpI d x y := ⟨_,rfl⟩
 unfold ResC at hres
 rw [← hcc,← hrr,← hmm] at hres
 have HCC:=hide hcc
 have HRR:=hide hrr
 have HMM:=hide hmm
 clear hcc hrr hmm d0' d1' d2' d3' m0' m1' m2' m3' m4' m5' AB2 HG2
 by_cases hc:cc = 0
 ·obtain ⟨A9,B9,c8,c9,k9,x9,y9,s9,o9,hmv,rfl,hT⟩:=ResOk.split (hres.2.1 hc)
  have HMV:=hide hmv
  have HC:=hide hc
  clear hmv hc
  have AD3:=hide (show AD w gr gi _ _ A9 B9 rr w3 from ⟨AB3.out,hT⟩)
  clear hT
  obtain ⟨N9,hN9⟩:∃ n,n = rr.n := ⟨_,rfl⟩
  obtain ⟨L9,hL9⟩:∃ n,n = rr.lp := ⟨_,rfl⟩
  rw [← hN9,← hL9]
  have HN9:=hide hN9
  have HL9:=hide hL9
  clear hN9 hL9
  obtain ⟨_,r3,l3⟩:=AB3.out.r
  obtain ⟨_,r4,l4⟩:=AB3.out.i
  obtain ⟨_,r5,l5⟩:=AB3.out.rd
  obtain ⟨_,r6,l6⟩:=AB3.out.rm
  obtain ⟨e0,e1,e2,e3⟩:=cells3 r3 l3
  obtain ⟨f0,f1,f2,f3,f4,f5⟩:=cells5 r4 l4
  obtain ⟨g0,g1,g2,g3⟩:=cells3 r5 l5
  obtain ⟨h0,h1,h2,h3,h4,h5⟩:=cells5 r6 l6
  have y1:gr ≠ w.heap.size + 1 + 1:=by have := AB3.out.lr; omega
  have y2:gr ≠ w.heap.size + 1 + 1 + 1:=by have := AB3.out.lr; omega
  have y3:gi ≠ w.heap.size + 1 + 1:=by have := AB3.out.li; omega
  have y4:gi ≠ w.heap.size + 1 + 1 + 1:=by have := AB3.out.li; omega
  have y5:gr ≠ gi:=AB3.out.ne
  have y6:w.heap.size + 1 + 1 ≠ w.heap.size + 1 + 1 + 1:=by omega
  clear r3 l3 r4 l4 r5 l5 r6 l6
  go_upto_region 22 with fail
  go_region
  go_wp2_with fail
  clear e0 e1 e2 e3 f0 f1 f2 f3 f4 f5 g0 g1 g2 g3 h0 h1 h2 h3 h4 h5
  have AD4:=hide ((((((((AD3.out.setR 0 (.slice A9 N9 c8)).setR 1 (.slice B9 (4 * N9) c9)).setR 2 (.int .i64 (L9:Int))).setI 0 (.int .i64 k9)).setI 1 (.int .i64 x9)).setI 2 (.int .i64 y9)).setI 3 (.int .i64 s9)).setI 4 (.bool o9))
  obtain ⟨_,r5,l5⟩:=AD4.out.b.rd
  obtain ⟨_,r6,l6⟩:=AD4.out.b.rm
  refine bodyPost_ret (v := .tuple #[.agg #[.slice A9 N9 c8,.slice B9 (4 * N9) c9,.int .i64 (L9:Int)],.agg #[.int .i64 k9,.int .i64 x9,.int .i64 y9,.int .i64 s9,.bool o9],.int .i64 0]) ?_ rfl ?_
  ·obtain ⟨e0,e1,e2,e3,e4,e5,e6,e7⟩:=fin8 r5 r6 l5 l6 (by omega) (.slice A9 N9 c8) (.slice B9 (4 * N9) c9) (.int .i64 (L9:Int)) (.int .i64 k9) (.int .i64 x9) (.int .i64 y9) (.int .i64 s9) (.bool o9)
   simp [results,Tryz.results26,go_sem,e0,e1,e2,e3,e4,e5,e6,e7]
  ·have AD5:=(((((((AD4.out.setD 0 (.slice A9 N9 c8)).setD 1 (.slice B9 (4 * N9) c9)).setD 2 (.int .i64 (L9:Int))).setM 0 (.int .i64 k9)).setM 1 (.int .i64 x9)).setM 2 (.int .i64 y9)).setM 3 (.int .i64 s9)).setM 4 (.bool o9)
   rw [← HCC.out,← HRR.out,← HMM.out]
   refine ⟨fun h => absurd HC.out h,fun _ => ⟨A9,B9,c8,c9,by rw [HMV.out,← HN9.out,← HL9.out]; rfl,AD5.drew.t⟩,AD5.drew.b.bel⟩
 ·have HC:=hide hc
  have hE:=ResErr.split (hres.1 hc)
  subst hE
  have t1:(cc != 0) = true:=by rw [bne_iff_ne]; exact hc
  clear hc
  obtain ⟨_,r3,l3⟩:=AB3.out.r
  obtain ⟨_,r4,l4⟩:=AB3.out.i
  obtain ⟨_,r5,l5⟩:=AB3.out.rd
  obtain ⟨_,r6,l6⟩:=AB3.out.rm
  obtain ⟨e0,e1,e2,e3⟩:=cells3 r3 l3
  obtain ⟨f0,f1,f2,f3,f4,f5⟩:=cells5 r4 l4
  obtain ⟨g0,g1,g2,g3⟩:=cells3 r5 l5
  obtain ⟨h0,h1,h2,h3,h4,h5⟩:=cells5 r6 l6
  have y1:gr ≠ w.heap.size + 1 + 1:=by have := AB3.out.lr; omega
  have y2:gr ≠ w.heap.size + 1 + 1 + 1:=by have := AB3.out.lr; omega
  have y3:gi ≠ w.heap.size + 1 + 1:=by have := AB3.out.li; omega
  have y4:gi ≠ w.heap.size + 1 + 1 + 1:=by have := AB3.out.li; omega
  have y5:gr ≠ gi:=AB3.out.ne
  have y6:w.heap.size + 1 + 1 ≠ w.heap.size + 1 + 1 + 1:=by omega
  clear r3 l3 r4 l4 r5 l5 r6 l6
  go_wp2
  clear e0 e1 e2 e3 f0 f1 f2 f3 f4 f5 g0 g1 g2 g3 h0 h1 h2 h3 h4 h5
  have AB4:=(((((((AB3.out.setR 0 (.slice none 0 0)).setR 1 (.slice none 0 0)).setR 2 (.int .i64 0)).setI 0 (.int .i64 0)).setI 1 (.int .i64 0)).setI 2 (.int .i64 0)).setI 3 (.int .i64 0)).setI 4 (.bool false)
  obtain ⟨_,r5,l5⟩:=AB4.rd
  obtain ⟨_,r6,l6⟩:=AB4.rm
  refine bodyPost_ret (v := .tuple #[nilD,nilM,.int .i64 cc]) ?_ rfl ?_
  ·obtain ⟨e0,e1,e2,e3,e4,e5,e6,e7⟩:=fin8 r5 r6 l5 l6 (by omega) (.slice none 0 0) (.slice none 0 0) (.int .i64 0) (.int .i64 0) (.int .i64 0) (.int .i64 0) (.int .i64 0) (.bool false)
   unfold nilD nilM
   simp [results,Tryz.results26,go_sem,e0,e1,e2,e3,e4,e5,e6,e7]
  ·rw [← HCC.out,← HRR.out,← HMM.out]
   exact ⟨fun _ => (show ResErr _ _ from rfl),fun h => absurd h HC.out,below8 AB4.bel _ _ _ _ _ _ _ _⟩
def nearP (d:Pl.Dg) (x y:Nat):Prop := (Pl.Orb (Pl.nx d) x y ∨ ¬ Pl.Comp d (x / 4) (y / 4)) ∧ d.m x ≠ y
noncomputable def pkQ (d:Pl.Dg) (x y sg:Int):Int :=
 if d.lp < needP x y sg then 6 else if Pl.vb (0 ≤ x ∧ 0 ≤ y ∧ x ≠ y ∧ ¬ nearP d x.toNat y.toNat) = true then 6 else if 64 < d.n + 2 then 5 else 0
end Go.Proofs.YtghdiolnonejaaaGreatDoor
end
section
namespace Go.Proofs.YtghdiolnonejaaaGreatDoor
open Go Go.RowKit
theorem tr_of {d:Pl.Dg} {h:Nat} (hh:h < 4 * d.n) (hi:is3 d h):Pl.Tr d (th d h 0) (th d h 1) (th d h 2) :=
 ⟨hh,rfl,rfl,hi.1,hi.2.1,hi.2.2.1,hi.2.2.2⟩
def sT (d:Pl.Dg) (h x:Nat):Nat := Pl.tu (th d h 0) (th d h 1) (th d h 2) x
def sO (d:Pl.Dg) (h x:Nat):Prop := x = Pl.tn (th d h 0) 2 ∨ x = Pl.tn (th d h 1) 2 ∨ x = Pl.tn (th d h 2) 2 ∨ x = Pl.tn (th d h 0) 3 ∨ x = Pl.tn (th d h 1) 3 ∨ x = Pl.tn (th d h 2) 3
def sI (d:Pl.Dg) (h x:Nat):Prop := x = th d h 0 ∨ x = th d h 1 ∨ x = th d h 2 ∨ x = Pl.tn (th d h 0) 1 ∨ x = Pl.tn (th d h 1) 1 ∨ x = Pl.tn (th d h 2) 1
abbrev TriAt (d:Pl.Dg) (h0 h1 h2:Nat) (m t:Nat → Nat):Prop :=
 Pl.Tri (Pl.dart d) Pl.rot m t h0 h1 h2 (Pl.tn h0 1) (Pl.tn h1 1) (Pl.tn h2 1) (Pl.tn h0 2) (Pl.tn h1 2) (Pl.tn h2 2) (Pl.tn h0 3) (Pl.tn h1 3) (Pl.tn h2 3)
theorem tri_at {d:Pl.Dg} (hd:Pl.Wf d) {h:Nat} (hh:h < 4 * d.n) (hi:is3 d h):TriAt d (th d h 0) (th d h 1) (th d h 2) d.m (sT d h) := (tr_of hh hi).tri hd
theorem sj_at {d:Pl.Dg} (hd:Pl.Wf d) {h:Nat} (hh:h < 4 * d.n) (hi:is3 d h):Pl.Sj (4 * d.n) d.m (sT d h) (sO d h) (sI d h) := by
 have T:=tri_at hd hh hi
 refine ⟨hd.lt,hd.inv,fun x hx => ?_,T.tt,?_,?_,?_,?_,?_⟩
 ·exact T.tS x hx
 ·rintro x (e | e | e | e | e | e) <;> rw [e]
  ·rw [T.tu0]; simp [sI]
  ·rw [T.tu1]; simp [sI]
  ·rw [T.tu2]; simp [sI]
  ·rw [T.tv0]; simp [sI]
  ·rw [T.tv1]; simp [sI]
  ·rw [T.tv2]; simp [sI]
 ·intro x h1 h2
  unfold sO at h1
  unfold sI at h2
  refine T.tx x ?_
  simp only [List.mem_cons,List.not_mem_nil,or_false]
  intro h3
  rcases h3 with e | e | e | e | e | e | e | e | e | e | e | e <;> first | (apply h1; simp [e]; done) | (apply h2; simp [e]; done)
 ·rintro x (e | e | e | e | e | e) <;> rw [e]
  ·rw [T.th0]; simp [sO]
  ·rw [T.th1]; simp [sO]
  ·rw [T.th2]; simp [sO]
  ·rw [T.tp0]; simp [sO]
  ·rw [T.tp1]; simp [sO]
  ·rw [T.tp2]; simp [sO]
 ·rintro x (e | e | e | e | e | e) <;> rw [e]
  ·rw [T.ah0]; simp [sI]
  ·rw [T.ah1]; simp [sI]
  ·rw [T.ah2]; simp [sI]
  ·rw [T.ap0]; simp [sI]
  ·rw [T.ap1]; simp [sI]
  ·rw [T.ap2]; simp [sI]
 ·obtain ⟨_,c1,c2,c3⟩:=hi
  intro x h1 h2
  unfold sO at h1
  unfold sI at h2
  have e0:th d h 0 = h:=rfl
  rw [e0] at h1 h2
  unfold Pl.tn at h1 h2
  rcases h1 with e | e | e | e | e | e <;> rcases h2 with e' | e' | e' | e' | e' | e' <;> omega
theorem ends {d:Pl.Dg} (hd:Pl.Wf d) {h k q:Nat} (hl:th d h k < 4 * d.n) (hq:d.m (th d h k) = Pl.tn q 1) :
 (sb d h k = Pl.tn (th d h k) 2 ∧ so d h k = th d h k ∧ si d h k = Pl.tn q 1 ∧ sf d h k = Pl.tn q 3) ∨ (sb d h k = Pl.tn q 3 ∧ so d h k = Pl.tn q 1 ∧ si d h k = th d h k ∧ sf d h k = Pl.tn (th d h k) 2) := by
 have e3:Pl.tn (Pl.tn q 1) 2 = Pl.tn q 3:=Pl.tn_tn _ _ _
 by_cases ho:Pl.out d (th d h k) = true
 ·left
  have e1:eo d (th d h k) = th d h k:=by unfold eo; rw [if_pos ho]
  have e2:ei d (th d h k) = Pl.tn q 1:=by unfold ei; rw [e1,hq]
  exact ⟨by unfold sb; rw [e1],e1,e2,by unfold sf; rw [e2,e3]⟩
 ·right
  have e1:eo d (th d h k) = Pl.tn q 1:=by unfold eo; rw [if_neg ho,hq]
  have e2:ei d (th d h k) = th d h k:=by unfold ei; rw [e1,← hq,hd.inv _ hl]
  exact ⟨by unfold sb; rw [e1,e3],e1,e2,by unfold sf; rw [e2]⟩
theorem sTo_s {d:Pl.Dg} (hd:Pl.Wf d) {h k q:Nat} (hl:th d h k < 4 * d.n) (hq:d.m (th d h k) = Pl.tn q 1) (hql:q < 4 * d.n) (hne:Pl.tn (th d h k) 2 ≠ Pl.tn q 3) (x:Nat) :
 (sTo d h (k + 1)).getD x 0 = if x = Pl.tn (th d h k) 2 then Pl.tn q 1 else if x = Pl.tn q 3 then th d h k else (sTo d h k).getD x 0 := by
 have l1:Pl.tn (th d h k) 2 < (sTo d h k).length:=by rw [sTo_len]; exact Pl.tn_lt hl
 have l2:Pl.tn q 3 < (sTo d h k).length:=by rw [sTo_len]; exact Pl.tn_lt hql
 show (((sTo d h k).set (sb d h k) (si d h k)).set (sf d h k) (so d h k)).getD x 0 = _
 rcases ends hd hl hq with ⟨e1,e2,e3,e4⟩ | ⟨e1,e2,e3,e4⟩ <;> rw [e1,e2,e3,e4]
 ·rw [Pl.set_getD _ _ _ _ (by simpa using l2),Pl.set_getD _ _ _ _ l1]
  by_cases h1:x = Pl.tn q 3
  ·rw [if_pos h1,if_neg (fun h2 => hne (h2.symm.trans h1)),if_pos h1]
  ·rw [if_neg h1,if_neg h1]
 ·rw [Pl.set_getD _ _ _ _ (by simpa using l1),Pl.set_getD _ _ _ _ l2]
theorem setB (l:List Bool) (a x:Nat) (ha:a < l.length):(l.set a true).getD x false = if x = a then true else l.getD x false := by
 rw [List.getD_eq_getElem?_getD,List.getElem?_set,List.getD_eq_getElem?_getD]
 by_cases h:a = x
 ·subst h; simp [ha]
 ·rw [if_neg h,if_neg (Ne.symm h)]
theorem sOu_s {d:Pl.Dg} (hd:Pl.Wf d) {h k q:Nat} (hl:th d h k < 4 * d.n) (hq:d.m (th d h k) = Pl.tn q 1) (hql:q < 4 * d.n) (x:Nat) :
 (sOu d h (k + 1)).getD x false = true ↔ x = Pl.tn (th d h k) 2 ∨ x = Pl.tn q 3 ∨ (sOu d h k).getD x false = true := by
 have l1:Pl.tn (th d h k) 2 < (sOu d h k).length:=by rw [sOu_len]; exact Pl.tn_lt hl
 have l2:Pl.tn q 3 < (sOu d h k).length:=by rw [sOu_len]; exact Pl.tn_lt hql
 show (((sOu d h k).set (sb d h k) true).set (sf d h k) true).getD x false = true ↔ _
 rcases ends hd hl hq with ⟨e1,e2,e3,e4⟩ | ⟨e1,e2,e3,e4⟩ <;> rw [e1,e4]
 ·rw [setB _ _ _ (by simpa using l2),setB _ _ _ l1]
  by_cases h1:x = Pl.tn q 3
  ·simp [h1]
  ·by_cases h2:x = Pl.tn (th d h k) 2 <;> simp [h1,h2]
 ·rw [setB _ _ _ (by simpa using l1),setB _ _ _ l2]
  by_cases h1:x = Pl.tn q 3
  ·simp [h1]
  ·by_cases h2:x = Pl.tn (th d h k) 2 <;> simp [h1,h2]
section
variable {d:Pl.Dg} {h:Nat}
theorem sTo_v (hd:Pl.Wf d) (hh:h < 4 * d.n) (hi:is3 d h) {x:Nat} (hx:x < 4 * d.n):(sO d h x → (sTo d h 3).getD x 0 = sT d h x) ∧ (¬ sO d h x → (sTo d h 3).getD x 0 = x) := by
 have T:=tri_at hd hh hi
 have t0:=th_lt hd hh 0
 have t1:=th_lt hd hh 1
 have t2:=th_lt hd hh 2
 obtain ⟨_,c1,c2,c3⟩:=hi
 have c0:th d h 0 = h:=rfl
 have s2:=sTo_s hd (h := h) (k := 2) (q := th d h 0) t2 T.ah2 t0 (by unfold Pl.tn; omega) x
 have s1:=sTo_s hd (h := h) (k := 1) (q := th d h 2) t1 T.ah1 t2 (by unfold Pl.tn; omega) x
 have s0:=sTo_s hd (h := h) (k := 0) (q := th d h 1) t0 T.ah0 t1 (by unfold Pl.tn; omega) x
 have sz:(sTo d h 0).getD x 0 = x:=by simp [sTo,List.getD_eq_getElem?_getD,hx]
 rw [s2,s1,s0,sz]
 have n:=T.nd
 constructor
 ·rintro (e | e | e | e | e | e) <;> rw [e]
  ·rw [T.tu0,if_neg (by unfold Pl.tn; omega),if_neg (by unfold Pl.tn; omega),if_neg (by unfold Pl.tn; omega),if_neg (by unfold Pl.tn; omega),if_pos rfl]
  ·rw [T.tu1,if_neg (by unfold Pl.tn; omega),if_neg (by unfold Pl.tn; omega),if_pos rfl]
  ·rw [T.tu2,if_pos rfl]
  ·rw [T.tv0,if_neg (by unfold Pl.tn; omega),if_pos rfl]
  ·rw [T.tv1,if_neg (by unfold Pl.tn; omega),if_neg (by unfold Pl.tn; omega),if_neg (by unfold Pl.tn; omega),if_neg (by unfold Pl.tn; omega),if_neg (by unfold Pl.tn; omega),if_pos rfl]
  ·rw [T.tv2,if_neg (by unfold Pl.tn; omega),if_neg (by unfold Pl.tn; omega),if_neg (by unfold Pl.tn; omega),if_pos rfl]
 ·intro hn
  unfold sO at hn
  rw [if_neg (fun e => hn (by simp [e])),if_neg (fun e => hn (by simp [e])),if_neg (fun e => hn (by simp [e])),if_neg (fun e => hn (by simp [e])),if_neg (fun e => hn (by simp [e])),if_neg (fun e => hn (by simp [e]))]
theorem sOu_v (hd:Pl.Wf d) (hh:h < 4 * d.n) (hi:is3 d h) (x:Nat):(sOu d h 3).getD x false = true ↔ sO d h x := by
 have T:=tri_at hd hh hi
 have t0:=th_lt hd hh 0
 have t1:=th_lt hd hh 1
 have t2:=th_lt hd hh 2
 have s2:=sOu_s hd (h := h) (k := 2) (q := th d h 0) t2 T.ah2 t0 x
 have s1:=sOu_s hd (h := h) (k := 1) (q := th d h 2) t1 T.ah1 t2 x
 have s0:=sOu_s hd (h := h) (k := 0) (q := th d h 1) t0 T.ah0 t1 x
 have sz:(sOu d h 0).getD x false = false:=by
  unfold sOu
  rw [List.getD_eq_getElem?_getD,List.getElem?_replicate]
  split <;> rfl
 rw [s2,s1,s0,sz]
 unfold sO
 constructor
 ·rintro (h | h | h | h | h | h | h)
  ·exact .inr (.inr (.inl h))
  ·exact .inr (.inr (.inr (.inl h)))
  ·exact .inr (.inl h)
  ·exact .inr (.inr (.inr (.inr (.inr h))))
  ·exact .inl h
  ·exact .inr (.inr (.inr (.inr (.inl h))))
  ·cases h
 ·rintro (h | h | h | h | h | h) <;> simp [h]
theorem jn_eq (l:List Nat) (a b:Nat):jn l a b = (l.set a b).set b a := rfl
theorem sM_half (hd:Pl.Wf d) (hh:h < 4 * d.n) (hi:is3 d h):∀ k,k ≤ 4 * d.n → Pl.Half (4 * d.n) d.m (Pl.cj (sT d h) d.m) (fun x => ∃ u,u < k ∧ sO d h u ∧ (x = sT d h u ∨ x = sT d h (d.m u))) (sM d h k)
 | 0,_ => ⟨hd.len,fun x hx => .inr ⟨getD_m (by rw [hd.len]; exact hx),fun ⟨u,h,_⟩ => absurd h (by omega)⟩⟩
 | k + 1, hk => by
   have ih:=sM_half hd hh hi k (by omega)
   have J:=sj_at hd hh hi
   have hk2:k < 4 * d.n:=by omega
   show Pl.Half _ _ _ _ (if (sOu d h 3).getD k false = true then jn (sM d h k) ((sTo d h 3).getD k 0) ((sTo d h 3).getD (d.m k) 0) else sM d h k)
   by_cases ho:sO d h k
   ·rw [if_pos ((sOu_v hd hh hi k).2 ho),(sTo_v hd hh hi hk2).1 ho,jn_eq]
    have e:(sTo d h 3).getD (d.m k) 0 = sT d h (d.m k):=by
     by_cases h2:sO d h (d.m k)
     ·exact (sTo_v hd hh hi (hd.lt k hk2)).1 h2
     ·rw [(sTo_v hd hh hi (hd.lt k hk2)).2 h2,J.far hk2 ho h2]
    rw [e]
    exact J.step ih hk2 ho
   ·rw [if_neg (fun h2 => ho ((sOu_v hd hh hi k).1 h2))]
    exact Pl.Sj.skip ih ho
theorem sF_half (hd:Pl.Wf d) (hh:h < 4 * d.n) (hi:is3 d h) {k q:Nat} {W:Nat → Prop} (hl:Pl.Half (4 * d.n) d.m (Pl.cj (sT d h) d.m) W (sF d h k)) (hq:d.m (th d h k) = Pl.tn q 1) (hql:q < 4 * d.n) (e:Pl.cj (sT d h) d.m (Pl.tn (th d h k) 2) = Pl.tn q 3) :
 Pl.Half (4 * d.n) d.m (Pl.cj (sT d h) d.m) (fun x => W x ∨ x = Pl.tn (th d h k) 2 ∨ x = Pl.tn q 3) (sF d h (k + 1)) := by
 have J:=sj_at hd hh hi
 have lh:=th_lt hd hh k
 have l1:Pl.tn (th d h k) 2 < 4 * d.n:=Pl.tn_lt lh
 have l2:Pl.tn q 3 < 4 * d.n:=Pl.tn_lt hql
 have e':Pl.cj (sT d h) d.m (Pl.tn q 3) = Pl.tn (th d h k) 2:=by
  rw [← e]
  unfold Pl.cj
  rw [J.ff,J.inv _ (J.fl _ l1),J.ff]
 show Pl.Half _ _ _ _ (jn (sF d h k) (sb d h k) (sf d h k))
 rw [jn_eq]
 rcases ends hd lh hq with ⟨e1,_,_,e4⟩ | ⟨e1,_,_,e4⟩ <;> rw [e1,e4]
 ·exact hl.join l1 l2 e e'
 ·refine (hl.join l2 l1 e' e).mono ?_
  rintro x (h | h | h)
  ·exact .inl h
  ·exact .inr (.inr h)
  ·exact .inr (.inl h)
theorem sF_v (hd:Pl.Wf d) (hh:h < 4 * d.n) (hi:is3 d h):∀ x,x < 4 * d.n → (sF d h 3).getD x 0 = Pl.cj (sT d h) d.m x := by
 have T:=tri_at hd hh hi
 have T':=T.flip
 have J:=sj_at hd hh hi
 have t0:=th_lt hd hh 0
 have t1:=th_lt hd hh 1
 have t2:=th_lt hd hh 2
 have a0:Pl.Half (4 * d.n) d.m (Pl.cj (sT d h) d.m) _ (sF d h 0):=sM_half hd hh hi (4 * d.n) (Nat.le_refl _)
 have a1:=sF_half hd hh hi (k := 0) (q := th d h 1) a0 T.ah0 t1 T'.ah0
 have a2:=sF_half hd hh hi (k := 1) (q := th d h 2) a1 T.ah1 t2 T'.ah1
 have a3:=sF_half hd hh hi (k := 2) (q := th d h 0) a2 T.ah2 t0 T'.ah2
 refine J.all a3 (fun u hu ho => ⟨?_,?_,?_⟩)
 ·exact .inl (.inl (.inl ⟨u,hu,ho,.inl rfl⟩))
 ·exact .inl (.inl (.inl ⟨u,hu,ho,.inr rfl⟩))
 ·rcases ho with h | h | h | h | h | h <;> simp [h]
theorem sld_n (d:Pl.Dg) (h:Nat):(sldD d h).n = d.n := rfl
theorem sld_m (hd:Pl.Wf d) (hh:h < 4 * d.n) (hi:is3 d h):∀ x,x < 4 * d.n → (sldD d h).m x = Pl.cj (sT d h) d.m x := fun x hx => by
 rw [← sF_v hd hh hi x hx,← getD_m (by show x < (sF d h 3).length; rw [sF_len hd]; exact hx)]
 rfl
theorem sld_valid (hd:Pl.Valid d) (hh:h < 4 * d.n) (hi:is3 d h):Pl.Valid (sldD d h) :=
 have hw:=(Pl.Valid.iff.1 hd).1
 (tr_of hh hi).valid hd rfl rfl (sF_len hw h 3) (sld_m hw hh hi)
theorem tri_new (hd:Pl.Wf d) (hh:h < 4 * d.n) (hi:is3 d h):TriAt d (Pl.tn (th d h 0) 2) (Pl.tn (th d h 1) 2) (Pl.tn (th d h 2) 2) (Pl.cj (sT d h) d.m) (sT d h) := by
 have T:=(tri_at hd hh hi).flip
 have a1:∀ z,Pl.tn (Pl.tn z 2) 1 = Pl.tn z 3:=fun z => Pl.tn_tn _ _ _
 have a2:∀ z,Pl.tn (Pl.tn z 2) 2 = z:=fun z => by rw [Pl.tn_tn,Pl.tn_four]
 have a3:∀ z,Pl.tn (Pl.tn z 2) 3 = Pl.tn z 1:=fun z => by rw [Pl.tn_tn]; exact (Pl.tn_mod4 z 5).symm
 unfold TriAt
 rw [a1,a1,a1,a2,a2,a2,a3,a3,a3]
 exact T
theorem nx_of {f:Nat → Nat} {x y:Nat} (h:f x = Pl.tn y 1):Pl.tn (f x) 3 = y := by rw [h,Pl.tn_tn,Pl.tn_four]
theorem nx_new (hd:Pl.Wf d) (hh:h < 4 * d.n) (hi:is3 d h):Pl.nx (sldD d h) (Pl.tn (th d h 0) 2) = Pl.tn (th d h 1) 2 ∧ Pl.nx (sldD d h) (Pl.tn (th d h 1) 2) = Pl.tn (th d h 2) 2 ∧ Pl.nx (sldD d h) (Pl.tn (th d h 2) 2) = Pl.tn (th d h 0) 2 := by
 have T:=tri_new hd hh hi
 have e:∀ k,Pl.nx (sldD d h) (Pl.tn (th d h k) 2) = Pl.tn (Pl.cj (sT d h) d.m (Pl.tn (th d h k) 2)) 3:=fun k => by
  unfold Pl.nx
  rw [sld_m hd hh hi _ (Pl.tn_lt (th_lt hd hh k))]
 rw [e,e,e]
 exact ⟨nx_of T.ah0,nx_of T.ah1,nx_of T.ah2⟩
theorem lnx_nx (hd:Pl.Wf d) {u:Nat} (hu:u < 4 * d.n):lnx (sF d h 3) u = Pl.nx (sldD d h) u := by
 unfold lnx Pl.nx
 rw [← getD_m (by show u < (sF d h 3).length; rw [sF_len hd]; exact hu)]
 rfl
theorem sC_iff (hd:Pl.Wf d) (hh:h < 4 * d.n) (hi:is3 d h) {u:Nat} (hu:u < 4 * d.n):sC d h u = true ↔ u = Pl.tn (th d h 0) 2 ∨ u = Pl.tn (th d h 1) 2 ∨ u = Pl.tn (th d h 2) 2 := by
 have J:=sj_at hd hh hi
 obtain ⟨n0,n1,n2⟩:=nx_new hd hh hi
 have T:=tri_new hd hh hi
 have l:∀ k,Pl.tn (th d h k) 2 < 4 * d.n:=fun k => Pl.tn_lt (th_lt hd hh k)
 unfold sC
 simp only [Bool.and_eq_true,beq_iff_eq]
 rw [sOu_v hd hh hi,sOu_v hd hh hi,sOu_v hd hh hi]
 constructor
 ·rintro ⟨⟨⟨h1,h2⟩,_⟩,_⟩
  rcases h1 with e | e | e | e | e | e
  ·exact .inl e
  ·exact .inr (.inl e)
  ·exact .inr (.inr e)
  all_goals
   exfalso
   refine J.no _ h2 ?_
   rw [lnx_nx hd hu]
   unfold Pl.nx
   rw [sld_m hd hh hi _ hu,e]
  ·have:=T.ap0
   rw [Pl.tn_tn] at this
   rw [show Pl.tn (th d h 0) 3 = Pl.tn (th d h 0) (2 + 1) from rfl,this,Pl.tn_tn,← Pl.tn_mod4]
   simp [sI]
  ·have:=T.ap1
   rw [Pl.tn_tn] at this
   rw [show Pl.tn (th d h 1) 3 = Pl.tn (th d h 1) (2 + 1) from rfl,this,Pl.tn_tn,← Pl.tn_mod4]
   simp [sI]
  ·have:=T.ap2
   rw [Pl.tn_tn] at this
   rw [show Pl.tn (th d h 2) 3 = Pl.tn (th d h 2) (2 + 1) from rfl,this,Pl.tn_tn,← Pl.tn_mod4]
   simp [sI]
 ·rintro (e | e | e) <;> rw [e]
  ·rw [lnx_nx hd (l 0),n0,lnx_nx hd (l 1),n1,lnx_nx hd (l 2),n2]; simp [sO]
  ·rw [lnx_nx hd (l 1),n1,lnx_nx hd (l 2),n2,lnx_nx hd (l 0),n0]; simp [sO]
  ·rw [lnx_nx hd (l 2),n2,lnx_nx hd (l 0),n0,lnx_nx hd (l 1),n1]; simp [sO]
theorem sX_least (d:Pl.Dg) (h:Nat):∀ g,g ≤ 4 * d.n → (∃ u,4 * d.n - g ≤ u ∧ u < 4 * d.n ∧ sC d h u = true) → sC d h (sX d h g) = true ∧ sX d h g < 4 * d.n ∧ ∀ u,4 * d.n - g ≤ u → u < 4 * d.n → sC d h u = true → sX d h g ≤ u
 | 0,_,⟨u,h1,h2,_⟩ => absurd h1 (by omega)
 | g + 1, hg, ⟨u, h1, h2, h3⟩ => by
   unfold sX
   by_cases hc:sC d h (4 * d.n - (g + 1)) = true
   ·rw [if_pos hc]
    exact ⟨hc,by omega,fun u hu _ _ => hu⟩
   ·rw [if_neg hc]
    have key:∀ u,4 * d.n - (g + 1) ≤ u → sC d h u = true → 4 * d.n - g ≤ u:=fun u hu hs => by
     rcases Nat.lt_or_ge u (4 * d.n - g) with h4 | h4
     ·have:u = 4 * d.n - (g + 1):=by omega
      rw [this] at hs
      exact absurd hs hc
     ·exact h4
    obtain ⟨i1,i2,i3⟩:=sX_least d h g (by omega) ⟨u,key u h1 h3,h2,h3⟩
    exact ⟨i1,i2,fun u hu hl hs => i3 u (key u hu hs) hl hs⟩
theorem sX_v (hd:Pl.Wf d) (hh:h < 4 * d.n) (hi:is3 d h):sX d h (4 * d.n) < 4 * d.n ∧ (sX d h (4 * d.n) = Pl.tn (th d h 0) 2 ∨ sX d h (4 * d.n) = Pl.tn (th d h 1) 2 ∨ sX d h (4 * d.n) = Pl.tn (th d h 2) 2) ∧
 sX d h (4 * d.n) ≤ Pl.tn (th d h 0) 2 ∧ sX d h (4 * d.n) ≤ Pl.tn (th d h 1) 2 ∧ sX d h (4 * d.n) ≤ Pl.tn (th d h 2) 2 := by
 have l:∀ k,Pl.tn (th d h k) 2 < 4 * d.n:=fun k => Pl.tn_lt (th_lt hd hh k)
 obtain ⟨i1,i2,i3⟩:=sX_least d h (4 * d.n) (Nat.le_refl _) ⟨_,by omega,l 0,(sC_iff hd hh hi (l 0)).2 (.inl rfl)⟩
 exact ⟨i2,(sC_iff hd hh hi i2).1 i1,i3 _ (by omega) (l 0) ((sC_iff hd hh hi (l 0)).2 (.inl rfl)),i3 _ (by omega) (l 1) ((sC_iff hd hh hi (l 1)).2 (.inr (.inl rfl))),i3 _ (by omega) (l 2) ((sC_iff hd hh hi (l 2)).2 (.inr (.inr rfl)))⟩
end
end Go.Proofs.YtghdiolnonejaaaGreatDoor
end
section
namespace Go.Proofs.YtghdiolnonejaaaGreatDoor
open Go Go.RowKit
attribute [local go_sem ↓] Go.wp_at_zero Go.wp_at_succ
set_option maxRecDepth 100000 in
set_option maxHeartbeats 4000000 in
theorem apply_5 (d:Pl.Dg) (hd:Pl.Valid d) (A B:Option Addr) (cp cq m:Nat) (x:Nat) (y s:Int) (o:Bool) (w:World) (hm:m = 4 * d.n) (hg:DgAt w A B d) (hin:inR d.n ⟨5,(x:Int),y,s,o⟩) :
 Calls Tryz.prog 26 #[.agg #[.slice A d.n cp,.slice B m cq,.int .i64 d.lp],(Mv.mk 5 (x:Int) y s o).v] w (ResC (sldC d x) (sldD d x) (sldI d x) w) := by
 have hn:=hd.wf.few
 have hlp:=hd.wf.lp
 have HM:=hide hm
 have HG:=hide hg
 have hm2:m ≤ 256:=by omega
 clear hm hg
 have PB0:=hide (boxes4 w (.slice A d.n cp) (.slice B m cq) (.int .i64 (d.lp:Int)) (.int .i64 5) (.int .i64 (x:Int)) (.int .i64 y) (.int .i64 s) (.bool o))
 unfold W4 at PB0
 obtain ⟨x0,x1,x2,x3,b0,s0⟩:=PB0.out
 have X0:=hide x0
 have X1:=hide x1
 have X2:=hide x2
 have X3:=hide x3
 have B0:=hide b0
 have S0:=hide s0
 clear x0 x1 x2 x3 b0 s0 PB0
 unfold Mv.v
 go_enter Tryz.func26,Tryz.ntmps26
 go_wp2_with fail
 refine (valid_yes d hd A B cp cq m _ HM.out (HG.out.keep B0.out)).mono ?_
 rintro e w1 ⟨rfl,hb1⟩
 have Y0:=hide (X0.out.below hb1)
 have Y1:=hide (X1.out.below hb1)
 have Y2:=hide (X2.out.below hb1)
 have Y3:=hide (X3.out.below hb1)
 have B1:=hide (B0.out.trans (hb1.mono B0.out.size))
 have hsz1:w.heap.size + 4 ≤ w1.heap.size:=by have := hb1.size; have := S0.out; omega
 clear X0 X1 X2 X3 B0 S0 hb1
 obtain ⟨d0,d1,d2,d3⟩:=box3 Y0.out
 obtain ⟨m0,m1,m2,m3,m4,m5⟩:=box5 Y1.out
 go_wp2_with fail
 refine (inRange_5 d.n (x:Int) y s o w1 (by omega)).mono ?_
 rintro e w2 ⟨rfl,hb2⟩
 rw [Pl.vb_true hin]
 have hsz:w.heap.size + 4 ≤ w2.heap.size:=by have := hb2.size; omega
 have AB2:=hide (show AB w w2.heap.size (w2.heap.size + 1) [.slice A d.n cp,.slice B m cq,.int .i64 (d.lp:Int)] [.int .i64 5,.int .i64 (x:Int),.int .i64 y,.int .i64 s,.bool o] ((w2.alloc (.cells #[.slice none 0 0,.slice none 0 0,.int .i64 0] 24)).alloc (.cells #[.int .i64 0,.int .i64 0,.int .i64 0,.int .i64 0,.bool false] 43)) from
  ⟨((Y0.out.below hb2).alloc _).alloc _,((Y1.out.below hb2).alloc _).alloc _,⟨_,((Y2.out.below hb2).alloc _).alloc _,rfl⟩,⟨_,((Y3.out.below hb2).alloc _).alloc _,rfl⟩,⟨_,(row_at (vs := [_,_,_]) rfl).alloc _,rfl⟩,⟨_,row_at (vs := [_,_,_,_,_]) (by simp),rfl⟩,((B1.out.trans (hb2.mono B1.out.size)).alloc (B1.out.trans (hb2.mono B1.out.size)).size _).alloc ((B1.out.trans (hb2.mono B1.out.size)).alloc (B1.out.trans (hb2.mono B1.out.size)).size _).size _,by omega,by omega,by omega⟩)
 obtain ⟨d0',d1',d2',d3'⟩:=box3 (Y0.out.below hb2)
 obtain ⟨m0',m1',m2',m3',m4',m5'⟩:=box5 (Y1.out.below hb2)
 clear d0 d1 d2 d3 m0 m1 m2 m3 m4 m5 Y0 Y1 Y2 Y3 B1 hb2 hsz1
 have z1:w.heap.size < w2.heap.size:=by omega
 have z2:w.heap.size + 1 < w2.heap.size:=by omega
 have hx:x < 4 * d.n:=by have := hin; unfold inR at this; simp at this; omega
 have HG2:=hide (HG.out.keep AB2.out.bel)
 go_wp2_with fail
 obtain ⟨gr,hgr⟩:∃ g,g = w2.heap.size := ⟨_,rfl⟩
 obtain ⟨gi,hgi⟩:∃ g,g = w2.heap.size + 1 := ⟨_,rfl⟩
 rw [← hgi,← hgr] at AB2
 rw [← hgi,← hgr]
 clear hgr hgi
 refine (slide_any d hd.wf A B cp cq m x 5 y s o _ HM.out HG2.out hx).mono ?_
 intro e w3 hres
 have AB3:=hide (AB2.out.below hres.2.2)
 obtain ⟨cc,hcc⟩:∃ c,c = sldC d x := ⟨_,rfl⟩
 obtain ⟨rr,hrr⟩:∃ r,r = sldD d x := ⟨_,rfl⟩
 obtain ⟨mm,hmm⟩:∃ r,r = sldI d x := ⟨_,rfl⟩
 unfold SldPost at hres
 rw [← hcc,← hrr,← hmm] at hres
 have HCC:=hide hcc
 have HRR:=hide hrr
 have HMM:=hide hmm
 clear hcc hrr hmm d0' d1' d2' d3' m0' m1' m2' m3' m4' m5' AB2 HG2
 by_cases hc:cc = 0
 ·obtain ⟨A9,B9,c8,c9,k9,x9,y9,s9,o9,hmv,rfl,hT⟩:=ResOk.split (hres.2.1 hc)
  have HMV:=hide hmv
  have HC:=hide hc
  clear hmv hc
  have AD3:=hide (show AD w gr gi _ _ A9 B9 rr w3 from ⟨AB3.out,hT⟩)
  clear hT
  obtain ⟨N9,hN9⟩:∃ n,n = rr.n := ⟨_,rfl⟩
  obtain ⟨L9,hL9⟩:∃ n,n = rr.lp := ⟨_,rfl⟩
  rw [← hN9,← hL9]
  have HN9:=hide hN9
  have HL9:=hide hL9
  clear hN9 hL9
  obtain ⟨_,r3,l3⟩:=AB3.out.r
  obtain ⟨_,r4,l4⟩:=AB3.out.i
  obtain ⟨_,r5,l5⟩:=AB3.out.rd
  obtain ⟨_,r6,l6⟩:=AB3.out.rm
  obtain ⟨e0,e1,e2,e3⟩:=cells3 r3 l3
  obtain ⟨f0,f1,f2,f3,f4,f5⟩:=cells5 r4 l4
  obtain ⟨g0,g1,g2,g3⟩:=cells3 r5 l5
  obtain ⟨h0,h1,h2,h3,h4,h5⟩:=cells5 r6 l6
  have y1:gr ≠ w.heap.size + 1 + 1:=by have := AB3.out.lr; omega
  have y2:gr ≠ w.heap.size + 1 + 1 + 1:=by have := AB3.out.lr; omega
  have y3:gi ≠ w.heap.size + 1 + 1:=by have := AB3.out.li; omega
  have y4:gi ≠ w.heap.size + 1 + 1 + 1:=by have := AB3.out.li; omega
  have y5:gr ≠ gi:=AB3.out.ne
  have y6:w.heap.size + 1 + 1 ≠ w.heap.size + 1 + 1 + 1:=by omega
  clear r3 l3 r4 l4 r5 l5 r6 l6
  go_upto_region 22 with fail
  go_region
  go_wp2_with fail
  clear e0 e1 e2 e3 f0 f1 f2 f3 f4 f5 g0 g1 g2 g3 h0 h1 h2 h3 h4 h5
  have AD4:=hide ((((((((AD3.out.setR 0 (.slice A9 N9 c8)).setR 1 (.slice B9 (4 * N9) c9)).setR 2 (.int .i64 (L9:Int))).setI 0 (.int .i64 k9)).setI 1 (.int .i64 x9)).setI 2 (.int .i64 y9)).setI 3 (.int .i64 s9)).setI 4 (.bool o9))
  obtain ⟨_,r5,l5⟩:=AD4.out.b.rd
  obtain ⟨_,r6,l6⟩:=AD4.out.b.rm
  refine bodyPost_ret (v := .tuple #[.agg #[.slice A9 N9 c8,.slice B9 (4 * N9) c9,.int .i64 (L9:Int)],.agg #[.int .i64 k9,.int .i64 x9,.int .i64 y9,.int .i64 s9,.bool o9],.int .i64 0]) ?_ rfl ?_
  ·obtain ⟨e0,e1,e2,e3,e4,e5,e6,e7⟩:=fin8 r5 r6 l5 l6 (by omega) (.slice A9 N9 c8) (.slice B9 (4 * N9) c9) (.int .i64 (L9:Int)) (.int .i64 k9) (.int .i64 x9) (.int .i64 y9) (.int .i64 s9) (.bool o9)
   simp [results,Tryz.results26,go_sem,e0,e1,e2,e3,e4,e5,e6,e7]
  ·have AD5:=(((((((AD4.out.setD 0 (.slice A9 N9 c8)).setD 1 (.slice B9 (4 * N9) c9)).setD 2 (.int .i64 (L9:Int))).setM 0 (.int .i64 k9)).setM 1 (.int .i64 x9)).setM 2 (.int .i64 y9)).setM 3 (.int .i64 s9)).setM 4 (.bool o9)
   rw [← HCC.out,← HRR.out,← HMM.out]
   refine ⟨fun h => absurd HC.out h,fun _ => ⟨A9,B9,c8,c9,by rw [HMV.out,← HN9.out,← HL9.out]; rfl,AD5.drew.t⟩,AD5.drew.b.bel⟩
 ·have HC:=hide hc
  have hE:=ResErr.split (hres.1 hc)
  subst hE
  have t1:(cc != 0) = true:=by rw [bne_iff_ne]; exact hc
  clear hc
  obtain ⟨_,r3,l3⟩:=AB3.out.r
  obtain ⟨_,r4,l4⟩:=AB3.out.i
  obtain ⟨_,r5,l5⟩:=AB3.out.rd
  obtain ⟨_,r6,l6⟩:=AB3.out.rm
  obtain ⟨e0,e1,e2,e3⟩:=cells3 r3 l3
  obtain ⟨f0,f1,f2,f3,f4,f5⟩:=cells5 r4 l4
  obtain ⟨g0,g1,g2,g3⟩:=cells3 r5 l5
  obtain ⟨h0,h1,h2,h3,h4,h5⟩:=cells5 r6 l6
  have y1:gr ≠ w.heap.size + 1 + 1:=by have := AB3.out.lr; omega
  have y2:gr ≠ w.heap.size + 1 + 1 + 1:=by have := AB3.out.lr; omega
  have y3:gi ≠ w.heap.size + 1 + 1:=by have := AB3.out.li; omega
  have y4:gi ≠ w.heap.size + 1 + 1 + 1:=by have := AB3.out.li; omega
  have y5:gr ≠ gi:=AB3.out.ne
  have y6:w.heap.size + 1 + 1 ≠ w.heap.size + 1 + 1 + 1:=by omega
  clear r3 l3 r4 l4 r5 l5 r6 l6
  go_wp2
  clear e0 e1 e2 e3 f0 f1 f2 f3 f4 f5 g0 g1 g2 g3 h0 h1 h2 h3 h4 h5
  have AB4:=(((((((AB3.out.setR 0 (.slice none 0 0)).setR 1 (.slice none 0 0)).setR 2 (.int .i64 0)).setI 0 (.int .i64 0)).setI 1 (.int .i64 0)).setI 2 (.int .i64 0)).setI 3 (.int .i64 0)).setI 4 (.bool false)
  obtain ⟨_,r5,l5⟩:=AB4.rd
  obtain ⟨_,r6,l6⟩:=AB4.rm
  refine bodyPost_ret (v := .tuple #[nilD,nilM,.int .i64 cc]) ?_ rfl ?_
  ·obtain ⟨e0,e1,e2,e3,e4,e5,e6,e7⟩:=fin8 r5 r6 l5 l6 (by omega) (.slice none 0 0) (.slice none 0 0) (.int .i64 0) (.int .i64 0) (.int .i64 0) (.int .i64 0) (.int .i64 0) (.bool false)
   unfold nilD nilM
   simp [results,Tryz.results26,go_sem,e0,e1,e2,e3,e4,e5,e6,e7]
  ·rw [← HCC.out,← HRR.out,← HMM.out]
   exact ⟨fun _ => (show ResErr _ _ from rfl),fun h => absurd h HC.out,below8 AB4.bel _ _ _ _ _ _ _ _⟩
noncomputable def apC (d:Pl.Dg) (m:Mv):Int :=
 if m.kind < 1 ∨ 5 < m.kind then 11 else if Pl.vb (inR d.n m) = false then 2 else if m.kind = 1 then curlableC d m.x else if m.kind = 2 then uncC d m.x.toNat else if m.kind = 3 then pkQ d m.x m.y m.sign else if m.kind = 4 then unpC d m.x.toNat m.y.toNat else sldC d m.x.toNat
def apD (d:Pl.Dg) (m:Mv):Pl.Dg :=
 if m.kind = 1 then crl d m.x m.sign m.over else if m.kind = 2 then unD d m.x.toNat else if m.kind = 3 then pkD d m.x m.y m.sign m.over else if m.kind = 4 then unpD d m.x.toNat m.y.toNat else sldD d m.x.toNat
def apI (d:Pl.Dg) (m:Mv):Mv :=
 if m.kind = 1 then ⟨2,d.n,0,0,false⟩ else if m.kind = 2 then unI d m.x.toNat else if m.kind = 3 then ⟨4,d.n,d.n + 1,0,false⟩ else if m.kind = 4 then unpI d m.x.toNat m.y.toNat else sldI d m.x.toNat
end Go.Proofs.YtghdiolnonejaaaGreatDoor
end
section
namespace Go.Proofs.YtghdiolnonejaaaGreatDoor
open Go Go.RowKit
def byK (m:Mv) (s:Int):Int := if m.kind = 1 then m.sign else if m.kind = 2 then -s else 0
def moreK (m:Mv):Int := if m.kind = 1 then 1 else if m.kind = 2 then -1 else if m.kind = 3 then 2 else if m.kind = 4 then -2 else 0
def Sml (l:List Int):Prop := ∀ z,z ∈ l → -1 ≤ z ∧ z ≤ 1
theorem wf_sml {d:Pl.Dg} (hd:Pl.Wf d):Sml d.sg := fun z hz => by
 obtain ⟨k,hk,rfl⟩:=List.getElem_of_mem hz
 have:=hd.sign k hk
 unfold Pl.Dg.s at this
 rw [List.getD_eq_getElem?_getD,List.getElem?_eq_getElem hk] at this
 simp at this
 omega
theorem sml_app {l r:List Int} (h:Sml l) (h':Sml r):Sml (l ++ r) := fun z hz => by
 rcases List.mem_append.1 hz with h1 | h1
 ·exact h z h1
 ·exact h' z h1
theorem shr_sml {l:List Int} (h:Sml l) (gs:List Nat):Sml (Pl.shrS gs l) := fun z hz => by
 unfold Pl.shrS at hz
 obtain ⟨c,_,rfl⟩:=List.mem_map.1 hz
 rw [List.getD_eq_getElem?_getD]
 cases hc:l[c]? with
 | none => simp
 | some v => exact h v (List.mem_of_getElem? hc)
theorem sgn2_sml (a b:Nat):-1 ≤ sgn2 a b ∧ sgn2 a b ≤ 1 := by unfold sgn2; split <;> omega
theorem poke_signs (d:Pl.Dg) (x y:Int) (ov:Bool):sgn2 (un0 d x y ov) (ov0 d x y ov) + sgn2 (un1 d x y ov) (ov1 d x y ov) = 0 := by
 unfold sgn2 un0 ov0 un1 ov1 lnS th0 th1 plc
 cases ov <;> cases fwd d y <;> cases fwd d x <;> decide
theorem signs_law {d:Pl.Dg} (hd:Pl.Valid d) (m:Mv) (h:apC d m = 0) :
 (apD d m).sg.sum = d.sg.sum + byK m (apI d m).sign ∧ ((apD d m).sg.length:Int) = d.sg.length + moreK m ∧ Sml (apD d m).sg := by
 obtain ⟨k,x,y,s,o⟩:=m
 have hs:=wf_sml hd.wf
 by_cases hk:k < 1 ∨ 5 < k
 ·unfold apC at h; rw [if_pos hk] at h; exact absurd h (by decide)
 by_cases hin:inR d.n ⟨k,x,y,s,o⟩
 ·have hv:¬ (Pl.vb (inR d.n ⟨k,x,y,s,o⟩) = false):=by rw [Pl.vb_true hin]; decide
  have e0:apC d ⟨k,x,y,s,o⟩ = if k = 1 then curlableC d x else if k = 2 then uncC d x.toNat else if k = 3 then pkQ d x y s else if k = 4 then unpC d x.toNat y.toNat else sldC d x.toNat:=by unfold apC; rw [if_neg hk,if_neg hv]
  rw [e0] at h
  have hk5:k = 1 ∨ k = 2 ∨ k = 3 ∨ k = 4 ∨ k = 5:=by omega
  rcases hk5 with rfl | rfl | rfl | rfl | rfl
  ·have hsg:s = 1 ∨ s = -1:=by have := hin; unfold inR at this; simp at this; omega
   refine ⟨?_,?_,?_⟩
   ·show (d.sg ++ [s]).sum = d.sg.sum + s
    simp
   ·show ((d.sg ++ [s]).length:Int) = d.sg.length + 1
    simp
   ·show Sml (d.sg ++ [s])
    exact sml_app hs (fun z hz => by simp at hz; subst hz; omega)
  ·obtain ⟨c,rfl⟩:=Int.eq_ofNat_of_zero_le (show 0 ≤ x by have := hin; unfold inR at this; simp at this; omega)
   have hc:c < d.sg.length:=by have := hin; unfold inR at this; simp [Pl.Dg.n] at this; omega
   refine ⟨?_,?_,?_⟩
   ·show (Pl.shrS [c] d.sg).sum = d.sg.sum + -(d.s c)
    rw [Pl.shrS_one d.sg hc]
    show _ - d.sg.getD c 0 = _ + -(d.sg.getD c 0)
    omega
   ·show ((Pl.shrS [c] d.sg).length:Int) = d.sg.length + -1
    have:=Pl.left_one hc
    rw [Pl.shrS_len]
    omega
   ·show Sml (Pl.shrS [c] d.sg)
    exact shr_sml hs _
  ·refine ⟨?_,?_,?_⟩
   ·show (d.sg ++ [_,_]).sum = d.sg.sum + 0
    have:=poke_signs d x y o
    simp
    omega
   ·show ((d.sg ++ [_,_]).length:Int) = d.sg.length + 2
    simp
   ·show Sml (d.sg ++ [_,_])
    refine sml_app hs (fun z hz => ?_)
    simp at hz
    rcases hz with rfl | rfl <;> exact sgn2_sml _ _
  ·obtain ⟨a,rfl⟩:=Int.eq_ofNat_of_zero_le (show 0 ≤ x by have := hin; unfold inR at this; simp at this; omega)
   obtain ⟨b,rfl⟩:=Int.eq_ofNat_of_zero_le (show 0 ≤ y by have := hin; unfold inR at this; simp at this; omega)
   have hab:a < b ∧ b < d.n:=by have := hin; unfold inR at this; simp at this; omega
   have h':unpC d a b = 0:=h
   have eD:apD d ⟨4,(a:Int),(b:Int),s,o⟩ = unpD d a b:=rfl
   cases hL:lensI d a b with
   | none => unfold unpC at h'; rw [hL] at h'; exact absurd (show (6:Int) = 0 from h') (by decide)
   | some i =>
     have eS:(unpD d a b).sg = Pl.shrS [a,b] d.sg:=by unfold unpD; rw [hL]; rfl
     obtain ⟨h1,h2,h3⟩:=lens_is hL
     have hi:=lens_lt hL
     have hl:lnH a b i < 4 * d.n:=by unfold lnH; split <;> omega
     have sg:=Pl.lens_signs hd.wf hl h2 h3
     rw [h1] at sg
     have sab:d.s a + d.s b = 0:=by
      unfold lnH lnO at sg
      by_cases h4:i < 4
      ·rw [if_pos h4,if_pos h4,show (4 * a + i) / 4 = a by omega] at sg
       exact sg
      ·rw [if_neg h4,if_neg h4,show (4 * b + i - 4) / 4 = b by omega] at sg
       omega
     have hb:b < d.sg.length:=hab.2
     rw [eD,eS]
     refine ⟨?_,?_,?_⟩
     ·show (Pl.shrS [a,b] d.sg).sum = d.sg.sum + 0
      rw [Pl.shrS_two d.sg hab.1 hb]
      unfold Pl.Dg.s at sab
      omega
     ·show ((Pl.shrS [a,b] d.sg).length:Int) = d.sg.length + -2
      have:=Pl.left_two hab.1 hb
      rw [Pl.shrS_len]
      omega
     ·exact shr_sml hs _
  ·refine ⟨?_,?_,?_⟩
   ·show d.sg.sum = d.sg.sum + 0
    omega
   ·show (d.sg.length:Int) = d.sg.length + 0
    omega
   ·exact hs
 ·unfold apC at h
  rw [if_neg hk,if_pos (Pl.vb_false hin)] at h
  exact absurd h (by decide)
end Go.Proofs.YtghdiolnonejaaaGreatDoor
end
section
namespace Go.Proofs.YtghdiolnonejaaaGreatDoor
open Go Go.RowKit
theorem getD_set2 (l:List Nat) (a b k z:Nat) (ha:a < l.length):(l.set a b).getD k z = if k = a then b else l.getD k z := by
 rw [List.getD_eq_getElem?_getD,List.getElem?_set,List.getD_eq_getElem?_getD]
 by_cases h:a = k
 ·subst h; simp [ha]
 ·rw [if_neg h,if_neg (Ne.symm h)]
theorem jn_m (l:List Nat) (a b k z:Nat) (ha:a < l.length) (hb:b < l.length):(jn l a b).getD k z = if k = b then a else if k = a then b else l.getD k z := by
 unfold jn
 rw [getD_set2 _ _ _ _ _ (by simpa using hb),getD_set2 _ _ _ _ _ ha]
theorem app_m {l:List Nat} {r:List Nat} {k z:Nat} (h:k < l.length):(l ++ r).getD k z = l.getD k z := by
 rw [List.getD_eq_getElem?_getD,List.getD_eq_getElem?_getD,List.getElem?_append_left h]
theorem kq (n:Nat) (sg:Int) (ov:Bool) (hs:sg = 1 ∨ sg = -1):Pl.Kq n (kI0 n sg ov) (kO0 n sg ov) (kI1 n sg ov) (kO1 n sg ov) := by
 unfold Pl.Kq kI0 kO0 kI1 kO1
 rcases hs with rfl | rfl <;> cases ov <;> simp
theorem crl_s {d:Pl.Dg} {x sg:Int} {ov:Bool} {c:Nat} (h:c < d.n):(crl d x sg ov).s c = d.s c := by
 unfold Pl.Dg.s crl
 simp only
 rw [List.getD_eq_getElem?_getD,List.getElem?_append_left h,← List.getD_eq_getElem?_getD]
theorem crl_s' (d:Pl.Dg) (x sg:Int) (ov:Bool):(crl d x sg ov).s d.n = sg := by
 unfold Pl.Dg.s crl Pl.Dg.n
 simp
theorem crl_kd {d:Pl.Dg} (hd:Pl.Wf d) {x sg:Int} {ov:Bool} (hs:sg = 1 ∨ sg = -1) (hn:d.n + 1 ≤ 64) (m1:(crl d x sg ov).m (kO0 d.n sg ov) = kI1 d.n sg ov) (m2:(crl d x sg ov).m (kI1 d.n sg ov) = kO0 d.n sg ov) :
 Pl.Kd d (crl d x sg ov) (kI0 d.n sg ov) (kO0 d.n sg ov) (kI1 d.n sg ov) (kO1 d.n sg ov) := by
 have s':=crl_s' d x sg ov
 have w1:∀ e,e < 4 → (4 * d.n + e) / 4 = d.n:=fun e h => by omega
 have w2:∀ e,e < 4 → (4 * d.n + e) % 4 = e:=fun e h => by omega
 have o:∀ e,e < 4 → Pl.out (crl d x sg ov) (4 * d.n + e) = (e == 2 || (e == 1 && sg == 1) || (e == 3 && sg == -1)):=fun e h => by
  unfold Pl.out; rw [w1 e h,w2 e h,s']
 have o0:=o 0 (by omega)
 have o1:=o 1 (by omega)
 have o2:=o 2 (by omega)
 have o3:=o 3 (by omega)
 rw [Nat.add_zero] at o0
 refine ⟨hn,crl_n _ _ _ _,?_,?_,fun c hc => crl_s hc,by rw [s']; exact hs,kq d.n sg ov hs,?_,?_,?_,?_,m1,m2⟩
 ·unfold crl
  have:=hd.len
  simp only
  split <;> (simp [jn_len,this]; omega)
 ·have:=hd.lp
  unfold crl; simp only; split <;> omega
 ·rcases hs with rfl | rfl <;> cases ov <;> simp [kI0,o0,o1,o2,o3]
 ·rcases hs with rfl | rfl <;> cases ov <;> simp [kI1,o0,o1,o2,o3]
 ·rcases hs with rfl | rfl <;> cases ov <;> simp [kO0,o0,o1,o2,o3]
 ·rcases hs with rfl | rfl <;> cases ov <;> simp [kO1,o0,o1,o2,o3]
theorem crl_mloop {d:Pl.Dg} (hd:Pl.Wf d) {x sg:Int} {ov:Bool} (hs:sg = 1 ∨ sg = -1) (hx:x < 0) (k:Nat):(crl d x sg ov).m k =
 if k = kI0 d.n sg ov then kO1 d.n sg ov else if k = kO1 d.n sg ov then kI0 d.n sg ov else if k = kI1 d.n sg ov then kO0 d.n sg ov else if k = kO0 d.n sg ov then kI1 d.n sg ov else (d.mt ++ List.replicate 4 0).getD k k := by
 obtain ⟨a1,a2,a3,a4,_⟩:=(kq d.n sg ov hs).bd
 have hl:=hd.len
 have e:(crl d x sg ov).mt = jn (jn (d.mt ++ List.replicate 4 0) (kO0 d.n sg ov) (kI1 d.n sg ov)) (kO1 d.n sg ov) (kI0 d.n sg ov):=by unfold crl; simp only [if_pos hx]
 unfold Pl.Dg.m
 rw [e,jn_m _ _ _ _ _ (by rw [jn_len]; simp; omega) (by rw [jn_len]; simp; omega),jn_m _ _ _ _ _ (by simp; omega) (by simp; omega)]
theorem crl_loop {d:Pl.Dg} (hd:Pl.Valid d) {x sg:Int} {ov:Bool} (hs:sg = 1 ∨ sg = -1) (hn:d.n + 1 ≤ 64) (hx:x < 0):Pl.Valid (crl d x sg ov) := by
 obtain ⟨a1,a2,a3,a4,n1,n2,n3,n4,n5,n6⟩:=(kq d.n sg ov hs).bd
 have hm:=crl_mloop hd.wf (x := x) (ov := ov) hs hx
 have hl:=hd.wf.len
 refine Pl.Kd.loop hd (crl_kd hd.wf hs hn ?_ ?_) (fun h hh => ?_) ?_ ?_
 ·rw [hm,if_neg (Ne.symm n1),if_neg n5,if_neg n4,if_pos rfl]
 ·rw [hm,if_neg (Ne.symm n2),if_neg n6,if_pos rfl]
 ·rw [hm,if_neg (by omega),if_neg (by omega),if_neg (by omega),if_neg (by omega),app_m (by omega)]; rfl
 ·rw [hm,if_neg (Ne.symm n3),if_pos rfl]
 ·rw [hm,if_pos rfl]
theorem crl_edge {d:Pl.Dg} (hd:Pl.Valid d) {x:Nat} {sg:Int} {ov:Bool} (hs:sg = 1 ∨ sg = -1) (hn:d.n + 1 ≤ 64) (hx:x < 4 * d.n) (ho:Pl.out d x = true):Pl.Valid (crl d (x:Int) sg ov) := by
 obtain ⟨a1,a2,a3,a4,n1,n2,n3,n4,n5,n6⟩:=(kq d.n sg ov hs).bd
 have hl:=hd.wf.len
 have hy:=hd.wf.lt x hx
 have hne:=hd.wf.ne x hx
 have e:(crl d (x:Int) sg ov).mt = jn (jn (jn (d.mt ++ List.replicate 4 0) (kO0 d.n sg ov) (kI1 d.n sg ov)) (kO1 d.n sg ov) (d.m x)) x (kI0 d.n sg ov):=by
  unfold crl; simp only [if_neg (show ¬ ((x:Int) < 0) by omega),Int.toNat_natCast]
 have hm:∀ k,(crl d (x:Int) sg ov).m k = if k = kI0 d.n sg ov then x else if k = x then kI0 d.n sg ov else if k = d.m x then kO1 d.n sg ov else if k = kO1 d.n sg ov then d.m x else if k = kI1 d.n sg ov then kO0 d.n sg ov else if k = kO0 d.n sg ov then kI1 d.n sg ov else (d.mt ++ List.replicate 4 0).getD k k:=fun k => by
  show (crl d (x:Int) sg ov).mt.getD k k = _
  rw [e,jn_m _ _ _ _ _ (by rw [jn_len,jn_len]; simp; omega) (by rw [jn_len,jn_len]; simp; omega),jn_m _ _ _ _ _ (by rw [jn_len]; simp; omega) (by rw [jn_len]; simp; omega),jn_m _ _ _ _ _ (by simp; omega) (by simp; omega)]
 refine Pl.Kd.edge hd (crl_kd hd.wf hs hn ?_ ?_) hx ho (fun h hh h1 h2 => ?_) ?_ ?_ ?_ ?_
 ·rw [hm,if_neg (Ne.symm n1),if_neg (by omega),if_neg (by omega),if_neg n5,if_neg n4,if_pos rfl]
 ·rw [hm,if_neg (Ne.symm n2),if_neg (by omega),if_neg (by omega),if_neg n6,if_pos rfl]
 ·rw [hm,if_neg (by omega),if_neg h1,if_neg h2,if_neg (by omega),if_neg (by omega),if_neg (by omega),app_m (by omega)]; rfl
 ·rw [hm,if_neg (Ne.symm n3),if_neg (by omega),if_neg (by omega),if_pos rfl]
 ·rw [hm,if_neg (by omega),if_neg hne,if_pos rfl]
 ·rw [hm,if_neg (by omega),if_pos rfl]
 ·rw [hm,if_pos rfl]
theorem valid_empty {l:Nat} (h:l ≤ 64):Pl.Valid ⟨[],[],l⟩ :=
 ⟨⟨Nat.zero_le 64,rfl,h,fun c hc => absurd hc (Nat.not_lt_zero _),fun c hc => absurd hc (by show ¬ c < 4 * 0; omega),fun c hc => absurd hc (by show ¬ c < 4 * 0; omega),fun c hc => absurd hc (by show ¬ c < 4 * 0; omega),fun c hc => absurd hc (by show ¬ c < 4 * 0; omega)⟩,fun c hc => absurd hc (Nat.not_lt_zero _)⟩
end Go.Proofs.YtghdiolnonejaaaGreatDoor
end
section
namespace Go.Proofs.YtghdiolnonejaaaGreatDoor
open Go Go.RowKit
attribute [local go_sem ↓] Go.wp_at_zero Go.wp_at_succ
theorem row3 {W:World} {g:Nat} {t:TypeId} {vs:List Value} (h:Row W g t vs) (l:vs.length = 3) (y0 y1 y2:Value) :
 Row (((W.setCell ⟨g,0,none⟩ y0).setCell ⟨g,1,none⟩ y1).setCell ⟨g,2,none⟩ y2) g t [y0,y1,y2] := by
 obtain ⟨a,b,c,rfl⟩:∃ a b c,vs = [a,b,c] := by
  match vs,l with
  | [a,b,c],_ => exact ⟨a,b,c,rfl⟩
 exact ((h.set 0 y0).set 1 y1).set 2 y2
theorem DgT.set3 {W:World} {A B:Option Addr} {d:Pl.Dg} {g:Nat} {vs:List Value} (h:DgT W A B d) (hr:Row W g 24 vs) (y0 y1 y2:Value):DgT (((W.setCell ⟨g,0,none⟩ y0).setCell ⟨g,1,none⟩ y1).setCell ⟨g,2,none⟩ y2) A B d :=
 ((h.store hr (by decide) y0).store (hr.set 0 y0) (by decide) y1).store ((hr.set 0 y0).set 1 y1) (by decide) y2
theorem below3 {w W:World} {g:Nat} (h:Below w.heap.size w W) (hg:w.heap.size ≤ g) (y0 y1 y2:Value):Below w.heap.size w (((W.setCell ⟨g,0,none⟩ y0).setCell ⟨g,1,none⟩ y1).setCell ⟨g,2,none⟩ y2) :=
 ((h.setCell (by show _ ≤ g; exact hg) y0).setCell (by show _ ≤ g; exact hg) y1).setCell (by show _ ≤ g; exact hg) y2
end Go.Proofs.YtghdiolnonejaaaGreatDoor
end
section
namespace Go.Proofs.YtghdiolnonejaaaGreatDoor.Pl
variable {d:Dg}
def Same (d d':Dg):Prop := ∀ s s',Str d s → Str d' s' → s + d.lp = s' + d'.lp
theorem kink_gp (hd:Valid d) {o:Nat} (ho:o < 4 * d.n) (hk:d.m o / 4 = o / 4):Gp d.n d.m o (d.m o) := by
 have hw:=(Valid.iff.1 hd).1
 have hi:=hw.lt o ho
 have four:=kink_four hd ho hk
 exact ⟨hw.hm,ho,hi,rfl,fun e => hw.ne o ho e.symm,fun e => by rcases four with h | h <;> rw [h] at e <;> (unfold tn at e; omega),fun e => no_opp hd ho e⟩
theorem kink_gone (hd:Valid d) {o:Nat} (ho:o < 4 * d.n) (hk:d.m o / 4 = o / 4) (z:Nat):grp o (d.m o) z ↔ gone d [o / 4] z := by
 have four:=kink_four hd ho hk
 unfold grp gone
 rw [List.mem_singleton]
 constructor
 ·rintro (rfl | rfl | rfl | rfl)
  ·exact ⟨ho,rfl⟩
  ·exact ⟨(Valid.iff.1 hd).1.lt _ ho,hk⟩
  ·exact ⟨tn_lt ho,tn_div _ _⟩
  ·exact ⟨tn_lt ((Valid.iff.1 hd).1.lt _ ho),by rw [tn_div,hk]⟩
 ·rintro ⟨_,hc⟩
  rcases four with h | h <;> rw [h] <;> unfold tn at * <;> omega
theorem kink_cls (hd:Valid d) {o:Nat} (ho:o < 4 * d.n) (hk:d.m o / 4 = o / 4) (hn:d.m (tn o 2) ≠ tn (d.m o) 2) {k:Nat} (hk2:Cls (dart d) (Orb (st d)) k) :
 Cls (dart d) (Orb (phi op (byp d.m (tn (d.m o) 2) (tn o 2)))) (k + 1) ∧ Cls (gone d [o / 4]) (Orb (phi op (byp d.m (tn (d.m o) 2) (tn o 2)))) 1 := by
 have hw:=(Valid.iff.1 hd).1
 have hi:=hw.lt o ho
 have hA:tn o 2 < 4 * d.n:=tn_lt ho
 have hB:tn (d.m o) 2 < 4 * d.n:=tn_lt hi
 have hBA:tn (d.m o) 2 ≠ tn o 2:=fun e => hw.ne o ho (tn_inj e)
 have hmBA:d.m (tn (d.m o) 2) ≠ tn o 2:=fun e => hn (by rw [← e,hw.inv _ hB])
 have inv:=hw.inv o ho
 have hmi:d.m (d.m o) / 4 = d.m o / 4:=by rw [inv,hk]
 have G:Gp d.n d.m (d.m o) o:=by have := kink_gp hd hi hmi; rwa [inv] at this
 have h1:=G.cls (hw.ne _ hB) (hw.ne _ hA) hk2
 unfold cls at h1
 rw [if_neg hmBA,if_neg hmBA] at h1
 obtain ⟨b1,b2,b3,b4,b5⟩:=byp_at hw.hm hB hA hBA (hw.ne _ hB) (hw.ne _ hA) hmBA
 obtain ⟨q1,q2⟩:=kink_byp hd ho hk hn
 have R:=kink_rs hd ho hk hn (lp := 0) (by omega) (mt := List.ofFn (n := 4 * d.n) (fun h => if h.1 = d.m (tn o 2) then d.m (tn (d.m o) 2) else if h.1 = d.m (tn (d.m o) 2) then d.m (tn o 2) else d.m h.1)) (fun h hh => by
  rw [List.getD_eq_getElem?_getD,List.getElem?_ofFn,dif_pos hh]; rfl)
 have e0:byp d.m (tn (d.m o) 2) (tn o 2) (d.m o) = o:=by
  have n1:d.m o ≠ tn (d.m o) 2:=by unfold tn; omega
  have n2:d.m o ≠ tn o 2:=no_opp hd ho
  have n3:d.m o ≠ d.m (tn (d.m o) 2):=fun e => by have := hw.bij.inj _ _ ho hB e; rcases kink_four hd ho hk with h | h <;> rw [h] at this <;> (unfold tn at this; omega)
  have n4:d.m o ≠ d.m (tn o 2):=fun e => by have := hw.bij.inj _ _ ho hA e; unfold tn at this; omega
  rw [b5 _ n1 n2 n3 n4,inv]
 have G2:Gp d.n (byp d.m (tn (d.m o) 2) (tn o 2)) (d.m o) o:=⟨q1,hi,ho,e0,G.n1,G.n2,G.n3⟩
 refine ⟨h1,Cls.congr (G2.free b1 b2).1 (fun z => ?_) (fun _ _ _ _ => Iff.rfl)⟩
 rw [← kink_gone hd ho hk z]
 unfold grp
 constructor
 ·rintro (h | h | h | h)
  ·exact .inr (.inl h)
  ·exact .inl h
  ·exact .inr (.inr (.inr h))
  ·exact .inr (.inr (.inl h))
 ·rintro (h | h | h | h)
  ·exact .inr (.inl h)
  ·exact .inl h
  ·exact .inr (.inr (.inr h))
  ·exact .inr (.inr (.inl h))
theorem kink_cls0 (hd:Valid d) {o:Nat} (ho:o < 4 * d.n) (hk:d.m o / 4 = o / 4) (hn:d.m (tn o 2) = tn (d.m o) 2):Cls (gone d [o / 4]) (Orb (phi op d.m)) 2 :=
 Cls.congr ((kink_gp hd ho hk).closed hn).1 (kink_gone hd ho hk) (fun _ _ _ _ => Iff.rfl)
theorem kink_same (hd:Valid d) {o:Nat} (ho:o < 4 * d.n) (hk:d.m o / 4 = o / 4) (hn:d.m (tn o 2) ≠ tn (d.m o) 2) {mt:List Nat} {lp:Nat} (hl:lp ≤ 64) (hlp:lp = d.lp)
 (hmt:∀ h,h < 4 * d.n → mt.getD h 0 = if h = d.m (tn o 2) then d.m (tn (d.m o) 2) else if h = d.m (tn (d.m o) 2) then d.m (tn o 2) else d.m h):Same d (rsD d [o / 4] mt lp) := by
 intro s s' h h'
 have hw:=(Valid.iff.1 hd).1
 have R:=kink_rs hd ho hk hn hl hmt
 obtain ⟨c1,c2⟩:=kink_cls hd ho hk hn (h.all hw)
 obtain ⟨ks,e1,_,e2⟩:=R.cls c1 c2
 have:=h'.iff (R.wf hw) e2
 show s + d.lp = s' + lp
 omega
theorem kink_same0 (hd:Valid d) {o:Nat} (ho:o < 4 * d.n) (hk:d.m o / 4 = o / 4) (hn:d.m (tn o 2) = tn (d.m o) 2) {lp:Nat} (hl:lp ≤ 64) (hlp:lp = d.lp + 1):Same d (rsD d [o / 4] d.mt lp) := by
 intro s s' h h'
 have hw:=(Valid.iff.1 hd).1
 have R:=kink_rs0 hd ho hk hn hl
 obtain ⟨ks,e1,_,e2⟩:=R.cls (h.all hw) (kink_cls0 hd ho hk hn)
 have:=h'.iff (R.wf hw) e2
 show s + d.lp = s' + lp
 omega
theorem in_same {d':Dg} (hd:Wf d) (hd':Wf d') {gs mt:List Nat} {lp:Nat} {b:Nat → Nat} (R:Rs d' gs mt lp b) (hs:∀ z,stay d' gs z ↔ z < 4 * d.n) (hb:∀ z,z < 4 * d.n → b z = d.m z) {k g s:Nat}
 (hk:Cls (dart d') (Orb (phi op b)) k) (hg:Cls (gone d' gs) (Orb (phi op b)) g) (h:Str d s):k = 2 * s + g := by
 obtain ⟨ks,e1,e2,_⟩:=R.cls hk hg
 have:Cls (dart d) (Orb (st d)) ks:=Cls.congr e2 hs fun x y hx hy => by
  rw [st_phi]
  refine Orb.congr (S := fun z => z < 4 * d.n) (fun z hz => ?_) (fun z hz => ?_) ((hs x).1 hx)
  ·show tn (b z) 2 < 4 * d.n; rw [hb z hz]; exact tn_lt (hd.lt z hz)
  ·show tn (b z) 2 = tn (d.m z) 2; rw [hb z hz]
 have:=h.iff hd this
 omega
section
variable {h u:Nat}
theorem Lens.g1 {b:Nat → Nat} (hw:Wf d) (L:Lens d h u) (hm:Hm (4 * d.n) (dart d) rot b) (e0:b h = u):Gp d.n b h u :=
 ⟨hm,L.hh,L.hu hw,e0,ap L.ne,pm1 L.ne,Ne.symm (pm0 L.ne)⟩
theorem Lens.g2 {b:Nat → Nat} (hw:Wf d) (L:Lens d h u) (hm:Hm (4 * d.n) (dart d) rot b) (e1:b (tn h 1) = tn u 3):Gp d.n b (tn h 1) (tn u 3) :=
 ⟨hm,tn_lt L.hh,tn_lt (L.hu hw),e1,pm L.ne,by rw [tn_tn]; exact pm L.ne,by rw [tn_tn]; exact Ne.symm (pm L.ne)⟩
theorem tn12 (h:Nat):tn (tn h 1) 2 = tn h 3 := tn_tn h 1 2
theorem tn32 (u:Nat):tn (tn u 3) 2 = tn u 1 := by rw [tn_tn]; unfold tn; omega
theorem Lens.cls (hd:Valid d) (L:Lens d h u) {k:Nat} (hk:Cls (dart d) (Orb (st d)) k) :
 Cls (dart d) (Orb (phi op (lB d h u))) (k + (if d.m (tn h 2) = tn u 2 then 0 else 1) + (if lA d h u (tn h 3) = tn u 1 then 0 else 1)) := by
 have hw:=(Valid.iff.1 hd).1
 have hu:=L.hu hw
 have A:=L.la hd
 have h1:=(L.g1 hw hw.hm L.m0).cls (hw.ne _ (tn_lt L.hh)) (hw.ne _ (tn_lt hu)) hk
 have h2:=(L.g2 hw A.hm A.e1).cls (by rw [tn12]; exact A.nf _ (tn_lt L.hh) (tn_ne (by omega)) (pm L.ne)) (by rw [tn32]; exact A.nf _ (tn_lt hu) (Ne.symm (pm L.ne)) (tn_ne (by omega))) h1
 rw [tn12,tn32] at h2
 exact h2
theorem Lens.gone (hd:Valid d) (L:Lens d h u) {x y:Nat} (hx:(x = h / 4 ∧ y = u / 4) ∨ (x = u / 4 ∧ y = h / 4)) :
 Cls (Pl.gone d [x,y]) (Orb (phi op (lB d h u))) ((if d.m (tn h 2) = tn u 2 then 2 else 1) + (if lA d h u (tn h 3) = tn u 1 then 2 else 1)) := by
 have hw:=(Valid.iff.1 hd).1
 have hu:=L.hu hw
 have hh:=L.hh
 have E:=L.ne
 have A:=L.la hd
 have B:=L.lb hd
 have G1:=L.g1 hw B.hm B.e0
 have G2:=L.g2 hw B.hm B.e1
 -- which ends are joined
 have j1:(d.m (tn h 2) = tn u 2 → lB d h u (tn h 2) = tn u 2) ∧ (d.m (tn h 2) ≠ tn u 2 → lB d h u (tn h 2) = tn h 2 ∧ lB d h u (tn u 2) = tn u 2):=by
  have k1:(d.m (tn h 2) = tn u 2 → lA d h u (tn h 2) = tn u 2) ∧ (d.m (tn h 2) ≠ tn u 2 → lA d h u (tn h 2) = tn h 2 ∧ lA d h u (tn u 2) = tn u 2):=by
   unfold lA Pl.cls
   constructor
   ·intro e; rw [if_pos e]; exact e
   ·intro e; rw [if_neg e]
    obtain ⟨b1,b2,_⟩:=byp_at hw.hm (tn_lt hh) (tn_lt hu) (pm E) (hw.ne _ (tn_lt (k := 2) hh)) (hw.ne _ (tn_lt (k := 2) hu)) e
    exact ⟨b1,b2⟩
  have e2:∀ z,(z = tn h 2 ∨ z = tn u 2) → lB d h u z = lA d h u z:=by
   intro z hz
   unfold lB Pl.cls
   by_cases hc:lA d h u (tn h 3) = tn u 1
   ·rw [if_pos hc]
   ·rw [if_neg hc]
    have n3:=A.nf _ (tn_lt (k := 3) hh) (tn_ne (by omega)) (pm E)
    have n1:=A.nf _ (tn_lt (k := 1) hu) (Ne.symm (pm E)) (tn_ne (by omega))
    obtain ⟨b1,b2,b3,b4,b5⟩:=byp_at A.hm (tn_lt hh) (tn_lt hu) (pm E) n3 n1 hc
    have az:lA d h u z = tn h 2 ∨ lA d h u z = tn u 2:=by
     rcases hz with rfl | rfl <;> rcases A.c with ⟨a1,a2⟩ | ⟨a1,a2⟩
     ·exact .inr a1
     ·exact .inl a1
     ·exact .inl a2
     ·exact .inr a2
    have zl:z < 4 * d.n:=by rcases hz with rfl | rfl; exact tn_lt hh; exact tn_lt hu
    refine b5 z ?_ ?_ (fun e => ?_) (fun e => ?_)
    ·rcases hz with rfl | rfl; exact tn_ne (by omega); exact Ne.symm (pm E)
    ·rcases hz with rfl | rfl; exact pm E; exact tn_ne (by omega)
    ·have:=A.hm.inv _ (tn_lt (k := 3) hh); rw [← e] at this
     rcases az with e2 | e2 <;> rw [e2] at this
     ·exact tn_ne (by omega) this
     ·exact pm E this.symm
    ·have:=A.hm.inv _ (tn_lt (k := 1) hu); rw [← e] at this
     rcases az with e2 | e2 <;> rw [e2] at this
     ·exact pm E this
     ·exact tn_ne (by omega) this
  rw [e2 _ (.inl rfl),e2 _ (.inr rfl)]
  exact k1
 have j2:(lA d h u (tn h 3) = tn u 1 → lB d h u (tn h 3) = tn u 1) ∧ (lA d h u (tn h 3) ≠ tn u 1 → lB d h u (tn h 3) = tn h 3 ∧ lB d h u (tn u 1) = tn u 1):=by
  unfold lB Pl.cls
  constructor
  ·intro e; rw [if_pos e]; exact e
  ·intro e; rw [if_neg e]
   obtain ⟨b1,b2,_⟩:=byp_at A.hm (tn_lt hh) (tn_lt hu) (pm E) (A.nf _ (tn_lt (k := 3) hh) (tn_ne (by omega)) (pm E)) (A.nf _ (tn_lt (k := 1) hu) (Ne.symm (pm E)) (tn_ne (by omega))) e
   exact ⟨b1,b2⟩
 have c1:Cls (grp h u) (Orb (phi op (lB d h u))) (if d.m (tn h 2) = tn u 2 then 2 else 1) ∧ ∀ z,grp h u z → grp h u (phi op (lB d h u) z):=by
  by_cases e:d.m (tn h 2) = tn u 2
  ·rw [if_pos e]; exact G1.closed (j1.1 e)
  ·rw [if_neg e]; have := G1.free (j1.2 e).1 (j1.2 e).2; exact ⟨this.1,this.2.1⟩
 have c2:Cls (grp (tn h 1) (tn u 3)) (Orb (phi op (lB d h u))) (if lA d h u (tn h 3) = tn u 1 then 2 else 1) ∧ ∀ z,grp (tn h 1) (tn u 3) z → grp (tn h 1) (tn u 3) (phi op (lB d h u) z):=by
  by_cases e:lA d h u (tn h 3) = tn u 1
  ·rw [if_pos e]; exact G2.closed (by rw [tn12,tn32]; exact j2.1 e)
  ·rw [if_neg e]; have := G2.free (by rw [tn12]; exact (j2.2 e).1) (by rw [tn32]; exact (j2.2 e).2); exact ⟨this.1,this.2.1⟩
 have dis:∀ z,grp h u z → ¬ grp (tn h 1) (tn u 3) z:=by
  unfold grp
  rw [tn12,tn32]
  rintro z (rfl | rfl | rfl | rfl) (e | e | e | e)
  ·exact pmz (by omega) e
  ·exact pm1 E e
  ·exact pmz (by omega) e
  ·exact pm1 E e
  ·exact pm0 E e.symm
  ·exact pmz (by omega) e
  ·exact pm0 E e.symm
  ·exact pmz (by omega) e
  ·exact tn_ne (by omega) e
  ·exact pm E e
  ·exact tn_ne (by omega) e
  ·exact pm E e
  ·exact pm E e.symm
  ·exact tn_ne (by omega) e
  ·exact pm E e.symm
  ·exact tn_ne (by omega) e
 have ha:=Cls.add c1.1 c2.1 (fun x y hx hy e => dis _ (orb_closed (P := grp h u) c1.2 hx e) hy) (fun x y hx hy e => dis _ hx (orb_closed (P := grp (tn h 1) (tn u 3)) c2.2 hy e)) dis
 refine Cls.congr ha (fun z => ?_) (fun _ _ _ _ => Iff.rfl)
 unfold grp Pl.gone
 rw [tn12,tn32,List.mem_cons,List.mem_singleton]
 have hin:(z / 4 = x ∨ z / 4 = y) ↔ z / 4 = h / 4 ∨ z / 4 = u / 4:=by
  rcases hx with ⟨rfl,rfl⟩ | ⟨rfl,rfl⟩
  ·exact Iff.rfl
  ·exact Or.comm
 rw [hin]
 have d0:∀ k,tn h k / 4 = h / 4:=tn_div h
 have d1:∀ k,tn u k / 4 = u / 4:=tn_div u
 constructor
 ·rintro ((rfl | rfl | rfl | rfl) | (rfl | rfl | rfl | rfl))
  ·exact ⟨hh,.inl rfl⟩
  ·exact ⟨hu,.inr rfl⟩
  ·exact ⟨tn_lt hh,.inl (d0 _)⟩
  ·exact ⟨tn_lt hu,.inr (d1 _)⟩
  ·exact ⟨tn_lt hh,.inl (d0 _)⟩
  ·exact ⟨tn_lt hu,.inr (d1 _)⟩
  ·exact ⟨tn_lt hh,.inl (d0 _)⟩
  ·exact ⟨tn_lt hu,.inr (d1 _)⟩
 ·rintro ⟨_,h2 | h2⟩
  ·have:z = h ∨ z = tn h 1 ∨ z = tn h 2 ∨ z = tn h 3:=by unfold tn; omega
   rcases this with e | e | e | e
   ·exact .inl (.inl e)
   ·exact .inr (.inl e)
   ·exact .inl (.inr (.inr (.inl e)))
   ·exact .inr (.inr (.inr (.inl e)))
  ·have:z = u ∨ z = tn u 1 ∨ z = tn u 2 ∨ z = tn u 3:=by unfold tn; omega
   rcases this with e | e | e | e
   ·exact .inl (.inr (.inl e))
   ·exact .inr (.inr (.inr (.inr e)))
   ·exact .inl (.inr (.inr (.inr e)))
   ·exact .inr (.inr (.inl e))
theorem Lens.same (hd:Valid d) (L:Lens d h u) {x y:Nat} (hxy:x < y) (hx:(x = h / 4 ∧ y = u / 4) ∨ (x = u / 4 ∧ y = h / 4)) {mt:List Nat} {lp:Nat} (hl:lp ≤ 64)
 (hlp:lp = d.lp + (if d.m (tn h 2) = tn u 2 then 1 else 0) + (if lA d h u (tn h 3) = tn u 1 then 1 else 0)) (hmt:∀ z,Pl.stay d [x,y] z → mt.getD z 0 = lB d h u z):Same d (rsD d [x,y] mt lp) := by
 intro s s' h1 h2
 have hw:=(Valid.iff.1 hd).1
 have R:=(L.lb hd).rs hw L hxy hx hl hmt
 obtain ⟨ks,e1,_,e2⟩:=R.cls (L.cls hd (h1.all hw)) (L.gone hd hx)
 have:=h2.iff (R.wf hw) e2
 show s + d.lp = s' + lp
 by_cases a1:d.m (tn h 2) = tn u 2 <;> by_cases a2:lA d h u (tn h 3) = tn u 1 <;> simp only [a1,a2,if_true,if_false] at e1 hlp <;> omega
end
end Go.Proofs.YtghdiolnonejaaaGreatDoor.Pl
end
section
namespace Go.Proofs.YtghdiolnonejaaaGreatDoor
open Go Go.RowKit
attribute [local go_sem ↓] Go.wp_at_zero Go.wp_at_succ
def seen (L:List Mv) (x q:Nat):Bool := (L.take q).any (fun z => z.x == (x:Int))
theorem mvs_get:∀ (ms:List Mv) (j:Nat) (z:Mv),ms[j]? = some z → ∀ (i:Nat) (u:Value),z.cells[i]? = some u → (mvs ms)[j * 5 + i]? = some u
 | [],j,z,h,_,_,_ => by cases h
 | m :: ms, 0, z, h, i, u, hu => by
   obtain rfl:m = z := by simpa using h
   have hi:i < m.cells.length:=(List.getElem?_eq_some_iff.1 hu).1
   show (m.cells ++ mvs ms)[0 * 5 + i]? = some u
   rw [Nat.zero_mul,Nat.zero_add,List.getElem?_append_left hi,hu]
 | m :: ms, j + 1, z, h, i, u, hu => by
   have ih:=mvs_get ms j z (by simpa using h) i u hu
   show (m.cells ++ mvs ms)[(j + 1) * 5 + i]? = some u
   have e:m.cells.length = 5:=rfl
   rw [List.getElem?_append_right (by rw [e]; omega),e,← ih]
   congr 1
   omega
end Go.Proofs.YtghdiolnonejaaaGreatDoor
end
section
namespace Go.Proofs.YtghdiolnonejaaaGreatDoor
open Go Go.RowKit
attribute [local go_sem ↓] Go.wp_at_zero Go.wp_at_succ
theorem shrS_len (gs:List Nat) (sg:List Int):(Pl.shrS gs sg).length = (Pl.left sg.length gs).length := by unfold Pl.shrS; simp
section
variable {base:Nat} {w W W' W2:World} {vS vM:Value} {n q gK:Nat} {lp:Int} {mv bk:List Value} {ss:List Int} {l:List Nat}
end
section
variable {base:Nat} {w W:World} {vS vM k x y s o b0 b3 b4:Value} {n q gK:Nat} {lp:Int} {ss:List Int} {l:List Nat}
end
end Go.Proofs.YtghdiolnonejaaaGreatDoor
end
section
namespace Go.Proofs.YtghdiolnonejaaaGreatDoor
open Go Go.RowKit
attribute [local go_sem ↓] Go.wp_at_zero Go.wp_at_succ
def prs (l:List Nat):List Value := l.map (fun k:Nat => Value.int .i64 k)
section
variable {base:Nat} {w W W' W2:World} {vS vM:Value} {n q:Nat} {lp:Int} {mv:List Value} {ss:List Int} {l:List Nat}
end
structure SQ (base:Nat) (w w2:World) (vS vM:Value) (n q:Nat) (lp:Int) (mv:List Value) (ss:List Int) (l:List Nat) (gt:Nat) (tl:List Int) (v:Value) (qn:Nat) (E:List Nat) (W:World):Prop where
 k:RK base w vS vM n q lp mv ss l W
 t:IRow W gt tl
 e:W.ownsRow (gt + 1) 124 2 v qn (prs E)
 lo:w.heap.size + 4 ≤ gt
 gt2:w2.heap.size = gt
 b2:Below w2.heap.size w2 W
 hS:∀ g,vS.ownBlock = some g → g < w.heap.size
 hM:∀ g,vM.ownBlock = some g → g < w.heap.size
section
variable {base:Nat} {w w2 W W' W2:World} {vS vM v v':Value} {n q gt qn:Nat} {lp:Int} {mv:List Value} {ss tl:List Int} {l E:List Nat}
end
section
variable {base:Nat} {w W W' W2:World} {vS vM:Value} {n q gt ge gO g1 c1 g2 c2 b3 gV:Nat} {lp:Int} {mv bk:List Value} {ss tl:List Int} {l L L':List Nat} {E:Nat → Nat}
end
end Go.Proofs.YtghdiolnonejaaaGreatDoor
end
