/-
 The texts Wx, Wy, Xb, Xc.
-/
import Derived.Test.YtghdiolnonejaaaR02
import Derived.Test.YtghdiolnonejaaaR05
set_option linter.unusedVariables false
set_option linter.unusedSimpArgs false
section
namespace Go.Proofs.Ytghdiolnonejaaa
open Go Go.RowKit
attribute [local go_sem ↓] Go.wp_at_zero Go.wp_at_succ
def lnS (d:Pl.Dg) (y:Int):Nat := if fwd d y then 0 else 2
def th0 (d:Pl.Dg) (x:Int):Nat := if fwd d x then 3 else 1
def th1 (d:Pl.Dg) (x:Int):Nat := if fwd d x then 1 else 3
def un0 (d:Pl.Dg) (x y:Int) (ov:Bool):Nat := if ov then lnS d y else th0 d x
def un1 (d:Pl.Dg) (x y:Int) (ov:Bool):Nat := if ov then lnS d y else th1 d x
def ov0 (d:Pl.Dg) (x y:Int) (ov:Bool):Nat := if ov then th0 d x else lnS d y
def ov1 (d:Pl.Dg) (x y:Int) (ov:Bool):Nat := if ov then th1 d x else lnS d y
def sgn2 (u o:Nat):Int := if plc 0 u o = 3 then 1 else -1
theorem box2 {W:World} {g:Nat} {t:TypeId} {a b:Value} (h:Row W g t [a,b]):W.cell? ⟨g,0,none⟩ = some a ∧ W.cell? ⟨g,1,none⟩ = some b ∧ ∀ o,W.frozen? ⟨g,o,none⟩ = false :=
 ⟨h.cell (i := 0) (by simp),h.cell (i := 1) (by simp),h.free⟩
structure RS (w:World) (x0 x1 x2 y0 y1 y2 y3 y4:Value) (W:World):Prop where
 d:Row W w.heap.size 24 [x0,x1,x2]
 m:Row W (w.heap.size + 1) 37 [y0,y1,y2,y3,y4]
 rd:∃ vs,Row W (w.heap.size + 1 + 1) 24 vs ∧ vs.length = 3
 ra:∃ us,Row W (w.heap.size + 1 + 1 + 1) 93 us ∧ us.length = 2
 bel:Below w.heap.size w W
section
variable {w:World} {x0 x1 x2 y0 y1 y2 y3 y4:Value} {W W':World}
theorem RS.drew (h:RS w x0 x1 x2 y0 y1 y2 y3 y4 W):RS w x0 x1 x2 y0 y1 y2 y3 y4 W.drew := ⟨h.d,h.m,h.rd,h.ra,h.bel.drew⟩
theorem RS.below (h:RS w x0 x1 x2 y0 y1 y2 y3 y4 W) (hb:Below W.heap.size W W'):RS w x0 x1 x2 y0 y1 y2 y3 y4 W' :=
 let ⟨vs,r1,l1⟩:=h.rd
 let ⟨us,r2,l2⟩:=h.ra
 ⟨h.d.below hb,h.m.below hb,⟨vs,r1.below hb,l1⟩,⟨us,r2.below hb,l2⟩,h.bel.trans (hb.mono h.bel.size)⟩
theorem RS.alloc (h:RS w x0 x1 x2 y0 y1 y2 y3 y4 W) (o:Obj):RS w x0 x1 x2 y0 y1 y2 y3 y4 (W.alloc o) := h.below ((Below.refl _ _).alloc (Nat.le_refl _) o)
theorem RS.big (h:RS w x0 x1 x2 y0 y1 y2 y3 y4 W):w.heap.size + 1 + 1 + 1 < W.heap.size := let ⟨_,r2,_⟩:=h.ra; r2.lt
theorem RS.far (h:RS w x0 x1 x2 y0 y1 y2 y3 y4 W) {g:Nat} (hg:w.heap.size + 1 + 1 + 1 < g) (o:Nat) (v:Value):RS w x0 x1 x2 y0 y1 y2 y3 y4 (W.setCell ⟨g,o,none⟩ v) :=
 let ⟨vs,r1,l1⟩:=h.rd
 let ⟨us,r2,l2⟩:=h.ra
 ⟨h.d.other (by show _ ≠ g; omega) v,h.m.other (by show _ ≠ g; omega) v,⟨vs,r1.other (by show _ ≠ g; omega) v,l1⟩,⟨us,r2.other (by show _ ≠ g; omega) v,l2⟩,h.bel.setCell (by show _ ≤ g; omega) v⟩
end
theorem rs_start (w:World) (x0 x1 x2 y0 y1 y2 y3 y4:Value):RS w x0 x1 x2 y0 y1 y2 y3 y4 ((((w.alloc (.cells #[x0,x1,x2] 24)).alloc (.cells #[y0,y1,y2,y3,y4] 37)).alloc (.cells #[.slice none 0 0,.slice none 0 0,.int .i64 0] 24)).alloc (.cells #[.int .i64 0,.int .i64 0] 93)) := by
 refine ⟨(((row_at (vs := [x0,x1,x2]) rfl).alloc _).alloc _).alloc _,((row_at (vs := [y0,y1,y2,y3,y4]) (by simp)).alloc _).alloc _,⟨[.slice none 0 0,.slice none 0 0,.int .i64 0],(row_at (vs := [.slice none 0 0,.slice none 0 0,.int .i64 0]) (by simp)).alloc _,rfl⟩,⟨[.int .i64 0,.int .i64 0],row_at (vs := [.int .i64 0,.int .i64 0]) (by simp),rfl⟩,?_⟩
 exact ((((Below.refl _ _).alloc (Nat.le_refl _) _).alloc (by simp) _).alloc (by simp; omega) _).alloc (by simp; omega) _
theorem RS_drewN {w:World} {x0 x1 x2 y0 y1 y2 y3 y4:Value} {W:World} (h:RS w x0 x1 x2 y0 y1 y2 y3 y4 W) (n:Nat):RS w x0 x1 x2 y0 y1 y2 y3 y4 (W.drewN n) := ⟨h.d,h.m,h.rd,h.ra,below_drewN h.bel n⟩
theorem Row_drewN {w:World} {g:Nat} {t:TypeId} {vs:List Value} (h:Row w g t vs) (n:Nat):Row (w.drewN n) g t vs := h
structure RT (w:World) (x0 x1 x2 y0 y1 y2 y3 y4:Value) (gu gs:Nat) (p0 p1 q0 q1:Value) (W:World):Prop where
 rs:RS w x0 x1 x2 y0 y1 y2 y3 y4 W
 u:Row W gu 93 [p0,p1]
 s:Row W gs 93 [q0,q1]
 lu:w.heap.size + 1 + 1 + 1 < gu
 ls:w.heap.size + 1 + 1 + 1 < gs
section
variable {w:World} {x0 x1 x2 y0 y1 y2 y3 y4:Value} {gu gs:Nat} {p0 p1 q0 q1:Value} {W W':World}
theorem RT.drew (h:RT w x0 x1 x2 y0 y1 y2 y3 y4 gu gs p0 p1 q0 q1 W):RT w x0 x1 x2 y0 y1 y2 y3 y4 gu gs p0 p1 q0 q1 W.drew := ⟨h.rs.drew,h.u,h.s,h.lu,h.ls⟩
theorem RT.below (h:RT w x0 x1 x2 y0 y1 y2 y3 y4 gu gs p0 p1 q0 q1 W) (hb:Below W.heap.size W W'):RT w x0 x1 x2 y0 y1 y2 y3 y4 gu gs p0 p1 q0 q1 W' := ⟨h.rs.below hb,h.u.below hb,h.s.below hb,h.lu,h.ls⟩
theorem RT.alloc (h:RT w x0 x1 x2 y0 y1 y2 y3 y4 gu gs p0 p1 q0 q1 W) (o:Obj):RT w x0 x1 x2 y0 y1 y2 y3 y4 gu gs p0 p1 q0 q1 (W.alloc o) := h.below ((Below.refl _ _).alloc (Nat.le_refl _) o)
theorem RT.setD (h:RT w x0 x1 x2 y0 y1 y2 y3 y4 gu gs p0 p1 q0 q1 W) (o:Nat) (v:Value):RT w x0 x1 x2 y0 y1 y2 y3 y4 gu gs p0 p1 q0 q1 (W.setCell ⟨w.heap.size + 1 + 1,o,none⟩ v) :=
 let ⟨vs,r1,l1⟩:=h.rs.rd
 let ⟨us,r2,l2⟩:=h.rs.ra
 have a:=h.lu
 have b:=h.ls
 ⟨⟨h.rs.d.other (by show _ ≠ w.heap.size + 1 + 1; omega) v,h.rs.m.other (by show _ ≠ w.heap.size + 1 + 1; omega) v,⟨vs.set o v,r1.set o v,by rw [List.length_set,l1]⟩,⟨us,r2.other (by show _ ≠ w.heap.size + 1 + 1; omega) v,l2⟩,h.rs.bel.setCell (by show _ ≤ w.heap.size + 1 + 1; omega) v⟩,
  h.u.other (by show _ ≠ w.heap.size + 1 + 1; omega) v,h.s.other (by show _ ≠ w.heap.size + 1 + 1; omega) v,h.lu,h.ls⟩
theorem RT.setA (h:RT w x0 x1 x2 y0 y1 y2 y3 y4 gu gs p0 p1 q0 q1 W) (o:Nat) (v:Value):RT w x0 x1 x2 y0 y1 y2 y3 y4 gu gs p0 p1 q0 q1 (W.setCell ⟨w.heap.size + 1 + 1 + 1,o,none⟩ v) :=
 let ⟨vs,r1,l1⟩:=h.rs.rd
 let ⟨us,r2,l2⟩:=h.rs.ra
 have a:=h.lu
 have b:=h.ls
 ⟨⟨h.rs.d.other (by show _ ≠ w.heap.size + 1 + 1 + 1; omega) v,h.rs.m.other (by show _ ≠ w.heap.size + 1 + 1 + 1; omega) v,⟨vs,r1.other (by show _ ≠ w.heap.size + 1 + 1 + 1; omega) v,l1⟩,⟨us.set o v,r2.set o v,by rw [List.length_set,l2]⟩,h.rs.bel.setCell (by show _ ≤ w.heap.size + 1 + 1 + 1; omega) v⟩,
  h.u.other (by show _ ≠ w.heap.size + 1 + 1 + 1; omega) v,h.s.other (by show _ ≠ w.heap.size + 1 + 1 + 1; omega) v,h.lu,h.ls⟩
theorem RT.all (h:RT w x0 x1 x2 y0 y1 y2 y3 y4 gu gs p0 p1 q0 q1 W):W.cell? ⟨w.heap.size,0,none⟩ = some x0 ∧ W.cell? ⟨w.heap.size,1,none⟩ = some x1 ∧ W.cell? ⟨w.heap.size,2,none⟩ = some x2 ∧ W.cell? ⟨gs,0,none⟩ = some q0 ∧ W.cell? ⟨gs,1,none⟩ = some q1 ∧ W.cell? ⟨gu,0,none⟩ = some p0 ∧ W.cell? ⟨gu,1,none⟩ = some p1 ∧
 W.cell? ⟨w.heap.size + 1 + 1,0,none⟩ = some (cv W ⟨w.heap.size + 1 + 1,0,none⟩) ∧ W.cell? ⟨w.heap.size + 1 + 1,1,none⟩ = some (cv W ⟨w.heap.size + 1 + 1,1,none⟩) ∧ W.cell? ⟨w.heap.size + 1 + 1,2,none⟩ = some (cv W ⟨w.heap.size + 1 + 1,2,none⟩) ∧
 W.cell? ⟨w.heap.size + 1 + 1 + 1,0,none⟩ = some (cv W ⟨w.heap.size + 1 + 1 + 1,0,none⟩) ∧ W.cell? ⟨w.heap.size + 1 + 1 + 1,1,none⟩ = some (cv W ⟨w.heap.size + 1 + 1 + 1,1,none⟩) ∧
 (∀ o,W.frozen? ⟨w.heap.size + 1 + 1,o,none⟩ = false) ∧ (∀ o,W.frozen? ⟨w.heap.size + 1 + 1 + 1,o,none⟩ = false) ∧ RT w x0 x1 x2 y0 y1 y2 y3 y4 gu gs p0 p1 q0 q1 W := by
 obtain ⟨vs,r1,l1⟩:=h.rs.rd
 obtain ⟨us,r2,l2⟩:=h.rs.ra
 obtain ⟨d0,d1,d2,_⟩:=box3 h.rs.d
 obtain ⟨s0,s1,_⟩:=box2 h.s
 obtain ⟨u0,u1,_⟩:=box2 h.u
 exact ⟨d0,d1,d2,s0,s1,u0,u1,cv_some (r1.cell (i := 0) (by omega)),cv_some (r1.cell (i := 1) (by omega)),cv_some (r1.cell (i := 2) (by omega)),cv_some (r2.cell (i := 0) (by omega)),cv_some (r2.cell (i := 1) (by omega)),r1.free,r2.free,h⟩
end
theorem fin5 {W:World} {gd ga:Nat} {vs us:List Value} (h1:Row W gd 24 vs) (h2:Row W ga 93 us) (l1:vs.length = 3) (l2:us.length = 2) (hne:gd ≠ ga) (y0 y1 y2 z0 z1:Value) :
 (((((W.setCell ⟨gd,0,none⟩ y0).setCell ⟨gd,1,none⟩ y1).setCell ⟨gd,2,none⟩ y2).setCell ⟨ga,0,none⟩ z0).setCell ⟨ga,1,none⟩ z1).cell? ⟨gd,0,none⟩ = some y0 ∧ (((((W.setCell ⟨gd,0,none⟩ y0).setCell ⟨gd,1,none⟩ y1).setCell ⟨gd,2,none⟩ y2).setCell ⟨ga,0,none⟩ z0).setCell ⟨ga,1,none⟩ z1).cell? ⟨gd,1,none⟩ = some y1 ∧ (((((W.setCell ⟨gd,0,none⟩ y0).setCell ⟨gd,1,none⟩ y1).setCell ⟨gd,2,none⟩ y2).setCell ⟨ga,0,none⟩ z0).setCell ⟨ga,1,none⟩ z1).cell? ⟨gd,2,none⟩ = some y2 ∧
 (((((W.setCell ⟨gd,0,none⟩ y0).setCell ⟨gd,1,none⟩ y1).setCell ⟨gd,2,none⟩ y2).setCell ⟨ga,0,none⟩ z0).setCell ⟨ga,1,none⟩ z1).cell? ⟨ga,0,none⟩ = some z0 ∧ (((((W.setCell ⟨gd,0,none⟩ y0).setCell ⟨gd,1,none⟩ y1).setCell ⟨gd,2,none⟩ y2).setCell ⟨ga,0,none⟩ z0).setCell ⟨ga,1,none⟩ z1).cell? ⟨ga,1,none⟩ = some z1 := by
 obtain ⟨a,b,c,rfl⟩:∃ a b c,vs = [a,b,c] := by
  match vs,l1 with
  | [a,b,c],_ => exact ⟨a,b,c,rfl⟩
 obtain ⟨a',b',rfl⟩:∃ a b,us = [a,b] := by
  match us,l2 with
  | [a,b],_ => exact ⟨a,b,rfl⟩
 have r1:=((((h1.set 0 y0).set 1 y1).set 2 y2).other (a := ⟨ga,0,none⟩) hne z0).other (a := ⟨ga,1,none⟩) hne z1
 have r2:=((((h2.other (a := ⟨gd,0,none⟩) (Ne.symm hne) y0).other (a := ⟨gd,1,none⟩) (Ne.symm hne) y1).other (a := ⟨gd,2,none⟩) (Ne.symm hne) y2).set 0 z0).set 1 z1
 exact ⟨r1.cell (i := 0) (by simp),r1.cell (i := 1) (by simp),r1.cell (i := 2) (by simp),r2.cell (i := 0) (by simp),r2.cell (i := 1) (by simp)⟩
theorem own_base {w:World} {base base':Nat} {e:TypeId} {v:Value} {n:Nat} {xs:List Value} (h:w.ownsRow base e 1 v n xs) (hle:base' ≤ base):w.ownsRow base' e 1 v n xs := own_keep h (Below.refl _ _) hle
theorem two_ints (W:World) (a b:Int):IntsAt (W.alloc (.cells #[.int .i64 a,.int .i64 b] 3)).drew (some ⟨W.heap.size,0,none⟩) 2 [a,b] := by
 refine IntsAt.drew ⟨rfl,fun _ => ⟨_,0,rfl,fun j u hu => ?_⟩⟩
 have h:=heap_alloc_new W (.cells #[.int .i64 a,.int .i64 b] 3)
 match j,hu with
 | 0,hu => simp at hu; subst hu; exact (Lib.cell_of_heap h 0).trans rfl
 | 1,hu => simp at hu; subst hu; exact (Lib.cell_of_heap h 1).trans rfl
def RaisedPost (d:Pl.Dg) (x y:Int) (ov:Bool) (w:World) (e:Ending) (w':World):Prop :=
 ∃ g1 c1 g2 c2 : Nat, e = .returned (.tuple #[.agg #[.slice (some ⟨g1, 0, none⟩) (d.n + 2) c1, .slice (some ⟨g2, 0, none⟩) (4 * d.n + 8) c2, .int .i64 (d.lp : Int)], .agg #[.int .i64 (un0 d x y ov : Nat), .int .i64 (un1 d x y ov : Nat)]]) ∧
   w'.ownsRow w.heap.size 3 1 (.slice (some ⟨g1,0,none⟩) (d.n + 2) c1) (d.n + 2) ((d.sg ++ [sgn2 (un0 d x y ov) (ov0 d x y ov),sgn2 (un1 d x y ov) (ov1 d x y ov)]).map (.int .i64)) ∧ OwnN w' w.heap.size g2 (4 * d.n + 8) c2 (d.mt ++ List.replicate 8 0) ∧ g1 ≠ g2 ∧ Below w.heap.size w w'
set_option maxRecDepth 100000 in
set_option maxHeartbeats 4000000 in
theorem raised_any (d:Pl.Dg) (hd:Pl.Wf d) (A B:Option Addr) (cp cq m:Nat) (k x y sg:Int) (ov:Bool) (w:World) (hm:m = 4 * d.n) (hg:DgAt w A B d) (hx:x < 4 * (d.n:Int)) (hy:y < 4 * (d.n:Int)) :
 Calls Try.prog 86 #[.agg #[.slice A d.n cp,.slice B m cq,.int .i64 d.lp],.agg #[.int .i64 k,.int .i64 x,.int .i64 y,.int .i64 sg,.bool ov]] w (RaisedPost d x y ov w) := by
 have hn:=hd.few
 have HM:=hide hm
 have HG:=hide hg
 have hm2:m ≤ 256:=by omega
 clear hm hg
 have RS0:=hide (rs_start w (.slice A d.n cp) (.slice B m cq) (.int .i64 (d.lp:Int)) (.int .i64 k) (.int .i64 x) (.int .i64 y) (.int .i64 sg) (.bool ov))
 go_enter Try.func86,Try.ntmps86
 go_wp2_with fail
 refine (forward_any d A B cp m cq (.int .i64 (d.lp:Int)) y _ hy (by omega) ((HG.out.keep (RS0.out.alloc _).bel).s)).mono ?_
 rintro e w1 ⟨rfl,hb1⟩
 have RS1:=hide ((RS0.out.alloc (.cells #[.int .i64 0,.int .i64 0] 93)).below hb1)
 have L1:=hide (show Row w1 (w.heap.size + 1 + 1 + 1 + 1) 93 [.int .i64 0,.int .i64 0] from (row_at (vs := [.int .i64 0,.int .i64 0]) (by simp)).below hb1)
 clear hb1
 obtain ⟨l0,hl0⟩:∃ l0,l0 = lnS d y := ⟨_,rfl⟩
 obtain ⟨t0,ht0⟩:∃ t0,t0 = th0 d x := ⟨_,rfl⟩
 obtain ⟨t1,ht1⟩:∃ t1,t1 = th1 d x := ⟨_,rfl⟩
 have HL0:=hide hl0
 have HT0:=hide ht0
 have HT1:=hide ht1
 have bl0:l0 < 4:=by rw [hl0]; unfold lnS; split <;> omega
 have bt0:t0 < 4:=by rw [ht0]; unfold th0; split <;> omega
 have bt1:t1 < 4:=by rw [ht1]; unfold th1; split <;> omega
 clear hl0 ht0 ht1
 go_upto_if 17 with fail
 go_cut [18] (fun _ wx => RS w (.slice A d.n cp) (.slice B m cq) (.int .i64 (d.lp:Int)) (.int .i64 k) (.int .i64 x) (.int .i64 y) (.int .i64 sg) (.bool ov) wx ∧ Row wx (w.heap.size + 1 + 1 + 1 + 1) 93 [.int .i64 (l0:Int),.int .i64 (l0:Int)])
 case first =>
  have hbig:=RS1.out.big
  obtain ⟨a0,a1,a2⟩:=box2 L1.out
  cases hfy:fwd d y with
  | true =>
    have e0:l0 = 0:=by rw [HL0.out]; unfold lnS; rw [if_pos hfy]
    have E0:=hide e0
    clear e0 hfy
    go_wp2_with fail
    go_meet
    exact ⟨RS1.out,by rw [E0.out]; exact L1.out⟩
  | false =>
    have e0:l0 = 2:=by rw [HL0.out]; unfold lnS; rw [if_neg (by rw [hfy]; decide)]
    have E0:=hide e0
    clear e0 hfy
    go_wp2_with fail
    go_meet
    exact ⟨(RS1.out.far (by omega) _ _).far (by omega) _ _,by rw [E0.out]; exact (L1.out.set 0 (.int .i64 2)).set 1 (.int .i64 2)⟩
 case rest =>
  obtain ⟨hrs,hl⟩:=hcut
  have RS2:=hide hrs
  have L2:=hide hl
  clear hrs hl RS1 L1 RS0
  obtain ⟨f0,f1,f2,f3⟩:=box3 RS2.out.d
  obtain ⟨m0,m1,m2',m3,m4,m5⟩:=box5 RS2.out.m
  have hbg:=RS2.out.big
  have hlt:=L2.out.lt
  have q1:w.heap.size < wc.heap.size:=by omega
  have q2:w.heap.size + 1 < wc.heap.size:=by omega
  go_wp2_with fail
  refine (forward_any d A B cp m cq (.int .i64 (d.lp:Int)) x _ hx (by omega) ((HG.out.keep (RS2.out.alloc _).bel).s)).mono ?_
  rintro e w2 ⟨rfl,hb2⟩
  have RS3:=hide ((RS2.out.alloc (.cells #[.int .i64 3,.int .i64 1] 93)).below hb2)
  have L3:=hide ((L2.out.alloc (.cells #[.int .i64 3,.int .i64 1] 93)).below hb2)
  have T3:=hide (show Row w2 wc.heap.size 93 [.int .i64 3,.int .i64 1] from (row_at (vs := [.int .i64 3,.int .i64 1]) rfl).below hb2)
  clear hb2 f0 f1 f2 f3 m0 m1 m2' m3 m4 m5
  obtain ⟨gt,hgt⟩:∃ gt,gt = wc.heap.size := ⟨_,rfl⟩
  rw [← hgt] at T3 hbg hlt ⊢
  clear hgt q1 q2 RS2 L2
  go_upto_if 24 with fail
  go_cut [25] (fun _ wx => RS w (.slice A d.n cp) (.slice B m cq) (.int .i64 (d.lp:Int)) (.int .i64 k) (.int .i64 x) (.int .i64 y) (.int .i64 sg) (.bool ov) wx ∧ Row wx (w.heap.size + 1 + 1 + 1 + 1) 93 [.int .i64 (l0:Int),.int .i64 (l0:Int)] ∧ Row wx gt 93 [.int .i64 (t0:Int),.int .i64 (t1:Int)])
  case first =>
   obtain ⟨a0,a1,a2⟩:=box2 T3.out
   cases hfx:fwd d x with
   | true =>
     have e0:t0 = 3:=by rw [HT0.out]; unfold th0; rw [if_pos hfx]
     have e1:t1 = 1:=by rw [HT1.out]; unfold th1; rw [if_pos hfx]
     have E0:=hide e0
     have E1:=hide e1
     clear e0 e1 hfx
     go_wp2_with fail
     go_meet
     exact ⟨RS3.out,L3.out,by rw [E0.out,E1.out]; exact T3.out⟩
   | false =>
     have e0:t0 = 1:=by rw [HT0.out]; unfold th0; rw [if_neg (by rw [hfx]; decide)]
     have e1:t1 = 3:=by rw [HT1.out]; unfold th1; rw [if_neg (by rw [hfx]; decide)]
     have E0:=hide e0
     have E1:=hide e1
     clear e0 e1 hfx
     go_wp2_with fail
     go_meet
     exact ⟨(RS3.out.far (by omega) _ _).far (by omega) _ _,(L3.out.other (by show _ ≠ gt; omega) _).other (by show _ ≠ gt; omega) _,by rw [E0.out,E1.out]; exact (T3.out.set 0 (.int .i64 1)).set 1 (.int .i64 3)⟩
  case rest =>
   obtain ⟨hrs,hl,ht⟩:=hcut
   have RS4:=hide hrs
   have L4:=hide hl
   have T4:=hide ht
   clear hrs hl ht RS3 L3 T3
   go_upto_region 7 with fail
   obtain ⟨gl,hgl⟩:∃ gl,gl = w.heap.size + 1 + 1 + 1 + 1 := ⟨_,rfl⟩
   rw [← hgl] at L4 hlt ⊢
   have hgl2:w.heap.size + 1 + 1 + 1 < gl:=by omega
   have hgtl:gt ≠ gl:=by omega
   clear hgl
   obtain ⟨a0,a1,a2⟩:=box2 L4.out
   obtain ⟨b0,b1,b2⟩:=box2 T4.out
   have ll:=L4.out.lt
   have lt:=T4.out.lt
   go_cut [8,9] (fun s8 s9 wx => ∃ gu go:Nat,s8 = .pointer (some ⟨gu,0,none⟩) ∧ s9 = .pointer (some ⟨go,0,none⟩) ∧ RS w (.slice A d.n cp) (.slice B m cq) (.int .i64 (d.lp:Int)) (.int .i64 k) (.int .i64 x) (.int .i64 y) (.int .i64 sg) (.bool ov) wx ∧ Row wx gl 93 [.int .i64 (l0:Int),.int .i64 (l0:Int)] ∧ Row wx gt 93 [.int .i64 (t0:Int),.int .i64 (t1:Int)] ∧ Row wx gu 93 [.int .i64 (t0:Int),.int .i64 (t1:Int)] ∧ Row wx go 93 [.int .i64 (l0:Int),.int .i64 (l0:Int)] ∧ gl < gu ∧ gt < gu ∧ gl < go ∧ gt < go ∧ gu ≠ go)
   case first =>
    go_region
    all_goals (go_wp2_with fail; go_meet)
    ·exact ⟨wc.heap.size,wc.heap.size + 1,rfl,rfl,((RS4.out.alloc _).alloc _).drew,((L4.out.alloc _).alloc _).drew,((T4.out.alloc _).alloc _).drew,((row_at (vs := [.int .i64 (t0:Int),.int .i64 (t1:Int)]) rfl).alloc _).drew,(row_at (vs := [.int .i64 (l0:Int),.int .i64 (l0:Int)]) (by simp)).drew,by omega,by omega,by omega,by omega,by omega⟩
    ·exact ⟨wc.heap.size + 1,wc.heap.size,rfl,rfl,((RS4.out.alloc _).alloc _).drew,((L4.out.alloc _).alloc _).drew,((T4.out.alloc _).alloc _).drew,(row_at (vs := [.int .i64 (t0:Int),.int .i64 (t1:Int)]) (by simp)).drew,((row_at (vs := [.int .i64 (l0:Int),.int .i64 (l0:Int)]) rfl).alloc _).drew,by omega,by omega,by omega,by omega,by omega⟩
   case rest =>
    obtain ⟨gu,go,rfl,rfl,hrs,hl,ht,hu,ho,i1,i2,i3,i4,i5⟩:=hcut
    have RS5:=hide hrs
    have L5:=hide hl
    have T5:=hide ht
    have U5:=hide hu
    have O5:=hide ho
    clear hrs hl ht hu ho a0 a1 a2 b0 b1 b2 RS4 L4 T4
    obtain ⟨u0,hu0⟩:∃ u,u = un0 d x y ov := ⟨_,rfl⟩
    obtain ⟨u1,hu1⟩:∃ u,u = un1 d x y ov := ⟨_,rfl⟩
    obtain ⟨o0,ho0⟩:∃ u,u = ov0 d x y ov := ⟨_,rfl⟩
    obtain ⟨o1,ho1⟩:∃ u,u = ov1 d x y ov := ⟨_,rfl⟩
    have U0:=hide hu0
    have U1:=hide hu1
    have O0:=hide ho0
    have O1:=hide ho1
    clear hu0 hu1 ho0 ho1
    obtain ⟨m0,m1,m2',m3,m4,m5⟩:=box5 RS5.out.m
    go_upto_if 29 with fail
    go_cut [30,31] (fun _ _ wx => RS w (.slice A d.n cp) (.slice B m cq) (.int .i64 (d.lp:Int)) (.int .i64 k) (.int .i64 x) (.int .i64 y) (.int .i64 sg) (.bool ov) wx ∧ Row wx gu 93 [.int .i64 (u0:Int),.int .i64 (u1:Int)] ∧ Row wx go 93 [.int .i64 (o0:Int),.int .i64 (o1:Int)])
    case first =>
     clear m0 m1 m2' m3 m4 m5
     obtain ⟨a0,a1,a2⟩:=box2 L5.out
     obtain ⟨b0,b1,b2⟩:=box2 T5.out
     obtain ⟨c0,c1,c2⟩:=box2 U5.out
     obtain ⟨e0,e1,e2⟩:=box2 O5.out
     have z1:gl ≠ gu:=by omega
     have z2:gt ≠ gu:=by omega
     have z3:gl ≠ go:=by omega
     have z4:gt ≠ go:=by omega
     have z5:go ≠ gu:=by omega
     cases ov with
     | true =>
       have V:=hide (show u0 = l0 ∧ u1 = l0 ∧ o0 = t0 ∧ o1 = t1 from ⟨by rw [U0.out,HL0.out]; rfl,by rw [U1.out,HL0.out]; rfl,by rw [O0.out,HT0.out]; rfl,by rw [O1.out,HT1.out]; rfl⟩)
       go_wp2_with fail
       go_region
       all_goals (go_wp2_with fail; go_meet)
       all_goals exact ⟨((((RS5.out.far (by omega) _ _).far (by omega) _ _).far (by omega) _ _).far (by omega) _ _).drew,by rw [V.out.1,V.out.2.1]; exact ((((U5.out.set 0 (.int .i64 (l0:Int))).set 1 (.int .i64 (l0:Int))).other (by show _ ≠ go; omega) _).other (by show _ ≠ go; omega) _).drew,by rw [V.out.2.2.1,V.out.2.2.2]; exact ((((O5.out.other (by show _ ≠ gu; omega) _).other (by show _ ≠ gu; omega) _).set 0 (.int .i64 (t0:Int))).set 1 (.int .i64 (t1:Int))).drew⟩
     | false =>
       have V:=hide (show u0 = t0 ∧ u1 = t1 ∧ o0 = l0 ∧ o1 = l0 from ⟨by rw [U0.out,HT0.out]; rfl,by rw [U1.out,HT1.out]; rfl,by rw [O0.out,HL0.out]; rfl,by rw [O1.out,HL0.out]; rfl⟩)
       go_wp2_with fail
       go_meet
       exact ⟨RS5.out,by rw [V.out.1,V.out.2.1]; exact U5.out,by rw [V.out.2.2.1,V.out.2.2.2]; exact O5.out⟩
    case rest =>
     obtain ⟨hrs,hu,ho⟩:=hcut
     have RS6:=hide hrs
     have U6:=hide hu
     have O6:=hide ho
     clear hrs hu ho RS5 L5 T5 U5 O5
     have u4:u0 < 4 ∧ u1 < 4 ∧ o0 < 4 ∧ o1 < 4:=by
      rw [U0.out,U1.out,O0.out,O1.out]
      unfold un0 un1 ov0 ov1
      rw [← HL0.out,← HT0.out,← HT1.out]
      cases ov <;> simp <;> omega
     obtain ⟨v0,v1,v2,v3⟩:=u4
     have hbu:=U6.out.lt
     have hbo:=O6.out.lt
     have RS7:=hide (RS6.out.alloc (.cells #[.int .i64 0,.int .i64 0] 93))
     have U7:=hide (U6.out.alloc (.cells #[.int .i64 0,.int .i64 0] 93))
     have O7:=hide (O6.out.alloc (.cells #[.int .i64 0,.int .i64 0] 93))
     have S7:=hide (show Row (wc.alloc (.cells #[.int .i64 0,.int .i64 0] 93)) wc.heap.size 93 [.int .i64 0,.int .i64 0] from row_at (vs := [.int .i64 0,.int .i64 0]) rfl)
     go_wp2_with fail
     obtain ⟨gs,hgs⟩:∃ gs,gs = wc.heap.size := ⟨_,rfl⟩
     rw [← hgs] at S7 hbu hbo ⊢
     clear hgs RS6 U6 O6
     go_loopg [32] 2 (fun g i wx => ∃ k':Nat,k' + g = 2 ∧ i = .int .i64 k' ∧ RS w (.slice A d.n cp) (.slice B m cq) (.int .i64 (d.lp:Int)) (.int .i64 k) (.int .i64 x) (.int .i64 y) (.int .i64 sg) (.bool ov) wx ∧ Row wx gu 93 [.int .i64 (u0:Int),.int .i64 (u1:Int)] ∧ Row wx go 93 [.int .i64 (o0:Int),.int .i64 (o1:Int)] ∧ Row wx gs 93 [.int .i64 (if 0 < k' then sgn2 u0 o0 else 0),.int .i64 (if 1 < k' then sgn2 u1 o1 else 0)])
     case atStart => exact ⟨0,rfl,rfl,RS7.out,U7.out,O7.out,by simpa using S7.out⟩
     case round =>
      clear RS7 U7 O7 S7
      obtain ⟨k',hkg,rfl,hrs,hu,ho,hs⟩:=hrel
      have HKG:=hide hkg
      have RG:=hide hrs
      have UG:=hide hu
      have OG:=hide ho
      have hk4:k' = 0 ∨ k' = 1 ∨ k' = 2:=by omega
      clear hkg hrs hu ho
      rcases hk4 with rfl | rfl | rfl
      all_goals
       simp only [Nat.lt_irrefl,Nat.not_lt_zero,Nat.zero_lt_one,show (0:Nat) < 2 by omega,show (1:Nat) < 2 by omega,show ¬ (1:Nat) < 0 by omega,if_true,if_false] at hs
       have SG:=hide hs
       clear hs
      ·obtain ⟨s0,s1,s2⟩:=box2 SG.out
       obtain ⟨c0,c1,c2⟩:=box2 UG.out
       obtain ⟨e0,e1,e2⟩:=box2 OG.out
       have z6:gu ≠ gs:=by omega
       have z7:go ≠ gs:=by omega
       go_upto_region 15 with fail
       go_quiet ((go_at_call 88; exact Calls.quiet_of_same (place_i 0 (u0:Int) (o0:Int) _ (by omega) (by omega) (by omega))))
       have ep:(plc (0:Int).toNat (u0:Int).toNat (o0:Int).toNat) = plc 0 u0 o0:=by rw [Int.toNat_natCast,Int.toNat_natCast]; rfl
       rw [ep]
       have RSn:=hide (RS_drewN (RG.out.far (g := gs) (by omega) 0 (.int .i64 (-1))) nq)
       have Un:=hide (Row_drewN (UG.out.other (a := ⟨gs,0,none⟩) z6 (.int .i64 (-1))) nq)
       have On:=hide (Row_drewN (OG.out.other (a := ⟨gs,0,none⟩) z7 (.int .i64 (-1))) nq)
       have Sn:=hide (Row_drewN (SG.out.set 0 (.int .i64 (-1))) nq)
       clear ep s0 s1 s2 c0 c1 c2 e0 e1 e2 z6 z7
       obtain ⟨Wn,hWn⟩:∃ Wn,Wn = (wr.setCell ⟨gs,0,none⟩ (.int .i64 (-1))).drewN nq := ⟨_,rfl⟩
       rw [← hWn] at RSn Un On Sn ⊢
       clear hWn
       obtain ⟨pp,hpp⟩:∃ pp,pp = plc 0 u0 o0 := ⟨_,rfl⟩
       rw [← hpp]
       have HPP:=hide hpp
       clear hpp
       obtain ⟨s0,s1,s2⟩:=box2 Sn.out
       by_cases h3:pp = 3
       ·have t3:((pp:Int) == 3) = true:=by rw [beq_iff_eq]; omega
        have HS3:=hide (show sgn2 u0 o0 = 1 by unfold sgn2; rw [← HPP.out,if_pos h3])
        clear h3
        go_wp2_with fail
        go_roundg 1
        case measure => have := HKG.out; omega
        case rel => exact ⟨1,rfl,by go_num,RSn.out.far (by omega) _ _,Un.out.other (by show _ ≠ gs; omega) _,On.out.other (by show _ ≠ gs; omega) _,by simpa [HS3.out] using Sn.out.set 0 (.int .i64 1)⟩
       ·have t3:((pp:Int) == 3) = false:=by rw [beq_eq_false_iff_ne]; omega
        have HS3:=hide (show sgn2 u0 o0 = -1 by unfold sgn2; rw [← HPP.out,if_neg h3])
        clear h3
        go_wp2_with fail
        go_roundg 1
        case measure => have := HKG.out; omega
        case rel => exact ⟨1,rfl,by go_num,RSn.out,Un.out,On.out,by simpa [HS3.out] using Sn.out⟩
      ·obtain ⟨s0,s1,s2⟩:=box2 SG.out
       obtain ⟨c0,c1,c2⟩:=box2 UG.out
       obtain ⟨e0,e1,e2⟩:=box2 OG.out
       have z6:gu ≠ gs:=by omega
       have z7:go ≠ gs:=by omega
       go_upto_region 15 with fail
       go_quiet ((go_at_call 88; exact Calls.quiet_of_same (place_i 0 (u1:Int) (o1:Int) _ (by omega) (by omega) (by omega))))
       have ep:(plc (0:Int).toNat (u1:Int).toNat (o1:Int).toNat) = plc 0 u1 o1:=by rw [Int.toNat_natCast,Int.toNat_natCast]; rfl
       rw [ep]
       have RSn:=hide (RS_drewN (RG.out.far (g := gs) (by omega) 1 (.int .i64 (-1))) nq)
       have Un:=hide (Row_drewN (UG.out.other (a := ⟨gs,1,none⟩) z6 (.int .i64 (-1))) nq)
       have On:=hide (Row_drewN (OG.out.other (a := ⟨gs,1,none⟩) z7 (.int .i64 (-1))) nq)
       have Sn:=hide (Row_drewN (SG.out.set 1 (.int .i64 (-1))) nq)
       clear ep s0 s1 s2 c0 c1 c2 e0 e1 e2 z6 z7
       obtain ⟨Wn,hWn⟩:∃ Wn,Wn = (wr.setCell ⟨gs,1,none⟩ (.int .i64 (-1))).drewN nq := ⟨_,rfl⟩
       rw [← hWn] at RSn Un On Sn ⊢
       clear hWn
       obtain ⟨pp,hpp⟩:∃ pp,pp = plc 0 u1 o1 := ⟨_,rfl⟩
       rw [← hpp]
       have HPP:=hide hpp
       clear hpp
       obtain ⟨s0,s1,s2⟩:=box2 Sn.out
       by_cases h3:pp = 3
       ·have t3:((pp:Int) == 3) = true:=by rw [beq_iff_eq]; omega
        have HS3:=hide (show sgn2 u1 o1 = 1 by unfold sgn2; rw [← HPP.out,if_pos h3])
        clear h3
        go_wp2_with fail
        go_roundg 0
        case measure => have := HKG.out; omega
        case rel => exact ⟨2,rfl,by go_num,RSn.out.far (by omega) _ _,Un.out.other (by show _ ≠ gs; omega) _,On.out.other (by show _ ≠ gs; omega) _,by simpa [HS3.out] using Sn.out.set 1 (.int .i64 1)⟩
       ·have t3:((pp:Int) == 3) = false:=by rw [beq_eq_false_iff_ne]; omega
        have HS3:=hide (show sgn2 u1 o1 = -1 by unfold sgn2; rw [← HPP.out,if_neg h3])
        clear h3
        go_wp2_with fail
        go_roundg 0
        case measure => have := HKG.out; omega
        case rel => exact ⟨2,rfl,by go_num,RSn.out,Un.out,On.out,by simpa [HS3.out] using Sn.out⟩
      ·go_wp2_with fail
       obtain ⟨s0,hs0⟩:∃ s0,s0 = sgn2 u0 o0 := ⟨_,rfl⟩
       obtain ⟨s1,hs1⟩:∃ s1,s1 = sgn2 u1 o1 := ⟨_,rfl⟩
       rw [← hs0,← hs1] at SG
       have HS0:=hide hs0
       have HS1:=hide hs1
       clear hs0 hs1
       have RTG:=hide (show RT w (.slice A d.n cp) (.slice B m cq) (.int .i64 (d.lp:Int)) (.int .i64 k) (.int .i64 x) (.int .i64 y) (.int .i64 sg) (.bool ov) gu gs (.int .i64 (u0:Int)) (.int .i64 (u1:Int)) (.int .i64 s0) (.int .i64 s1) wr from ⟨RG.out,UG.out,SG.out,by omega,by omega⟩)
       have HGG:=hide (show DgAt (wr.alloc (.cells #[.int .i64 s0,.int .i64 s1] 3)).drew A B d from (HG.out.keep RG.out.bel).keep (((Below.refl _ _).alloc (Nat.le_refl _) _).drew))
       have HII:=hide (two_ints wr s0 s1)
       clear RG UG OG SG
       go_region_held3 (fun w' => w'.cell? ⟨w.heap.size,0,none⟩ = some (.slice A d.n cp) ∧ w'.cell? ⟨w.heap.size,1,none⟩ = some (.slice B m cq) ∧ w'.cell? ⟨w.heap.size,2,none⟩ = some (.int .i64 (d.lp:Int)) ∧ w'.cell? ⟨gs,0,none⟩ = some (.int .i64 s0) ∧ w'.cell? ⟨gs,1,none⟩ = some (.int .i64 s1) ∧ w'.cell? ⟨gu,0,none⟩ = some (.int .i64 (u0:Int)) ∧ w'.cell? ⟨gu,1,none⟩ = some (.int .i64 (u1:Int)) ∧
        w'.cell? ⟨w.heap.size + 1 + 1,0,none⟩ = some (cv w' ⟨w.heap.size + 1 + 1,0,none⟩) ∧ w'.cell? ⟨w.heap.size + 1 + 1,1,none⟩ = some (cv w' ⟨w.heap.size + 1 + 1,1,none⟩) ∧ w'.cell? ⟨w.heap.size + 1 + 1,2,none⟩ = some (cv w' ⟨w.heap.size + 1 + 1,2,none⟩) ∧
        w'.cell? ⟨w.heap.size + 1 + 1 + 1,0,none⟩ = some (cv w' ⟨w.heap.size + 1 + 1 + 1,0,none⟩) ∧ w'.cell? ⟨w.heap.size + 1 + 1 + 1,1,none⟩ = some (cv w' ⟨w.heap.size + 1 + 1 + 1,1,none⟩) ∧
        (∀ o,w'.frozen? ⟨w.heap.size + 1 + 1,o,none⟩ = false) ∧ (∀ o,w'.frozen? ⟨w.heap.size + 1 + 1 + 1,o,none⟩ = false) ∧ RT w (.slice A d.n cp) (.slice B m cq) (.int .i64 (d.lp:Int)) (.int .i64 k) (.int .i64 x) (.int .i64 y) (.int .i64 sg) (.bool ov) gu gs (.int .i64 (u0:Int)) (.int .i64 (u1:Int)) (.int .i64 s0) (.int .i64 s1) w')
        ((go_split_ands; refine RT.all ?_; (repeat (first | (with_reducible assumption) | (with_reducible exact RTG.out) | (with_reducible refine RT.setD ?_ _ _) | (with_reducible refine RT.setA ?_ _ _) | (with_reducible refine RT.alloc ?_ _) | (with_reducible refine RT.drew ?_) | (with_reducible refine RT.below ?_ hb6)))))
        (first
          | (go_at_call 79
             refine Calls.mono (grown_any d A B cp cq 2 2 wr.heap.size m 8 [s0,s1] _ HM.out rfl ?_ ?_ (by omega) (by omega) (by omega)) ?_
             ·exact HGG.out
             ·exact HII.out
             rintro e w6 ⟨g1,c1,g2,c2,rfl,own1,own2,hne,hb6⟩
             have OWN1:=hide own1
             have OWN2:=hide own2
             clear own1 own2))
       all_goals
        have RT6:=hide (show RT w (.slice A d.n cp) (.slice B m cq) (.int .i64 (d.lp:Int)) (.int .i64 k) (.int .i64 x) (.int .i64 y) (.int .i64 sg) (.bool ov) gu gs (.int .i64 (u0:Int)) (.int .i64 (u1:Int)) (.int .i64 s0) (.int .i64 s1) w6 from by
         repeat (first | (with_reducible assumption) | (with_reducible exact RTG.out) | (with_reducible refine RT.alloc ?_ _) | (with_reducible refine RT.drew ?_) | (with_reducible refine RT.below ?_ hb6)))
        go_wp2
        obtain ⟨vs6,r6,l6⟩:=RT6.out.rs.rd
        obtain ⟨us6,t6,k6⟩:=RT6.out.rs.ra
        have hbw:=RTG.out.rs.big
        refine bodyPost_ret (v := .tuple #[.agg #[.slice (some ⟨g1,0,none⟩) (d.n + 2) c1,.slice (some ⟨g2,0,none⟩) (m + 8) c2,.int .i64 (d.lp:Int)],.agg #[.int .i64 (u0:Int),.int .i64 (u1:Int)]]) ?_ rfl ?_
        ·obtain ⟨e0,e1,e2,e3,e4⟩:=fin5 r6 t6 l6 k6 (by omega) (.slice (some ⟨g1,0,none⟩) (d.n + 2) c1) (.slice (some ⟨g2,0,none⟩) (m + 8) c2) (.int .i64 (d.lp:Int)) (.int .i64 (u0:Int)) (.int .i64 (u1:Int))
         simp [results,Try.results86,go_sem,e0,e1,e2,e3,e4]
        ·have hbase:w.heap.size + 1 + 1 + 1 < (wr.alloc (.cells #[.int .i64 s0,.int .i64 s1] 3)).drew.heap.size:=by simp; omega
         refine ⟨g1,c1,g2,c2,?_,?_,?_,hne,?_⟩
         ·rw [← U0.out,← U1.out,HM.out]
         ·rw [← U0.out,← U1.out,← O0.out,← O1.out,← HS0.out,← HS1.out]
          exact own_base (ownsRow_setCell_below (ownsRow_setCell_below (ownsRow_setCell_below (ownsRow_setCell_below (ownsRow_setCell_below OWN1.out (by show w.heap.size + 1 + 1 < _; omega) _) (by show w.heap.size + 1 + 1 < _; omega) _) (by show w.heap.size + 1 + 1 < _; omega) _) (by show w.heap.size + 1 + 1 + 1 < _; omega) _) (by show w.heap.size + 1 + 1 + 1 < _; omega) _) (by omega)
         ·rw [← HM.out]
          exact own_base (ownsRow_setCell_below (ownsRow_setCell_below (ownsRow_setCell_below (ownsRow_setCell_below (ownsRow_setCell_below OWN2.out (by show w.heap.size + 1 + 1 < _; omega) _) (by show w.heap.size + 1 + 1 < _; omega) _) (by show w.heap.size + 1 + 1 < _; omega) _) (by show w.heap.size + 1 + 1 + 1 < _; omega) _) (by show w.heap.size + 1 + 1 + 1 < _; omega) _) (by omega)
         ·exact ((((RT6.out.rs.bel.setCell (by show _ ≤ w.heap.size + 1 + 1; omega) _).setCell (by show _ ≤ w.heap.size + 1 + 1; omega) _).setCell (by show _ ≤ w.heap.size + 1 + 1; omega) _).setCell (by show _ ≤ w.heap.size + 1 + 1 + 1; omega) _).setCell (by show _ ≤ w.heap.size + 1 + 1 + 1; omega) _
end Go.Proofs.Ytghdiolnonejaaa
end
section
namespace Go.Proofs.Ytghdiolnonejaaa
open Go Go.RowKit
theorem pF_any (n u0 u1 gn gf t:Nat) (s:Int) (w:World) (hs:s = t) (ht:t < 4) (hn:n ≤ 64) (hu:u0 < 4) (h1:Row w gn 3 [.int .i64 (n:Int)]) (h2:Row w gf 93 [.int .i64 (u0:Int),.int .i64 (u1:Int)]) :
 Calls Try.prog 87 #[.int .i64 s,.pointer (some ⟨gn,0,none⟩),.pointer (some ⟨gf,0,none⟩)] w fun e w' => e = .returned (.int .i64 (plc n u0 t:Nat)) ∧ w' = w := by
 subst hs
 have c0:=h1.cell (i := 0) (by simp)
 obtain ⟨a0,a1,a2⟩:=box2 h2
 simp only [List.getElem_cons_zero] at c0
 go_enter Try.func87,Try.ntmps87
 go_wp2_with fail
 refine (place_any n u0 t _ (by omega) hu ht).mono ?_
 rintro e w1 ⟨rfl,rfl⟩
 go_wp2
 go_ret
 exact ⟨rfl,rfl⟩
theorem qF_any (n u0 u1 gn gf t:Nat) (s:Int) (w:World) (hs:s = t) (ht:t < 4) (hn:n ≤ 64) (hu:u1 < 4) (h1:Row w gn 3 [.int .i64 (n:Int)]) (h2:Row w gf 93 [.int .i64 (u0:Int),.int .i64 (u1:Int)]) :
 Calls Try.prog 89 #[.int .i64 s,.pointer (some ⟨gn,0,none⟩),.pointer (some ⟨gf,0,none⟩)] w fun e w' => e = .returned (.int .i64 (plc (n + 1) u1 t:Nat)) ∧ w' = w := by
 subst hs
 have c0:=h1.cell (i := 0) (by simp)
 obtain ⟨a0,a1,a2⟩:=box2 h2
 simp only [List.getElem_cons_zero] at c0
 have e1:((n + 1:Nat):Int).toNat = n + 1:=by omega
 go_enter Try.func89,Try.ntmps89
 clear e1
 go_wp2_with fail
 refine (place_i ((n:Int) + 1) (u1:Int) (t:Int) _ (by omega) (by omega) (by omega)).mono ?_
 rintro e w1 ⟨rfl,rfl⟩
 go_wp2
 go_ret
 exact ⟨rfl,rfl⟩
theorem row_far {W:World} {g t:Nat} {vs:List Value} {base:Nat} {v:Value} {n:Nat} {xs:List Value} (h:Row W g t vs) (ht:t ≠ 3) (ho:W.ownsRow base 3 1 v n xs):some g ≠ v.ownBlock := by
 intro e
 obtain ⟨cs,fr,h3⟩:=ownsRow_block ho g e.symm
 rw [h] at h3
 injection h3 with h3
 injection h3 with _ h4
 exact ht h4
def leadM (d:Pl.Dg) (mt:List Nat) (x:Int) (i o:Nat):List Nat := if x < 0 then jn mt i o else jn (jn mt x.toNat i) o (d.m x.toNat)
structure PK (w:World) (gd gn gr gf g1 c1 n1 g2 c2 n2 base n u0 u1:Nat) (s5 m5 dv ss:List Value) (lpr:Int) (mt:List Nat) (W:World):Prop where
 s:Row W w.heap.size 67 s5
 m:Row W (w.heap.size + 1) 37 m5
 rd:∃ vs,Row W (w.heap.size + 1 + 1) 24 vs ∧ vs.length = 3
 rm:∃ us,Row W (w.heap.size + 1 + 1 + 1) 37 us ∧ us.length = 5
 d:Row W gd 24 dv
 nb:Row W gn 3 [.int .i64 (n:Int)]
 f:Row W gf 93 [.int .i64 (u0:Int),.int .i64 (u1:Int)]
 r:Row W gr 24 [.slice (some ⟨g1,0,none⟩) n1 c1,.slice (some ⟨g2,0,none⟩) n2 c2,.int .i64 lpr]
 o1:W.ownsRow base 3 1 (.slice (some ⟨g1,0,none⟩) n1 c1) n1 ss
 o2:OwnN W base g2 n2 c2 mt
 ne:g1 ≠ g2
 bel:Below w.heap.size w W
 a1:w.heap.size + 1 + 1 + 1 < gd
 a2:w.heap.size + 1 + 1 + 1 < gn
 a3:w.heap.size + 1 + 1 + 1 < gr
 a5:gn < base
 a6:gr ≠ gd
section
variable {w:World} {gd gn gr gf g1 c1 n1 g2 c2 n2 base n u0 u1:Nat} {s5 m5 dv ss:List Value} {lpr:Int} {mt:List Nat} {W W2:World}
theorem PK.drew (h:PK w gd gn gr gf g1 c1 n1 g2 c2 n2 base n u0 u1 s5 m5 dv ss lpr mt W):PK w gd gn gr gf g1 c1 n1 g2 c2 n2 base n u0 u1 s5 m5 dv ss lpr mt W.drew :=
 ⟨h.s,h.m,h.rd,h.rm,h.d,h.nb,h.f,h.r,h.o1,h.o2,h.ne,h.bel.drew,h.a1,h.a2,h.a3,h.a5,h.a6⟩
theorem PK.cast (h:PK w gd gn gr gf g1 c1 n1 g2 c2 n2 base n u0 u1 s5 m5 dv ss lpr mt W) (e:W2 = W):PK w gd gn gr gf g1 c1 n1 g2 c2 n2 base n u0 u1 s5 m5 dv ss lpr mt W2 := e ▸ h
theorem PK.lob (h:PK w gd gn gr gf g1 c1 n1 g2 c2 n2 base n u0 u1 s5 m5 dv ss lpr mt W) (hn2:0 < n2):base ≤ g2 ∧ g2 < W.heap.size := by
 obtain ⟨g,e,h1,h2⟩:=owns_pos hn2 h.o2
 injection e with e
 injection e with e
 subst e
 exact ⟨h1,h2⟩
theorem PK.join {mt':List Nat} (h:PK w gd gn gr gf g1 c1 n1 g2 c2 n2 base n u0 u1 s5 m5 dv ss lpr mt W) (own:OwnN W2 base g2 n2 c2 mt') (gw:W.grownBy W2 (some g2)):PK w gd gn gr gf g1 c1 n1 g2 c2 n2 base n u0 u1 s5 m5 dv ss lpr mt' W2 := by
 have f1:∀ {g:Nat} {t:TypeId} {vs:List Value},t ≠ 3 → Row W g t vs → Row W2 g t vs:=fun ht hr => hr.grown gw (row_far hr ht h.o2)
 have hb:∀ k,some g2 = some k → w.heap.size ≤ k:=fun k hk => by
  injection hk with hk
  have h1:=h.a5
  have h2:=h.a2
  have h3:=World.ownsRow.lt h.o2 g2 rfl
  omega
 obtain ⟨vs,r1,l1⟩:=h.rd
 obtain ⟨us,r2,l2⟩:=h.rm
 refine ⟨f1 (by decide) h.s,f1 (by decide) h.m,⟨vs,f1 (by decide) r1,l1⟩,⟨us,f1 (by decide) r2,l2⟩,f1 (by decide) h.d,h.nb.grown gw ?_,f1 (by decide) h.f,f1 (by decide) h.r,own_grown h.o1 gw h.ne,own,h.ne,h.bel.grown gw h.bel.size hb,h.a1,h.a2,h.a3,h.a5,h.a6⟩
 intro e
 injection e with e
 have h1:=h.a5
 have h3:=World.ownsRow.lt h.o2 g2 rfl
 omega
theorem PK.loops (h:PK w gd gn gr gf g1 c1 n1 g2 c2 n2 base n u0 u1 s5 m5 dv ss lpr mt W) (v:Int):PK w gd gn gr gf g1 c1 n1 g2 c2 n2 base n u0 u1 s5 m5 dv ss v mt (W.setCell ⟨gr,2,none⟩ (.int .i64 v)) := by
 have h3:=h.a3
 have e1:=row_far h.r (by decide) h.o1
 have e2:=row_far h.r (by decide) h.o2
 have e3:gn ≠ gr:=fun e => by
  have h5:=h.nb
  rw [e] at h5
  have h6:=h.r
  unfold Row at h5 h6
  rw [h5] at h6
  injection h6 with h6
  injection h6 with _ h7
  exact absurd h7 (by decide)
 have e4:gf ≠ gr:=fun e => by
  have h5:=h.f
  rw [e] at h5
  have h6:=h.r
  unfold Row at h5 h6
  rw [h5] at h6
  injection h6 with h6
  injection h6 with _ h7
  exact absurd h7 (by decide)
 obtain ⟨vs,r1,l1⟩:=h.rd
 obtain ⟨us,r2,l2⟩:=h.rm
 refine ⟨h.s.other (by show _ ≠ gr; omega) _,h.m.other (by show _ ≠ gr; omega) _,⟨vs,r1.other (by show _ ≠ gr; omega) _,l1⟩,⟨us,r2.other (by show _ ≠ gr; omega) _,l2⟩,h.d.other (by show _ ≠ gr; exact Ne.symm h.a6) _,h.nb.other e3 _,h.f.other e4 _,h.r.set 2 _,own_set h.o1 (fun e => e1 (by rw [e]; rfl)),own_set h.o2 (fun e => e2 (by rw [e]; rfl)),h.ne,h.bel.setCell (by show _ ≤ gr; omega) _,h.a1,h.a2,h.a3,h.a5,h.a6⟩
end
set_option maxRecDepth 100000 in
set_option maxHeartbeats 2000000 in
theorem lead_any (d:Pl.Dg) (hd:Pl.Wf d) (A B:Option Addr) (cp cq m i o:Nat) (gd gn gr gf g1 c1 n1 g2 c2 n2 base n u0 u1:Nat) (s5 m5 ss:List Value) (x lp:Int) (mt:List Nat) (w W:World) (hm:m = 4 * d.n) (hg:DgAt w A B d) (hx:x < 4 * (d.n:Int)) (hlp:-10 ≤ lp ∧ lp ≤ 1000)
 (hp:PK w gd gn gr gf g1 c1 n1 g2 c2 n2 base n u0 u1 s5 m5 [.slice A d.n cp,.slice B m cq,.int .i64 (d.lp:Int)] ss lp mt W) (hi:i < n2) (hoo:o < n2) (hmn:m ≤ n2) (hn:n2 ≤ 1000) :
 Calls Try.prog 90 #[.int .i64 x,.int .i64 (i:Int),.int .i64 (o:Int),.pointer (some ⟨gr,0,none⟩),.pointer (some ⟨gd,0,none⟩)] W fun e w' => e = .returned (.tuple #[]) ∧ PK w gd gn gr gf g1 c1 n1 g2 c2 n2 base n u0 u1 s5 m5 [.slice A d.n cp,.slice B m cq,.int .i64 (d.lp:Int)] ss (if x < 0 then lp - 1 else lp) (leadM d mt x i o) w' := by
 have HM:=hide hm
 have HG:=hide hg
 have HP:=hide hp
 clear hm hg hp
 obtain ⟨r0,r1,r2,r3⟩:=box3 HP.out.r
 obtain ⟨d0,d1,d2,d3⟩:=box3 HP.out.d
 by_cases hx0:x < 0
 ·have HE:=hide (show leadM d mt x i o = jn mt i o by unfold leadM; rw [if_pos hx0])
  go_enter Try.func90,Try.ntmps90
  go_wp2_with fail
  refine (join_any base g2 n2 c2 i o mt _ HP.out.o2 hi hoo (by omega)).mono ?_
  rintro e w1 ⟨rfl,own1,gr1⟩
  have HP1:=hide (HP.out.join own1 gr1)
  clear own1 gr1 r0 r1 r2 r3 d0 d1 d2 d3
  obtain ⟨r0,r1,r2,r3⟩:=box3 HP1.out.r
  go_wp2
  refine bodyPost_ret (results_none rfl _ _ _) rfl ?_
  refine ⟨rfl,?_⟩
  rw [HE.out]
  exact HP1.out.loops _
 ·obtain ⟨q,rfl⟩:=Int.eq_ofNat_of_zero_le (show 0 ≤ x by omega)
  have HE:=hide (show leadM d mt (q:Int) i o = jn (jn mt q i) o (d.m q) by unfold leadM; rw [if_neg (by omega),Int.toNat_natCast])
  have hq:q < 4 * d.n:=by omega
  have hqm:q < m:=by have := HM.out; omega
  have iq:(0:Int) ≤ (q:Int):=by omega
  have jq:(q:Int) < (m:Int):=by omega
  have hmq:=hd.lt q hq
  have hmq2:d.m q < n2:=by have := HM.out; omega
  go_enter Try.func90,Try.ntmps90
  go_wp2_with fail
  refine (join_any base g2 n2 c2 q i mt _ HP.out.o2 (by omega) hi (by omega)).mono ?_
  rintro e w1 ⟨rfl,own1,gr1⟩
  have HP1:=hide (HP.out.join own1 gr1)
  clear own1 gr1 r0 r1 r2 r3 d0 d1 d2 d3
  obtain ⟨r0,r1,r2,r3⟩:=box3 HP1.out.r
  obtain ⟨d0,d1,d2,d3⟩:=box3 HP1.out.d
  have HG1:=hide (HG.out.keep HP1.out.bel)
  obtain ⟨mb,mo,rfl,cm⟩:=mate_at HG1.out.m hq
  obtain ⟨u,hu⟩:∃ u,u = d.m q := ⟨_,rfl⟩
  rw [← hu] at cm hmq2
  have HU:=hide hu
  clear hu hmq
  go_upto_region 4 with fail
  go_still_tail 8,(by kernel_rfl)
  change wpList _ _ _ _ _ w1.drew
  obtain ⟨W6,hW6⟩:∃ W6:World,W6 = w1.drew := ⟨_,rfl⟩
  rw [← hW6]
  have HP6:=hide (HP1.out.drew.cast hW6)
  clear hW6 r0 r1 r2 r3 d0 d1 d2 d3 cm
  go_wp2_with fail
  refine (join_any base g2 n2 c2 o u _ W6 HP6.out.o2 hoo hmq2 (by omega)).mono ?_
  rintro e w7 ⟨rfl,own7,gr7⟩
  have HP7:=hide (HP6.out.join own7 gr7)
  clear own7 gr7
  go_wp2
  go_end0
  refine ⟨rfl,?_⟩
  first
   | (rw [HE.out,← HU.out]; exact HP7.out)
   | (rw [if_neg (show ¬ ((q:Int) < 0) by omega),HE.out,← HU.out]; exact HP7.out)
end Go.Proofs.Ytghdiolnonejaaa
end
section
namespace Go.Proofs.Ytghdiolnonejaaa
open Go Go.RowKit
def lpv (d:Pl.Dg) (h:Nat):Int := if Pl.out d h then -2 else -1
def oldv (d:Pl.Dg) (x y h:Nat):Int := (Pl.shf [x,y] (d.m h):Nat)
theorem loopF_any (d:Pl.Dg) (hd:Pl.Wf d) (A B:Option Addr) (cp cq m g h:Nat) (w:World) (hr:Row w g 24 [.slice A d.n cp,.slice B m cq,.int .i64 (d.lp:Int)]) (hg:DgAt w A B d) (hh:h < 4 * d.n) :
 Calls Try.prog 135 #[.int .i64 (h:Int),.pointer (some ⟨g,0,none⟩)] w fun e w' => e = .returned (.int .i64 (lpv d h)) ∧ Below w.heap.size w w' := by
 obtain ⟨d0,d1,d2,d3⟩:=box3 hr
 have hn:=hd.few
 go_enter Try.func135,Try.ntmps135
 go_wp2_with fail
 refine (out2_n d A B d.n cp m cq (.int .i64 (d.lp:Int)) h _ rfl hh (by omega) hg.s).mono ?_
 rintro e w1 ⟨rfl,hb1⟩
 cases ho:Pl.out d h with
 | true =>
   have E:=hide (show lpv d h = -2 by unfold lpv; rw [ho]; rfl)
   clear ho
   go_wp2
   go_ret
   exact ⟨ret_int E.out.symm,hb1⟩
 | false =>
   have E:=hide (show lpv d h = -1 by unfold lpv; rw [ho]; rfl)
   clear ho
   go_wp2
   go_ret
   exact ⟨ret_int E.out.symm,hb1⟩
set_option maxRecDepth 100000 in
set_option maxHeartbeats 1000000 in
theorem oldF_any (d:Pl.Dg) (hd:Pl.Wf d) (A B:Option Addr) (cp cq m g gm x y h:Nat) (k sg:Int) (ov:Bool) (w:World) (hm:m = 4 * d.n) (hr:Row w g 24 [.slice A d.n cp,.slice B m cq,.int .i64 (d.lp:Int)]) (hrm:Row w gm 37 [.int .i64 k,.int .i64 (x:Int),.int .i64 (y:Int),.int .i64 sg,.bool ov]) (hg:DgAt w A B d) (hh:h < 4 * d.n) (hxy:x < y) :
 Calls Try.prog 136 #[.int .i64 (h:Int),.pointer (some ⟨g,0,none⟩),.pointer (some ⟨gm,0,none⟩)] w fun e w' => e = .returned (.int .i64 (oldv d x y h)) ∧ Below w.heap.size w w' := by
 obtain ⟨d0,d1,d2,d3⟩:=box3 hr
 obtain ⟨m0,m1,m2,m3,m4,m5⟩:=box5 hrm
 have hn:=hd.few
 have l1:=hr.lt
 have l2:=hrm.lt
 have hmh:h < m:=by omega
 have ih0:(0:Int) ≤ (h:Int):=by omega
 have ih1:(h:Int) < (m:Int):=by omega
 obtain ⟨mb,mo,rfl,cm⟩:=mate_at hg.m hh
 have l3:mb < w.heap.size:=lt_of_cell cm
 have hmm:=hd.lt h hh
 have E:=hide (show oldv d x y h = (Pl.shf [x,y] (d.m h):Nat) from rfl)
 obtain ⟨u,hu⟩:∃ u,u = d.m h := ⟨_,rfl⟩
 rw [← hu] at cm hmm E
 clear hu
 have HM:=hide hm
 have HG:=hide hg
 clear hm hg hr hrm
 go_enter Try.func136,Try.ntmps136
 go_wp2_with fail
 go_region_held3 (fun w' => w'.cell? ⟨g,1,none⟩ = some (.slice (some ⟨mb,mo,none⟩) m cq) ∧ w'.cell? ⟨mb,mo + h,none⟩ = some (.int .i64 (u:Int)) ∧ w'.cell? ⟨gm,1,none⟩ = some (.int .i64 (x:Int)) ∧ w'.cell? ⟨gm,2,none⟩ = some (.int .i64 (y:Int)))
  (first | go_keep | assumption | (exact ⟨by simpa [l1] using d1,by simpa [l3] using cm,by simpa [l2] using m1,by simpa [l2] using m2⟩))
  (first
    | (go_at_call 83
       refine Calls.mono (shifted_any [x,y] (some ⟨w.heap.size,0,none⟩) 2 2 u _ (by exact two_ints w (x:Int) (y:Int)) (by omega) (by omega) (Pl.few_two hxy)) ?_
       rintro e w4 ⟨rfl,rfl⟩))
 all_goals
  go_wp2
  go_ret
  refine ⟨ret_int ?_,?_⟩
  ·rw [E.out]
  ·exact ((Below.refl _ _).alloc (Nat.le_refl _) _).drew
end Go.Proofs.Ytghdiolnonejaaa
end
section
namespace Go.Proofs.Ytghdiolnonejaaa
open Go Go.RowKit
attribute [local go_sem ↓] Go.wp_at_zero Go.wp_at_succ
structure Ln where
 p0:Nat
 p1:Nat
 p2:Nat
 p3:Nat
 q0:Nat
 q1:Nat
 q2:Nat
 q3:Nat
def Ln.cells (l:Ln):List Value := [.int .i64 (l.p0:Int),.int .i64 (l.p1:Int),.int .i64 (l.p2:Int),.int .i64 (l.p3:Int),.int .i64 (l.q0:Int),.int .i64 (l.q1:Int),.int .i64 (l.q2:Int),.int .i64 (l.q3:Int)]
def lensOf (d:Pl.Dg) (h:Nat):Ln := ⟨h,d.m (Pl.nx d h),Pl.tn h 2,Pl.tn (d.m (Pl.nx d h)) 2,Pl.tn (d.m h) 2,Pl.nx d h,d.m h,Pl.tn (Pl.nx d h) 2⟩
theorem lensOf_v (d:Pl.Dg) (h:Nat):lensV d h = .agg (lensOf d h).cells.toArray := rfl
def pusX (d:Pl.Dg) (l:Ln) (x y:Nat):Int :=
 if d.m l.q3 = l.q0 then (if d.m l.p2 = l.p3 then lpv d l.p3 else oldv d x y l.p3)
 else if d.m l.p2 = l.p3 then oldv d x y l.q0 else if d.m l.p3 = l.q3 then lpv d l.p3 else oldv d x y l.p3
def pusY (d:Pl.Dg) (l:Ln) (x y:Nat):Int :=
 if d.m l.q3 = l.q0 then (if d.m l.p2 = l.p3 then lpv d l.p3 else oldv d x y l.p3)
 else if d.m l.p2 = l.p3 then oldv d x y l.q0 else if d.m l.q0 = l.p2 then lpv d l.q0 else oldv d x y l.q0
def pusS (d:Pl.Dg) (l:Ln):Int := if d.m l.q3 = l.q0 then 1 else if d.m l.p2 = l.p3 then -1 else 0
def pusI (d:Pl.Dg) (l:Ln) (x y:Nat):Mv := ⟨3,pusX d l x y,pusY d l x y,pusS d l,decide (l.q1 % 2 = 1)⟩
structure PV (w:World) (gi:Nat) (dv lv mv iv:List Value) (W:World):Prop where
 d:Row W w.heap.size 24 dv
 l:Row W (w.heap.size + 1) 101 lv
 m:Row W (w.heap.size + 1 + 1) 37 mv
 r:∃ us,Row W (w.heap.size + 1 + 1 + 1) 37 us ∧ us.length = 5
 i:Row W gi 37 iv
 bel:Below w.heap.size w W
 lo:w.heap.size + 1 + 1 + 1 < gi
section
variable {w W W':World} {gi:Nat} {dv lv mv iv:List Value}
theorem PV.drew (h:PV w gi dv lv mv iv W):PV w gi dv lv mv iv W.drew := ⟨h.d,h.l,h.m,h.r,h.i,h.bel.drew,h.lo⟩
theorem PV.drewN (h:PV w gi dv lv mv iv W) (n:Nat):PV w gi dv lv mv iv (W.drewN n) := ⟨h.d,h.l,h.m,h.r,h.i,below_drewN h.bel n,h.lo⟩
theorem PV.below (h:PV w gi dv lv mv iv W) (hb:Below W.heap.size W W'):PV w gi dv lv mv iv W' :=
 let ⟨us,r2,l2⟩:=h.r
 ⟨h.d.below hb,h.l.below hb,h.m.below hb,⟨us,r2.below hb,l2⟩,h.i.below hb,h.bel.trans (hb.mono h.bel.size),h.lo⟩
theorem PV.set (h:PV w gi dv lv mv iv W) (o:Nat) (v:Value):PV w gi dv lv mv (iv.set o v) (W.setCell ⟨gi,o,none⟩ v) :=
 have a:=h.lo
 let ⟨us,r2,l2⟩:=h.r
 ⟨h.d.other (by show _ ≠ gi; omega) v,h.l.other (by show _ ≠ gi; omega) v,h.m.other (by show _ ≠ gi; omega) v,⟨us,r2.other (by show _ ≠ gi; omega) v,l2⟩,h.i.set o v,h.bel.setCell (by show _ ≤ gi; omega) v,h.lo⟩
end
def PW (w:World) (gi:Nat) (dv lv mv:List Value) (a s e:Value) (W:World):Prop := ∃ b c,PV w gi dv lv mv [a,b,c,s,e] W
section
variable {w W W':World} {gi:Nat} {dv lv mv:List Value} {a s e:Value}
theorem PW.drew (h:PW w gi dv lv mv a s e W):PW w gi dv lv mv a s e W.drew := let ⟨b,c,h⟩:=h; ⟨b,c,h.drew⟩
theorem PW.below (h:PW w gi dv lv mv a s e W) (hb:Below W.heap.size W W'):PW w gi dv lv mv a s e W' := let ⟨b,c,h⟩:=h; ⟨b,c,h.below hb⟩
theorem PW.set1 (h:PW w gi dv lv mv a s e W) (v:Value):PW w gi dv lv mv a s e (W.setCell ⟨gi,1,none⟩ v) := let ⟨_,c,h⟩:=h; ⟨v,c,h.set 1 v⟩
theorem PW.set2 (h:PW w gi dv lv mv a s e W) (v:Value):PW w gi dv lv mv a s e (W.setCell ⟨gi,2,none⟩ v) := let ⟨b,_,h⟩:=h; ⟨b,v,h.set 2 v⟩
theorem PW.fin (h:PW w gi dv lv mv a s e W) (v u:Value):PV w gi dv lv mv [a,v,u,s,e] ((W.setCell ⟨gi,1,none⟩ v).setCell ⟨gi,2,none⟩ u) := let ⟨_,_,h⟩:=h; (h.set 1 v).set 2 u
theorem PW.all {l0 l1 l2 l3 l4 l5 l6 l7:Value} (h:PW w gi dv [l0,l1,l2,l3,l4,l5,l6,l7] mv a s e W):W.cell? ⟨w.heap.size + 1,3,none⟩ = some l3 ∧ W.cell? ⟨w.heap.size + 1,4,none⟩ = some l4 ∧ W.cell? ⟨gi,1,none⟩ = some (cv W ⟨gi,1,none⟩) ∧ W.cell? ⟨gi,2,none⟩ = some (cv W ⟨gi,2,none⟩) ∧ (∀ o,W.frozen? ⟨gi,o,none⟩ = false) ∧ PW w gi dv [l0,l1,l2,l3,l4,l5,l6,l7] mv a s e W := by
 have h':=h
 obtain ⟨b,c,h⟩:=h
 obtain ⟨_,_,_,e3,e4,_⟩:=box8 h.l
 obtain ⟨_,f1,f2,_,_,ff⟩:=box5 h.i
 exact ⟨e3,e4,cv_some f1,cv_some f2,ff,h'⟩
end
theorem row5 {W:World} {g:Nat} {t:TypeId} {vs:List Value} (h:Row W g t vs) (l:vs.length = 5) (y0 y1 y2 y3 y4:Value) :
 Row (((((W.setCell ⟨g,0,none⟩ y0).setCell ⟨g,1,none⟩ y1).setCell ⟨g,2,none⟩ y2).setCell ⟨g,3,none⟩ y3).setCell ⟨g,4,none⟩ y4) g t [y0,y1,y2,y3,y4] := by
 obtain ⟨a,b,c,d,e,rfl⟩:∃ a b c d e,vs = [a,b,c,d,e] := by
  match vs,l with
  | [a,b,c,d,e],_ => exact ⟨a,b,c,d,e,rfl⟩
 exact ((((h.set 0 y0).set 1 y1).set 2 y2).set 3 y3).set 4 y4
def PusPost (d:Pl.Dg) (l:Ln) (x y:Nat) (w:World) (e:Ending) (w':World):Prop := e = .returned (pusI d l x y).v ∧ Below w.heap.size w w'
set_option maxRecDepth 100000 in
set_option maxHeartbeats 4000000 in
theorem pushed_any (d:Pl.Dg) (hd:Pl.Wf d) (A B:Option Addr) (cp cq m x y:Nat) (k sg:Int) (ov:Bool) (l:Ln) (w:World) (hm:m = 4 * d.n) (hg:DgAt w A B d) (hxy:x < y)
 (h2:l.p2 < 4 * d.n) (h3:l.p3 < 4 * d.n) (k0:l.q0 < 4 * d.n) (k3:l.q3 < 4 * d.n) (k1:l.q1 < 4 * d.n) :
 Calls Try.prog 94 #[.agg #[.slice A d.n cp,.slice B m cq,.int .i64 d.lp],.agg l.cells.toArray,.agg #[.int .i64 k,.int .i64 (x:Int),.int .i64 (y:Int),.int .i64 sg,.bool ov]] w (PusPost d l x y w) := by
 obtain ⟨p0,p1,p2,p3,q0,q1,q2,q3⟩:=l
 simp only at h2 h3 k0 k3 k1
 have hn:=hd.few
 have HM:=hide hm
 have HG:=hide hg
 have hm2:m ≤ 256:=by omega
 obtain ⟨g0,hg0⟩:∃ g0,g0 = w.heap.size + 1 + 1 + 1 + 1 := ⟨_,rfl⟩
 have V0:=hide (show PV w g0 [.slice A d.n cp,.slice B m cq,.int .i64 (d.lp:Int)] [.int .i64 (p0:Int),.int .i64 (p1:Int),.int .i64 (p2:Int),.int .i64 (p3:Int),.int .i64 (q0:Int),.int .i64 (q1:Int),.int .i64 (q2:Int),.int .i64 (q3:Int)] [.int .i64 k,.int .i64 (x:Int),.int .i64 (y:Int),.int .i64 sg,.bool ov] [.int .i64 3,.int .i64 0,.int .i64 0,.int .i64 0,.bool ((q1:Int) % 2 == 1)]
  (((((w.alloc (.cells #[.slice A d.n cp,.slice B m cq,.int .i64 (d.lp:Int)] 24)).alloc (.cells #[.int .i64 (p0:Int),.int .i64 (p1:Int),.int .i64 (p2:Int),.int .i64 (p3:Int),.int .i64 (q0:Int),.int .i64 (q1:Int),.int .i64 (q2:Int),.int .i64 (q3:Int)] 101)).alloc (.cells #[.int .i64 k,.int .i64 (x:Int),.int .i64 (y:Int),.int .i64 sg,.bool ov] 37)).alloc (.cells #[.int .i64 0,.int .i64 0,.int .i64 0,.int .i64 0,.bool false] 37)).alloc (.cells #[.int .i64 3,.int .i64 0,.int .i64 0,.int .i64 0,.bool ((q1:Int) % 2 == 1)] 37)) by
  refine ⟨((((row_at (vs := [_,_,_]) rfl).alloc _).alloc _).alloc _).alloc _,(((row_at (vs := [_,_,_,_,_,_,_,_]) (by simp)).alloc _).alloc _).alloc _,((row_at (vs := [_,_,_,_,_]) (by simp)).alloc _).alloc _,⟨[_,_,_,_,_],(row_at (vs := [_,_,_,_,_]) (by simp)).alloc _,rfl⟩,row_at (vs := [_,_,_,_,_]) (by rw [hg0]; simp),?_,by omega⟩
  exact (((((Below.refl _ _).alloc (Nat.le_refl _) _).alloc (by simp) _).alloc (by simp; omega) _).alloc (by simp; omega) _).alloc (by simp; omega) _)
 clear hm hg
 unfold Ln.cells
 go_enter Try.func94,Try.ntmps94
 go_wp2_with fail
 rw [← hg0]
 clear hg0
 obtain ⟨bb,hbb⟩:∃ bb:Bool,bb = ((q1:Int) % 2 == 1) := ⟨_,rfl⟩
 rw [← hbb] at V0 ⊢
 have HBB:=hide (show bb = decide (q1 % 2 = 1) by rw [hbb,Bool.eq_iff_iff]; simp; omega)
 clear hbb
 obtain ⟨mb,mo,rfl,_⟩:=mate_at (HG.out).m k3
 obtain ⟨W0,hW0⟩:∃ W0:World,W0 = (((((w.alloc (.cells #[.slice A d.n cp,.slice (some ⟨mb,mo,none⟩) m cq,.int .i64 (d.lp:Int)] 24)).alloc (.cells #[.int .i64 (p0:Int),.int .i64 (p1:Int),.int .i64 (p2:Int),.int .i64 (p3:Int),.int .i64 (q0:Int),.int .i64 (q1:Int),.int .i64 (q2:Int),.int .i64 (q3:Int)] 101)).alloc (.cells #[.int .i64 k,.int .i64 (x:Int),.int .i64 (y:Int),.int .i64 sg,.bool ov] 37)).alloc (.cells #[.int .i64 0,.int .i64 0,.int .i64 0,.int .i64 0,.bool false] 37)).alloc (.cells #[.int .i64 3,.int .i64 0,.int .i64 0,.int .i64 0,.bool bb] 37)) := ⟨_,rfl⟩
 rw [← hW0] at V0 ⊢
 clear hW0
 have c3:∀ W,Below w.heap.size w W → W.cell? ⟨mb,mo + q3,none⟩ = some (.int .i64 (d.m q3:Nat)):=fun W hb => by
  obtain ⟨b',o',e,c⟩:=mate_at (HG.out.keep hb).m k3
  injection e with e; injection e with e1 e2; subst e1; subst e2; exact c
 have c2:∀ W,Below w.heap.size w W → W.cell? ⟨mb,mo + p2,none⟩ = some (.int .i64 (d.m p2:Nat)):=fun W hb => by
  obtain ⟨b',o',e,c⟩:=mate_at (HG.out.keep hb).m h2
  injection e with e; injection e with e1 e2; subst e1; subst e2; exact c
 have c5:∀ W,Below w.heap.size w W → W.cell? ⟨mb,mo + p3,none⟩ = some (.int .i64 (d.m p3:Nat)):=fun W hb => by
  obtain ⟨b',o',e,c⟩:=mate_at (HG.out.keep hb).m h3
  injection e with e; injection e with e1 e2; subst e1; subst e2; exact c
 have c0:∀ W,Below w.heap.size w W → W.cell? ⟨mb,mo + q0,none⟩ = some (.int .i64 (d.m q0:Nat)):=fun W hb => by
  obtain ⟨b',o',e,c⟩:=mate_at (HG.out.keep hb).m k0
  injection e with e; injection e with e1 e2; subst e1; subst e2; exact c
 have EX:=hide (show pusI d ⟨p0,p1,p2,p3,q0,q1,q2,q3⟩ x y = ⟨3,(if d.m q3 = q0 then (if d.m p2 = p3 then lpv d p3 else oldv d x y p3) else if d.m p2 = p3 then oldv d x y q0 else if d.m p3 = q3 then lpv d p3 else oldv d x y p3),
  (if d.m q3 = q0 then (if d.m p2 = p3 then lpv d p3 else oldv d x y p3) else if d.m p2 = p3 then oldv d x y q0 else if d.m q0 = p2 then lpv d q0 else oldv d x y q0),(if d.m q3 = q0 then 1 else if d.m p2 = p3 then -1 else 0),bb⟩ by rw [HBB.out]; rfl)
 obtain ⟨a3,ha3⟩:∃ a,a = d.m q3 := ⟨_,rfl⟩
 obtain ⟨a2,ha2⟩:∃ a,a = d.m p2 := ⟨_,rfl⟩
 obtain ⟨a5,ha5⟩:∃ a,a = d.m p3 := ⟨_,rfl⟩
 obtain ⟨a0,ha0⟩:∃ a,a = d.m q0 := ⟨_,rfl⟩
 rw [← ha3] at c3 EX
 rw [← ha2] at c2 EX
 rw [← ha5] at c5 EX
 rw [← ha0] at c0 EX
 clear ha3 ha2 ha5 ha0
 have C3:=hide c3
 have C2:=hide c2
 have C5:=hide c5
 have C0:=hide c0
 clear c3 c2 c5 c0
 obtain ⟨XX,hXX⟩:∃ X,X = (if a3 = q0 then (if a2 = p3 then lpv d p3 else oldv d x y p3) else if a2 = p3 then oldv d x y q0 else if a5 = q3 then lpv d p3 else oldv d x y p3) := ⟨_,rfl⟩
 obtain ⟨YY,hYY⟩:∃ Y,Y = (if a3 = q0 then (if a2 = p3 then lpv d p3 else oldv d x y p3) else if a2 = p3 then oldv d x y q0 else if a0 = p2 then lpv d q0 else oldv d x y q0) := ⟨_,rfl⟩
 obtain ⟨SS,hSS⟩:∃ S:Int,S = (if a3 = q0 then 1 else if a2 = p3 then -1 else 0) := ⟨_,rfl⟩
 rw [← hXX,← hYY,← hSS] at EX
 have HXX:=hide hXX
 have HYY:=hide hYY
 have HSS:=hide hSS
 clear hXX hYY hSS
 have i3:(0:Int) ≤ (p3:Int) ∧ (p3:Int) < (m:Int):=by have := HM.out; omega
 have i2:(0:Int) ≤ (p2:Int) ∧ (p2:Int) < (m:Int):=by have := HM.out; omega
 have j0:(0:Int) ≤ (q0:Int) ∧ (q0:Int) < (m:Int):=by have := HM.out; omega
 have j3:(0:Int) ≤ (q3:Int) ∧ (q3:Int) < (m:Int):=by have := HM.out; omega
 obtain ⟨i31,i32⟩:=i3
 obtain ⟨i21,i22⟩:=i2
 obtain ⟨j01,j02⟩:=j0
 obtain ⟨j31,j32⟩:=j3
 obtain ⟨d0,d1,d2,d3⟩:=box3 V0.out.d
 obtain ⟨l0,l1,l2,l3,l4,l5,l6,l7,l8⟩:=box8 V0.out.l
 have c3:=C3.out W0 V0.out.bel
 have c2:=C2.out W0 V0.out.bel
 go_quiet (fail)
 have V1:=hide (V0.out.drewN nq)
 obtain ⟨W1,hW1⟩:∃ W1:World,W1 = W0.drewN nq := ⟨_,rfl⟩
 rw [← hW1] at V1 ⊢
 clear hW1 d0 d1 d2 d3 l0 l1 l2 l3 l4 l5 l6 l7 l8 c3 c2
 obtain ⟨d0,d1,d2,d3⟩:=box3 V1.out.d
 obtain ⟨l0,l1,l2,l3,l4,l5,l6,l7,l8⟩:=box8 V1.out.l
 have c3:=C3.out W1 V1.out.bel
 have c2:=C2.out W1 V1.out.bel
 go_wp2_with fail
 go_quiet (fail)
 have V2:=hide (V1.out.drewN nq)
 obtain ⟨W2,hW2⟩:∃ W2:World,W2 = W1.drewN nq := ⟨_,rfl⟩
 rw [← hW2] at V2 ⊢
 clear hW2 d0 d1 d2 d3 l0 l1 l2 l3 l4 l5 l6 l7 l8 c3 c2
 go_upto_block 0 with fail
 go_cut [10,11] (fun _ _ wx => PV w g0 [.slice A d.n cp,.slice (some ⟨mb,mo,none⟩) m cq,.int .i64 (d.lp:Int)] [.int .i64 (p0:Int),.int .i64 (p1:Int),.int .i64 (p2:Int),.int .i64 (p3:Int),.int .i64 (q0:Int),.int .i64 (q1:Int),.int .i64 (q2:Int),.int .i64 (q3:Int)] [.int .i64 k,.int .i64 (x:Int),.int .i64 (y:Int),.int .i64 sg,.bool ov] [.int .i64 3,.int .i64 XX,.int .i64 YY,.int .i64 SS,.bool bb] wx)
 case first =>
  by_cases e1:a3 = q0
  ·have t1:((a3:Int) == (q0:Int)) = true:=by rw [beq_iff_eq]; omega
   by_cases e2:a2 = p3
   ·have t2:((a2:Int) == (p3:Int)) = true:=by rw [beq_iff_eq]; omega
    have F:=hide (show XX = lpv d p3 ∧ YY = lpv d p3 ∧ SS = 1 from ⟨by rw [HXX.out,if_pos e1,if_pos e2],by rw [HYY.out,if_pos e1,if_pos e2],by rw [HSS.out,if_pos e1]⟩)
    clear e1 e2
    obtain ⟨l0,l1,l2,l3,l4,l5,l6,l7,l8⟩:=box8 V2.out.l
    go_wp2_with fail
    refine (loopF_any d hd A (some ⟨mb,mo,none⟩) cp cq m w.heap.size p3 W2 V2.out.d (HG.out.keep V2.out.bel) h3).mono ?_
    rintro e W3 ⟨rfl,hb3⟩
    have V3:=hide (V2.out.below hb3)
    clear hb3 l0 l1 l2 l3 l4 l5 l6 l7 l8
    obtain ⟨v0,v1,v2,v3,v4,v5⟩:=box5 V3.out.i
    go_wp2_with fail
    go_meet
    rw [F.out.1,F.out.2.1,F.out.2.2]
    exact ((V3.out.set 1 _).set 3 _).set 2 _
   ·have t2:((a2:Int) == (p3:Int)) = false:=by rw [beq_eq_false_iff_ne]; omega
    have F:=hide (show XX = oldv d x y p3 ∧ YY = oldv d x y p3 ∧ SS = 1 from ⟨by rw [HXX.out,if_pos e1,if_neg e2],by rw [HYY.out,if_pos e1,if_neg e2],by rw [HSS.out,if_pos e1]⟩)
    clear e1 e2
    obtain ⟨l0,l1,l2,l3,l4,l5,l6,l7,l8⟩:=box8 V2.out.l
    go_wp2_with fail
    refine (oldF_any d hd A (some ⟨mb,mo,none⟩) cp cq m w.heap.size (w.heap.size + 1 + 1) x y p3 k sg ov W2 HM.out V2.out.d V2.out.m (HG.out.keep V2.out.bel) h3 hxy).mono ?_
    rintro e W3 ⟨rfl,hb3⟩
    have V3:=hide (V2.out.below hb3)
    clear hb3 l0 l1 l2 l3 l4 l5 l6 l7 l8
    obtain ⟨v0,v1,v2,v3,v4,v5⟩:=box5 V3.out.i
    go_wp2_with fail
    go_meet
    rw [F.out.1,F.out.2.1,F.out.2.2]
    exact ((V3.out.set 1 _).set 3 _).set 2 _
  ·have t1:((a3:Int) == (q0:Int)) = false:=by rw [beq_eq_false_iff_ne]; omega
   by_cases e2:a2 = p3
   ·have t2:((a2:Int) == (p3:Int)) = true:=by rw [beq_iff_eq]; omega
    have F:=hide (show XX = oldv d x y q0 ∧ YY = oldv d x y q0 ∧ SS = -1 from ⟨by rw [HXX.out,if_neg e1,if_pos e2],by rw [HYY.out,if_neg e1,if_pos e2],by rw [HSS.out,if_neg e1,if_pos e2]⟩)
    clear e1 e2
    obtain ⟨l0,l1,l2,l3,l4,l5,l6,l7,l8⟩:=box8 V2.out.l
    go_wp2_with fail
    refine (oldF_any d hd A (some ⟨mb,mo,none⟩) cp cq m w.heap.size (w.heap.size + 1 + 1) x y q0 k sg ov W2 HM.out V2.out.d V2.out.m (HG.out.keep V2.out.bel) k0 hxy).mono ?_
    rintro e W3 ⟨rfl,hb3⟩
    have V3:=hide (V2.out.below hb3)
    clear hb3 l0 l1 l2 l3 l4 l5 l6 l7 l8
    obtain ⟨v0,v1,v2,v3,v4,v5⟩:=box5 V3.out.i
    go_wp2_with fail
    go_meet
    rw [F.out.1,F.out.2.1,F.out.2.2]
    exact ((V3.out.set 1 _).set 3 _).set 2 _
   ·have t2:((a2:Int) == (p3:Int)) = false:=by rw [beq_eq_false_iff_ne]; omega
    have F:=hide (show XX = (if a5 = q3 then lpv d p3 else oldv d x y p3) ∧ YY = (if a0 = p2 then lpv d q0 else oldv d x y q0) ∧ SS = 0 from ⟨by rw [HXX.out,if_neg e1,if_neg e2],by rw [HYY.out,if_neg e1,if_neg e2],by rw [HSS.out,if_neg e1,if_neg e2]⟩)
    clear e1 e2
    go_upto_region 6 with fail
    go_cut [] (fun wx => PV w g0 [.slice A d.n cp,.slice (some ⟨mb,mo,none⟩) m cq,.int .i64 (d.lp:Int)] [.int .i64 (p0:Int),.int .i64 (p1:Int),.int .i64 (p2:Int),.int .i64 (p3:Int),.int .i64 (q0:Int),.int .i64 (q1:Int),.int .i64 (q2:Int),.int .i64 (q3:Int)] [.int .i64 k,.int .i64 (x:Int),.int .i64 (y:Int),.int .i64 sg,.bool ov] [.int .i64 3,.int .i64 (oldv d x y p3),.int .i64 (oldv d x y q0),.int .i64 0,.bool bb] wx)
    case first =>
     have HPW:=hide (show PW w g0 [.slice A d.n cp,.slice (some ⟨mb,mo,none⟩) m cq,.int .i64 (d.lp:Int)] [.int .i64 (p0:Int),.int .i64 (p1:Int),.int .i64 (p2:Int),.int .i64 (p3:Int),.int .i64 (q0:Int),.int .i64 (q1:Int),.int .i64 (q2:Int),.int .i64 (q3:Int)] [.int .i64 k,.int .i64 (x:Int),.int .i64 (y:Int),.int .i64 sg,.bool ov] (.int .i64 3) (.int .i64 0) (.bool bb) W2 from ⟨_,_,V2.out⟩)
     go_region_held3 (fun w' => w'.cell? ⟨w.heap.size + 1,3,none⟩ = some (.int .i64 (p3:Int)) ∧ w'.cell? ⟨w.heap.size + 1,4,none⟩ = some (.int .i64 (q0:Int)) ∧ w'.cell? ⟨g0,1,none⟩ = some (cv w' ⟨g0,1,none⟩) ∧ w'.cell? ⟨g0,2,none⟩ = some (cv w' ⟨g0,2,none⟩) ∧ (∀ o,w'.frozen? ⟨g0,o,none⟩ = false) ∧ PW w g0 [.slice A d.n cp,.slice (some ⟨mb,mo,none⟩) m cq,.int .i64 (d.lp:Int)] [.int .i64 (p0:Int),.int .i64 (p1:Int),.int .i64 (p2:Int),.int .i64 (p3:Int),.int .i64 (q0:Int),.int .i64 (q1:Int),.int .i64 (q2:Int),.int .i64 (q3:Int)] [.int .i64 k,.int .i64 (x:Int),.int .i64 (y:Int),.int .i64 sg,.bool ov] (.int .i64 3) (.int .i64 0) (.bool bb) w')
      ((go_split_ands; refine PW.all ?_; (repeat (first | (with_reducible assumption) | (with_reducible exact HPW.out) | (with_reducible refine PW.set1 ?_ _) | (with_reducible refine PW.set2 ?_ _) | (with_reducible refine PW.drew ?_) | (with_reducible refine PW.below ?_ hb5) | (with_reducible refine PW.below ?_ hb4)))))
      (first
        | (have hx5 := hb4
           clear hx5
           go_at_call 136
           refine Calls.mono (oldF_any d hd A (some ⟨mb,mo,none⟩) cp cq m w.heap.size (w.heap.size + 1 + 1) x y q0 k sg ov _ HM.out ?_ ?_ ?_ k0 hxy) ?_
           ·exact (V2.out.drew.below hb4).d
           ·exact (V2.out.drew.below hb4).m
           ·exact HG.out.keep (V2.out.drew.below hb4).bel
           rintro e w5 ⟨rfl,hb5⟩)
        | (go_at_call 136
           refine Calls.mono (oldF_any d hd A (some ⟨mb,mo,none⟩) cp cq m w.heap.size (w.heap.size + 1 + 1) x y p3 k sg ov _ HM.out ?_ ?_ ?_ h3 hxy) ?_
           ·exact V2.out.drew.d
           ·exact V2.out.drew.m
           ·exact HG.out.keep V2.out.drew.bel
           rintro e w4 ⟨rfl,hb4⟩))
     all_goals
      have HP5:=hide (show PW w g0 [.slice A d.n cp,.slice (some ⟨mb,mo,none⟩) m cq,.int .i64 (d.lp:Int)] [.int .i64 (p0:Int),.int .i64 (p1:Int),.int .i64 (p2:Int),.int .i64 (p3:Int),.int .i64 (q0:Int),.int .i64 (q1:Int),.int .i64 (q2:Int),.int .i64 (q3:Int)] [.int .i64 k,.int .i64 (x:Int),.int .i64 (y:Int),.int .i64 sg,.bool ov] (.int .i64 3) (.int .i64 0) (.bool bb) w5 from (HPW.out.drew.below hb4).below hb5)
      go_wp2_with fail
      go_meet
      exact HP5.out.fin _ _
    case rest =>
     have VC:=hide hcut
     clear hcut V0 V1 V2
     obtain ⟨W3,hW⟩:∃ W:World,W = wc := ⟨_,rfl⟩
     rw [← hW] at VC ⊢
     clear hW
     have V3:=VC
     clear VC
     obtain ⟨d0,d1,d2,d3⟩:=box3 V3.out.d
     obtain ⟨l0,l1,l2,l3,l4,l5,l6,l7,l8⟩:=box8 V3.out.l
     have c5:=C5.out W3 V3.out.bel
     go_upto_region 7 with fail
     go_quiet (fail)
     have V4:=hide (V3.out.drewN nq)
     obtain ⟨W4,hW⟩:∃ W:World,W = W3.drewN nq := ⟨_,rfl⟩
     rw [← hW] at V4 ⊢
     clear hW d0 d1 d2 d3 l0 l1 l2 l3 l4 l5 l6 l7 l8 c5
     by_cases e5:a5 = q3
     ·have t5:((a5:Int) == (q3:Int)) = true:=by rw [beq_iff_eq]; omega
      have G5:=hide (show (if a5 = q3 then lpv d p3 else oldv d x y p3) = lpv d p3 from if_pos e5)
      clear e5
      obtain ⟨l0,l1,l2,l3,l4,l5,l6,l7,l8⟩:=box8 V4.out.l
      go_wp2_with fail
      refine (loopF_any d hd A (some ⟨mb,mo,none⟩) cp cq m w.heap.size p3 W4 V4.out.d (HG.out.keep V4.out.bel) h3).mono ?_
      rintro e W5 ⟨rfl,hb5⟩
      have V5:=hide (V4.out.below hb5)
      clear hb5 l0 l1 l2 l3 l4 l5 l6 l7 l8
      obtain ⟨v0,v1,v2,v3,v4,v5⟩:=box5 V5.out.i
      go_upto_region 9 with fail
      obtain ⟨W6,hW⟩:∃ W:World,W = W5.setCell ⟨g0,1,none⟩ (.int .i64 (lpv d p3)) := ⟨_,rfl⟩
      have V6:=hide (V5.out.set 1 (.int .i64 (lpv d p3)))
      rw [← hW] at V6 ⊢
      clear hW v0 v1 v2 v3 v4 v5
      obtain ⟨d0,d1,d2,d3⟩:=box3 V6.out.d
      obtain ⟨l0,l1,l2,l3,l4,l5,l6,l7,l8⟩:=box8 V6.out.l
      have c0:=C0.out W6 V6.out.bel
      go_upto_region 9 with fail
      go_quiet (fail)
      have V7:=hide (V6.out.drewN nq)
      obtain ⟨W7,hW⟩:∃ W:World,W = W6.drewN nq := ⟨_,rfl⟩
      rw [← hW] at V7 ⊢
      clear hW d0 d1 d2 d3 l0 l1 l2 l3 l4 l5 l6 l7 l8 c0
      by_cases e0:a0 = p2
      ·have t0:((a0:Int) == (p2:Int)) = true:=by rw [beq_iff_eq]; omega
       have G0:=hide (show (if a0 = p2 then lpv d q0 else oldv d x y q0) = lpv d q0 from if_pos e0)
       clear e0
       obtain ⟨l0,l1,l2,l3,l4,l5,l6,l7,l8⟩:=box8 V7.out.l
       go_wp2_with fail
       refine (loopF_any d hd A (some ⟨mb,mo,none⟩) cp cq m w.heap.size q0 W7 V7.out.d (HG.out.keep V7.out.bel) k0).mono ?_
       rintro e W8 ⟨rfl,hb8⟩
       have V8:=hide (V7.out.below hb8)
       clear hb8 l0 l1 l2 l3 l4 l5 l6 l7 l8
       obtain ⟨v0,v1,v2,v3,v4,v5⟩:=box5 V8.out.i
       go_wp2_with fail
       go_meet
       rw [F.out.1,F.out.2.1,F.out.2.2,G5.out,G0.out]
       exact V8.out.set 2 _
      ·have t0:((a0:Int) == (p2:Int)) = false:=by rw [beq_eq_false_iff_ne]; omega
       have G0:=hide (show (if a0 = p2 then lpv d q0 else oldv d x y q0) = oldv d x y q0 from if_neg e0)
       clear e0
       go_wp2_with fail
       go_meet
       rw [F.out.1,F.out.2.1,F.out.2.2,G5.out,G0.out]
       exact V7.out
     ·have t5:((a5:Int) == (q3:Int)) = false:=by rw [beq_eq_false_iff_ne]; omega
      have G5:=hide (show (if a5 = q3 then lpv d p3 else oldv d x y p3) = oldv d x y p3 from if_neg e5)
      clear e5
      obtain ⟨d0,d1,d2,d3⟩:=box3 V4.out.d
      obtain ⟨l0,l1,l2,l3,l4,l5,l6,l7,l8⟩:=box8 V4.out.l
      have c0:=C0.out W4 V4.out.bel
      go_upto_region 9 with fail
      go_quiet (fail)
      have V5:=hide (V4.out.drewN nq)
      obtain ⟨W5,hW⟩:∃ W:World,W = W4.drewN nq := ⟨_,rfl⟩
      rw [← hW] at V5 ⊢
      clear hW d0 d1 d2 d3 l0 l1 l2 l3 l4 l5 l6 l7 l8 c0
      by_cases e0:a0 = p2
      ·have t0:((a0:Int) == (p2:Int)) = true:=by rw [beq_iff_eq]; omega
       have G0:=hide (show (if a0 = p2 then lpv d q0 else oldv d x y q0) = lpv d q0 from if_pos e0)
       clear e0
       obtain ⟨l0,l1,l2,l3,l4,l5,l6,l7,l8⟩:=box8 V5.out.l
       go_wp2_with fail
       refine (loopF_any d hd A (some ⟨mb,mo,none⟩) cp cq m w.heap.size q0 W5 V5.out.d (HG.out.keep V5.out.bel) k0).mono ?_
       rintro e W6 ⟨rfl,hb6⟩
       have V6:=hide (V5.out.below hb6)
       clear hb6 l0 l1 l2 l3 l4 l5 l6 l7 l8
       obtain ⟨v0,v1,v2,v3,v4,v5⟩:=box5 V6.out.i
       go_wp2_with fail
       go_meet
       rw [F.out.1,F.out.2.1,F.out.2.2,G5.out,G0.out]
       exact V6.out.set 2 _
      ·have t0:((a0:Int) == (p2:Int)) = false:=by rw [beq_eq_false_iff_ne]; omega
       have G0:=hide (show (if a0 = p2 then lpv d q0 else oldv d x y q0) = oldv d x y q0 from if_neg e0)
       clear e0
       go_wp2_with fail
       go_meet
       rw [F.out.1,F.out.2.1,F.out.2.2,G5.out,G0.out]
       exact V5.out
 case rest =>
  have V3:=hide hcut
  clear hcut V0 V1 V2
  obtain ⟨v0,v1,v2,v3,v4,v5⟩:=box5 V3.out.i
  obtain ⟨us,r2,l2⟩:=V3.out.r
  obtain ⟨b0,b1,b2,b3,b4,b5⟩:wc.cell? ⟨w.heap.size + 1 + 1 + 1,0,none⟩ = some (cv wc ⟨w.heap.size + 1 + 1 + 1,0,none⟩) ∧ wc.cell? ⟨w.heap.size + 1 + 1 + 1,1,none⟩ = some (cv wc ⟨w.heap.size + 1 + 1 + 1,1,none⟩) ∧ wc.cell? ⟨w.heap.size + 1 + 1 + 1,2,none⟩ = some (cv wc ⟨w.heap.size + 1 + 1 + 1,2,none⟩) ∧ wc.cell? ⟨w.heap.size + 1 + 1 + 1,3,none⟩ = some (cv wc ⟨w.heap.size + 1 + 1 + 1,3,none⟩) ∧ wc.cell? ⟨w.heap.size + 1 + 1 + 1,4,none⟩ = some (cv wc ⟨w.heap.size + 1 + 1 + 1,4,none⟩) ∧ (∀ o,wc.frozen? ⟨w.heap.size + 1 + 1 + 1,o,none⟩ = false) := ⟨cv_some (r2.cell (i := 0) (by omega)),cv_some (r2.cell (i := 1) (by omega)),cv_some (r2.cell (i := 2) (by omega)),cv_some (r2.cell (i := 3) (by omega)),cv_some (r2.cell (i := 4) (by omega)),r2.free⟩
  go_wp2
  refine bodyPost_ret (v := .agg #[.int .i64 3,.int .i64 XX,.int .i64 YY,.int .i64 SS,.bool bb]) ?_ rfl ?_
  ·obtain ⟨f0,f1,f2,f3,f4,_⟩:=box5 (row5 r2 l2 (.int .i64 3) (.int .i64 XX) (.int .i64 YY) (.int .i64 SS) (.bool bb))
   clear b0 b1 b2 b3 b4 b5 v0 v1 v2 v3 v4 v5
   simp [results,Try.results94,go_sem,f0,f1,f2,f3,f4]
  ·refine ⟨?_,((((V3.out.bel.setCell (by show _ ≤ w.heap.size + 1 + 1 + 1; omega) _).setCell (by show _ ≤ w.heap.size + 1 + 1 + 1; omega) _).setCell (by show _ ≤ w.heap.size + 1 + 1 + 1; omega) _).setCell (by show _ ≤ w.heap.size + 1 + 1 + 1; omega) _).setCell (by show _ ≤ w.heap.size + 1 + 1 + 1; omega) _⟩
   rw [EX.out]
   rfl
end Go.Proofs.Ytghdiolnonejaaa
end
