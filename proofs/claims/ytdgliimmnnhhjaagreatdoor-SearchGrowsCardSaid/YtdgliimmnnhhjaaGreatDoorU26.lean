/-
  The texts Xd.
-/
import Derived.Test.YtdgliimmnnhhjaaGreatDoorU16
import Derived.Test.YtdgliimmnnhhjaaGreatDoorU17
import Derived.Test.YtdgliimmnnhhjaaGreatDoorU24
set_option linter.unusedVariables false
set_option linter.unusedSimpArgs false
section
namespace Go.Proofs.YtdgliimmnnhhjaaGreatDoor
open Go Go.RowKit
attribute [local go_sem ↓] Go.wp_at_zero Go.wp_at_succ
structure UP (w:World) (gl:Nat) (dv mv lv:List Value) (W:World):Prop where
 d:Row W w.heap.size 24 dv
 m:Row W (w.heap.size+1) 43 mv
 rd:∃vs,Row W (w.heap.size+1+1) 24 vs∧vs.length=3
 rm:∃us,Row W (w.heap.size+1+1+1) 43 us∧us.length=5
 l:Row W gl 128 lv
 bel:Below w.heap.size w W
 lo:w.heap.size+1+1+1<gl
section
variable {w W W':World} {gl:Nat} {dv mv lv:List Value}
theorem UP.drew (h:UP w gl dv mv lv W):UP w gl dv mv lv W.drew:=⟨h.d,h.m,h.rd,h.rm,h.l,h.bel.drew,h.lo⟩
theorem UP.below (h:UP w gl dv mv lv W)(hb:Below W.heap.size W W'):UP w gl dv mv lv W' :=
 let ⟨vs,r1,l1⟩:=h.rd
 let ⟨us,r2,l2⟩:=h.rm
 ⟨h.d.below hb,h.m.below hb,⟨vs,r1.below hb,l1⟩,⟨us,r2.below hb,l2⟩,h.l.below hb,h.bel.trans (hb.mono h.bel.size),h.lo⟩
theorem UP.alloc (h:UP w gl dv mv lv W)(o:Obj):UP w gl dv mv lv (W.alloc o):=h.below ((Below.refl _ _).alloc (Nat.le_refl _) o)
theorem UP.grown (h:UP w gl dv mv lv W){r:Option Nat}(hg:W.grownBy W' r)(hr:∀k,r=some k→gl<k):UP w gl dv mv lv W' :=
 have a:=h.lo
 have key:∀{g:Nat},g≤gl→some g≠r:=fun {g} hg' e=>by have:=hr g e.symm;omega
 let ⟨vs,r1,l1⟩:=h.rd
 let ⟨us,r2,l2⟩:=h.rm
 ⟨h.d.grown hg (key (by omega)),h.m.grown hg (key (by omega)),⟨vs,r1.grown hg (key (by omega)),l1⟩,⟨us,r2.grown hg (key (by omega)),l2⟩,h.l.grown hg (key (by omega)),h.bel.grown hg h.bel.size (fun k hk=>by have:=hr k hk;omega),h.lo⟩
theorem UP.setD (h:UP w gl dv mv lv W)(o:Nat)(v:Value):UP w gl dv mv lv (W.setCell ⟨w.heap.size+1+1,o,none⟩ v) :=
 let ⟨vs,r1,l1⟩:=h.rd
 let ⟨us,r2,l2⟩:=h.rm
 have hl:=h.lo
 ⟨h.d.other (by show _≠w.heap.size+1+1;omega) v,h.m.other (by show _≠w.heap.size+1+1;omega) v,⟨vs.set o v,r1.set o v,by rw [List.length_set,l1]⟩,⟨us,r2.other (by show _≠w.heap.size+1+1;omega) v,l2⟩,h.l.other (by show _≠w.heap.size+1+1;omega) v,h.bel.setCell (by show _≤w.heap.size+1+1;omega) v,h.lo⟩
theorem UP.setM (h:UP w gl dv mv lv W)(o:Nat)(v:Value):UP w gl dv mv lv (W.setCell ⟨w.heap.size+1+1+1,o,none⟩ v) :=
 let ⟨vs,r1,l1⟩:=h.rd
 let ⟨us,r2,l2⟩:=h.rm
 have hl:=h.lo
 ⟨h.d.other (by show _≠w.heap.size+1+1+1;omega) v,h.m.other (by show _≠w.heap.size+1+1+1;omega) v,⟨vs,r1.other (by show _≠w.heap.size+1+1+1;omega) v,l1⟩,⟨us.set o v,r2.set o v,by rw [List.length_set,l2]⟩,h.l.other (by show _≠w.heap.size+1+1+1;omega) v,h.bel.setCell (by show _≤w.heap.size+1+1+1;omega) v,h.lo⟩
theorem UP.all {x0 x1 x2 y0 y1 y2 y3 y4 l0 l1 l2 l3 l4 l5 l6 l7:Value}(h:UP w gl [x0,x1,x2] [y0,y1,y2,y3,y4] [l0,l1,l2,l3,l4,l5,l6,l7] W) :
 W.cell? ⟨w.heap.size,0,none⟩=some x0∧W.cell? ⟨w.heap.size,1,none⟩=some x1∧W.cell? ⟨w.heap.size,2,none⟩=some x2 ∧
 W.cell? ⟨w.heap.size+1,0,none⟩=some y0∧W.cell? ⟨w.heap.size+1,1,none⟩=some y1∧W.cell? ⟨w.heap.size+1,2,none⟩=some y2∧W.cell? ⟨w.heap.size+1,3,none⟩=some y3∧W.cell? ⟨w.heap.size+1,4,none⟩=some y4 ∧
 W.cell? ⟨gl,0,none⟩=some l0∧W.cell? ⟨gl,1,none⟩=some l1∧W.cell? ⟨gl,2,none⟩=some l2∧W.cell? ⟨gl,3,none⟩=some l3∧W.cell? ⟨gl,4,none⟩=some l4∧W.cell? ⟨gl,5,none⟩=some l5∧W.cell? ⟨gl,6,none⟩=some l6∧W.cell? ⟨gl,7,none⟩=some l7 ∧
 W.cell? ⟨w.heap.size+1+1,0,none⟩=some (cv W ⟨w.heap.size+1+1,0,none⟩)∧W.cell? ⟨w.heap.size+1+1,1,none⟩=some (cv W ⟨w.heap.size+1+1,1,none⟩)∧W.cell? ⟨w.heap.size+1+1,2,none⟩=some (cv W ⟨w.heap.size+1+1,2,none⟩) ∧
 W.cell? ⟨w.heap.size+1+1+1,0,none⟩=some (cv W ⟨w.heap.size+1+1+1,0,none⟩)∧W.cell? ⟨w.heap.size+1+1+1,1,none⟩=some (cv W ⟨w.heap.size+1+1+1,1,none⟩)∧W.cell? ⟨w.heap.size+1+1+1,2,none⟩=some (cv W ⟨w.heap.size+1+1+1,2,none⟩)∧W.cell? ⟨w.heap.size+1+1+1,3,none⟩=some (cv W ⟨w.heap.size+1+1+1,3,none⟩)∧W.cell? ⟨w.heap.size+1+1+1,4,none⟩=some (cv W ⟨w.heap.size+1+1+1,4,none⟩) ∧
 (∀o,W.frozen? ⟨w.heap.size+1+1,o,none⟩=false)∧(∀o,W.frozen? ⟨w.heap.size+1+1+1,o,none⟩=false)∧UP w gl [x0,x1,x2] [y0,y1,y2,y3,y4] [l0,l1,l2,l3,l4,l5,l6,l7] W:=by
 obtain ⟨vs,r1,k1⟩:=h.rd
 obtain ⟨us,r2,k2⟩:=h.rm
 obtain ⟨d0,d1,d2,_⟩:=box3 h.d
 obtain ⟨m0,m1,m2,m3,m4,_⟩:=box5 h.m
 obtain ⟨e0,e1,e2,e3,e4,e5,e6,e7,_⟩:=box8 h.l
 exact ⟨d0,d1,d2,m0,m1,m2,m3,m4,e0,e1,e2,e3,e4,e5,e6,e7,cv_some (r1.cell (i:=0) (by omega)),cv_some (r1.cell (i:=1) (by omega)),cv_some (r1.cell (i:=2) (by omega)),cv_some (r2.cell (i:=0) (by omega)),cv_some (r2.cell (i:=1) (by omega)),cv_some (r2.cell (i:=2) (by omega)),cv_some (r2.cell (i:=3) (by omega)),cv_some (r2.cell (i:=4) (by omega)),r1.free,r2.free,h⟩
end
def unpA (d:Pl.Dg)(l:Ln):List Nat:=if d.mt.getD l.p2 0=l.q0 then d.mt else jn d.mt (d.mt.getD l.p2 0) (d.mt.getD l.q0 0)
def unpB (d:Pl.Dg)(l:Ln):List Nat:=if (unpA d l).getD l.p3 0=l.q3 then unpA d l else jn (unpA d l) ((unpA d l).getD l.p3 0) ((unpA d l).getD l.q3 0)
def unpL (d:Pl.Dg)(l:Ln):Nat:=d.lp+(if d.mt.getD l.p2 0=l.q0 then 1 else 0)+(if (unpA d l).getD l.p3 0=l.q3 then 1 else 0)
def unpC (d:Pl.Dg)(x y:Nat):Int:=match lensI d x y with
 | none=>6
 | some i=>if 64<unpL d (lensOf d (lnH x y i)) then 5 else 0
def unpDl (d:Pl.Dg)(l:Ln)(x y:Nat):Pl.Dg:=⟨Pl.shrS [x,y] d.sg,Pl.shrM [x,y] d.n (unpB d l),unpL d l⟩
def UnpPost (d:Pl.Dg)(x y:Nat)(w:World)(e:Ending)(w':World):Prop :=
 (unpC d x y≠0→ResErr (unpC d x y) e)∧(unpC d x y=0→∃i,lensI d x y=some i∧ResOk (unpDl d (lensOf d (lnH x y i)) x y) (pusI d (lensOf d (lnH x y i)) x y) e w')∧Below w.heap.size w w'
theorem lens_lt {d:Pl.Dg}{x y i:Nat}(h:lensI d x y=some i):i<8:=by
 unfold lensI at h
 have:=List.mem_of_find?_eq_some h
 simpa using this
theorem lens_is {d:Pl.Dg}{x y i:Nat}(h:lensI d x y=some i):isL d x y i:=by
 unfold lensI at h
 have:=List.find?_some h
 simpa using this
theorem jn_lt {l:List Nat}{n a b:Nat}(hl:l.length=n)(h:∀k,k<n→l.getD k 0<n)(ha:a<n)(hb:b<n):∀k,k<n→(jn l a b).getD k 0<n:=by
 intro k hk
 have key:∀(l:List Nat) (a b:Nat),(∀k,k<n→l.getD k 0<n)→b<n→∀k,k<n→(l.set a b).getD k 0<n:=by
  intro l a b h hb k hk
  rw [List.getD_eq_getElem?_getD,List.getElem?_set]
  have:=h k hk
  rw [List.getD_eq_getElem?_getD] at this
  split
  ·split
   ·simpa using hb
   ·simp;omega
  ·exact this
 exact key _ _ _ (key _ _ _ h hb) ha k hk
theorem jn_len (l:List Nat)(a b:Nat):(jn l a b).length=l.length:=by unfold jn;simp
theorem pushed_v (d:Pl.Dg)(hd:Pl.Wf d)(A B:Option Addr)(cp cq m x y:Nat)(k sg:Int)(ov:Bool)(p0 p1 p2 p3 q0 q1 q2 q3:Nat)(w:World)(hm:m=4 * d.n)(hg:DgAt w A B d)(hxy:x<y)
 (h2:p2<m) (h3:p3<m) (k0:q0<m) (k3:q3<m) (k1:q1<m) :
 Calls Tryz.prog 84 #[.agg #[.slice A d.n cp,.slice B m cq,.int .i64 d.lp],.agg #[.int .i64 (p0:Int),.int .i64 (p1:Int),.int .i64 (p2:Int),.int .i64 (p3:Int),.int .i64 (q0:Int),.int .i64 (q1:Int),.int .i64 (q2:Int),.int .i64 (q3:Int)],.agg #[.int .i64 k,.int .i64 (x:Int),.int .i64 (y:Int),.int .i64 sg,.bool ov]] w
  fun e w'=>∃(X Y S:Int) (b:Bool),e = .returned (.agg #[.int .i64 3,.int .i64 X,.int .i64 Y,.int .i64 S,.bool b])∧pusI d ⟨p0,p1,p2,p3,q0,q1,q2,q3⟩ x y=⟨3,X,Y,S,b⟩∧Below w.heap.size w w':=by
 subst hm
 refine (pushed_any d hd A B cp cq (4 * d.n) x y k sg ov ⟨p0,p1,p2,p3,q0,q1,q2,q3⟩ w rfl hg hxy h2 h3 k0 k3 k1).mono ?_
 rintro e w' ⟨rfl,hb⟩
 exact ⟨_,_,_,_,rfl,rfl,hb⟩
set_option maxRecDepth 100000 in
set_option maxHeartbeats 4000000 in
theorem unpoke_any (d:Pl.Dg)(hd:Pl.Wf d)(A B:Option Addr)(cp cq x y:Nat)(k sg:Int)(ov:Bool)(w:World)(hg:DgAt w A B d)(hxy:x<y)(hy:y<d.n) :
 Calls Tryz.prog 47 #[.agg #[.slice A d.n cp,.slice B (4 * d.n) cq,.int .i64 d.lp],.agg #[.int .i64 k,.int .i64 (x:Int),.int .i64 (y:Int),.int .i64 sg,.bool ov]] w (UnpPost d x y w):=by
 have hn:=hd.few
 have hlp:=hd.lp
 obtain ⟨m,hm⟩:∃m,m=4 * d.n:=⟨_,rfl⟩
 have HG:=hide hg
 clear hg
 rw [←hm]
 have hm2:m≤256:=by omega
 have HM:=hide hm
 clear hm
 obtain ⟨x0,x1,x2,x3,b0,s0⟩:=boxes4 w (.slice A d.n cp) (.slice B m cq) (.int .i64 d.lp) (.int .i64 k) (.int .i64 (x:Int)) (.int .i64 (y:Int)) (.int .i64 sg) (.bool ov)
 unfold W4 at x0 x1 x2 x3 b0 s0
 have X0:=hide x0
 have X1:=hide x1
 have X2:=hide x2
 have X3:=hide x3
 have B0:=hide b0
 have S0:=hide s0
 clear x0 x1 x2 x3 b0 s0
 go_enter Tryz.func47,Tryz.ntmps47
 go_wp2_with fail
 refine (find_any d hd A B cp cq m x y _ HM.out (HG.out.keep B0.out) (by omega) hy).mono ?_
 rintro e w1 ⟨rfl,hb1⟩
 have hsz:w.heap.size+4≤w1.heap.size:=by have:=hb1.size;have:=S0.out;omega
 have Y0:=hide (X0.out.below hb1)
 have Y1:=hide (X1.out.below hb1)
 have Y2:=hide (X2.out.below hb1)
 have Y3:=hide (X3.out.below hb1)
 have B1:=hide (B0.out.trans (hb1.mono B0.out.size))
 clear X0 X1 X2 X3 B0 S0 hb1
 cases hL:lensI d x y with
 | none =>
   have e6:=hide (show unpC d x y=6 by unfold unpC;rw [hL])
   clear hL
   unfold findE noLens
   obtain ⟨p0,p1,p2,p3⟩:=box3 Y2.out
   obtain ⟨q0,q1,q2,q3,q4,q5⟩:=box5 Y3.out
   have z1:w.heap.size+1+1<w1.heap.size:=by omega
   have z2:w.heap.size+1+1+1<w1.heap.size:=by omega
   go_wp2
   refine bodyPost_ret (v := .tuple #[nilD,nilM,.int .i64 6]) ?_ rfl ?_
   ·obtain ⟨e0,e1,e2,e3,e4,e5,e6,e7⟩:=fin8 (Y2.out) (Y3.out) rfl rfl (by omega) (.slice none 0 0) (.slice none 0 0) (.int .i64 0) (.int .i64 0) (.int .i64 0) (.int .i64 0) (.int .i64 0) (.bool false)
    unfold nilD nilM
    simp [results,Tryz.results47,go_sem,e0,e1,e2,e3,e4,e5,e6,e7,z1,z2]
   ·refine ⟨fun _=>by rw [e6.out];exact rfl,fun h=>absurd h (by rw [e6.out];decide),?_⟩
    exact Below.alloc (below8 B1.out _ _ _ _ _ _ _ _) (below8 B1.out _ _ _ _ _ _ _ _).size _
 | some i =>
   have HL:=hide hL
   have E6:=hide (show unpC d x y=if 64<unpL d (lensOf d (lnH x y i)) then 5 else 0 by unfold unpC;rw [hL])
   have hi8:=lens_lt hL
   obtain ⟨hI1,hI2,_⟩:=lens_is hL
   have hh:lnH x y i<4 * d.n:=by unfold lnH;split <;> omega
   clear hL
   unfold findE
   simp only [lensOf_v]
   obtain ⟨l,hl⟩:∃l,l=lensOf d (lnH x y i):=⟨_,rfl⟩
   have hgg:Pl.nx d (lnH x y i)<4 * d.n:=Pl.tn_lt (hd.lt _ hh)
   have k2:l.p2<m:=by rw [hl];have:=HM.out;have:Pl.tn (lnH x y i) 2<4 * d.n:=Pl.tn_lt hh;show Pl.tn (lnH x y i) 2<m;omega
   have k3:l.p3<m:=by rw [hl];have:=HM.out;have:Pl.tn (d.m (Pl.nx d (lnH x y i))) 2<4 * d.n:=Pl.tn_lt (hd.lt _ hgg);show Pl.tn _ 2<m;omega
   have j0:l.q0<m:=by rw [hl];have:=HM.out;have:Pl.tn (d.m (lnH x y i)) 2<4 * d.n:=Pl.tn_lt (hd.lt _ hh);show Pl.tn _ 2<m;omega
   have j1:l.q1<m:=by rw [hl];have:=HM.out;show Pl.nx d _<m;omega
   have j3:l.q3<m:=by rw [hl];have:=HM.out;have:Pl.tn (Pl.nx d (lnH x y i)) 2<4 * d.n:=Pl.tn_lt hgg;show Pl.tn _ 2<m;omega
   rw [←hl] at E6 ⊢
   have HLL:=hide hl
   clear hl hgg hh hI1 hI2
   obtain ⟨p0,p1,p2,p3,q0,q1,q2,q3⟩:=l
   simp only at k2 k3 j0 j1 j3
   unfold Ln.cells
   obtain ⟨i0,hi0,hz0,hz1,hz2⟩:=info_parts intInfo
   obtain ⟨f0,f1,f2,f3⟩:=box3 Y0.out
   have z1:w.heap.size<w1.heap.size:=by omega
   have hml:d.mt.length=m:=by have:=hd.len;have:=HM.out;omega
   have HML:=hide hml
   clear hml
   go_upto_region 4 with fail
   obtain ⟨V1,hV1⟩:∃V1:World,V1=w1.alloc (.cells #[.int .i64 (p0:Int),.int .i64 (p1:Int),.int .i64 (p2:Int),.int .i64 (p3:Int),.int .i64 (q0:Int),.int .i64 (q1:Int),.int .i64 (q2:Int),.int .i64 (q3:Int)] 128):=⟨_,rfl⟩
   rw [←hV1]
   obtain ⟨gl,hgl⟩:∃gl,gl=w1.heap.size:=⟨_,rfl⟩
   rw [←hgl]
   have U1:=hide (show UP w gl [.slice A d.n cp,.slice B m cq,.int .i64 (d.lp:Int)] [.int .i64 k,.int .i64 (x:Int),.int .i64 (y:Int),.int .i64 sg,.bool ov] [.int .i64 (p0:Int),.int .i64 (p1:Int),.int .i64 (p2:Int),.int .i64 (p3:Int),.int .i64 (q0:Int),.int .i64 (q1:Int),.int .i64 (q2:Int),.int .i64 (q3:Int)] V1 by
    rw [hV1]
    exact ⟨Y0.out.alloc _,Y1.out.alloc _,⟨_,Y2.out.alloc _,rfl⟩,⟨_,Y3.out.alloc _,rfl⟩,row_at (vs:=[_,_,_,_,_,_,_,_]) hgl,B1.out.alloc B1.out.size _,by omega⟩)
   clear hV1 hgl hsz Y0 Y1 Y2 Y3 B1 f0 f1 f2 f3 z1
   obtain ⟨f0,f1,f2,f3⟩:=box3 U1.out.d
   have HGM:=hide (show IntsAt V1 B m (nats d.mt) by rw [HM.out];exact (HG.out.keep U1.out.bel).m)
   have hgl:=U1.out.l.lt
   go_wp2_with (at_builtin;refine wpList_append_ints _ rfl _ _ 22 rfl V1.heap.size 3 i0 (.int .i64 0) 8 Tryz.underlying22 hi0 hz0 hz1 hz2 rfl (.slice none 0 0) 0 [] (by rfl) (World.ownsRow_nil _ _ _ _) B m cq (nats d.mt) (by rfl) HGM.out (by unfold maxLen;omega) (by omega) (Nat.le_refl _) ?_;intro v2 w2 own2 grow2)
   simp only [Nat.zero_add,List.nil_append] at own2
   obtain ⟨A2,c2,rfl⟩:=owns_slice own2
   obtain ⟨g2,rfl,lo2,hi2⟩:=owns_pos (by omega) own2
   have OWN2:=hide (show OwnN w2 V1.heap.size g2 m c2 d.mt by unfold OwnN;rw [←map_nats];exact own2)
   have U2:=hide (U1.out.grown grow2 (fun k hk=>by simp [Value.ownBlock] at hk))
   clear own2 grow2 f0 f1 f2 f3 hi2
   have hg2:gl<g2:=by omega
   obtain ⟨base,hbase⟩:∃base,base=V1.heap.size:=⟨_,rfl⟩
   rw [←hbase] at OWN2 lo2
   have hbl:gl<base:=by omega
   clear hbase hgl HGM
   have HLT:=hide (show ∀k,k<m→d.mt.getD k 0<m from fun k hk=>by
    rw [getD_m (by rw [HML.out];exact hk)]
    have:=hd.lt k (by have:=HM.out;omega)
    have:=HM.out
    omega)
   -- the first strand
   obtain ⟨LA,hLA⟩:∃LA,LA=unpA d ⟨p0,p1,p2,p3,q0,q1,q2,q3⟩:=⟨_,rfl⟩
   obtain ⟨ca,hca⟩:∃ca:Nat,ca=if d.mt.getD p2 0=q0 then 1 else 0:=⟨_,rfl⟩
   have hca1:ca≤1:=by rw [hca];split <;> omega
   have CA:=hide (show ∀W,OwnN W base g2 m c2 d.mt→Calls Tryz.prog 73 #[.slice (some ⟨g2,0,none⟩) m c2,.int .i64 (p2:Int),.int .i64 (q0:Int)] W fun e w'=>e = .returned (.int .i64 (ca:Int))∧OwnN w' base g2 m c2 LA∧W.grownBy w' (some g2) from fun W hW=>by
    refine (closed_any base g2 m c2 p2 q0 d.mt W hW k2 j0 (by omega) HLT.out).mono ?_
    rintro e w' ⟨h1,h2,h3⟩
    refine ⟨?_,?_,h3⟩
    ·rw [h1,hca];split <;> rfl
    ·rw [hLA];exact h2)
   have HLA:=hide (show (∀k,k<m→LA.getD k 0<m)∧LA.length=m from by
    rw [hLA]
    unfold unpA
    simp only
    split
    ·exact ⟨HLT.out,HML.out⟩
    ·exact ⟨jn_lt HML.out HLT.out (HLT.out _ k2) (HLT.out _ j0),by rw [jn_len];exact HML.out⟩)
   have HLAE:=hide hLA
   have HCAE:=hide hca
   clear hLA hca
   obtain ⟨f0,f1,f2,f3⟩:=box3 U2.out.d
   obtain ⟨e0,e1,e2,e3,e4,e5,e6,e7,e8⟩:=box8 U2.out.l
   have hl1:=U2.out.l.lt
   have hl2:=U2.out.d.lt
   go_upto_region 5 with fail
   go_cut [10] (fun s10 wx=>s10 = .int .i64 ((d.lp:Int)+(ca:Int))∧UP w gl [.slice A d.n cp,.slice B m cq,.int .i64 (d.lp:Int)] [.int .i64 k,.int .i64 (x:Int),.int .i64 (y:Int),.int .i64 sg,.bool ov] [.int .i64 (p0:Int),.int .i64 (p1:Int),.int .i64 (p2:Int),.int .i64 (p3:Int),.int .i64 (q0:Int),.int .i64 (q1:Int),.int .i64 (q2:Int),.int .i64 (q3:Int)] wx∧OwnN wx base g2 m c2 LA)
   case first =>
    have hwr:IntKind.i64.wrap ((d.lp:Int)+(ca:Int))=(d.lp:Int)+(ca:Int):=IntWalk.i64_in _ (by omega)
    go_region_held3 (fun w'=>w'.cell? ⟨w.heap.size,2,none⟩=some (.int .i64 (d.lp:Int))∧w'.cell? ⟨gl,2,none⟩=some (.int .i64 (p2:Int))∧w'.cell? ⟨gl,4,none⟩=some (.int .i64 (q0:Int))) (first | go_keep | assumption | (exact ⟨k5,k6,k7⟩))
     (first
       | (go_at_call 73
          refine Calls.mono (CA.out _ ?_) ?_
          ·exact OwnN.drew' rfl OWN2.out
          rintro e w3 ⟨rfl,own3,gr3⟩
          have U3:=hide (U2.out.drew.grown gr3 (fun k hk=>by injection hk with hk;omega))
          have OWN3:=hide own3
          obtain ⟨_,_,k5,_⟩:=box3 U3.out.d
          obtain ⟨_,_,k6,_,k7,_⟩:=box8 U3.out.l
          clear own3 gr3))
    all_goals
     go_wp2_with fail
     go_meet
     exact ⟨rfl,U3.out,OWN3.out⟩
   case rest =>
    obtain ⟨rfl,hu4,ho4⟩:=hcut
    have U4:=hide hu4
    have OWN4:=hide ho4
    clear hu4 ho4 f0 f1 f2 f3 e0 e1 e2 e3 e4 e5 e6 e7 e8 U1 U2 OWN2 CA hl1 hl2
    obtain ⟨e0,e1,e2,e3,e4,e5,e6,e7,e8⟩:=box8 U4.out.l
    obtain ⟨LB,hLB⟩:∃LB,LB=unpB d ⟨p0,p1,p2,p3,q0,q1,q2,q3⟩:=⟨_,rfl⟩
    obtain ⟨cb,hcb⟩:∃cb:Nat,cb=if LA.getD p3 0=q3 then 1 else 0:=⟨_,rfl⟩
    have hcb1:cb≤1:=by rw [hcb];split <;> omega
    have HLBE:=hide hLB
    have E7:=hide (show unpL d ⟨p0,p1,p2,p3,q0,q1,q2,q3⟩=d.lp+ca+cb by unfold unpL;simp only;rw [HCAE.out,hcb,HLAE.out])
    have CB:=hide (show ∀W,OwnN W base g2 m c2 LA→Calls Tryz.prog 73 #[.slice (some ⟨g2,0,none⟩) m c2,.int .i64 (p3:Int),.int .i64 (q3:Int)] W fun e w'=>e = .returned (.int .i64 (cb:Int))∧OwnN w' base g2 m c2 LB∧W.grownBy w' (some g2) from fun W hW=>by
     refine (closed_any base g2 m c2 p3 q3 LA W hW k3 j3 (by omega) HLA.out.1).mono ?_
     rintro e w' ⟨h1,h2,h3⟩
     refine ⟨?_,?_,h3⟩
     ·rw [h1,hcb];split <;> rfl
     ·rw [hLB];unfold unpB;simp only;rw [←HLAE.out];exact h2)
    have HLB:=hide (show (∀k,LB.getD k 0≤1000) from fun k=>by
     have key:∀k,k<m→LB.getD k 0<m:=by
      rw [hLB]
      unfold unpB
      simp only
      rw [←HLAE.out]
      split
      ·exact HLA.out.1
      ·exact jn_lt HLA.out.2 HLA.out.1 (HLA.out.1 _ k3) (HLA.out.1 _ j3)
     have len:LB.length=m:=by
      rw [hLB]
      unfold unpB
      simp only
      rw [←HLAE.out]
      split
      ·exact HLA.out.2
      ·rw [jn_len];exact HLA.out.2
     rcases Nat.lt_or_ge k m with h | h
     ·have:=key k h;omega
     ·rw [List.getD_eq_getElem?_getD,List.getElem?_eq_none (by omega)];simp)
    clear hLB hcb HLA HLT
    have hwr:IntKind.i64.wrap ((d.lp:Int)+(ca:Int)+(cb:Int))=(d.lp:Int)+(ca:Int)+(cb:Int):=IntWalk.i64_in _ (by omega)
    go_wp2_with fail
    refine (CB.out _ OWN4.out).mono ?_
    rintro e w5 ⟨rfl,own5,gr5⟩
    have U5:=hide (U4.out.grown gr5 (fun k hk=>by injection hk with hk;omega))
    have OWN5:=hide own5
    clear own5 gr5 e0 e1 e2 e3 e4 e5 e6 e7 e8 U4 OWN4 CB
    by_cases hfull:64<d.lp+ca+cb
    ·have hfu:(64:Int)<(d.lp:Int)+(ca:Int)+(cb:Int):=by omega
     have E8:=hide (show unpC d x y=5 by rw [E6.out,E7.out,if_pos hfull])
     obtain ⟨vs,r1,l1⟩:=U5.out.rd
     obtain ⟨us,r2,l2⟩:=U5.out.rm
     obtain ⟨_,_,_,_,_,_,_,_,_,_,_,_,_,_,_,_,p0',p1',p2',q0',q1',q2',q3',q4',fr1,fr2,_⟩:=U5.out.all
     go_wp2
     refine bodyPost_ret (v := .tuple #[nilD,nilM,.int .i64 5]) ?_ rfl ?_
     ·obtain ⟨e0,e1,e2,e3,e4,e5,e6,e7⟩:=fin8 r1 r2 l1 l2 (by omega) (.slice none 0 0) (.slice none 0 0) (.int .i64 0) (.int .i64 0) (.int .i64 0) (.int .i64 0) (.int .i64 0) (.bool false)
      clear p0' p1' p2' q0' q1' q2' q3' q4'
      unfold nilD nilM
      simp [results,Tryz.results47,go_sem,e0,e1,e2,e3,e4,e5,e6,e7]
     ·exact ⟨fun _=>by rw [E8.out];exact rfl,fun h=>absurd h (by rw [E8.out];decide),below8 U5.out.bel _ _ _ _ _ _ _ _⟩
    ·have hfu:(d.lp:Int)+(ca:Int)+(cb:Int)≤64:=by omega
     have E8:=hide (show unpC d x y=0 by rw [E6.out,E7.out,if_neg hfull])
     have hgl:=U5.out.l.lt
     have hdl:=U5.out.d.lt
     have hlo:=U5.out.lo
     have z0:w.heap.size+1<w5.heap.size:=by omega
     have z1:w.heap.size+1+1<w5.heap.size:=by omega
     have z2:w.heap.size+1+1+1<w5.heap.size:=by omega
     go_upto_region 9 with fail
     have HCAP:=hide OWN5.out.caps
     have HG5:=hide (HG.out.keep U5.out.bel)
     have KS:=hide (IntsAt.drew ((HG5.out.s).alloc (.cells #[.int .i64 (x:Int),.int .i64 (y:Int)] 3)))
     have KM:=hide (OwnN.ints (OwnN.drew' rfl (OWN5.out.alloc (.cells #[.int .i64 (x:Int),.int .i64 (y:Int)] 3))))
     have KG:=hide (two_ints w5 (x:Int) (y:Int))
     obtain ⟨s0,s1,s2,s3,s4,s5,s6,s7,t0,t1,t2,t3,t4,t5,t6,t7,p0',p1',p2',q0',q1',q2',q3',q4',fr1,fr2,_⟩:=U5.out.all
     go_region_held3 (fun w'=>w'.cell? ⟨w.heap.size,0,none⟩=some (.slice A d.n cp)∧w'.cell? ⟨w.heap.size,1,none⟩=some (.slice B m cq)∧w'.cell? ⟨w.heap.size,2,none⟩=some (.int .i64 (d.lp:Int)) ∧
      w'.cell? ⟨w.heap.size+1,0,none⟩=some (.int .i64 k)∧w'.cell? ⟨w.heap.size+1,1,none⟩=some (.int .i64 (x:Int))∧w'.cell? ⟨w.heap.size+1,2,none⟩=some (.int .i64 (y:Int))∧w'.cell? ⟨w.heap.size+1,3,none⟩=some (.int .i64 sg)∧w'.cell? ⟨w.heap.size+1,4,none⟩=some (.bool ov) ∧
      w'.cell? ⟨gl,0,none⟩=some (.int .i64 (p0:Int))∧w'.cell? ⟨gl,1,none⟩=some (.int .i64 (p1:Int))∧w'.cell? ⟨gl,2,none⟩=some (.int .i64 (p2:Int))∧w'.cell? ⟨gl,3,none⟩=some (.int .i64 (p3:Int))∧w'.cell? ⟨gl,4,none⟩=some (.int .i64 (q0:Int))∧w'.cell? ⟨gl,5,none⟩=some (.int .i64 (q1:Int))∧w'.cell? ⟨gl,6,none⟩=some (.int .i64 (q2:Int))∧w'.cell? ⟨gl,7,none⟩=some (.int .i64 (q3:Int)) ∧
      w'.cell? ⟨w.heap.size+1+1,0,none⟩=some (cv w' ⟨w.heap.size+1+1,0,none⟩)∧w'.cell? ⟨w.heap.size+1+1,1,none⟩=some (cv w' ⟨w.heap.size+1+1,1,none⟩)∧w'.cell? ⟨w.heap.size+1+1,2,none⟩=some (cv w' ⟨w.heap.size+1+1,2,none⟩) ∧
      w'.cell? ⟨w.heap.size+1+1+1,0,none⟩=some (cv w' ⟨w.heap.size+1+1+1,0,none⟩)∧w'.cell? ⟨w.heap.size+1+1+1,1,none⟩=some (cv w' ⟨w.heap.size+1+1+1,1,none⟩)∧w'.cell? ⟨w.heap.size+1+1+1,2,none⟩=some (cv w' ⟨w.heap.size+1+1+1,2,none⟩)∧w'.cell? ⟨w.heap.size+1+1+1,3,none⟩=some (cv w' ⟨w.heap.size+1+1+1,3,none⟩)∧w'.cell? ⟨w.heap.size+1+1+1,4,none⟩=some (cv w' ⟨w.heap.size+1+1+1,4,none⟩) ∧
      (∀o,w'.frozen? ⟨w.heap.size+1+1,o,none⟩=false)∧(∀o,w'.frozen? ⟨w.heap.size+1+1+1,o,none⟩=false)∧UP w gl [.slice A d.n cp,.slice B m cq,.int .i64 (d.lp:Int)] [.int .i64 k,.int .i64 (x:Int),.int .i64 (y:Int),.int .i64 sg,.bool ov] [.int .i64 (p0:Int),.int .i64 (p1:Int),.int .i64 (p2:Int),.int .i64 (p3:Int),.int .i64 (q0:Int),.int .i64 (q1:Int),.int .i64 (q2:Int),.int .i64 (q3:Int)] w')
      ((go_split_ands;refine UP.all ?_;(repeat (first | (with_reducible assumption) | (with_reducible exact U5.out) | (with_reducible refine UP.setD ?_ _ _) | (with_reducible refine UP.setM ?_ _ _) | (with_reducible refine UP.alloc ?_ _) | (with_reducible refine UP.drew ?_) | (with_reducible refine UP.below ?_ hb7) | (with_reducible refine UP.below ?_ hb6)))))
      (first
        | (have hx6 := hb6
           clear hx6
           go_at_call 84
           refine Calls.mono (pushed_v d hd A B cp cq m x y k sg ov p0 p1 p2 p3 q0 q1 q2 q3 _ HM.out ?_ hxy k2 k3 j0 j3 j1) ?_
           ·exact (HG.out.keep (((U5.out.alloc (.cells #[.int .i64 (x:Int),.int .i64 (y:Int)] 3)).drew.below hb6)).bel)
           rintro e w7 ⟨XX,YY,SS,bb,rfl,hpus,hb7⟩
           have HPUS:=hide hpus
           clear hpus)
        | (go_at_call 75
           refine Calls.mono (shrunk_sl [x,y] d.sg LB ((d.lp:Int)+(ca:Int)+(cb:Int)) A (some ⟨g2,0,none⟩) (some ⟨w5.heap.size,0,none⟩) d.n m 2 cp c2 2 _ ?_ ?_ ?_ (Pl.few_two hxy) HM.out HCAP.out.1 HCAP.out.2 (by omega) (by omega) HLB.out) ?_
           ·exact KS.out
           ·exact KM.out
           ·exact KG.out
           rintro e w6 ⟨A7,A8,c7,c8,rfl,owS,owM,hb6⟩
           have OWS:=hide owS
           have OWM:=hide owM
           clear owS owM))
     have U7:=hide ((((U5.out.alloc (.cells #[.int .i64 (x:Int),.int .i64 (y:Int)] 3)).drew.below hb6)).below hb7)
     clear s0 s1 s2 s3 s4 s5 s6 s7 t0 t1 t2 t3 t4 t5 t6 t7 p0' p1' p2' q0' q1' q2' q3' q4'
     obtain ⟨vs6,r6,l6⟩:=U7.out.rd
     obtain ⟨us6,t6,k6⟩:=U7.out.rm
     go_wp2
     refine bodyPost_ret (v := .tuple #[.agg #[.slice A7 (Pl.left d.sg.length [x,y]).length c7,.slice A8 (4 * (Pl.left d.sg.length [x,y]).length) c8,.int .i64 ((d.lp:Int)+(ca:Int)+(cb:Int))],.agg #[.int .i64 3,.int .i64 XX,.int .i64 YY,.int .i64 SS,.bool bb],.int .i64 0]) ?_ rfl ?_
     ·obtain ⟨e0,e1,e2,e3,e4,e5,e6,e7⟩:=fin8 r6 t6 l6 k6 (by omega) (.slice A7 (Pl.left d.sg.length [x,y]).length c7) (.slice A8 (4 * (Pl.left d.sg.length [x,y]).length) c8) (.int .i64 ((d.lp:Int)+(ca:Int)+(cb:Int))) (.int .i64 3) (.int .i64 XX) (.int .i64 YY) (.int .i64 SS) (.bool bb)
      simp [results,Tryz.results47,go_sem,e0,e1,e2,e3,e4,e5,e6,e7]
     ·have hn7:(unpDl d ⟨p0,p1,p2,p3,q0,q1,q2,q3⟩ x y).n=(Pl.left d.sg.length [x,y]).length:=by unfold unpDl Pl.Dg.n;exact Pl.shrS_len _ _
      have hlp7:((unpDl d ⟨p0,p1,p2,p3,q0,q1,q2,q3⟩ x y).lp:Int)=(d.lp:Int)+(ca:Int)+(cb:Int):=by show ((unpL d _:Nat):Int)=_;rw [E7.out];omega
      have hbs:w.heap.size+1+1+1<(w5.alloc (.cells #[.int .i64 (x:Int),.int .i64 (y:Int)] 3)).drew.heap.size+2:=by simp;omega
      refine ⟨fun h=>absurd E8.out h,fun _=>⟨i,HL.out,?_⟩,below8 U7.out.bel _ _ _ _ _ _ _ _⟩
      rw [←HLL.out,HPUS.out]
      refine ⟨A7,A8,c7,c8,?_,?_,?_⟩
      ·rw [hn7,hlp7]
       rfl
      ·rw [hn7]
       exact own_intsT (c:=c7) (own8 (own_keep OWS.out hb7 (Nat.le_refl _)) hbs _ _ _ _ _ _ _ _)
      ·rw [hn7]
       refine own_intsT (c:=c8) (own8 (?_:w7.ownsRow _ _ _ _ _ _) hbs _ _ _ _ _ _ _ _)
       rw [map_nats]
       have:=own_keep OWM.out hb7 (Nat.le_refl _)
       rw [HLBE.out] at this
       exact this
end Go.Proofs.YtdgliimmnnhhjaaGreatDoor
end
