/-
 The texts Xd, Wv, Rg, Rs, Ry.
-/
import Derived.Test.YtobbepmlmbbamaaH03
set_option linter.unusedVariables false
set_option linter.unusedSimpArgs false
section
namespace Go.Proofs.Ytobbepmlmbbamaa
open Go Go.RowKit
attribute [local go_sem ↓] Go.wp_at_zero Go.wp_at_succ
structure UP (w:World) (gl:Nat) (dv mv lv:List Value) (W:World):Prop where
 d:Row W w.heap.size 24 dv
 m:Row W (w.heap.size+1) 28 mv
 rd:∃vs,Row W (w.heap.size+1+1) 24 vs∧vs.length=3
 rm:∃us,Row W (w.heap.size+1+1+1) 28 us∧us.length=5
 l:Row W gl 93 lv
 bel:Below w.heap.size w W
 lo:w.heap.size+1+1+1<gl
section
variable {w W W':World} {gl:Nat} {dv mv lv:List Value}
theorem UP.drew (h:UP w gl dv mv lv W):UP w gl dv mv lv W.drew:=⟨h.d,h.m,h.rd,h.rm,h.l,h.bel.drew,h.lo⟩
theorem UP.below (h:UP w gl dv mv lv W)(hb:Below W.heap.size W W'):UP w gl dv mv lv W' :=
 let ⟨vs,r1,l1⟩:=h.rd
 let ⟨us,r2,l2⟩:=h.rm
 ⟨h.d.below hb,h.m.below hb,⟨vs,r1.below hb,l1⟩,⟨us,r2.below hb,l2⟩,h.l.below hb,h.bel.trans (hb.mono h.bel.size),h.lo⟩
theorem UP.alloc (h:UP w gl dv mv lv W)(o:Obj):UP w gl dv mv lv (W.alloc o):=h.below ((Below.refl _ _).alloc (Nat.le_refl _) o)
theorem UP.grown (h:UP w gl dv mv lv W){r:Option Nat}(hg:W.grownBy W' r)(hr:∀k,r=some k→gl<k):UP w gl dv mv lv W' :=
 have a:=h.lo
 have key:∀{g:Nat},g≤gl→some g≠r:=fun {g} hg' e=>by have:=hr g e.symm;omega
 let ⟨vs,r1,l1⟩:=h.rd
 let ⟨us,r2,l2⟩:=h.rm
 ⟨h.d.grown hg (key (by omega)),h.m.grown hg (key (by omega)),⟨vs,r1.grown hg (key (by omega)),l1⟩,⟨us,r2.grown hg (key (by omega)),l2⟩,h.l.grown hg (key (by omega)),h.bel.grown hg h.bel.size (fun k hk=>by have:=hr k hk;omega),h.lo⟩
theorem UP.setD (h:UP w gl dv mv lv W)(o:Nat)(v:Value):UP w gl dv mv lv (W.setCell ⟨w.heap.size+1+1,o,none⟩ v) :=
 let ⟨vs,r1,l1⟩:=h.rd
 let ⟨us,r2,l2⟩:=h.rm
 have hl:=h.lo
 ⟨h.d.other (by show _≠w.heap.size+1+1;omega) v,h.m.other (by show _≠w.heap.size+1+1;omega) v,⟨vs.set o v,r1.set o v,by rw [List.length_set,l1]⟩,⟨us,r2.other (by show _≠w.heap.size+1+1;omega) v,l2⟩,h.l.other (by show _≠w.heap.size+1+1;omega) v,h.bel.setCell (by show _≤w.heap.size+1+1;omega) v,h.lo⟩
theorem UP.setM (h:UP w gl dv mv lv W)(o:Nat)(v:Value):UP w gl dv mv lv (W.setCell ⟨w.heap.size+1+1+1,o,none⟩ v) :=
 let ⟨vs,r1,l1⟩:=h.rd
 let ⟨us,r2,l2⟩:=h.rm
 have hl:=h.lo
 ⟨h.d.other (by show _≠w.heap.size+1+1+1;omega) v,h.m.other (by show _≠w.heap.size+1+1+1;omega) v,⟨vs,r1.other (by show _≠w.heap.size+1+1+1;omega) v,l1⟩,⟨us.set o v,r2.set o v,by rw [List.length_set,l2]⟩,h.l.other (by show _≠w.heap.size+1+1+1;omega) v,h.bel.setCell (by show _≤w.heap.size+1+1+1;omega) v,h.lo⟩
theorem UP.all {x0 x1 x2 y0 y1 y2 y3 y4 l0 l1 l2 l3 l4 l5 l6 l7:Value}(h:UP w gl [x0,x1,x2] [y0,y1,y2,y3,y4] [l0,l1,l2,l3,l4,l5,l6,l7] W) :
 W.cell? ⟨w.heap.size,0,none⟩=some x0∧W.cell? ⟨w.heap.size,1,none⟩=some x1∧W.cell? ⟨w.heap.size,2,none⟩=some x2 ∧
 W.cell? ⟨w.heap.size+1,0,none⟩=some y0∧W.cell? ⟨w.heap.size+1,1,none⟩=some y1∧W.cell? ⟨w.heap.size+1,2,none⟩=some y2∧W.cell? ⟨w.heap.size+1,3,none⟩=some y3∧W.cell? ⟨w.heap.size+1,4,none⟩=some y4 ∧
 W.cell? ⟨gl,0,none⟩=some l0∧W.cell? ⟨gl,1,none⟩=some l1∧W.cell? ⟨gl,2,none⟩=some l2∧W.cell? ⟨gl,3,none⟩=some l3∧W.cell? ⟨gl,4,none⟩=some l4∧W.cell? ⟨gl,5,none⟩=some l5∧W.cell? ⟨gl,6,none⟩=some l6∧W.cell? ⟨gl,7,none⟩=some l7 ∧
 W.cell? ⟨w.heap.size+1+1,0,none⟩=some (cv W ⟨w.heap.size+1+1,0,none⟩)∧W.cell? ⟨w.heap.size+1+1,1,none⟩=some (cv W ⟨w.heap.size+1+1,1,none⟩)∧W.cell? ⟨w.heap.size+1+1,2,none⟩=some (cv W ⟨w.heap.size+1+1,2,none⟩) ∧
 W.cell? ⟨w.heap.size+1+1+1,0,none⟩=some (cv W ⟨w.heap.size+1+1+1,0,none⟩)∧W.cell? ⟨w.heap.size+1+1+1,1,none⟩=some (cv W ⟨w.heap.size+1+1+1,1,none⟩)∧W.cell? ⟨w.heap.size+1+1+1,2,none⟩=some (cv W ⟨w.heap.size+1+1+1,2,none⟩)∧W.cell? ⟨w.heap.size+1+1+1,3,none⟩=some (cv W ⟨w.heap.size+1+1+1,3,none⟩)∧W.cell? ⟨w.heap.size+1+1+1,4,none⟩=some (cv W ⟨w.heap.size+1+1+1,4,none⟩) ∧
 (∀o,W.frozen? ⟨w.heap.size+1+1,o,none⟩=false)∧(∀o,W.frozen? ⟨w.heap.size+1+1+1,o,none⟩=false)∧UP w gl [x0,x1,x2] [y0,y1,y2,y3,y4] [l0,l1,l2,l3,l4,l5,l6,l7] W:=by
 obtain ⟨vs,r1,k1⟩:=h.rd
 obtain ⟨us,r2,k2⟩:=h.rm
 obtain ⟨d0,d1,d2,_⟩:=box3 h.d
 obtain ⟨m0,m1,m2,m3,m4,_⟩:=box5 h.m
 obtain ⟨e0,e1,e2,e3,e4,e5,e6,e7,_⟩:=box8 h.l
 exact ⟨d0,d1,d2,m0,m1,m2,m3,m4,e0,e1,e2,e3,e4,e5,e6,e7,cv_some (r1.cell (i:=0) (by omega)),cv_some (r1.cell (i:=1) (by omega)),cv_some (r1.cell (i:=2) (by omega)),cv_some (r2.cell (i:=0) (by omega)),cv_some (r2.cell (i:=1) (by omega)),cv_some (r2.cell (i:=2) (by omega)),cv_some (r2.cell (i:=3) (by omega)),cv_some (r2.cell (i:=4) (by omega)),r1.free,r2.free,h⟩
end
def unpA (d:Pl.Dg)(l:Ln):List Nat:=if d.mt.getD l.p2 0=l.q0 then d.mt else jn d.mt (d.mt.getD l.p2 0) (d.mt.getD l.q0 0)
def unpB (d:Pl.Dg)(l:Ln):List Nat:=if (unpA d l).getD l.p3 0=l.q3 then unpA d l else jn (unpA d l) ((unpA d l).getD l.p3 0) ((unpA d l).getD l.q3 0)
def unpL (d:Pl.Dg)(l:Ln):Nat:=d.lp+(if d.mt.getD l.p2 0=l.q0 then 1 else 0)+(if (unpA d l).getD l.p3 0=l.q3 then 1 else 0)
def unpC (d:Pl.Dg)(x y:Nat):Int:=match lensI d x y with
 | none=>6
 | some i=>if 64<unpL d (lensOf d (lnH x y i)) then 5 else 0
def unpDl (d:Pl.Dg)(l:Ln)(x y:Nat):Pl.Dg:=⟨Pl.shrS [x,y] d.sg,Pl.shrM [x,y] d.n (unpB d l),unpL d l⟩
def UnpPost (d:Pl.Dg)(x y:Nat)(w:World)(e:Ending)(w':World):Prop :=
 (unpC d x y≠0→ResErr (unpC d x y) e)∧(unpC d x y=0→∃i,lensI d x y=some i∧ResOk (unpDl d (lensOf d (lnH x y i)) x y) (pusI d (lensOf d (lnH x y i)) x y) e w')∧Below w.heap.size w w'
theorem lens_lt {d:Pl.Dg}{x y i:Nat}(h:lensI d x y=some i):i<8:=by
 unfold lensI at h
 have:=List.mem_of_find?_eq_some h
 simpa using this
theorem lens_is {d:Pl.Dg}{x y i:Nat}(h:lensI d x y=some i):isL d x y i:=by
 unfold lensI at h
 have:=List.find?_some h
 simpa using this
theorem jn_lt {l:List Nat}{n a b:Nat}(hl:l.length=n)(h:∀k,k<n→l.getD k 0<n)(ha:a<n)(hb:b<n):∀k,k<n→(jn l a b).getD k 0<n:=by
 intro k hk
 have key:∀(l:List Nat) (a b:Nat),(∀k,k<n→l.getD k 0<n)→b<n→∀k,k<n→(l.set a b).getD k 0<n:=by
  intro l a b h hb k hk
  rw [List.getD_eq_getElem?_getD,List.getElem?_set]
  have:=h k hk
  rw [List.getD_eq_getElem?_getD] at this
  split
  ·split
   ·simpa using hb
   ·simp;omega
  ·exact this
 exact key _ _ _ (key _ _ _ h hb) ha k hk
theorem jn_len (l:List Nat)(a b:Nat):(jn l a b).length=l.length:=by unfold jn;simp
theorem pushed_v (d:Pl.Dg)(hd:Pl.Wf d)(A B:Option Addr)(cp cq m x y:Nat)(k sg:Int)(ov:Bool)(p0 p1 p2 p3 q0 q1 q2 q3:Nat)(w:World)(hm:m=4 * d.n)(hg:DgAt w A B d)(hxy:x<y)
 (h2:p2<m) (h3:p3<m) (k0:q0<m) (k3:q3<m) (k1:q1<m) :
 Calls Try.prog 93 #[.agg #[.slice A d.n cp,.slice B m cq,.int .i64 d.lp],.agg #[.int .i64 (p0:Int),.int .i64 (p1:Int),.int .i64 (p2:Int),.int .i64 (p3:Int),.int .i64 (q0:Int),.int .i64 (q1:Int),.int .i64 (q2:Int),.int .i64 (q3:Int)],.agg #[.int .i64 k,.int .i64 (x:Int),.int .i64 (y:Int),.int .i64 sg,.bool ov]] w
  fun e w'=>∃(X Y S:Int) (b:Bool),e = .returned (.agg #[.int .i64 3,.int .i64 X,.int .i64 Y,.int .i64 S,.bool b])∧pusI d ⟨p0,p1,p2,p3,q0,q1,q2,q3⟩ x y=⟨3,X,Y,S,b⟩∧Below w.heap.size w w':=by
 subst hm
 refine (pushed_any d hd A B cp cq (4 * d.n) x y k sg ov ⟨p0,p1,p2,p3,q0,q1,q2,q3⟩ w rfl hg hxy h2 h3 k0 k3 k1).mono ?_
 rintro e w' ⟨rfl,hb⟩
 exact ⟨_,_,_,_,rfl,rfl,hb⟩
set_option maxRecDepth 100000 in
set_option maxHeartbeats 4000000 in
theorem unpoke_any (d:Pl.Dg)(hd:Pl.Wf d)(A B:Option Addr)(cp cq x y:Nat)(k sg:Int)(ov:Bool)(w:World)(hg:DgAt w A B d)(hxy:x<y)(hy:y<d.n) :
 Calls Try.prog 51 #[.agg #[.slice A d.n cp,.slice B (4 * d.n) cq,.int .i64 d.lp],.agg #[.int .i64 k,.int .i64 (x:Int),.int .i64 (y:Int),.int .i64 sg,.bool ov]] w (UnpPost d x y w):=by
 have hn:=hd.few
 have hlp:=hd.lp
 obtain ⟨m,hm⟩:∃m,m=4 * d.n:=⟨_,rfl⟩
 have HG:=hide hg
 clear hg
 rw [←hm]
 have hm2:m≤256:=by omega
 have HM:=hide hm
 clear hm
 obtain ⟨x0,x1,x2,x3,b0,s0⟩:=boxes4 w (.slice A d.n cp) (.slice B m cq) (.int .i64 d.lp) (.int .i64 k) (.int .i64 (x:Int)) (.int .i64 (y:Int)) (.int .i64 sg) (.bool ov)
 unfold W4 at x0 x1 x2 x3 b0 s0
 have X0:=hide x0
 have X1:=hide x1
 have X2:=hide x2
 have X3:=hide x3
 have B0:=hide b0
 have S0:=hide s0
 clear x0 x1 x2 x3 b0 s0
 go_enter Try.func51,Try.ntmps51
 go_wp2_with fail
 refine (find_any d hd A B cp cq m x y _ HM.out (HG.out.keep B0.out) (by omega) hy).mono ?_
 rintro e w1 ⟨rfl,hb1⟩
 have hsz:w.heap.size+4≤w1.heap.size:=by have:=hb1.size;have:=S0.out;omega
 have Y0:=hide (X0.out.below hb1)
 have Y1:=hide (X1.out.below hb1)
 have Y2:=hide (X2.out.below hb1)
 have Y3:=hide (X3.out.below hb1)
 have B1:=hide (B0.out.trans (hb1.mono B0.out.size))
 clear X0 X1 X2 X3 B0 S0 hb1
 cases hL:lensI d x y with
 | none =>
   have e6:=hide (show unpC d x y=6 by unfold unpC;rw [hL])
   clear hL
   unfold findE noLens
   obtain ⟨p0,p1,p2,p3⟩:=box3 Y2.out
   obtain ⟨q0,q1,q2,q3,q4,q5⟩:=box5 Y3.out
   have z1:w.heap.size+1+1<w1.heap.size:=by omega
   have z2:w.heap.size+1+1+1<w1.heap.size:=by omega
   go_wp2
   refine bodyPost_ret (v := .tuple #[nilD,nilM,.int .i64 6]) ?_ rfl ?_
   ·obtain ⟨e0,e1,e2,e3,e4,e5,e6,e7⟩:=fin8 (Y2.out) (Y3.out) rfl rfl (by omega) (.slice none 0 0) (.slice none 0 0) (.int .i64 0) (.int .i64 0) (.int .i64 0) (.int .i64 0) (.int .i64 0) (.bool false)
    unfold nilD nilM
    simp [results,Try.results51,go_sem,e0,e1,e2,e3,e4,e5,e6,e7,z1,z2]
   ·refine ⟨fun _=>by rw [e6.out];exact rfl,fun h=>absurd h (by rw [e6.out];decide),?_⟩
    exact Below.alloc (below8 B1.out _ _ _ _ _ _ _ _) (below8 B1.out _ _ _ _ _ _ _ _).size _
 | some i =>
   have HL:=hide hL
   have E6:=hide (show unpC d x y=if 64<unpL d (lensOf d (lnH x y i)) then 5 else 0 by unfold unpC;rw [hL])
   have hi8:=lens_lt hL
   obtain ⟨hI1,hI2,_⟩:=lens_is hL
   have hh:lnH x y i<4 * d.n:=by unfold lnH;split <;> omega
   clear hL
   unfold findE
   simp only [lensOf_v]
   obtain ⟨l,hl⟩:∃l,l=lensOf d (lnH x y i):=⟨_,rfl⟩
   have hgg:Pl.nx d (lnH x y i)<4 * d.n:=Pl.tn_lt (hd.lt _ hh)
   have k2:l.p2<m:=by rw [hl];have:=HM.out;have:Pl.tn (lnH x y i) 2<4 * d.n:=Pl.tn_lt hh;show Pl.tn (lnH x y i) 2<m;omega
   have k3:l.p3<m:=by rw [hl];have:=HM.out;have:Pl.tn (d.m (Pl.nx d (lnH x y i))) 2<4 * d.n:=Pl.tn_lt (hd.lt _ hgg);show Pl.tn _ 2<m;omega
   have j0:l.q0<m:=by rw [hl];have:=HM.out;have:Pl.tn (d.m (lnH x y i)) 2<4 * d.n:=Pl.tn_lt (hd.lt _ hh);show Pl.tn _ 2<m;omega
   have j1:l.q1<m:=by rw [hl];have:=HM.out;show Pl.nx d _<m;omega
   have j3:l.q3<m:=by rw [hl];have:=HM.out;have:Pl.tn (Pl.nx d (lnH x y i)) 2<4 * d.n:=Pl.tn_lt hgg;show Pl.tn _ 2<m;omega
   rw [←hl] at E6 ⊢
   have HLL:=hide hl
   clear hl hgg hh hI1 hI2
   obtain ⟨p0,p1,p2,p3,q0,q1,q2,q3⟩:=l
   simp only at k2 k3 j0 j1 j3
   unfold Ln.cells
   obtain ⟨i0,hi0,hz0,hz1,hz2⟩:=info_parts intInfo
   obtain ⟨f0,f1,f2,f3⟩:=box3 Y0.out
   have z1:w.heap.size<w1.heap.size:=by omega
   have hml:d.mt.length=m:=by have:=hd.len;have:=HM.out;omega
   have HML:=hide hml
   clear hml
   go_upto_region 4 with fail
   obtain ⟨V1,hV1⟩:∃V1:World,V1=w1.alloc (.cells #[.int .i64 (p0:Int),.int .i64 (p1:Int),.int .i64 (p2:Int),.int .i64 (p3:Int),.int .i64 (q0:Int),.int .i64 (q1:Int),.int .i64 (q2:Int),.int .i64 (q3:Int)] 93):=⟨_,rfl⟩
   rw [←hV1]
   obtain ⟨gl,hgl⟩:∃gl,gl=w1.heap.size:=⟨_,rfl⟩
   rw [←hgl]
   have U1:=hide (show UP w gl [.slice A d.n cp,.slice B m cq,.int .i64 (d.lp:Int)] [.int .i64 k,.int .i64 (x:Int),.int .i64 (y:Int),.int .i64 sg,.bool ov] [.int .i64 (p0:Int),.int .i64 (p1:Int),.int .i64 (p2:Int),.int .i64 (p3:Int),.int .i64 (q0:Int),.int .i64 (q1:Int),.int .i64 (q2:Int),.int .i64 (q3:Int)] V1 by
    rw [hV1]
    exact ⟨Y0.out.alloc _,Y1.out.alloc _,⟨_,Y2.out.alloc _,rfl⟩,⟨_,Y3.out.alloc _,rfl⟩,row_at (vs:=[_,_,_,_,_,_,_,_]) hgl,B1.out.alloc B1.out.size _,by omega⟩)
   clear hV1 hgl hsz Y0 Y1 Y2 Y3 B1 f0 f1 f2 f3 z1
   obtain ⟨f0,f1,f2,f3⟩:=box3 U1.out.d
   have HGM:=hide (show IntsAt V1 B m (nats d.mt) by rw [HM.out];exact (HG.out.keep U1.out.bel).m)
   have hgl:=U1.out.l.lt
   go_wp2_with (at_builtin;refine wpList_append_ints _ rfl _ _ 22 rfl V1.heap.size 3 i0 (.int .i64 0) 8 Try.underlying22 hi0 hz0 hz1 hz2 rfl (.slice none 0 0) 0 [] (by rfl) (World.ownsRow_nil _ _ _ _) B m cq (nats d.mt) (by rfl) HGM.out (by unfold maxLen;omega) (by omega) (Nat.le_refl _) ?_;intro v2 w2 own2 grow2)
   simp only [Nat.zero_add,List.nil_append] at own2
   obtain ⟨A2,c2,rfl⟩:=owns_slice own2
   obtain ⟨g2,rfl,lo2,hi2⟩:=owns_pos (by omega) own2
   have OWN2:=hide (show OwnN w2 V1.heap.size g2 m c2 d.mt by unfold OwnN;rw [←map_nats];exact own2)
   have U2:=hide (U1.out.grown grow2 (fun k hk=>by simp [Value.ownBlock] at hk))
   clear own2 grow2 f0 f1 f2 f3 hi2
   have hg2:gl<g2:=by omega
   obtain ⟨base,hbase⟩:∃base,base=V1.heap.size:=⟨_,rfl⟩
   rw [←hbase] at OWN2 lo2
   have hbl:gl<base:=by omega
   clear hbase hgl HGM
   have HLT:=hide (show ∀k,k<m→d.mt.getD k 0<m from fun k hk=>by
    rw [getD_m (by rw [HML.out];exact hk)]
    have:=hd.lt k (by have:=HM.out;omega)
    have:=HM.out
    omega)
   -- the first strand
   obtain ⟨LA,hLA⟩:∃LA,LA=unpA d ⟨p0,p1,p2,p3,q0,q1,q2,q3⟩:=⟨_,rfl⟩
   obtain ⟨ca,hca⟩:∃ca:Nat,ca=if d.mt.getD p2 0=q0 then 1 else 0:=⟨_,rfl⟩
   have hca1:ca≤1:=by rw [hca];split <;> omega
   have CA:=hide (show ∀W,OwnN W base g2 m c2 d.mt→Calls Try.prog 81 #[.slice (some ⟨g2,0,none⟩) m c2,.int .i64 (p2:Int),.int .i64 (q0:Int)] W fun e w'=>e = .returned (.int .i64 (ca:Int))∧OwnN w' base g2 m c2 LA∧W.grownBy w' (some g2) from fun W hW=>by
    refine (closed_any base g2 m c2 p2 q0 d.mt W hW k2 j0 (by omega) HLT.out).mono ?_
    rintro e w' ⟨h1,h2,h3⟩
    refine ⟨?_,?_,h3⟩
    ·rw [h1,hca];split <;> rfl
    ·rw [hLA];exact h2)
   have HLA:=hide (show (∀k,k<m→LA.getD k 0<m)∧LA.length=m from by
    rw [hLA]
    unfold unpA
    simp only
    split
    ·exact ⟨HLT.out,HML.out⟩
    ·exact ⟨jn_lt HML.out HLT.out (HLT.out _ k2) (HLT.out _ j0),by rw [jn_len];exact HML.out⟩)
   have HLAE:=hide hLA
   have HCAE:=hide hca
   clear hLA hca
   obtain ⟨f0,f1,f2,f3⟩:=box3 U2.out.d
   obtain ⟨e0,e1,e2,e3,e4,e5,e6,e7,e8⟩:=box8 U2.out.l
   have hl1:=U2.out.l.lt
   have hl2:=U2.out.d.lt
   go_upto_region 5 with fail
   go_cut [10] (fun s10 wx=>s10 = .int .i64 ((d.lp:Int)+(ca:Int))∧UP w gl [.slice A d.n cp,.slice B m cq,.int .i64 (d.lp:Int)] [.int .i64 k,.int .i64 (x:Int),.int .i64 (y:Int),.int .i64 sg,.bool ov] [.int .i64 (p0:Int),.int .i64 (p1:Int),.int .i64 (p2:Int),.int .i64 (p3:Int),.int .i64 (q0:Int),.int .i64 (q1:Int),.int .i64 (q2:Int),.int .i64 (q3:Int)] wx∧OwnN wx base g2 m c2 LA)
   case first =>
    have hwr:IntKind.i64.wrap ((d.lp:Int)+(ca:Int))=(d.lp:Int)+(ca:Int):=IntWalk.i64_in _ (by omega)
    go_region_held3 (fun w'=>w'.cell? ⟨w.heap.size,2,none⟩=some (.int .i64 (d.lp:Int))∧w'.cell? ⟨gl,2,none⟩=some (.int .i64 (p2:Int))∧w'.cell? ⟨gl,4,none⟩=some (.int .i64 (q0:Int))) (first | go_keep | assumption | (exact ⟨k5,k6,k7⟩))
     (first
       | (go_at_call 81
          refine Calls.mono (CA.out _ ?_) ?_
          ·exact OwnN.drew' rfl OWN2.out
          rintro e w3 ⟨rfl,own3,gr3⟩
          have U3:=hide (U2.out.drew.grown gr3 (fun k hk=>by injection hk with hk;omega))
          have OWN3:=hide own3
          obtain ⟨_,_,k5,_⟩:=box3 U3.out.d
          obtain ⟨_,_,k6,_,k7,_⟩:=box8 U3.out.l
          clear own3 gr3))
    all_goals
     go_wp2_with fail
     go_meet
     exact ⟨rfl,U3.out,OWN3.out⟩
   case rest =>
    obtain ⟨rfl,hu4,ho4⟩:=hcut
    have U4:=hide hu4
    have OWN4:=hide ho4
    clear hu4 ho4 f0 f1 f2 f3 e0 e1 e2 e3 e4 e5 e6 e7 e8 U1 U2 OWN2 CA hl1 hl2
    obtain ⟨e0,e1,e2,e3,e4,e5,e6,e7,e8⟩:=box8 U4.out.l
    obtain ⟨LB,hLB⟩:∃LB,LB=unpB d ⟨p0,p1,p2,p3,q0,q1,q2,q3⟩:=⟨_,rfl⟩
    obtain ⟨cb,hcb⟩:∃cb:Nat,cb=if LA.getD p3 0=q3 then 1 else 0:=⟨_,rfl⟩
    have hcb1:cb≤1:=by rw [hcb];split <;> omega
    have HLBE:=hide hLB
    have E7:=hide (show unpL d ⟨p0,p1,p2,p3,q0,q1,q2,q3⟩=d.lp+ca+cb by unfold unpL;simp only;rw [HCAE.out,hcb,HLAE.out])
    have CB:=hide (show ∀W,OwnN W base g2 m c2 LA→Calls Try.prog 81 #[.slice (some ⟨g2,0,none⟩) m c2,.int .i64 (p3:Int),.int .i64 (q3:Int)] W fun e w'=>e = .returned (.int .i64 (cb:Int))∧OwnN w' base g2 m c2 LB∧W.grownBy w' (some g2) from fun W hW=>by
     refine (closed_any base g2 m c2 p3 q3 LA W hW k3 j3 (by omega) HLA.out.1).mono ?_
     rintro e w' ⟨h1,h2,h3⟩
     refine ⟨?_,?_,h3⟩
     ·rw [h1,hcb];split <;> rfl
     ·rw [hLB];unfold unpB;simp only;rw [←HLAE.out];exact h2)
    have HLB:=hide (show (∀k,LB.getD k 0≤1000) from fun k=>by
     have key:∀k,k<m→LB.getD k 0<m:=by
      rw [hLB]
      unfold unpB
      simp only
      rw [←HLAE.out]
      split
      ·exact HLA.out.1
      ·exact jn_lt HLA.out.2 HLA.out.1 (HLA.out.1 _ k3) (HLA.out.1 _ j3)
     have len:LB.length=m:=by
      rw [hLB]
      unfold unpB
      simp only
      rw [←HLAE.out]
      split
      ·exact HLA.out.2
      ·rw [jn_len];exact HLA.out.2
     rcases Nat.lt_or_ge k m with h | h
     ·have:=key k h;omega
     ·rw [List.getD_eq_getElem?_getD,List.getElem?_eq_none (by omega)];simp)
    clear hLB hcb HLA HLT
    have hwr:IntKind.i64.wrap ((d.lp:Int)+(ca:Int)+(cb:Int))=(d.lp:Int)+(ca:Int)+(cb:Int):=IntWalk.i64_in _ (by omega)
    go_wp2_with fail
    refine (CB.out _ OWN4.out).mono ?_
    rintro e w5 ⟨rfl,own5,gr5⟩
    have U5:=hide (U4.out.grown gr5 (fun k hk=>by injection hk with hk;omega))
    have OWN5:=hide own5
    clear own5 gr5 e0 e1 e2 e3 e4 e5 e6 e7 e8 U4 OWN4 CB
    by_cases hfull:64<d.lp+ca+cb
    ·have hfu:(64:Int)<(d.lp:Int)+(ca:Int)+(cb:Int):=by omega
     have E8:=hide (show unpC d x y=5 by rw [E6.out,E7.out,if_pos hfull])
     obtain ⟨vs,r1,l1⟩:=U5.out.rd
     obtain ⟨us,r2,l2⟩:=U5.out.rm
     obtain ⟨_,_,_,_,_,_,_,_,_,_,_,_,_,_,_,_,p0',p1',p2',q0',q1',q2',q3',q4',fr1,fr2,_⟩:=U5.out.all
     go_wp2
     refine bodyPost_ret (v := .tuple #[nilD,nilM,.int .i64 5]) ?_ rfl ?_
     ·obtain ⟨e0,e1,e2,e3,e4,e5,e6,e7⟩:=fin8 r1 r2 l1 l2 (by omega) (.slice none 0 0) (.slice none 0 0) (.int .i64 0) (.int .i64 0) (.int .i64 0) (.int .i64 0) (.int .i64 0) (.bool false)
      clear p0' p1' p2' q0' q1' q2' q3' q4'
      unfold nilD nilM
      simp [results,Try.results51,go_sem,e0,e1,e2,e3,e4,e5,e6,e7]
     ·exact ⟨fun _=>by rw [E8.out];exact rfl,fun h=>absurd h (by rw [E8.out];decide),below8 U5.out.bel _ _ _ _ _ _ _ _⟩
    ·have hfu:(d.lp:Int)+(ca:Int)+(cb:Int)≤64:=by omega
     have E8:=hide (show unpC d x y=0 by rw [E6.out,E7.out,if_neg hfull])
     have hgl:=U5.out.l.lt
     have hdl:=U5.out.d.lt
     have hlo:=U5.out.lo
     have z0:w.heap.size+1<w5.heap.size:=by omega
     have z1:w.heap.size+1+1<w5.heap.size:=by omega
     have z2:w.heap.size+1+1+1<w5.heap.size:=by omega
     go_upto_region 9 with fail
     have HCAP:=hide OWN5.out.caps
     have HG5:=hide (HG.out.keep U5.out.bel)
     have KS:=hide (IntsAt.drew ((HG5.out.s).alloc (.cells #[.int .i64 (x:Int),.int .i64 (y:Int)] 3)))
     have KM:=hide (OwnN.ints (OwnN.drew' rfl (OWN5.out.alloc (.cells #[.int .i64 (x:Int),.int .i64 (y:Int)] 3))))
     have KG:=hide (two_ints w5 (x:Int) (y:Int))
     obtain ⟨s0,s1,s2,s3,s4,s5,s6,s7,t0,t1,t2,t3,t4,t5,t6,t7,p0',p1',p2',q0',q1',q2',q3',q4',fr1,fr2,_⟩:=U5.out.all
     go_region_held3 (fun w'=>w'.cell? ⟨w.heap.size,0,none⟩=some (.slice A d.n cp)∧w'.cell? ⟨w.heap.size,1,none⟩=some (.slice B m cq)∧w'.cell? ⟨w.heap.size,2,none⟩=some (.int .i64 (d.lp:Int)) ∧
      w'.cell? ⟨w.heap.size+1,0,none⟩=some (.int .i64 k)∧w'.cell? ⟨w.heap.size+1,1,none⟩=some (.int .i64 (x:Int))∧w'.cell? ⟨w.heap.size+1,2,none⟩=some (.int .i64 (y:Int))∧w'.cell? ⟨w.heap.size+1,3,none⟩=some (.int .i64 sg)∧w'.cell? ⟨w.heap.size+1,4,none⟩=some (.bool ov) ∧
      w'.cell? ⟨gl,0,none⟩=some (.int .i64 (p0:Int))∧w'.cell? ⟨gl,1,none⟩=some (.int .i64 (p1:Int))∧w'.cell? ⟨gl,2,none⟩=some (.int .i64 (p2:Int))∧w'.cell? ⟨gl,3,none⟩=some (.int .i64 (p3:Int))∧w'.cell? ⟨gl,4,none⟩=some (.int .i64 (q0:Int))∧w'.cell? ⟨gl,5,none⟩=some (.int .i64 (q1:Int))∧w'.cell? ⟨gl,6,none⟩=some (.int .i64 (q2:Int))∧w'.cell? ⟨gl,7,none⟩=some (.int .i64 (q3:Int)) ∧
      w'.cell? ⟨w.heap.size+1+1,0,none⟩=some (cv w' ⟨w.heap.size+1+1,0,none⟩)∧w'.cell? ⟨w.heap.size+1+1,1,none⟩=some (cv w' ⟨w.heap.size+1+1,1,none⟩)∧w'.cell? ⟨w.heap.size+1+1,2,none⟩=some (cv w' ⟨w.heap.size+1+1,2,none⟩) ∧
      w'.cell? ⟨w.heap.size+1+1+1,0,none⟩=some (cv w' ⟨w.heap.size+1+1+1,0,none⟩)∧w'.cell? ⟨w.heap.size+1+1+1,1,none⟩=some (cv w' ⟨w.heap.size+1+1+1,1,none⟩)∧w'.cell? ⟨w.heap.size+1+1+1,2,none⟩=some (cv w' ⟨w.heap.size+1+1+1,2,none⟩)∧w'.cell? ⟨w.heap.size+1+1+1,3,none⟩=some (cv w' ⟨w.heap.size+1+1+1,3,none⟩)∧w'.cell? ⟨w.heap.size+1+1+1,4,none⟩=some (cv w' ⟨w.heap.size+1+1+1,4,none⟩) ∧
      (∀o,w'.frozen? ⟨w.heap.size+1+1,o,none⟩=false)∧(∀o,w'.frozen? ⟨w.heap.size+1+1+1,o,none⟩=false)∧UP w gl [.slice A d.n cp,.slice B m cq,.int .i64 (d.lp:Int)] [.int .i64 k,.int .i64 (x:Int),.int .i64 (y:Int),.int .i64 sg,.bool ov] [.int .i64 (p0:Int),.int .i64 (p1:Int),.int .i64 (p2:Int),.int .i64 (p3:Int),.int .i64 (q0:Int),.int .i64 (q1:Int),.int .i64 (q2:Int),.int .i64 (q3:Int)] w')
      ((go_split_ands;refine UP.all ?_;(repeat (first | (with_reducible assumption) | (with_reducible exact U5.out) | (with_reducible refine UP.setD ?_ _ _) | (with_reducible refine UP.setM ?_ _ _) | (with_reducible refine UP.alloc ?_ _) | (with_reducible refine UP.drew ?_) | (with_reducible refine UP.below ?_ hb7) | (with_reducible refine UP.below ?_ hb6)))))
      (first
        | (have hx6 := hb6
           clear hx6
           go_at_call 93
           refine Calls.mono (pushed_v d hd A B cp cq m x y k sg ov p0 p1 p2 p3 q0 q1 q2 q3 _ HM.out ?_ hxy k2 k3 j0 j3 j1) ?_
           ·exact (HG.out.keep (((U5.out.alloc (.cells #[.int .i64 (x:Int),.int .i64 (y:Int)] 3)).drew.below hb6)).bel)
           rintro e w7 ⟨XX,YY,SS,bb,rfl,hpus,hb7⟩
           have HPUS:=hide hpus
           clear hpus)
        | (go_at_call 83
           refine Calls.mono (shrunk_sl [x,y] d.sg LB ((d.lp:Int)+(ca:Int)+(cb:Int)) A (some ⟨g2,0,none⟩) (some ⟨w5.heap.size,0,none⟩) d.n m 2 cp c2 2 _ ?_ ?_ ?_ (Pl.few_two hxy) HM.out HCAP.out.1 HCAP.out.2 (by omega) (by omega) HLB.out) ?_
           ·exact KS.out
           ·exact KM.out
           ·exact KG.out
           rintro e w6 ⟨A7,A8,c7,c8,rfl,owS,owM,hb6⟩
           have OWS:=hide owS
           have OWM:=hide owM
           clear owS owM))
     have U7:=hide ((((U5.out.alloc (.cells #[.int .i64 (x:Int),.int .i64 (y:Int)] 3)).drew.below hb6)).below hb7)
     clear s0 s1 s2 s3 s4 s5 s6 s7 t0 t1 t2 t3 t4 t5 t6 t7 p0' p1' p2' q0' q1' q2' q3' q4'
     obtain ⟨vs6,r6,l6⟩:=U7.out.rd
     obtain ⟨us6,t6,k6⟩:=U7.out.rm
     go_wp2
     refine bodyPost_ret (v := .tuple #[.agg #[.slice A7 (Pl.left d.sg.length [x,y]).length c7,.slice A8 (4 * (Pl.left d.sg.length [x,y]).length) c8,.int .i64 ((d.lp:Int)+(ca:Int)+(cb:Int))],.agg #[.int .i64 3,.int .i64 XX,.int .i64 YY,.int .i64 SS,.bool bb],.int .i64 0]) ?_ rfl ?_
     ·obtain ⟨e0,e1,e2,e3,e4,e5,e6,e7⟩:=fin8 r6 t6 l6 k6 (by omega) (.slice A7 (Pl.left d.sg.length [x,y]).length c7) (.slice A8 (4 * (Pl.left d.sg.length [x,y]).length) c8) (.int .i64 ((d.lp:Int)+(ca:Int)+(cb:Int))) (.int .i64 3) (.int .i64 XX) (.int .i64 YY) (.int .i64 SS) (.bool bb)
      simp [results,Try.results51,go_sem,e0,e1,e2,e3,e4,e5,e6,e7]
     ·have hn7:(unpDl d ⟨p0,p1,p2,p3,q0,q1,q2,q3⟩ x y).n=(Pl.left d.sg.length [x,y]).length:=by unfold unpDl Pl.Dg.n;exact Pl.shrS_len _ _
      have hlp7:((unpDl d ⟨p0,p1,p2,p3,q0,q1,q2,q3⟩ x y).lp:Int)=(d.lp:Int)+(ca:Int)+(cb:Int):=by show ((unpL d _:Nat):Int)=_;rw [E7.out];omega
      have hbs:w.heap.size+1+1+1<(w5.alloc (.cells #[.int .i64 (x:Int),.int .i64 (y:Int)] 3)).drew.heap.size+2:=by simp;omega
      refine ⟨fun h=>absurd E8.out h,fun _=>⟨i,HL.out,?_⟩,below8 U7.out.bel _ _ _ _ _ _ _ _⟩
      rw [←HLL.out,HPUS.out]
      refine ⟨A7,A8,c7,c8,?_,?_,?_⟩
      ·rw [hn7,hlp7]
       rfl
      ·rw [hn7]
       exact own_intsT (c:=c7) (own8 (own_keep OWS.out hb7 (Nat.le_refl _)) hbs _ _ _ _ _ _ _ _)
      ·rw [hn7]
       refine own_intsT (c:=c8) (own8 (?_:w7.ownsRow _ _ _ _ _ _) hbs _ _ _ _ _ _ _ _)
       rw [map_nats]
       have:=own_keep OWM.out hb7 (Nat.le_refl _)
       rw [HLBE.out] at this
       exact this
end Go.Proofs.Ytobbepmlmbbamaa
end
section
namespace Go.Proofs.Ytobbepmlmbbamaa
open Go Go.RowKit
def Gl (ps:List Int)(k i:Nat):List Nat:=(List.range k).filter (fun c=>decide (Pl.pv ps c=(i:Int)))
theorem Gl_succ (ps:List Int)(k i:Nat):Gl ps (k+1) i=Gl ps k i++if Pl.pv ps k=(i:Int) then [k] else []:=by
 unfold Gl
 rw [List.range_succ,List.filter_append]
 by_cases h:Pl.pv ps k=(i:Int) <;> simp [List.filter_cons,h]
theorem Gl_len (ps:List Int)(k i:Nat):(Gl ps k i).length≤k:=by
 unfold Gl
 have:=List.length_filter_le (fun c=>decide (Pl.pv ps c=(i:Int))) (List.range k)
 simpa using this
theorem mem_Gl {ps:List Int}{k i c:Nat}:c ∈ Gl ps k i↔c<k∧Pl.pv ps c=(i:Int):=by unfold Gl;simp
def gv (vs:List Value)(i:Nat):Value:=vs.getD i (.slice none 0 0)
structure Grp (w:World) (g P:Nat) (ps:List Int) (k:Nat) (vs:List Value) (W:World):Prop where
 len:vs.length=P
 row:Row W g 22 vs
 own:∀i,i<P→W.ownsRow (g+1) 3 1 (gv vs i) (Gl ps k i).length ((Gl ps k i).map (fun k:Nat=>Value.int .i64 k))
 ne:∀i j,i<P→j<P→i≠j→∀b,(gv vs i).ownBlock=some b→(gv vs j).ownBlock≠some b
 bel:Below w.heap.size w W
 lo:w.heap.size≤g
theorem Grp.below {w:World}{g P:Nat}{ps:List Int}{k:Nat}{vs:List Value}{W W':World}(h:Grp w g P ps k vs W)(hb:Below W.heap.size W W'):Grp w g P ps k vs W' :=
 ⟨h.len,h.row.below hb,fun i hi=>own_keep (h.own i hi) hb (Nat.le_refl _),h.ne,h.bel.trans (hb.mono h.bel.size),h.lo⟩
theorem gv_set {vs:List Value}{q:Nat}(hq:q<vs.length)(v:Value)(i:Nat):gv (vs.set q v) i=if i=q then v else gv vs i:=by
 unfold gv
 rw [List.getD_eq_getElem?_getD,List.getD_eq_getElem?_getD,List.getElem?_set]
 by_cases h:q=i
 ·subst h;simp [hq]
 ·rw [if_neg h,if_neg (fun e=>h e.symm)]
theorem Grp.put {w:World}{g P:Nat}{ps:List Int}{k q:Nat}{vs:List Value}{W W2:World}{v':Value}{g':Nat}(h:Grp w g P ps k vs W)(hq:q<P)(hp:Pl.pv ps k=(q:Int))
 (own:W2.ownsRow (g+1) 3 1 v' ((Gl ps k q).length+1) ((Gl ps k q).map (fun k:Nat=>Value.int .i64 k)++[.int .i64 (k:Nat)])) (gr:W.grownBy W2 (gv vs q).ownBlock) (hv:v'.ownBlock=some g') (hat:(gv vs q).ownBlock=some g'∨g'=W.heap.size) :
 Grp w g P ps (k+1) (vs.set q v') (W2.setCell ⟨g,q,none⟩ v'):=by
 have hql:q<vs.length:=by rw [h.len];exact hq
 have hlt:=fun i hi=>(h.own i hi).lt
 refine ⟨by rw [List.length_set,h.len],(h.row.grown gr ?_).set q v',fun i hi=>?_,fun i j hi hj hij b e1 e2=>?_,(h.bel.grown gr h.bel.size (fun b e=>by have:=(hlt q hq b e).1;have:=h.lo;omega)).setCell h.lo _,h.lo⟩
 ·intro e
  have:=(hlt q hq g e.symm).1
  omega
 ·rw [gv_set hql,Gl_succ]
  by_cases e:i=q
  ·subst e
   rw [if_pos rfl,if_pos hp]
   refine ownsRow_setCell_below ?_ (by show g<g+1;omega) _
   simpa using own
  ·rw [if_neg e,if_neg (by omega),List.append_nil]
   refine ownsRow_setCell_below ((h.own i hi).kept gr ?_) (by show g<g+1;omega) _
   cases hm:(gv vs i).ownBlock with
   | none=>exact .inl rfl
   | some b=>exact .inr (fun e'=>h.ne i q hi hq e b hm e'.symm)
 ·rw [gv_set hql] at e1 e2
  by_cases ei:i=q
  ·rw [if_pos ei,hv] at e1
   injection e1 with e1
   rw [if_neg (by omega)] at e2
   rcases hat with e | e
   ·exact h.ne q j hq hj (by omega) g' e (by rw [e2,e1])
   ·have:=(hlt j hj b e2).2
    omega
  ·rw [if_neg ei] at e1
   by_cases ej:j=q
   ·rw [if_pos ej,hv] at e2
    injection e2 with e2
    rcases hat with e | e
    ·exact h.ne i q hi hq ei g' (by rw [e1,e2]) e
    ·have:=(hlt i hi b e1).2
     omega
   ·rw [if_neg ej] at e2
    exact h.ne i j hi hj hij b e1 e2
def GraphPost (d:Pl.Dg)(w:World)(e:Ending)(w':World):Prop :=
 ∃(A:Option Addr) (c P:Nat) (ps:List Int) (vs:List Value),e = .returned (.slice A P c)∧P≤d.n∧Pl.LB d ps P∧(∀a,a<d.n→0≤Pl.pv ps a)∧RowT w' 22 A P vs∧Vs w' vs ((List.range P).map (Gl ps d.n))∧Below w.heap.size w w'∧Far w.heap.size vs
theorem run_rows (n:Nat)(hn:n≤100000)(w:World):(Instr.makeSlice 57 (.int .i64 (n:Int)) (.int .i64 (n:Int))).run Try.prog w = .ok (.slice (some ⟨w.heap.size,0,none⟩) n n) (w.alloc (.cells (Array.replicate n (Value.slice none 0 0)) 22)):=by
 obtain ⟨i0,hi,hz0,hz1,hz2⟩:=info_parts rowInfo
 have:=run_make (P:=Try.prog) w 57 22 i0 (.slice none 0 0) Try.underlying57 hi hz0 .i64 .i64 n n (by omega) (Int.le_refl _) (by rw [hz2];omega) (by omega)
 rw [hz1,Nat.mul_one,Int.toNat_natCast,show madeCells (Value.cells (.slice none 0 0)) n=(List.replicate n (.slice none 0 0)).toArray from made_rep _ _] at this
 exact this
theorem Row.gv {W:World}{g:Nat}{t:TypeId}{vs:List Value}(h:Row W g t vs){q:Nat}(hq:q<vs.length):W.cell? ⟨g,q,none⟩=some (gv vs q):=by
 rw [h.cell hq]
 unfold Go.Proofs.Ytobbepmlmbbamaa.gv
 rw [List.getD_eq_getElem?_getD,List.getElem?_eq_getElem hq];rfl
theorem range_get {P i:Nat}{l:List Nat}{f:Nat→List Nat}(e:((List.range P).map f)[i]? = some l):i<P∧l=f i:=by
 rw [List.getElem?_map] at e
 by_cases h:i<P
 ·rw [List.getElem?_range h] at e
  injection e with e
  exact ⟨h,e.symm⟩
 ·rw [List.getElem?_eq_none (by simpa using Nat.le_of_not_lt h)] at e
  cases e
theorem Grp.vs {w:World}{g P:Nat}{ps:List Int}{k:Nat}{vs:List Value}{W:World}(h:Grp w g P ps k vs W):Vs W vs ((List.range P).map (Gl ps k)):=by
 refine ⟨by simp [h.len],fun i l e=>?_⟩
 obtain ⟨hi,rfl⟩:=range_get e
 have ho:=h.own i hi
 obtain ⟨A,c,e2⟩:=owns_slice ho
 refine ⟨Go.Proofs.Ytobbepmlmbbamaa.gv vs i,?_,A,c,e2,by rw [e2] at ho;exact own_rowT ho⟩
 unfold Go.Proofs.Ytobbepmlmbbamaa.gv
 rw [List.getD_eq_getElem?_getD,List.getElem?_eq_getElem (by rw [h.len];exact hi)];rfl
theorem Grp.far {w:World}{g P:Nat}{ps:List Int}{k:Nat}{vs:List Value}{W:World}(h:Grp w g P ps k vs W):Far w.heap.size vs:=fun v hv b hb=>by
 obtain ⟨i,hi,e⟩:=List.mem_iff_getElem.1 hv
 have h1:Go.Proofs.Ytobbepmlmbbamaa.gv vs i=v:=by unfold Go.Proofs.Ytobbepmlmbbamaa.gv;rw [List.getD_eq_getElem?_getD,List.getElem?_eq_getElem hi];exact e
 have h2:=(h.own i (by rw [←h.len];exact hi)).lt b (by rw [h1];exact hb)
 have:=h.lo
 omega
set_option maxRecDepth 100000 in
set_option maxHeartbeats 2000000 in
theorem graph_any (d:Pl.Dg)(hd:Pl.Valid d)(A B:Option Addr)(cp cq m:Nat)(w:World)(hm:m=4 * d.n)(hg:DgAt w A B d) :
 Calls Try.prog 91 #[.agg #[.slice A d.n cp,.slice B m cq,.int .i64 d.lp]] w (GraphPost d w):=by
 have hn:=hd.wf.few
 have HM:=hide hm
 have HG:=hide hg
 have B0:=hide (show Below w.heap.size w (w.alloc (.cells #[.slice A d.n cp,.slice B m cq,.int .i64 d.lp] 24)) from (Below.refl _ _).alloc (Nat.le_refl _) _)
 have X0:=hide (show Row (w.alloc (.cells #[.slice A d.n cp,.slice B m cq,.int .i64 d.lp] 24)) w.heap.size 24 [.slice A d.n cp,.slice B m cq,.int .i64 d.lp] from Row.new w _ [_,_,_])
 clear hg
 subst hm
 go_enter Try.func91,Try.ntmps91
 go_wp2_with fail
 refine (valid_yes d hd A B cp cq _ _ rfl (HG.out.keep B0.out)).mono ?_
 rintro e w1 ⟨rfl,hb1⟩
 have B1:=hide (B0.out.trans (hb1.mono B0.out.size))
 have X1:=hide (X0.out.below hb1)
 obtain ⟨f0,f1,f2,f3⟩:=box3 X1.out
 clear hb1
 go_wp2_with fail
 refine (label_any d hd.wf A B cp cq _ _ (HG.out.keep B1.out)).mono ?_
 rintro e w2 ⟨ps,P,gp,rfl,hlb,hall,hgp,hir,hb2⟩
 have HLB:=hide hlb
 have HALL:=hide hall
 have hPn:=hlb.le
 have HIR:=hide hir
 have B2:=hide (B1.out.trans (hb2.mono B1.out.size))
 have hgps:=hir.lt
 have hps:ps.length=d.n:=hlb.len
 have HPS:=hide hps
 clear hlb hall hir hb2 f0 f1 f2 f3 hps
 have hmk:=fun W:World=>run_rows P (by omega) W
 have H0:=hide (show Grp w w2.heap.size P ps 0 (List.replicate P (.slice none 0 0)) (w2.alloc (.cells (Array.replicate P (Value.slice none 0 0)) 22)) from by
  have hgv:∀i,gv (List.replicate P (.slice none 0 0)) i = .slice none 0 0:=fun i=>by
   unfold Go.Proofs.Ytobbepmlmbbamaa.gv
   rw [List.getD_eq_getElem?_getD,List.getElem?_replicate]
   split <;> rfl
  refine ⟨by simp,?_,fun i hi=>?_,fun i j hi hj hij b e=>?_,B2.out.alloc B2.out.size _,B2.out.size⟩
  ·have:=Row.new w2 22 (List.replicate P (.slice none 0 0))
   simpa using this
  ·rw [hgv];exact World.ownsRow_nil _ _ _ _
  ·rw [hgv] at e;simp [Value.ownBlock] at e)
 have HI0:=hide (show IRow (w2.alloc (.cells (Array.replicate P (Value.slice none 0 0)) 22)) gp ps from Row.alloc HIR.out _)
 go_wp2
 clear hmk
 obtain ⟨gg,hgg⟩:∃gg,gg=w2.heap.size:=⟨_,rfl⟩
 rw [←hgg] at H0 hgps ⊢
 have HGG:=hide hgg
 go_loopg [20] d.n (fun g i wx=>∃(k:Nat) (vs:List Value),k+g=d.n∧i = .int .i64 k∧Grp w gg P ps k vs wx∧IRow wx gp ps)
 case atStart=>exact ⟨0,_,by omega,rfl,by have:=H0.out;rw [hgg] at this ⊢;exact this,HI0.out⟩
 case round =>
  clear H0 HI0 HIR hgg HGG
  obtain ⟨k,vs,hkg,rfl,hgr,hir⟩:=hrel
  have HKG:=hide hkg
  have hkn:k≤d.n:=by omega
  have HGR:=hide hgr
  have HIR:=hide hir
  have hsz:=hgr.row.lt
  clear hkg hgr hir
  by_cases hlt:k<d.n
  ·have c1:=HIR.out.cell (i:=k) (by rw [HPS.out];exact hlt)
   have h0:=HALL.out k hlt
   have h1:=(HLB.out.lo k hlt).2
   obtain ⟨q,hq⟩:=Int.eq_ofNat_of_zero_le h0
   rw [hq] at c1 h1
   have HQ:=hide hq
   clear hq h0
   have hqP:q<P:=by omega
   have hql:q<vs.length:=by rw [HGR.out.len];exact hqP
   have c2:=HGR.out.row.gv hql
   have fr2:=HGR.out.row.free q
   obtain ⟨vq,hvq⟩:∃v,v=gv vs q:=⟨_,rfl⟩
   rw [←hvq] at c2
   have HVQ:=hide hvq
   clear hvq
   have iq:(0:Int)≤(q:Int):=by omega
   have jq:(q:Int)<(P:Int):=by omega
   have hgl:=Gl_len ps k q
   obtain ⟨i0,hi0,hz0,hz1,hz2⟩:=info_parts intInfo
   have OQ:=hide (show wr.ownsRow (gg+1) 3 1 vq (Gl ps k q).length ((Gl ps k q).map (fun k:Nat=>Value.int .i64 k)) by rw [HVQ.out];exact HGR.out.own q hqP)
   go_wp2_with (at_builtin;refine wpList_append_lies _ (by rfl) _ _ 22 (by rfl) (gg+1) 3 i0 (.int .i64 0) 1 8 Try.underlying22 hi0 hz0 hz1 hz2 rfl (by omega) vq (Gl ps k q).length _ (by rfl) (OQ.out.alloc _) ⟨wr.heap.size,0,none⟩ 1 1 [.int .i64 (k:Nat)] (by rfl) (by rfl) (one_news wr (.int .i64 (k:Nat))) (by simp [Value.oneCell']) (by omega) (by unfold maxLen;omega) (by omega) (by simp;omega) (wr.heap.size+1) (by simp) ?_;intro g3 c3 w3 own3 grow3 at3 lt3;have hrow3:=Row.grown (Row.alloc HGR.out.row (.cells #[.int .i64 (k:Nat)] 3)) grow3 (by intro e;have:=(OQ.out.lt gg e.symm).1;omega);have cq3:=hrow3.gv hql;have fq3:=hrow3.free q;have OWN3:=hide own3;have GR3:=hide grow3;have AT3:=hide at3;have HROW3:=hide hrow3;clear own3 grow3 at3 hrow3)
   go_roundg (gk - 1)
   case measure=>have:=HKG.out;omega
   case rel =>
    refine ⟨k+1,vs.set q (.slice (some ⟨g3,0,none⟩) ((Gl ps k q).length+1) c3),by have:=HKG.out;omega,by go_num,?_,?_⟩
    ·exact Grp.put (HGR.out.below ((Below.refl _ _).alloc (Nat.le_refl _) (.cells #[.int .i64 (k:Nat)] 3))) hqP HQ.out OWN3.out (by rw [←HVQ.out];exact GR3.out) rfl (by rw [←HVQ.out];simpa using AT3.out)
    ·refine Row.other (Row.grown (Row.alloc HIR.out _) GR3.out ?_) (by show gp≠gg;omega) _
     intro e
     have:=(OQ.out.lt gp e.symm).1
     omega
  ·go_wp2
   go_ret
   obtain rfl:k=d.n:=by omega
   refine ⟨_,_,P,ps,vs,rfl,hPn,HLB.out,HALL.out,?_,HGR.out.vs,HGR.out.bel,HGR.out.far⟩
   refine ⟨HGR.out.len,fun _=>⟨gg,0,vs.toArray,(0,0),rfl,HGR.out.row,fun j u hu=>?_⟩⟩
   rw [Nat.zero_add]
   simpa using hu
end Go.Proofs.Ytobbepmlmbbamaa
end
section
namespace Go.Proofs.Ytobbepmlmbbamaa
open Go Go.RowKit
def RClosedPost (l:List Nat)(base g n cap a b:Nat)(w:World)(e:Ending)(w':World):Prop :=
 e = .returned (.bool (decide (l.getD a 0≠b)))∧OwnN w' base g n cap (if l.getD a 0=b then l else jn l (l.getD a 0) (l.getD b 0))∧w.grownBy w' (some g)
set_option maxRecDepth 100000 in
set_option maxHeartbeats 1000000 in
theorem rclosed_any (base g n cap a b na ca:Nat)(A:Option Addr)(lp:Value)(l:List Nat)(w:World)(h:OwnN w base g n cap l)(ha:a<n)(hb:b<n)(hn:n≤100000)(hl:∀k,k<n→l.getD k 0<n) :
 Calls Try.prog 105 #[.agg #[.slice A na ca,.slice (some ⟨g,0,none⟩) n cap,lp],.int .i64 (a:Int),.int .i64 (b:Int)] w (RClosedPost l base g n cap a b w):=by
 have c1:=h.cell ha
 have c2:=h.cell hb
 have la:=hl a ha
 have lb:=hl b hb
 obtain ⟨x,hx⟩:∃x,x=l.getD a 0:=⟨_,rfl⟩
 obtain ⟨y,hy⟩:∃y,y=l.getD b 0:=⟨_,rfl⟩
 rw [←hx] at c1 la
 rw [←hy] at c2 lb
 have hgl:g<w.heap.size:=(World.ownsRow.lt h g rfl).2
 have HH:=hide (OwnN.alloc h (.cells #[.slice A na ca,.slice (some ⟨g,0,none⟩) n cap,lp] 24))
 have G0:=hide (grownBy_alloc w (.cells #[.slice A na ca,.slice (some ⟨g,0,none⟩) n cap,lp] 24) (some g))
 have HX:=hide hx
 have HY:=hide hy
 have X0:=hide (row_at (W:=w) (g:=w.heap.size) (t:=24) (vs:=[.slice A na ca,.slice (some ⟨g,0,none⟩) n cap,lp]) rfl)
 clear h hx hy
 go_enter Try.func105,Try.ntmps105
 go_upto_region 1 with fail
 obtain ⟨W1,hW1⟩:∃W1:World,W1=w.alloc (.cells #[.slice A na ca,.slice (some ⟨g,0,none⟩) n cap,lp] 24):=⟨_,rfl⟩
 have hal:=(Below.refl w.heap.size w).alloc (Nat.le_refl _) (.cells #[.slice A na ca,.slice (some ⟨g,0,none⟩) n cap,lp] 24)
 replace c1:=cell_below c1 hal
 replace c2:=cell_below c2 hal
 clear hal
 have hX:=X0.out
 simp only [List.toArray] at hX
 rw [←hW1] at HH G0 c1 c2 hX ⊢
 clear hW1 X0
 obtain ⟨d0,d1,d2,_⟩:=box3 hX
 clear hX
 by_cases hxb:x=b
 ·subst hxb
  have E:=hide HX.out.symm
  go_wp2
  go_ret
  refine ⟨ret_bool ?_,?_,G0.out⟩
  ·simp only [E.out];simp
  ·rw [if_pos HX.out.symm];exact HH.out
 ·have t1:((x:Int) == (b:Int))=false:=by rw [beq_eq_false_iff_ne];omega
  have i1:(a:Int)<(n:Int):=by omega
  have i2:(b:Int)<(n:Int):=by omega
  have i3:(0:Int)≤(a:Int):=by omega
  have i4:(0:Int)≤(b:Int):=by omega
  go_wp2_with fail
  go_still_tail 11,(by kernel_rfl)
  change wpList _ _ _ _ _ W1.drew
  obtain ⟨W6,hW6⟩:∃W6:World,W6=W1.drew:=⟨_,rfl⟩
  rw [←hW6]
  have O6:=hide (OwnN.drew' hW6 HH.out)
  have HW:=hide hW6
  clear hW6 c1 c2
  go_wp2_with fail
  refine (rjoin_any base g n cap x y na ca A lp l W6 O6.out la lb hn).mono ?_
  rintro e w5 ⟨rfl,own5,gr5⟩
  have OWN5:=hide own5
  have GR5:=hide gr5
  clear own5 gr5
  go_wp2_with fail
  go_ret
  have hne:¬l.getD a 0=b:=by rw [←HX.out];exact hxb
  refine ⟨ret_bool ?_,?_,grownBy_trans G0.out (grown_drew HW.out GR5.out)⟩
  ·simp only [decide_not];rw [decide_eq_false hne];rfl
  ·rw [if_neg hne,←HX.out,←HY.out];exact OWN5.out
end Go.Proofs.Ytobbepmlmbbamaa
end
section
namespace Go.Proofs.Ytobbepmlmbbamaa
open Go.RowKit
theorem m_get0 {d:Pl.Dg}(hd:Pl.Wf d){h:Nat}(hh:h<4 * d.n):d.mt.getD h 0=d.m h:=by
 have hl:=hd.len
 unfold Pl.Dg.m
 rw [List.getD_eq_getElem?_getD,List.getD_eq_getElem?_getD,List.getElem?_eq_getElem (by omega)];rfl
theorem flat_congr {f g:Nat→Nat}:∀{l:List Nat},(∀c,c ∈ l→Pl.four f c=Pl.four g c)→l.flatMap (Pl.four f)=l.flatMap (Pl.four g)
 | [],_=>rfl
 | c :: l,h=>by rw [List.flatMap_cons,List.flatMap_cons,h c (by simp),flat_congr (l:=l) fun c hc=>h c (by simp [hc])]
theorem shrM_congr {gs:List Nat}{n:Nat}{a b:List Nat}(h:∀k,k<4 * n→k / 4 ∉ gs→a.getD k 0=b.getD k 0):Pl.shrM gs n a=Pl.shrM gs n b:=by
 unfold Pl.shrM
 refine flat_congr fun c hc=>?_
 have hn:=Pl.mem_left hc
 have hg:c ∉ gs:=by
  unfold Pl.left at hc
  have:=(List.mem_filter.1 hc).2
  simpa using this
 unfold Pl.four
 simp only []
 rw [h (4 * c) (by omega) (by rw [show 4 * c / 4=c by omega];exact hg),h (4 * c+1) (by omega) (by rw [show (4 * c+1) / 4=c by omega];exact hg),h (4 * c+2) (by omega) (by rw [show (4 * c+2) / 4=c by omega];exact hg),h (4 * c+3) (by omega) (by rw [show (4 * c+3) / 4=c by omega];exact hg)]
def upM (d:Pl.Dg)(l:Ln):List Nat:=clo (clo d.mt l.p3 l.q3) l.q0 l.p2
def upL (d:Pl.Dg)(l:Ln):Nat:=d.lp+clk d.mt l.p3 l.q3+clk (clo d.mt l.p3 l.q3) l.q0 l.p2
theorem unp_same {d:Pl.Dg}(hd:Pl.Wf d){l:Ln}{x y:Nat}(hxy:x<y)(hy:y<d.n)(ha:l.p2<4 * d.n)(hb:l.q0<4 * d.n)(hc:l.p3<4 * d.n)(he:l.q3<4 * d.n)
 (ga:l.p2 / 4=x∨l.p2 / 4=y) (gb:l.q0 / 4=x∨l.q0 / 4=y) (gc:l.p3 / 4=x∨l.p3 / 4=y) (ge:l.q3 / 4=x∨l.q3 / 4=y)
 (d1:l.p2≠l.q0) (d2:l.p2≠l.p3) (d3:l.p2≠l.q3) (d4:l.q0≠l.p3) (d5:l.q0≠l.q3) (d6:l.p3≠l.q3) :
 unpDl d l x y=⟨Pl.shrS [x] (Pl.shrS [y] d.sg),Pl.shrM [x] (d.n - 1) (Pl.shrM [y] d.n (upM d l)),upL d l⟩:=by
 have hl:=hd.len
 have hlt:∀k,k<d.mt.length→d.mt.getD k 0<d.mt.length:=fun k hk=>by
  rw [m_get0 hd (by omega),hl];exact hd.lt k (by omega)
 have hinv:∀k,k<d.mt.length→d.mt.getD (d.mt.getD k 0) 0=k:=fun k hk=>by
  rw [m_get0 hd (show k<4 * d.n by omega),m_get0 hd (hd.lt k (by omega)),hd.inv k (by omega)]
 have hne:∀k,k<d.mt.length→d.mt.getD k 0≠k:=fun k hk=>by
  rw [m_get0 hd (by omega)];exact hd.ne k (by omega)
 have hlp:=clo_comm hlt hinv (a:=l.p2) (b:=l.q0) (c:=l.p3) (e:=l.q3) (by omega) (by omega) (by omega) (by omega) d1 d2 d3 d4 d5 d6
 have hM:Pl.shrM [x,y] d.n (unpB d l)=Pl.shrM [x,y] d.n (upM d l):=shrM_congr fun k hk hg=>by
  simp only [List.mem_cons,List.not_mem_nil,or_false,not_or] at hg
  exact clo_same hlt hinv hne (by omega) (by omega) (by omega) (by omega) (by omega) d1 d2 d3 d4 d5 d6 (by omega) (by omega) (by omega) (by omega)
 have hS:Pl.shrS [x] (Pl.shrS [y] d.sg)=Pl.shrS [x,y] d.sg:=Pl.drop2_S hxy hy
 obtain ⟨N,hN⟩:∃N,d.n=N+1:=⟨d.n - 1,by omega⟩
 have hM2:Pl.shrM [x] (d.n - 1) (Pl.shrM [y] d.n (upM d l))=Pl.shrM [x,y] d.n (upM d l):=by
  rw [hN]
  exact Pl.drop2_M hxy (by omega)
 have hL:unpL d l=upL d l:=by
  unfold unpL upL
  have:unpA d l=clo d.mt l.p2 l.q0:=rfl
  rw [this]
  unfold clk at hlp
  unfold clk
  omega
 unfold unpDl
 rw [hM,hM2,hS,hL]
end Go.Proofs.Ytobbepmlmbbamaa
end
section
namespace Go.Proofs.Ytobbepmlmbbamaa
open Go.RowKit
theorem jn_sym (l:List Nat)(a b:Nat):jn l b a=jn l a b:=jn_comm l a b
theorem jn_swq (l:List Nat){a b c e:Nat}(h1:a≠c)(h2:a≠e)(h3:b≠c)(h4:b≠e):jn (jn l a b) c e=jn (jn l c e) a b:=by
 unfold jn
 rw [List.set_comm _ _ h3,List.set_comm (l:=l) _ _ h1,List.set_comm _ _ h4,List.set_comm _ _ h2]
def rk0 (d:Pl.Dg)(x y:Int)(ov:Bool):List Nat:=jn (jn (d.mt++List.replicate 8 0) (pP d x y ov 1) (pQ d x y ov 1)) (pP d x y ov 0) (pQ d x y ov 2)
theorem rk0_eq (d:Pl.Dg)(x y:Int)(ov:Bool):rk0 d x y ov=pk0 d x y ov:=jn_sym _ _ _
def rlead (l:List Nat)(x:Int)(i o:Nat):List Nat:=if x<0 then jn l i o else jn (jn l i x.toNat) o (l.getD x.toNat 0)
def rkM (d:Pl.Dg)(x y sg:Int)(ov:Bool):List Nat :=
 if sg=1∧0≤x then jn (jn (jn (rk0 d x y ov) (pP d x y ov 3) x.toNat) (pQ d x y ov 3) (pQ d x y ov 0)) (pP d x y ov 2) ((rk0 d x y ov).getD x.toNat 0)
 else if sg = -1 then jn (jn (jn (rk0 d x y ov) (pQ d x y ov 0) x.toNat) (pP d x y ov 2) (pP d x y ov 3)) (pQ d x y ov 3) ((rk0 d x y ov).getD x.toNat 0)
 else if sg=1 then jn (jn (rk0 d x y ov) (pQ d x y ov 3) (pQ d x y ov 0)) (pP d x y ov 2) (pP d x y ov 3)
 else rlead (rlead (rk0 d x y ov) x (pP d x y ov 3) (pQ d x y ov 3)) y (pQ d x y ov 0) (pP d x y ov 2)
theorem un_lt (d:Pl.Dg)(x y:Int)(ov:Bool):un0 d x y ov<4∧un1 d x y ov<4:=by
 unfold un0 un1 lnS th0 th1
 constructor <;> (repeat' split) <;> omega
theorem pP_at (d:Pl.Dg)(x y:Int)(ov:Bool)(t:Nat):4 * d.n≤pP d x y ov t∧pP d x y ov t<4 * d.n+4:=by
 unfold pP plc;omega
theorem pQ_at (d:Pl.Dg)(x y:Int)(ov:Bool)(t:Nat):4 * d.n+4≤pQ d x y ov t∧pQ d x y ov t<4 * d.n+8:=by
 unfold pQ plc;omega
theorem pP_ne (d:Pl.Dg)(x y:Int)(ov:Bool){t t':Nat}(h:t<4)(h':t'<4)(hn:t≠t'):pP d x y ov t≠pP d x y ov t':=by
 have:=(un_lt d x y ov).1
 unfold pP plc;omega
theorem pQ_ne (d:Pl.Dg)(x y:Int)(ov:Bool){t t':Nat}(h:t<4)(h':t'<4)(hn:t≠t'):pQ d x y ov t≠pQ d x y ov t':=by
 have:=(un_lt d x y ov).2
 unfold pQ plc;omega
theorem jn_get_ne {l:List Nat}{a b k:Nat}(ha:k≠a)(hb:k≠b):(jn l a b).getD k 0=l.getD k 0:=by
 unfold jn
 rw [List.getD_eq_getElem?_getD,List.getElem?_set_ne (fun e=>hb e.symm),List.getElem?_set_ne (fun e=>ha e.symm),←List.getD_eq_getElem?_getD]
theorem rk0_get {d:Pl.Dg}(hd:Pl.Wf d)(x y:Int)(ov:Bool){k:Nat}(hk:k<4 * d.n):(rk0 d x y ov).getD k 0=d.m k:=by
 have:=pP_at d x y ov 0
 have:=pP_at d x y ov 1
 have:=pQ_at d x y ov 1
 have:=pQ_at d x y ov 2
 unfold rk0
 rw [jn_get_ne (by omega) (by omega),jn_get_ne (by omega) (by omega),←m_get0 hd hk,List.getD_eq_getElem?_getD,List.getElem?_append_left (by rw [hd.len];exact hk),←List.getD_eq_getElem?_getD]
theorem rkM_eq {d:Pl.Dg}(hd:Pl.Wf d){x y sg:Int}{ov:Bool}(hin:inR d.n ⟨3,x,y,sg,ov⟩)(hnr:sg=0→0≤x→0≤y→d.m x.toNat≠y.toNat):rkM d x y sg ov=pkM d x y sg ov:=by
 have hi:-2≤x∧x<4 * d.n ∧ -2≤y∧y<4 * d.n∧(if x≠y then sg=0 else if x<0 then sg=0∨sg=1 else sg=1∨sg = -1):=by
  have:=hin
  unfold inR at this
  simpa using this
 clear hin
 obtain ⟨h1,h2,h3,h4,h5⟩:=hi
 unfold rkM pkM
 by_cases c1:sg=1∧0≤x
 ·rw [if_pos c1,if_neg (by omega),if_pos c1.1,rk0_eq,←rk0_eq,rk0_get hd x y ov (by omega),jn_sym _ x.toNat]
 ·rw [if_neg c1]
  by_cases c2:sg = -1
  ·have hx : 0 ≤ x := by
    rcases Int.lt_or_le x 0 with q | q
    ·exfalso
     split at h5
     ·omega
     ·first
      | omega
      | (rw [if_pos q] at h5;omega)
    ·exact q
   rw [if_pos c2,if_neg (by omega),if_neg (by omega),if_pos c2,rk0_get hd x y ov (by omega),rk0_eq,jn_sym _ x.toNat]
  ·rw [if_neg c2]
   by_cases c3:sg=1
   ·rw [if_pos c3,if_pos (by omega),rk0_eq]
   ·have c0 : sg = 0 := by
     split at h5
     ·exact h5
     ·split at h5 <;> omega
    have hxy:0≤x→0≤y→x≠y:=fun hx hy e=>by
     rw [if_neg (fun q=>q e),if_neg (by omega)] at h5
     omega
    rw [if_neg c3,if_neg (by omega),if_neg c3,if_neg c2,←rk0_eq]
    unfold rlead leadM
    have P0:=pP_at d x y ov 2
    have P3:=pP_at d x y ov 3
    have Q0:=pQ_at d x y ov 0
    have Q3:=pQ_at d x y ov 3
    have n1:=pP_ne d x y ov (t:=3) (t':=2) (by omega) (by omega) (by omega)
    have n2:=pQ_ne d x y ov (t:=3) (t':=0) (by omega) (by omega) (by omega)
    by_cases hx:x<0
    ·rw [if_pos hx,if_pos hx]
     by_cases hy:y<0
     ·rw [if_pos hy,if_pos hy,jn_swq _ (by omega) n1 n2 (by omega)]
     ·rw [if_neg hy,if_neg hy,jn_get_ne (by omega) (by omega),rk0_get hd x y ov (by omega)]
      have hm:=hd.lt y.toNat (by omega)
      rw [jn_swq (rk0 d x y ov) (a:=pP d x y ov 3) (b:=pQ d x y ov 3) (by omega) (by omega) n2 (by omega)]
      rw [jn_swq _ (a:=pP d x y ov 3) (b:=pQ d x y ov 3) n1 (by omega) (by omega) (by omega),jn_sym _ y.toNat]
    ·rw [if_neg hx,if_neg hx]
     have hmx:=hd.lt x.toNat (by omega)
     by_cases hy:y<0
     ·rw [if_pos hy,if_pos hy,rk0_get hd x y ov (by omega)]
      rw [jn_swq _ (a:=pQ d x y ov 3) (b:=d.m x.toNat) n2 (by omega) (by omega) (by omega)]
      rw [jn_swq _ (a:=pP d x y ov 3) (b:=x.toNat) (by omega) n1 (by omega) (by omega),jn_sym _ x.toNat]
     ·have hne:x.toNat≠y.toNat:=by have:=hxy (by omega) (by omega);omega
      have hnm:d.m x.toNat≠y.toNat:=hnr c0 (by omega) (by omega)
      have hmy:=hd.lt y.toNat (by omega)
      have hnm2:d.m y.toNat≠x.toNat:=fun e=>hnm (by rw [←e,hd.inv _ (by omega)])
      have hmm:d.m x.toNat≠d.m y.toNat:=fun e=>hne (by rw [←hd.inv x.toNat (by omega),e,hd.inv _ (by omega)])
      rw [if_neg hy,if_neg hy,rk0_get hd x y ov (k:=x.toNat) (by omega),jn_get_ne (by omega) (by omega),jn_get_ne (by omega) (by omega),rk0_get hd x y ov (k:=y.toNat) (by omega)]
      rw [jn_swq _ (a:=pQ d x y ov 3) (b:=d.m x.toNat) n2 (by omega) (by omega) (by omega)]
      rw [jn_swq _ (a:=pP d x y ov 3) (b:=x.toNat) (by omega) (by omega) (by omega) (by omega)]
      rw [jn_swq _ (a:=pQ d x y ov 3) (b:=d.m x.toNat) (by omega) (by omega) (by omega) (by omega)]
      rw [jn_swq _ (a:=pP d x y ov 3) (b:=x.toNat) n1 (by omega) (by omega) (by omega)]
      rw [jn_sym _ y.toNat,jn_sym _ x.toNat]
theorem rk_sgn (d:Pl.Dg)(x y:Int)(ov:Bool):sgn2 (un0 d x y ov) (ov0 d x y ov)=(if (ov0 d x y ov+4 - un0 d x y ov) % 4=1 then -1 else 1)∧sgn2 (un1 d x y ov) (ov1 d x y ov)=(if (ov1 d x y ov+4 - un1 d x y ov) % 4=1 then -1 else 1):=by
 unfold sgn2 plc un0 un1 ov0 ov1 lnS th0 th1
 constructor <;> (cases ov <;> cases fwd d x <;> cases fwd d y <;> decide)
end Go.Proofs.Ytobbepmlmbbamaa
end
