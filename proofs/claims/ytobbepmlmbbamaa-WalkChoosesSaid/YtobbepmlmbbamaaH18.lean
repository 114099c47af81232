/-
 The texts Rzb.
-/
import Derived.Test.YtobbepmlmbbamaaH14
import Derived.Test.YtobbepmlmbbamaaH17
set_option linter.unusedVariables false
set_option linter.unusedSimpArgs false
section
namespace Go.Proofs.Ytobbepmlmbbamaa
open Go Go.RowKit
attribute [local go_sem ↓] Go.wp_at_zero Go.wp_at_succ
theorem pairInfo:(Try.prog.info? 86).map (fun i=>(i.zero,i.size,i.bytes))=some (some (.agg #[.int .i64 0,.int .i64 0]),2,16):=by kernel_rfl
def prs (l:List Nat):List Value:=l.map (fun k:Nat=>Value.int .i64 k)
def endL (d:Pl.Dg)(h q:Nat):List Nat:=(List.range (2 * q)).map (sU d h)
theorem endL_s (d:Pl.Dg)(h q:Nat):endL d h (q+1)=endL d h q++[sb d h q,sf d h q]:=by
 unfold endL
 rw [show 2 * (q+1)=2 * q+1+1 by omega,List.range_succ,List.range_succ,List.map_append,List.map_append]
 have e1:sU d h (2 * q)=sb d h q:=by unfold sU;rw [if_pos (by omega),show 2 * q / 2=q by omega]
 have e2:sU d h (2 * q+1)=sf d h q:=by unfold sU;rw [if_neg (by omega),show (2 * q+1) / 2=q by omega]
 simp [e1,e2]
theorem endL_len (d:Pl.Dg)(h q:Nat):(endL d h q).length=2 * q:=by unfold endL;simp
theorem sU_e (d:Pl.Dg)(h q:Nat):sU d h (2 * q)=sb d h q∧sU d h (2 * q+1)=sf d h q:=by
 constructor
 ·unfold sU;rw [if_pos (by omega),show 2 * q / 2=q by omega]
 ·unfold sU;rw [if_neg (by omega),show (2 * q+1) / 2=q by omega]
theorem two_news2 (W:World)(x y:Value):∀j v,[x,y][j]? = some v→(W.alloc (.cells #[x,y] 86)).cell? ((⟨W.heap.size,0,none⟩:Addr).add j)=some v :=
 World.news_of_block (cs:=#[x,y]) (t:=86) (fr:=(0,0)) (heap_alloc_new W _)
theorem own_far {W:World}{base b size n:Nat}{t:TypeId}{v:Value}{xs:List Value}(h:W.ownsRow base t size v n xs)(hb:v.ownBlock≠some b)(o:Nat)(u:Value):(W.setCell ⟨b,o,none⟩ u).ownsRow base t size v n xs:=by
 refine ⟨h.1,?_⟩
 rcases h.2 with hz | ⟨g,cap,cur,r1,r2,r3,r4⟩
 ·exact .inl hz
 ·refine .inr ⟨g,cap,cur,r1,r2,?_,r4⟩
  have hgb:g≠b:=fun e=>hb (by rw [r1,←e];rfl)
  exact (Below.heap_setCell W ⟨b,o,none⟩ u g hgb).trans r3
theorem own_belowS {W W':World}{base:Nat}{e:TypeId}{size n:Nat}{v:Value}{xs:List Value}(h:W.ownsRow base e size v n xs)(hb:Below W.heap.size W W'):W'.ownsRow base e size v n xs:=by
 refine ⟨h.1,?_⟩
 rcases h.2 with hz | ⟨g,cap,cur,r1,r2,r3,r4⟩
 ·exact .inl hz
 ·exact .inr ⟨g,cap,cur,r1,r2,(hb.block g (lt_of_heap r3)).trans r3,r4⟩
section
variable {base:Nat} {w W W' W2:World} {vS vM:Value} {n q:Nat} {lp:Int} {mv:List Value} {ss:List Int} {l:List Nat}
theorem RK.setFar (h:RK base w vS vM n q lp mv ss l W){b:Nat}(hb:w.heap.size+4≤b)(hS:vS.ownBlock≠some b)(hM:vM.ownBlock≠some b)(o:Nat)(v:Value):RK base w vS vM n q lp mv ss l (W.setCell ⟨b,o,none⟩ v):=by
 obtain ⟨vs,r1,l1⟩:=h.rd
 obtain ⟨us,r2,l2⟩:=h.rm
 exact ⟨h.d.other (by show _≠b;omega) _,h.m.other (by show _≠b;omega) _,⟨vs,r1.other (by show _≠b;omega) _,l1⟩,⟨us,r2.other (by show _≠b;omega) _,l2⟩,own_far h.s hS _ _,own_far h.o hM _ _,h.ne,h.bel.setCell (by have:=h.le;show base≤b;omega) _,h.le⟩
theorem RK.far (h:RK base w vS vM n q lp mv ss l W){r:Option Nat}(gr:W.grownBy W2 r)(hr:∀k,r=some k→w.heap.size+4≤k)(hS:∀g,vS.ownBlock=some g→g<w.heap.size)(hM:∀g,vM.ownBlock=some g→g<w.heap.size):RK base w vS vM n q lp mv ss l W2:=by
 obtain ⟨vs,r1,l1⟩:=h.rd
 obtain ⟨us,r2,l2⟩:=h.rm
 have key:∀{g:Nat},g<w.heap.size+4→some g≠r:=fun {g} hg e=>by have:=hr g e.symm;omega
 refine ⟨h.d.grown gr (key (by omega)),h.m.grown gr (key (by omega)),⟨vs,r1.grown gr (key (by omega)),l1⟩,⟨us,r2.grown gr (key (by omega)),l2⟩,?_,?_,h.ne,?_,h.le⟩
 ·refine h.s.kept gr ?_
  cases hm:vS.ownBlock with
  | none=>exact .inl rfl
  | some g=>exact .inr (fun e=>key (by have:=hS g hm;omega) e)
 ·refine h.o.kept gr ?_
  cases hm:vM.ownBlock with
  | none=>exact .inl rfl
  | some g=>exact .inr (fun e=>key (by have:=hM g hm;omega) e)
 ·exact h.bel.grown gr (by have:=h.bel.size;have:=h.le;omega) (fun k hk=>by have:=hr k hk;have:=h.le;omega)
end
structure SQ (base:Nat) (w w2:World) (vS vM:Value) (n q:Nat) (lp:Int) (mv:List Value) (ss:List Int) (l:List Nat) (gt:Nat) (tl:List Int) (v:Value) (qn:Nat) (E:List Nat) (W:World):Prop where
 k:RK base w vS vM n q lp mv ss l W
 t:IRow W gt tl
 e:W.ownsRow (gt+1) 86 2 v qn (prs E)
 lo:w.heap.size+4≤gt
 gt2:w2.heap.size=gt
 b2:Below w2.heap.size w2 W
 hS:∀g,vS.ownBlock=some g→g<w.heap.size
 hM:∀g,vM.ownBlock=some g→g<w.heap.size
section
variable {base:Nat} {w w2 W W' W2:World} {vS vM v v':Value} {n q gt qn:Nat} {lp:Int} {mv:List Value} {ss tl:List Int} {l E:List Nat}
theorem SQ.below (h:SQ base w w2 vS vM n q lp mv ss l gt tl v qn E W)(hb:Below W.heap.size W W'):SQ base w w2 vS vM n q lp mv ss l gt tl v qn E W' :=
 ⟨h.k.below hb,Row.below h.t hb,own_belowS h.e hb,h.lo,h.gt2,h.b2.trans (hb.mono h.b2.size),h.hS,h.hM⟩
theorem SQ.alloc (h:SQ base w w2 vS vM n q lp mv ss l gt tl v qn E W)(o:Obj):SQ base w w2 vS vM n q lp mv ss l gt tl v qn E (W.alloc o):=h.below ((Below.refl _ _).alloc (Nat.le_refl _) o)
theorem SQ.drewN (h:SQ base w w2 vS vM n q lp mv ss l gt tl v qn E W)(j:Nat):SQ base w w2 vS vM n q lp mv ss l gt tl v qn E (W.drewN j):=⟨h.k.drewN j,h.t,h.e,h.lo,h.gt2,Below.drewN' h.b2 j,h.hS,h.hM⟩
theorem SQ.setT (h:SQ base w w2 vS vM n q lp mv ss l gt tl v qn E W)(o:Nat)(u:Int):SQ base w w2 vS vM n q lp mv ss l gt (tl.set o u) v qn E (W.setCell ⟨gt,o,none⟩ (.int .i64 u)):=by
 have a:=h.lo
 refine ⟨h.k.setFar h.lo (fun e=>by have:=h.hS _ e;omega) (fun e=>by have:=h.hM _ e;omega) _ _,h.t.set o u,own_far h.e (fun e=>by have:=(h.e.lt _ e).1;omega) _ _,h.lo,h.gt2,h.b2.setCell (by have:=h.gt2;show _≤gt;omega) _,h.hS,h.hM⟩
theorem SQ.push (h:SQ base w w2 vS vM n q lp mv ss l gt tl v qn E W){a b:Nat}(own:W2.ownsRow (gt+1) 86 2 v' (qn+1) (prs E++[.int .i64 (a:Int),.int .i64 (b:Int)]))(gr:W.grownBy W2 v.ownBlock):SQ base w w2 vS vM n q lp mv ss l gt tl v' (qn+1) (E++[a,b]) W2:=by
 have a0:=h.lo
 have a1:=h.gt2
 refine ⟨h.k.far gr (fun k hk=>by have:=(h.e.lt k hk).1;omega) h.hS h.hM,Row.grown h.t gr (fun e=>by have:=(h.e.lt _ e.symm).1;omega),?_,h.lo,h.gt2,h.b2.grown gr h.b2.size (fun k hk=>by have:=(h.e.lt k hk).1;omega),h.hS,h.hM⟩
 unfold prs at own ⊢
 rw [List.map_append]
 exact own
end
structure SO (base:Nat) (w:World) (vS vM:Value) (n q:Nat) (lp:Int) (mv:List Value) (ss:List Int) (l:List Nat) (gt:Nat) (tl:List Int) (ge:Nat) (E:Nat→Nat) (gO g1 c1 g2 c2 b3:Nat) (L:List Nat) (W:World):Prop where
 k:RK base w vS vM n q lp mv ss l W
 t:IRow W gt tl
 e:∀j,j<6→W.cell? ⟨ge,j,none⟩=some (.int .i64 (E j:Nat))
 r:Row W gO 24 [.slice (some ⟨g1,0,none⟩) n c1,.slice (some ⟨g2,0,none⟩) q c2,.int .i64 lp]
 o1:W.ownsRow b3 3 1 (.slice (some ⟨g1,0,none⟩) n c1) n (ss.map (.int .i64))
 o2:OwnN W b3 g2 q c2 L
 ne:g1≠g2
 lo:w.heap.size+4≤gt
 l1:gt<b3
 l2:ge<b3
 hS:∀g,vS.ownBlock=some g→g<w.heap.size
 hM:∀g,vM.ownBlock=some g→g<w.heap.size
section
variable {base:Nat} {w W W' W2:World} {vS vM:Value} {n q gt ge gO g1 c1 g2 c2 b3 gV:Nat} {lp:Int} {mv bk:List Value} {ss tl:List Int} {l L L':List Nat} {E:Nat→Nat}
theorem SO.below (h:SO base w vS vM n q lp mv ss l gt tl ge E gO g1 c1 g2 c2 b3 L W)(hb:Below W.heap.size W W'):SO base w vS vM n q lp mv ss l gt tl ge E gO g1 c1 g2 c2 b3 L W' :=
 ⟨h.k.below hb,Row.below h.t hb,fun j hj=>cell_below (h.e j hj) hb,h.r.below hb,own_belowS h.o1 hb,own_belowS h.o2 hb,h.ne,h.lo,h.l1,h.l2,h.hS,h.hM⟩
theorem SO.alloc (h:SO base w vS vM n q lp mv ss l gt tl ge E gO g1 c1 g2 c2 b3 L W)(o:Obj):SO base w vS vM n q lp mv ss l gt tl ge E gO g1 c1 g2 c2 b3 L (W.alloc o):=h.below ((Below.refl _ _).alloc (Nat.le_refl _) o)
theorem SO.drew (h:SO base w vS vM n q lp mv ss l gt tl ge E gO g1 c1 g2 c2 b3 L W):SO base w vS vM n q lp mv ss l gt tl ge E gO g1 c1 g2 c2 b3 L W.drew:=⟨h.k.drew,h.t,h.e,h.r,h.o1,h.o2,h.ne,h.lo,h.l1,h.l2,h.hS,h.hM⟩
theorem SO.join (h:SO base w vS vM n q lp mv ss l gt tl ge E gO g1 c1 g2 c2 b3 L W)(own:OwnN W2 b3 g2 q c2 L')(gw:W.grownBy W2 (some g2)):SO base w vS vM n q lp mv ss l gt tl ge E gO g1 c1 g2 c2 b3 L' W2:=by
 have hb:b3≤g2:=(World.ownsRow.lt h.o2 g2 rfl).1
 have a0:=h.lo
 have a1:=h.l1
 have a2:=h.l2
 exact ⟨h.k.far gw (fun k hk=>by injection hk with hk;omega) h.hS h.hM,Row.grown h.t gw (fun e=>by injection e with e;omega),fun j hj=>gw.cell (h.e j hj) (fun e=>by injection e with e;have:ge=g2:=e;omega),h.r.grown gw (own_row_ne h.o2 h.r (by decide)),own_grown h.o1 gw h.ne,own,h.ne,h.lo,h.l1,h.l2,h.hS,h.hM⟩
theorem SO.setV (h:SO base w vS vM n q lp mv ss l gt tl ge E gO g1 c1 g2 c2 b3 L W)(hv:Row W gV 28 bk)(hl:w.heap.size+4≤gV)(hg:ge≠gV)(o:Nat)(u:Value):SO base w vS vM n q lp mv ss l gt tl ge E gO g1 c1 g2 c2 b3 L (W.setCell ⟨gV,o,none⟩ u):=by
 have rne:∀{g:Nat} {t:TypeId} {vs:List Value},Row W g t vs→t≠28→g≠gV:=fun {g t vs} hr ht e=>by
  rw [e] at hr
  unfold Row at hr hv
  rw [hv] at hr
  injection hr with hr
  injection hr with _ h6
  exact ht h6.symm
 refine ⟨h.k.setO hv (by decide) hl o u,Row.other h.t (rne h.t (by decide)) u,fun j hj=>?_,h.r.other (rne h.r (by decide)) u,own_setRow h.o1 hv (by decide) _ _,own_setRow h.o2 hv (by decide) _ _,h.ne,h.lo,h.l1,h.l2,h.hS,h.hM⟩
 rw [World.cell?_of_block (w:=W) (Below.heap_setCell W ⟨gV,o,none⟩ u ge hg)]
 exact h.e j hj
end
theorem own_drewS {W:World}{base size n:Nat}{t:TypeId}{v:Value}{xs:List Value}(h:W.ownsRow base t size v n xs):W.drew.ownsRow base t size v n xs:=h
theorem sld_done {d:Pl.Dg}{h base b c2 d2 m:Nat}{A2 B2:Option Addr}{w W:World}{L:List Nat}{X:Nat}(h0:sldC d h=0)(hm:m=4 * d.n)(hD:sF d h 3=L)(hX:sX d h (4 * d.n)=X)(hb:Below base w W)
 (hS:W.ownsRow b 3 1 (.slice A2 d.n c2) d.n (d.sg.map (.int .i64))) (hM:W.ownsRow b 3 1 (.slice B2 m d2) m (L.map (fun k:Nat=>Value.int .i64 k))) :
 RC base (sldC d h) (sldD d h) (sldI d h) w (.returned (.tuple #[.agg #[.slice A2 d.n c2,.slice B2 m d2,.int .i64 (d.lp:Int)],.agg #[.int .i64 5,.int .i64 (X:Int),.int .i64 0,.int .i64 0,.bool false],.int .i64 0])) W:=by
 subst hm
 refine ⟨fun h=>absurd h0 h,fun _=>⟨A2,B2,c2,d2,?_,?_⟩,hb⟩
 ·unfold sldI;rw [hX];rfl
 ·refine ⟨own_intsT hS,?_⟩
  refine own_intsT (base:=b) (e:=3) (c:=d2) ?_
  unfold nats
  rw [List.map_map]
  show W.ownsRow b _ 1 _ _ ((sF d h 3).map _)
  rw [hD]
  exact hM
set_option maxRecDepth 100000 in
set_option maxHeartbeats 64000000 in
theorem rslide_in (d:Pl.Dg)(hd:Pl.Valid d)(base cp cq m:Nat)(A B:Option Addr)(k:Int)(h:Nat)(w:World)(hm:m=4 * d.n)(ho:Own2 base w (.slice A d.n cp) (.slice B m cq) d.n m d.sg d.mt)(hh:h<4 * d.n) :
 Calls Try.prog 57 #[.agg #[.slice A d.n cp,.slice B m cq,.int .i64 d.lp],.agg #[.int .i64 k,.int .i64 (h:Int),.int .i64 0,.int .i64 0,.bool false]] w (RC base (sldC d h) (sldD d h) (sldI d h) w):=by
 have hw:=hd.wf
 have hn:=hw.few
 have hlp:=hw.lp
 have HD:=hide hw
 have HV:=hide hd
 have HM:=hide hm
 have hm4:m≤256:=by omega
 have hn0:0<d.n:=by omega
 obtain ⟨gB,rfl⟩:=own_form0 ho.o (by omega)
 obtain ⟨gA,rfl⟩:=own_form0 ho.s (by omega)
 have K0:=hide (RK.start ho d.lp (.int .i64 k) (.int .i64 (h:Int)) (.int .i64 0) (.int .i64 0) (.bool false))
 unfold W4 at K0
 have LTS:=hide (show ∀g,(Value.slice (some ⟨gA,0,none⟩) d.n cp).ownBlock=some g→g<w.heap.size from fun g e=>(ho.s.lt g e).2)
 have LTM:=hide (show ∀g,(Value.slice (some ⟨gB,0,none⟩) m cq).ownBlock=some g→g<w.heap.size from fun g e=>(ho.o.lt g e).2)
 have hle:=ho.le
 have t1:decide ((h:Int)<0)=false:=by simp
 have t2:decide ((m:Int)≤(h:Int))=false:=by simp;omega
 have t2':decide (m≤h)=false:=by simp;omega
 have t2n:¬m≤h:=by omega
 have HMK:=hide (fun W:World=>run_ints m (by omega) W)
 clear hm ho hd hw
 go_enter Try.func57,Try.ntmps57
 go_wp2_with fail
 refine (rtri_any d HD.out _ _ cp cq m (.int .i64 d.lp) h _ HM.out (ownN_ints K0.out.o) hh).mono ?_
 rintro e w1 ⟨rfl,hb1⟩
 have K1:=hide (K0.out.below hb1)
 clear hb1 K0
 obtain ⟨d0,d1,d2,d3⟩:=box3 K1.out.d
 obtain ⟨m0,m1,m2,m3,m4,m5⟩:=box5 K1.out.m
 obtain ⟨_,r3,l3⟩:=K1.out.rd
 obtain ⟨_,r4,l4⟩:=K1.out.rm
 obtain ⟨p0,p1,p2,p3⟩:=cells3 r3 l3
 obtain ⟨q0,q1,q2,q3,q4,q5⟩:=cells5 r4 l4
 clear r3 l3 r4 l4
 by_cases hI:isT d h
 rotate_left
 ·have E:=hide (show sldC d h=6 by unfold sldC;rw [if_neg hI])
  rw [Pl.vb_false hI]
  clear hI
  go_wp2_with fail
  go_region
  go_wp2_with fail
  refine bodyPost_ret (v := .tuple #[.agg #[.slice (some ⟨gA,0,none⟩) d.n cp,.slice (some ⟨gB,0,none⟩) m cq,.int .i64 d.lp],.agg #[.int .i64 k,.int .i64 (h:Int),.int .i64 0,.int .i64 0,.bool false],.int .i64 6]) ?_ rfl ?_
  ·obtain ⟨e0,e1,e2,e3,e4,e5,e6,e7⟩:=RK.cells K1.out (.slice (some ⟨gA,0,none⟩) d.n cp) (.slice (some ⟨gB,0,none⟩) m cq) (.int .i64 d.lp) (.int .i64 k) (.int .i64 (h:Int)) (.int .i64 0) (.int .i64 0) (.bool false)
   unfold st8 at e0 e1 e2 e3 e4 e5 e6 e7
   simp [results,Try.results57,go_sem,e0,e1,e2,e3,e4,e5,e6,e7]
  ·rw [E.out]
   refine rc_err (by decide) ⟨some ⟨gA,0,none⟩,some ⟨gB,0,none⟩,d.n,m,cp,cq,d.lp,k,(h:Int),0,0,false,rfl⟩ ?_
   have:=(RK.fin K1.out (.slice (some ⟨gA,0,none⟩) d.n cp) (.slice (some ⟨gB,0,none⟩) m cq) (.int .i64 d.lp) (.int .i64 k) (.int .i64 (h:Int)) (.int .i64 0) (.int .i64 0) (.bool false)).drew.bel
   unfold st8 at this
   exact this
 rw [Pl.vb_true hI]
 have HC:=hide (show sldC d h=0 by unfold sldC;rw [if_pos hI])
 have HIT:=hide hI
 have hi3:=hI.1
 have HI:=hide hi3
 have hper:Pl.Per (Pl.nx d) h 3:=by
  obtain ⟨e3,c1,c2,c3⟩:=hi3
  have dv:∀z,Pl.nx d z / 4=d.m z / 4:=fun z=>Pl.tn_div _ _
  refine ⟨by omega,e3,fun i h1 h2=>?_⟩
  have:i=1∨i=2:=by omega
  rcases this with rfl | rfl
  ·intro e;exact c1 (congrArg (· / 4) e).symm
  ·intro e;exact c3 (congrArg (· / 4) e).symm
 have HPER:=hide hper
 clear hI hi3 hper
 go_wp2_with fail
 refine (rface_any d HD.out _ _ cp cq m (.int .i64 d.lp) h 3 _ HM.out (ownN_ints K1.out.o) hh HPER.out (by omega)).mono ?_
 rintro e w2 ⟨A5,c5,rfl,own5,hb2⟩
 obtain ⟨gf,rfl⟩:=own_form1 own5 (by omega)
 have hbig:=K1.out.big
 have hgf:=(World.ownsRow.lt own5 gf rfl)
 have FC:=hide (show ∀i,i<3→w2.cell? ⟨gf,i,none⟩=some (.int .i64 (th d h i:Nat)) from fun i hi=>by
  have h2:=OwnN.cell (show OwnN w2 _ gf 3 c5 (Pl.cyc (Pl.nx d) h 3) from own5) (k:=i) hi
  have e:(Pl.cyc (Pl.nx d) h 3).getD i 0=th d h i:=by
   have:i=0∨i=1∨i=2:=by omega
   rcases this with rfl | rfl | rfl <;> rfl
  rw [e] at h2
  exact h2)
 have K2:=hide (K1.out.below hb2)
 have hsz2:w.heap.size+4≤w2.heap.size:=K2.out.big
 clear own5 hb2 K1 hbig
 clear d0 d1 d2 d3 m0 m1 m2 m3 m4 m5 p0 p1 p2 p3 q0 q1 q2 q3 q4 q5
 obtain ⟨d0,d1,d2,d3⟩:=box3 K2.out.d
 have hmk1:=HMK.out
 go_wp2_with fail
 obtain ⟨gt,hgt⟩:∃g,g=w2.heap.size:=⟨_,rfl⟩
 have Q1:=hide (show SQ base w w2 (.slice (some ⟨gA,0,none⟩) d.n cp) (.slice (some ⟨gB,0,none⟩) m cq) d.n m (d.lp:Int) [.int .i64 k,.int .i64 (h:Int),.int .i64 0,.int .i64 0,.bool false] d.sg d.mt gt (nats (tk m 0)) (.slice none 0 0) 0 [] (w2.alloc (.cells (Array.replicate m (Value.int .i64 0)) 3)) from by
  refine ⟨K2.out.alloc _,?_,World.ownsRow_nil _ _ _ _,by omega,hgt.symm,(Below.refl _ _).alloc (Nat.le_refl _) _,LTS.out,LTM.out⟩
  rw [tk_zero,hgt]
  exact IRow.made w2 m)
 rw [←hgt]
 obtain ⟨V1,hV1⟩:∃V,V=w2.alloc (.cells (Array.replicate m (Value.int .i64 0)) 3):=⟨_,rfl⟩
 rw [←hV1] at Q1 ⊢
 have hgft:gf<gt:=by omega
 clear hV1 hgt K2 hsz2 hgf d0 d1 d2 d3 hmk1
 go_loopg [9] m (fun g s9 wx=>∃q:Nat,q+g=m∧s9 = .int .i64 (q:Int)∧SQ base w w2 (.slice (some ⟨gA,0,none⟩) d.n cp) (.slice (some ⟨gB,0,none⟩) m cq) d.n m (d.lp:Int) [.int .i64 k,.int .i64 (h:Int),.int .i64 0,.int .i64 0,.bool false] d.sg d.mt gt (nats (tk m q)) (.slice none 0 0) 0 [] wx)
 case atStart=>exact ⟨0,by omega,rfl,Q1.out⟩
 case round =>
  clear Q1
  obtain ⟨q,hkg,rfl,hq1⟩:=hrel
  have HKG:=hide hkg
  have QK:=hide hq1
  clear hq1
  by_cases hq:q<m
  ·have c1:=QK.out.t.cell (i:=q) (by rw [nats_len,tk_len];exact hq)
   have fr:=Row.free QK.out.t
   have k0:(0:Int)≤(q:Int):=by omega
   have ki:(q:Int)<(m:Int):=by omega
   have TS:=hide (tk_set hq)
   clear hkg
   go_wp2
   go_roundg (gk - 1)
   case measure=>have:=HKG.out;omega
   case rel=>exact ⟨q+1,by have:=HKG.out;omega,by go_num,by rw [←TS.out];exact QK.out.setT q _⟩
  ·have ki:¬((q:Int)<(m:Int)):=by omega
   have hqm:q=m:=by omega
   have Q2:=hide (show SQ base w w2 (.slice (some ⟨gA,0,none⟩) d.n cp) (.slice (some ⟨gB,0,none⟩) m cq) d.n m (d.lp:Int) [.int .i64 k,.int .i64 (h:Int),.int .i64 0,.int .i64 0,.bool false] d.sg d.mt gt (nats (sTo d h 0)) (.slice none 0 0) 0 (endL d h 0) wr from by
    have h1:=QK.out
    rw [hqm,tk_all] at h1
    have e1:sTo d h 0=List.range m:=by unfold sTo;rw [HM.out]
    rw [e1]
    exact h1)
   clear hkg HKG hqm QK
   go_wp2_with fail
   go_loopg [10,11,12,13,14,15] 3 (fun g s10 s11 s12 s13 s14 s15 wx=>∃q:Nat,q+g=3∧s11 = .int .i64 (q:Int)∧SQ base w w2 (.slice (some ⟨gA,0,none⟩) d.n cp) (.slice (some ⟨gB,0,none⟩) m cq) d.n m (d.lp:Int) [.int .i64 k,.int .i64 (h:Int),.int .i64 0,.int .i64 0,.bool false] d.sg d.mt gt (nats (sTo d h q)) s10 q (endL d h q) wx)
   case atStart=>exact ⟨0,by omega,rfl,Q2.out⟩
   case round =>
    clear Q2
    obtain ⟨q,hkg,rfl,hq1⟩:=hrel
    have HKG:=hide hkg
    have QK:=hide hq1
    clear hq1
    by_cases hq:q<3
    ·have hqi:(q:Int)<3:=by omega
     have hq0:(0:Int)≤(q:Int):=by omega
     have xl:=th_lt HD.out hh q
     obtain ⟨lb,lo,li,lf⟩:=s_lt HD.out hh q
     have cf:=cell_below (FC.out q hq) QK.out.b2
     obtain ⟨d0,d1,d2,d3⟩:=box3 QK.out.k.d
     have cm:=OwnN.cell QK.out.k.o (k:=th d h q) (by have:=HM.out;omega)
     rw [m_get HD.out xl] at cm
     have EO:=hide (show so d h q=(if Pl.out d (th d h q)=true then th d h q else d.m (th d h q))∧si d h q=(if Pl.out d (th d h q)=true then d.m (th d h q) else th d h q) by
      unfold so si ei eo
      constructor
      ·rfl
      ·split
       ·rfl
       ·exact HD.out.inv _ xl)
     have ETO:=hide (show nats (sTo d h (q+1))=((nats (sTo d h q)).set (sb d h q) (si d h q:Nat)).set (sf d h q) (so d h q:Nat) by rw [←nats_set0,←nats_set0];rfl)
     have EBF:=hide (show sb d h q=Pl.tn (so d h q) 2∧sf d h q=Pl.tn (si d h q) 2 from ⟨rfl,rfl⟩)
     have EEN:=hide (endL_s d h q)
     have NBF:=hide (s_ne HD.out hh HIT.out q hq)
     obtain ⟨x,hx⟩:∃x,x=th d h q:=⟨_,rfl⟩
     obtain ⟨y,hy⟩:∃x,x=d.m (th d h q):=⟨_,rfl⟩
     obtain ⟨op,hop⟩:∃x,x=so d h q:=⟨_,rfl⟩
     obtain ⟨iq,hiq⟩:∃x,x=si d h q:=⟨_,rfl⟩
     obtain ⟨ip,hip⟩:∃x,x=sb d h q:=⟨_,rfl⟩
     obtain ⟨oq,hoq⟩:∃x,x=sf d h q:=⟨_,rfl⟩
     rw [←hy,←hx] at cm EO
     rw [←hop,←hiq] at EO
     rw [←hip,←hoq,←hiq,←hop] at ETO EBF
     rw [←hip,←hoq] at EEN NBF
     rw [←hx] at xl cf
     rw [←hip] at lb
     rw [←hop] at lo
     rw [←hiq] at li
     rw [←hoq] at lf
     clear hx hy hop hiq hip hoq hkg
     have x0:(0:Int)≤(x:Int):=by omega
     have x1:(x:Int)<(m:Int):=by have:=HM.out;omega
     go_upto_region 15 with fail
     go_quiet (fail)
     have Q3:=hide (QK.out.drewN nq)
     obtain ⟨w3,hw3⟩:∃W,W=wr.drewN nq:=⟨_,rfl⟩
     rw [←hw3] at Q3 ⊢
     clear hw3 QK cf cm d0 d1 d2 d3
     obtain ⟨d0,d1,d2,d3⟩:=box3 Q3.out.k.d
     go_wp2_with fail
     refine (rout_any d _ _ d.n cp m cq (.int .i64 d.lp) x _ rfl (by omega) (by omega) (own_intsR Q3.out.k.s)).mono ?_
     rintro e w4 ⟨rfl,hb4⟩
     have Q4:=hide (Q3.out.below hb4)
     clear hb4 Q3 d0 d1 d2 d3
     obtain ⟨bo,hbo⟩:∃b,b=Pl.out d x:=⟨_,rfl⟩
     rw [←hbo] at EO ⊢
     clear hbo
     go_upto_if 96 with fail
     go_cut [12,13] (fun s12' s13' wx=>s12' = .int .i64 (op:Int)∧s13' = .int .i64 (iq:Int)∧wx=w4)
     case first =>
      cases bo with
      | true =>
        have e1:=hide (show op=x from EO.out.1)
        have e2:=hide (show iq=y from EO.out.2)
        go_wp2_with fail
        go_meet
        exact ⟨by rw [e1.out],by rw [e2.out],rfl⟩
      | false =>
        have e1:=hide (show op=y from EO.out.1)
        have e2:=hide (show iq=x from EO.out.2)
        go_wp2_with fail
        go_meet
        exact ⟨by rw [e1.out],by rw [e2.out],rfl⟩
     case rest =>
      obtain ⟨rfl,rfl,hwc⟩:=hcut
      rw [hwc]
      clear hwc EO
      go_wp2_with fail
      refine (ropp_s op _ (by omega)).mono ?_
      rintro e w5 ⟨rfl,rfl⟩
      rw [←EBF.out.1]
      go_wp2_with fail
      refine (ropp_s iq _ (by omega)).mono ?_
      rintro e w6 ⟨rfl,rfl⟩
      rw [←EBF.out.2]
      have i1:(0:Int)≤(ip:Int):=by omega
      have i2:(ip:Int)<(m:Int):=by have:=HM.out;omega
      have i3:(0:Int)≤(oq:Int):=by omega
      have i4:(oq:Int)<(m:Int):=by have:=HM.out;omega
      have cb:=Q4.out.t.cell (i:=ip) (by rw [nats_len,sTo_len];exact lb)
      have cfq:=Q4.out.t.cell (i:=oq) (by rw [nats_len,sTo_len];exact lf)
      have fr:=Row.free Q4.out.t
      have nbf:ip≠oq:=NBF.out
      have nfb:oq≠ip:=Ne.symm nbf
      go_upto_region 20 with fail
      have Q6:=hide ((Q4.out.setT ip (iq:Int)).setT oq (op:Int))
      rw [←ETO.out] at Q6
      obtain ⟨W6,hW6⟩:∃W:World,W=(w6.setCell ⟨gt,ip,none⟩ (.int .i64 (iq:Int))).setCell ⟨gt,oq,none⟩ (.int .i64 (op:Int)):=⟨_,rfl⟩
      rw [←hW6] at Q6 ⊢
      clear hW6 Q4 cb cfq fr nbf nfb NBF i1 i2 i3 i4
      obtain ⟨i0,hi0,hz0,hz1,hz2⟩:=info_parts pairInfo
      have hgl:gt+1≤W6.heap.size:=by have:=Q6.out.t.lt;omega
      go_wp2_with (at_builtin;refine wpList_append_lies _ (by rfl) _ _ 110 (by rfl) (gt+1) 86 i0 (.agg #[.int .i64 0,.int .i64 0]) 2 16 Try.underlying110 hi0 hz0 hz1 hz2 rfl (by omega) _ q _ (by rfl) (Q6.out.alloc _).e ⟨W6.heap.size,0,none⟩ 1 1 [.int .i64 (ip:Int),.int .i64 (oq:Int)] (by rfl) (by rfl) (two_news2 W6 (.int .i64 (ip:Int)) (.int .i64 (oq:Int))) (by simp [Value.oneCell']) (by omega) (by unfold maxLen;omega) (by omega) (by simp;omega) (W6.heap.size+1) (by simp) ?_;intro g3 c3 w7 own3 grow3 at3 lt3;have OWN3:=hide own3;have GR3:=hide grow3;clear own3 grow3 at3)
      go_roundg (gk - 1)
      case measure=>have:=HKG.out;omega
      case rel=>exact ⟨q+1,by have:=HKG.out;omega,by go_num,by rw [EEN.out];exact (Q6.out.alloc _).push OWN3.out GR3.out⟩
    ·have hqi:¬((q:Int)<3):=by omega
     obtain rfl:q=3:=by omega
     clear hkg HKG hq
     obtain ⟨ge,ce,rfl,_⟩:=World.ownsRow.form QK.out.e (by omega)
     have hge:=World.ownsRow.lt QK.out.e ge rfl
     have EC:=hide (show ∀j,j<6→wr.cell? ⟨ge,j,none⟩=some (.int .i64 (sU d h j:Nat)) from fun j hj=>by
      have hl:(prs (endL d h 3)).length=6:=by unfold prs;rw [List.length_map,endL_len]
      rw [World.ownsRow.cellAt QK.out.e j (by omega)]
      unfold prs endL
      rw [List.getElem?_map,List.getElem?_map,List.getElem?_range (by omega)]
      rfl)
     obtain ⟨d0,d1,d2,d3⟩:=box3 QK.out.k.d
     have hbigr:=QK.out.k.big
     go_wp2_with fail
     refine (rcopy_any _ _ d.n cp m cq (d.lp:Int) d.sg (nats d.mt) _ (own_intsR QK.out.k.s) (ownN_ints QK.out.k.o) (by omega) (by omega)).mono ?_
     rintro e w5 ⟨A2,B2,c1,c2,rfl,oS,oM,hb5,hne⟩
     obtain ⟨g1,rfl⟩:=own_form0 oS hn0
     obtain ⟨g2,rfl⟩:=own_form0 oM (by omega)
     have QL:=hide (QK.out.below hb5)
     have hgo:wr.heap.size≤w5.heap.size:=hb5.size
     obtain ⟨gO,hgO⟩:∃g,g=w5.heap.size:=⟨_,rfl⟩
     obtain ⟨b3,hb3⟩:∃g,g=wr.heap.size:=⟨_,rfl⟩
     rw [←hb3] at oS oM
     have hgtl:=QK.out.t.lt
     have O0:=hide (show SO base w (.slice (some ⟨gA,0,none⟩) d.n cp) (.slice (some ⟨gB,0,none⟩) m cq) d.n m (d.lp:Int) [.int .i64 k,.int .i64 (h:Int),.int .i64 0,.int .i64 0,.bool false] d.sg d.mt gt (nats (sTo d h 3)) ge (sU d h) gO g1 c1 g2 c2 b3 (rSM d h (2 * 0)) (w5.alloc (.cells #[.slice (some ⟨g1,0,none⟩) d.n c1,.slice (some ⟨g2,0,none⟩) m c2,.int .i64 (d.lp:Int)] 24)) from
      ⟨QL.out.k.alloc _, Row.alloc QL.out.t _, fun j hj => cell_below (cell_below (EC.out j hj) hb5) ((Below.refl _ _).alloc (Nat.le_refl _) _), row_at (vs := [_, _, _]) hgO, oS.alloc _, by
        have:w5.ownsRow b3 3 1 (.slice (some ⟨g2,0,none⟩) m c2) m (d.mt.map (fun k:Nat=>Value.int .i64 k)):=by
         unfold nats at oM
         rw [List.map_map] at oM
         exact oM
        exact this.alloc _,fun e=>hne g1 rfl (by rw [e];rfl),QL.out.lo,by omega,by omega,LTS.out,LTM.out⟩)
     clear oS oM hne QL QK hb5 hgo d0 d1 d2 d3 EC
     have HB3:=hide hb3
     clear hb3
     obtain ⟨w6,hw6⟩:∃W:World,W=w5.alloc (.cells #[.slice (some ⟨g1,0,none⟩) d.n c1,.slice (some ⟨g2,0,none⟩) m c2,.int .i64 (d.lp:Int)] 24):=⟨_,rfl⟩
     rw [←hw6] at O0
     go_wp2_with fail
     rw [←hw6,←hgO]
     clear hw6 hgO
     go_loopg [17,18,19] 3 (fun g s17 s18 s19 wx=>∃q:Nat,q+g=3∧s17 = .int .i64 (q:Int)∧SO base w (.slice (some ⟨gA,0,none⟩) d.n cp) (.slice (some ⟨gB,0,none⟩) m cq) d.n m (d.lp:Int) [.int .i64 k,.int .i64 (h:Int),.int .i64 0,.int .i64 0,.bool false] d.sg d.mt gt (nats (sTo d h 3)) ge (sU d h) gO g1 c1 g2 c2 b3 (rSM d h (2 * q)) wx)
     case atStart=>exact ⟨0,by omega,rfl,O0.out⟩
     case round =>
      clear O0
      obtain ⟨q,hkg,rfl,ho1⟩:=hrel
      obtain ⟨go1,hgo1⟩:∃g,g=gk:=⟨_,rfl⟩
      rw [←hgo1] at hkg
      have HGO:=hide hgo1
      clear hgo1
      have HKG:=hide hkg
      have OK:=hide ho1
      clear ho1
      by_cases hq:q<3
      ·have hqi:(q:Int)<3:=by omega
       clear hkg
       go_wp2_with fail
       go_loopg [18,19] 2 (fun g s18 s19 wx=>∃j:Nat,j+g=2∧s18 = .int .i64 (j:Int)∧SO base w (.slice (some ⟨gA,0,none⟩) d.n cp) (.slice (some ⟨gB,0,none⟩) m cq) d.n m (d.lp:Int) [.int .i64 k,.int .i64 (h:Int),.int .i64 0,.int .i64 0,.bool false] d.sg d.mt gt (nats (sTo d h 3)) ge (sU d h) gO g1 c1 g2 c2 b3 (rSM d h (2 * q+j)) wx)
       case atStart=>exact ⟨0,by omega,rfl,OK.out⟩
       case round =>
        clear OK
        obtain ⟨j,hkg2,rfl,ho1⟩:=hrel
        have HKG2:=hide hkg2
        have OK:=hide ho1
        clear ho1
        by_cases hj:j<2
        ·have hji:(j:Int)<2:=by omega
         have hj0:(0:Int)≤(j:Int):=by omega
         have hq0:(0:Int)≤(q:Int):=by omega
         have ce1:=OK.out.e (2 * q+j) (by omega)
         have ul:=sU_lt HD.out hh (2 * q+j)
         have ml:=HD.out.lt _ ul
         have ct:=OK.out.t.cell (i:=sU d h (2 * q+j)) (by rw [nats_len,sTo_len];exact ul)
         have ct2:=OK.out.t.cell (i:=d.m (sU d h (2 * q+j))) (by rw [nats_len,sTo_len];exact ml)
         have cm:=OwnN.cell OK.out.k.o (k:=sU d h (2 * q+j)) (by have:=HM.out;omega)
         rw [m_get HD.out ul] at cm
         rw [getD_natsS] at ct ct2
         have la:=sTo_lt HD.out hh 3 _ ul
         have lb:=sTo_lt HD.out hh 3 _ ml
         have HST:=hide (show rSM d h (2 * q+(j+1))=jn (rSM d h (2 * q+j)) ((sTo d h 3).getD (sU d h (2 * q+j)) 0) ((sTo d h 3).getD (d.m (sU d h (2 * q+j))) 0) from rfl)
         obtain ⟨u,hu⟩:∃u,u=sU d h (2 * q+j):=⟨_,rfl⟩
         rw [←hu] at ce1 ul ml ct ct2 cm la lb HST
         obtain ⟨v,hv⟩:∃v,v=d.m u:=⟨_,rfl⟩
         rw [←hv] at ml ct2 cm lb HST
         obtain ⟨ta,hta⟩:∃t,t=(sTo d h 3).getD u 0:=⟨_,rfl⟩
         obtain ⟨tb,htb⟩:∃t,t=(sTo d h 3).getD v 0:=⟨_,rfl⟩
         rw [←hta] at ct la HST
         rw [←htb] at ct2 lb HST
         rw [show 2 * q=q * 2 by omega] at ce1
         clear hu hv hta htb hkg2
         obtain ⟨d0,d1,d2,d3⟩:=box3 OK.out.k.d
         obtain ⟨r0,r1,r2,r3⟩:=box3 OK.out.r
         have i1:(0:Int)≤(u:Int):=by omega
         have i2:(u:Int)<(m:Int):=by have:=HM.out;omega
         have i3:(0:Int)≤(v:Int):=by omega
         have i4:(v:Int)<(m:Int):=by have:=HM.out;omega
         go_upto_region 29 with fail
         go_still_tail 13,(by kernel_rfl)
         change wpList _ _ _ _ _ wr.drew
         obtain ⟨X5,hX⟩:∃X:World,X=wr.drew:=⟨_,rfl⟩
         rw [←hX]
         have OX:=hide (show SO base w (.slice (some ⟨gA,0,none⟩) d.n cp) (.slice (some ⟨gB,0,none⟩) m cq) d.n m (d.lp:Int) [.int .i64 k,.int .i64 (h:Int),.int .i64 0,.int .i64 0,.bool false] d.sg d.mt gt (nats (sTo d h 3)) ge (sU d h) gO g1 c1 g2 c2 b3 (rSM d h (2 * q+j)) X5 by rw [hX];exact OK.out.drew)
         clear hX d0 d1 d2 d3 r0 r1 r2 r3 ce1 ct ct2 cm OK
         go_wp2_with fail
         refine (rjoin_any b3 g2 m c2 ta tb d.n c1 (some ⟨g1,0,none⟩) (.int .i64 d.lp) _ X5 OX.out.o2 (by have:=HM.out;omega) (by have:=HM.out;omega) (by omega)).mono ?_
         rintro e w7 ⟨rfl,own7,gr7⟩
         have O7:=hide (OX.out.join own7 gr7)
         clear own7 gr7 OX
         go_wp2
         go_roundg (gk - 1)
         case measure=>have:=HKG2.out;omega
         case rel=>exact ⟨j+1,by have:=HKG2.out;omega,by go_num,by rw [HST.out];exact O7.out⟩
        ·have hji:¬((j:Int)<2):=by omega
         obtain rfl:j=2:=by omega
         clear hkg2 HKG2
         have O8:=hide (show SO base w (.slice (some ⟨gA,0,none⟩) d.n cp) (.slice (some ⟨gB,0,none⟩) m cq) d.n m (d.lp:Int) [.int .i64 k,.int .i64 (h:Int),.int .i64 0,.int .i64 0,.bool false] d.sg d.mt gt (nats (sTo d h 3)) ge (sU d h) gO g1 c1 g2 c2 b3 (rSM d h (2 * (q+1))) wr from OK.out)
         clear OK
         go_wp2_with fail
         go_roundg (go1 - 1)
         case measure=>have:=HKG.out;have:=HGO.out;omega
         case rel=>exact ⟨q+1,by have:=HKG.out;omega,by go_num,O8.out⟩
      ·have hqi:¬((q:Int)<3):=by omega
       obtain rfl:q=3:=by omega
       clear hkg HKG HGO
       obtain ⟨d0,d1,d2,d3⟩:=box3 OK.out.k.d
       have hbr:=OK.out.k.big
       have hgr:=OK.out.r.lt
       go_wp2_with fail
       obtain ⟨gV,hgV⟩:∃g,g=wr.heap.size:=⟨_,rfl⟩
       have O9:=hide (show SO base w (.slice (some ⟨gA,0,none⟩) d.n cp) (.slice (some ⟨gB,0,none⟩) m cq) d.n m (d.lp:Int) [.int .i64 k,.int .i64 (h:Int),.int .i64 0,.int .i64 0,.bool false] d.sg d.mt gt (nats (sTo d h 3)) ge (sU d h) gO g1 c1 g2 c2 b3 (rSF d h 0) (wr.alloc (.cells #[.int .i64 5,.int .i64 ((m:Nat):Int),.int .i64 0,.int .i64 0,.bool false] 28)) from OK.out.alloc _)
       have V9:=hide (show Row (wr.alloc (.cells #[.int .i64 5,.int .i64 ((m:Nat):Int),.int .i64 0,.int .i64 0,.bool false] 28)) gV 28 [.int .i64 5,.int .i64 ((rX d h (2 * 0):Nat):Int),.int .i64 0,.int .i64 0,.bool false] from by
        have e:rX d h (2 * 0)=m:=by rw [HM.out];rfl
        rw [e]
        exact row_at (vs:=[_,_,_,_,_]) hgV)
       have hVl:w.heap.size+4≤gV:=by omega
       have hVe:ge≠gV:=by
        have:=OK.out.l2
        have:=(World.ownsRow.lt OK.out.o2 g2 rfl)
        omega
       obtain ⟨w9,hw9⟩:∃W:World,W=wr.alloc (.cells #[.int .i64 5,.int .i64 ((m:Nat):Int),.int .i64 0,.int .i64 0,.bool false] 28):=⟨_,rfl⟩
       rw [←hw9] at O9 V9 ⊢
       rw [←hgV]
       clear hw9 hgV OK d0 d1 d2 d3 hbr hgr
       go_loopg [21] 3 (fun g s21 wx=>∃q:Nat,q+g=3∧s21 = .int .i64 (q:Int)∧SO base w (.slice (some ⟨gA,0,none⟩) d.n cp) (.slice (some ⟨gB,0,none⟩) m cq) d.n m (d.lp:Int) [.int .i64 k,.int .i64 (h:Int),.int .i64 0,.int .i64 0,.bool false] d.sg d.mt gt (nats (sTo d h 3)) ge (sU d h) gO g1 c1 g2 c2 b3 (rSF d h q) wx∧Row wx gV 28 [.int .i64 5,.int .i64 ((rX d h (2 * 0):Nat):Int),.int .i64 0,.int .i64 0,.bool false])
       case atStart=>exact ⟨0,by omega,rfl,O9.out,V9.out⟩
       case round =>
        clear O9 V9
        obtain ⟨q,hkg,rfl,ho1,hv1⟩:=hrel
        have HKG:=hide hkg
        have OK:=hide ho1
        have VK:=hide hv1
        clear ho1 hv1
        by_cases hq:q<3
        ·have hqi:(q:Int)<3:=by omega
         have hq0:(0:Int)≤(q:Int):=by omega
         have ce1:=OK.out.e (2 * q) (by omega)
         have ce2:=OK.out.e (2 * q+1) (by omega)
         rw [(sU_e d h q).1] at ce1
         rw [(sU_e d h q).2] at ce2
         obtain ⟨la,_,_,lb⟩:=s_lt HD.out hh q
         have HST:=hide (show rSF d h (q+1)=jn (rSF d h q) (sb d h q) (sf d h q) from rfl)
         obtain ⟨ta,hta⟩:∃t,t=sb d h q:=⟨_,rfl⟩
         obtain ⟨tb,htb⟩:∃t,t=sf d h q:=⟨_,rfl⟩
         rw [←hta] at ce1 la HST
         rw [←htb] at ce2 lb HST
         rw [show 2 * q=q * 2 by omega] at ce1 ce2
         clear hta htb hkg
         obtain ⟨r0,r1,r2,r3⟩:=box3 OK.out.r
         go_upto_region 34 with fail
         go_still_tail 11,(by kernel_rfl)
         change wpList _ _ _ _ _ wr.drew
         obtain ⟨X5,hX⟩:∃X:World,X=wr.drew:=⟨_,rfl⟩
         rw [←hX]
         have OX:=hide (show SO base w (.slice (some ⟨gA,0,none⟩) d.n cp) (.slice (some ⟨gB,0,none⟩) m cq) d.n m (d.lp:Int) [.int .i64 k,.int .i64 (h:Int),.int .i64 0,.int .i64 0,.bool false] d.sg d.mt gt (nats (sTo d h 3)) ge (sU d h) gO g1 c1 g2 c2 b3 (rSF d h q) X5 by rw [hX];exact OK.out.drew)
         have VX:=hide (show Row X5 gV 28 [.int .i64 5,.int .i64 ((rX d h (2 * 0):Nat):Int),.int .i64 0,.int .i64 0,.bool false] by rw [hX];exact VK.out.drew)
         clear hX r0 r1 r2 r3 ce1 ce2 OK VK
         go_wp2_with fail
         refine (rjoin_any b3 g2 m c2 ta tb d.n c1 (some ⟨g1,0,none⟩) (.int .i64 d.lp) _ X5 OX.out.o2 (by have:=HM.out;omega) (by have:=HM.out;omega) (by omega)).mono ?_
         rintro e w7 ⟨rfl,own7,gr7⟩
         have O7:=hide (OX.out.join own7 gr7)
         have V7:=hide (VX.out.grown gr7 (own_row_ne OX.out.o2 VX.out (by decide)))
         clear own7 gr7 OX VX
         go_wp2
         go_roundg (gk - 1)
         case measure=>have:=HKG.out;omega
         case rel=>exact ⟨q+1,by have:=HKG.out;omega,by go_num,by rw [HST.out];exact O7.out,V7.out⟩
        ·have hqi:¬((q:Int)<3):=by omega
         obtain rfl:q=3:=by omega
         clear hkg HKG
         have EQ:=hide (rSF_eq HD.out hh HI.out)
         have EX:=hide (rX_eq HD.out hh HI.out)
         have WD:=hide (sld_valid HV.out hh HI.out).wf
         have IFF:=hide (fun (u:Nat) (hu:u<4 * d.n)=>inner_iff HD.out hh HI.out hu)
         go_wp2_with fail
         go_loopg [22,23,24] 3 (fun g s22 s23 s24 wx=>∃q:Nat,q+g=3∧s22 = .int .i64 (q:Int)∧SO base w (.slice (some ⟨gA,0,none⟩) d.n cp) (.slice (some ⟨gB,0,none⟩) m cq) d.n m (d.lp:Int) [.int .i64 k,.int .i64 (h:Int),.int .i64 0,.int .i64 0,.bool false] d.sg d.mt gt (nats (sTo d h 3)) ge (sU d h) gO g1 c1 g2 c2 b3 (rSF d h 3) wx∧Row wx gV 28 [.int .i64 5,.int .i64 ((rX d h (2 * q):Nat):Int),.int .i64 0,.int .i64 0,.bool false])
         case atStart=>exact ⟨0,by omega,rfl,OK.out,VK.out⟩
         case round =>
          clear OK VK
          obtain ⟨q,hkg,rfl,ho1,hv1⟩:=hrel
          obtain ⟨go1,hgo1⟩:∃g,g=gk:=⟨_,rfl⟩
          rw [←hgo1] at hkg
          have HGO:=hide hgo1
          clear hgo1
          have HKG:=hide hkg
          have OK:=hide ho1
          have VK:=hide hv1
          clear ho1 hv1
          by_cases hq:q<3
          ·have hqi:(q:Int)<3:=by omega
           clear hkg
           go_wp2_with fail
           go_loopg [23,24] 2 (fun g s23 s24 wx=>∃j:Nat,j+g=2∧s23 = .int .i64 (j:Int)∧SO base w (.slice (some ⟨gA,0,none⟩) d.n cp) (.slice (some ⟨gB,0,none⟩) m cq) d.n m (d.lp:Int) [.int .i64 k,.int .i64 (h:Int),.int .i64 0,.int .i64 0,.bool false] d.sg d.mt gt (nats (sTo d h 3)) ge (sU d h) gO g1 c1 g2 c2 b3 (rSF d h 3) wx∧Row wx gV 28 [.int .i64 5,.int .i64 ((rX d h (2 * q+j):Nat):Int),.int .i64 0,.int .i64 0,.bool false])
           case atStart=>exact ⟨0,by omega,rfl,OK.out,VK.out⟩
           case round =>
            clear OK VK
            obtain ⟨j,hkg2,rfl,ho1,hv1⟩:=hrel
            have HKG2:=hide hkg2
            have OK:=hide ho1
            have VK:=hide hv1
            clear ho1 hv1
            by_cases hj:j<2
            ·have hji:(j:Int)<2:=by omega
             have hj0:(0:Int)≤(j:Int):=by omega
             have hq0:(0:Int)≤(q:Int):=by omega
             have ce1:=OK.out.e (2 * q+j) (by omega)
             have ul:=sU_lt HD.out hh (2 * q+j)
             have HST:=hide (show rX d h (2 * q+(j+1))=if sU d h (2 * q+j)<rX d h (2 * q+j)∧sC d h (sU d h (2 * q+j))=true then sU d h (2 * q+j) else rX d h (2 * q+j) from rfl)
             have hI:=IFF.out _ ul
             obtain ⟨u,hu⟩:∃u,u=sU d h (2 * q+j):=⟨_,rfl⟩
             obtain ⟨X,hX⟩:∃u,u=rX d h (2 * q+j):=⟨_,rfl⟩
             rw [←hu] at ce1 ul hI
             rw [←hu,←hX] at HST
             rw [←hX] at VK
             rw [show 2 * q=q * 2 by omega] at ce1
             have HIF:=hide hI
             clear hu hX hI hkg2
             obtain ⟨r0,r1,r2,r3⟩:=box3 OK.out.r
             obtain ⟨v0,v1,v2,v3,v4,v5⟩:=box5 VK.out
             by_cases hx:u<X
             ·have tx:decide ((u:Int)<(X:Int))=true:=by simp;omega
              have HX:=hide hx
              have hxi:(u:Int)<(X:Int):=by omega
              clear hx
              go_wp2_with fail
              refine (rinner_any (sldD d h) WD.out (some ⟨g1,0,none⟩) (some ⟨g2,0,none⟩) c1 c2 m (.int .i64 d.lp) u ge ce (sU d h) _ HM.out (by
               have h1:=ownN_ints OK.out.o2
               rw [EQ.out] at h1
               exact h1) ul OK.out.e).mono ?_
              rintro e w7 ⟨rfl,hb7⟩
              have O7:=hide (OK.out.below hb7)
              have V7:=hide (VK.out.below hb7)
              clear hb7 OK VK r0 r1 r2 r3 v0 v1 v2 v3 v4 v5 ce1
              obtain ⟨v0,v1,v2,v3,v4,v5⟩:=box5 V7.out
              by_cases hin:innerP d h u
              ·have HS2:=hide (show rX d h (2 * q+(j+1))=u by rw [HST.out,if_pos ⟨HX.out,HIF.out.1 hin⟩])
               rw [Pl.vb_true (show Pl.Per (Pl.nx (sldD d h)) u 3∧∀i,i<3→∃j,j<6∧Pl.it (Pl.nx (sldD d h)) i u=sU d h j from hin)]
               clear hin
               go_wp2
               go_roundg (gk - 1)
               case measure=>have:=HKG2.out;omega
               case rel=>exact ⟨j+1,by have:=HKG2.out;omega,by go_num,O7.out.setV V7.out hVl hVe 1 _,by rw [HS2.out];exact V7.out.set 1 _⟩
              ·have HS2:=hide (show rX d h (2 * q+(j+1))=X by rw [HST.out,if_neg (fun hc=>hin (HIF.out.2 hc.2))])
               rw [Pl.vb_false (show ¬(Pl.Per (Pl.nx (sldD d h)) u 3∧∀i,i<3→∃j,j<6∧Pl.it (Pl.nx (sldD d h)) i u=sU d h j) from hin)]
               clear hin
               go_wp2
               go_roundg (gk - 1)
               case measure=>have:=HKG2.out;omega
               case rel=>exact ⟨j+1,by have:=HKG2.out;omega,by go_num,O7.out,by rw [HS2.out];exact V7.out⟩
             ·have tx:decide ((u:Int)<(X:Int))=false:=by simp;omega
              have HS2:=hide (show rX d h (2 * q+(j+1))=X by rw [HST.out,if_neg (fun hc=>hx hc.1)])
              have hxi:¬((u:Int)<(X:Int)):=by omega
              clear hx
              go_wp2
              go_roundg (gk - 1)
              case measure=>have:=HKG2.out;omega
              case rel=>exact ⟨j+1,by have:=HKG2.out;omega,by go_num,OK.out,by rw [HS2.out];exact VK.out⟩
            ·have hji:¬((j:Int)<2):=by omega
             obtain rfl:j=2:=by omega
             clear hkg2 HKG2
             go_wp2_with fail
             go_roundg (go1 - 1)
             case measure=>have:=HKG.out;have:=HGO.out;omega
             case rel=>exact ⟨q+1,by have:=HKG.out;omega,by go_num,OK.out,VK.out⟩
          ·have hqi:¬((q:Int)<3):=by omega
           obtain rfl:q=3:=by omega
           clear hkg HKG HGO
           obtain ⟨X,hX⟩:∃u,u=rX d h (2 * 3):=⟨_,rfl⟩
           rw [←hX] at VK
           have EX2:=hide (show sX d h (4 * d.n)=X by rw [←EX.out,hX])
           clear hX EX
           obtain ⟨r0,r1,r2,r3⟩:=box3 OK.out.r
           obtain ⟨v0,v1,v2,v3,v4,v5⟩:=box5 VK.out
           obtain ⟨_,r5,l5⟩:=OK.out.k.rd
           obtain ⟨_,r6,l6⟩:=OK.out.k.rm
           obtain ⟨p0,p1,p2,p3⟩:=cells3 r5 l5
           obtain ⟨q0,q1,q2,q3,q4,q5⟩:=cells5 r6 l6
           clear r5 l5 r6 l6
           go_wp2_with fail
           go_region
           all_goals (go_wp2_with fail)
           all_goals (
            refine bodyPost_ret (v := .tuple #[.agg #[.slice (some ⟨g1,0,none⟩) d.n c1,.slice (some ⟨g2,0,none⟩) m c2,.int .i64 (d.lp:Int)],.agg #[.int .i64 5,.int .i64 (X:Int),.int .i64 0,.int .i64 0,.bool false],.int .i64 0]) ?_ rfl ?_
            ·obtain ⟨e0,e1,e2,e3,e4,e5,e6,e7⟩:=RK.cells OK.out.k (.slice (some ⟨g1,0,none⟩) d.n c1) (.slice (some ⟨g2,0,none⟩) m c2) (.int .i64 (d.lp:Int)) (.int .i64 5) (.int .i64 (X:Int)) (.int .i64 0) (.int .i64 0) (.bool false)
             unfold st8 at e0 e1 e2 e3 e4 e5 e6 e7
             simp [results,Try.results57,go_sem,e0,e1,e2,e3,e4,e5,e6,e7]
            ·have K11:=RK.fin OK.out.k (.slice (some ⟨g1,0,none⟩) d.n c1) (.slice (some ⟨g2,0,none⟩) m c2) (.int .i64 (d.lp:Int)) (.int .i64 5) (.int .i64 (X:Int)) (.int .i64 0) (.int .i64 0) (.bool false)
             have O1:=OK.out.k.own8 OK.out.o1 (.slice (some ⟨g1,0,none⟩) d.n c1) (.slice (some ⟨g2,0,none⟩) m c2) (.int .i64 (d.lp:Int)) (.int .i64 5) (.int .i64 (X:Int)) (.int .i64 0) (.int .i64 0) (.bool false)
             have O2:=OK.out.k.own8 OK.out.o2 (.slice (some ⟨g1,0,none⟩) d.n c1) (.slice (some ⟨g2,0,none⟩) m c2) (.int .i64 (d.lp:Int)) (.int .i64 5) (.int .i64 (X:Int)) (.int .i64 0) (.int .i64 0) (.bool false)
             unfold st8 at K11 O1 O2
             exact sld_done HC.out HM.out EQ.out.symm EX2.out K11.drew.bel (own_drewS O1) (own_drewS O2))
end Go.Proofs.Ytobbepmlmbbamaa
end
