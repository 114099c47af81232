/-
  The texts Vd, Ve, Vg, Vi, Vj, Mb, Hq.
-/
import Derived.Test.YtdgliimmnnhhjaaGreatDoorU03
import Derived.Test.YtdgliimmnnhhjaaGreatDoorU37
import Derived.Test.YtdgliimmnnhhjaaGreatDoorU38
set_option linter.unusedVariables false
set_option linter.unusedSimpArgs false
section
namespace Go.Proofs.YtdgliimmnnhhjaaGreatDoor
open Go Go.RowKit
def IntT (W:World)(v:Value)(xs:List Int):Prop:=∃A c,v = .slice A xs.length c∧xs.length≤c∧RowT W 3 A xs.length (xs.map (.int .i64))
theorem IntT.below {W W':World}{v:Value}{xs:List Int}(h:IntT W v xs)(hb:Below W.heap.size W W'):IntT W' v xs:=let ⟨A,c,e,h1,h2⟩:=h;⟨A,c,e,h1,h2.keep hb⟩
theorem IntT.grown {W W':World}{v:Value}{xs:List Int}{row:Option Nat}{t':TypeId}(h:IntT W v xs)(hg:W.grownBy W' row)(hr:∀g,row=some g→∃cs fr,W.heap[g]? = some (.cells cs t' fr))(hne:3≠t'):IntT W' v xs:=let ⟨A,c,e,h1,h2⟩:=h;⟨A,c,e,h1,h2.grown hg hr hne⟩
theorem IntT.store {W:World}{v:Value}{xs:List Int}{g i:Nat}{us:List Value}{t':TypeId}(h:IntT W v xs)(hr:Row W g t' us)(hne:3≠t')(u:Value):IntT (W.setCell ⟨g,i,none⟩ u) v xs:=let ⟨A,c,e,h1,h2⟩:=h;⟨A,c,e,h1,h2.store hr hne _⟩
theorem own_intT {W:World}{base:Nat}{v:Value}{xs:List Int}(h:W.ownsRow base 3 1 v xs.length (xs.map (.int .i64))):IntT W v xs:=by
 obtain ⟨A,c,rfl⟩:=owns_slice h
 exact ⟨A,c,rfl,own_cap h,own_rowT h⟩
structure PcV (W:World) (vC vO:Value) (x:Int) (p:Pl.Pc):Prop where
 c:IntT W vC p.code
 o:IntT W vO (nats p.order)
 r:x=p.roots
section
variable {W W':World} {vC vO:Value} {x:Int} {p:Pl.Pc}
theorem PcV.below (h:PcV W vC vO x p)(hb:Below W.heap.size W W'):PcV W' vC vO x p:=⟨h.c.below hb,h.o.below hb,h.r⟩
theorem PcV.grown {row:Option Nat}{t':TypeId}(h:PcV W vC vO x p)(hg:W.grownBy W' row)(hr:∀g,row=some g→∃cs fr,W.heap[g]? = some (.cells cs t' fr))(hne:3≠t'):PcV W' vC vO x p:=⟨h.c.grown hg hr hne,h.o.grown hg hr hne,h.r⟩
theorem PcV.store {g i:Nat}{us:List Value}{t':TypeId}(h:PcV W vC vO x p)(hr:Row W g t' us)(hne:3≠t')(u:Value):PcV (W.setCell ⟨g,i,none⟩ u) vC vO x p:=⟨h.c.store hr hne u,h.o.store hr hne u,h.r⟩
end
def PBox (d:Pl.Dg)(l:List Nat)(k:Nat)(W:World)(vC vO:Value)(x:Int):Prop :=
 (k=0∧vC = .slice none 0 0∧vO = .slice none 0 0∧x=0)∨∃p,PcV W vC vO x p∧Pl.Lst5 d (l.take k) p∧0≤x∧x≤k
theorem PBox.below {d:Pl.Dg}{l:List Nat}{k:Nat}{W W':World}{vC vO:Value}{x:Int}(h:PBox d l k W vC vO x)(hb:Below W.heap.size W W'):PBox d l k W' vC vO x:=by
 rcases h with h | ⟨p,h1,h2⟩
 ·exact .inl h
 ·exact .inr ⟨p,h1.below hb,h2⟩
theorem PBox.best {d:Pl.Dg}(hd:Pl.Wf d){l:List Nat}{k q:Nat}{W:World}{vC vO:Value}{x:Int}(h:PBox d l k W vC vO x)(hq:q<d.n)(hl:∀c,c ∈ l→c<d.n∧Pl.Comp d c q) :
 (k=0∧BestAt W vC (Pl.code d q).length none)∨∃p,PcV W vC vO x p∧Pl.Lst5 d (l.take k) p∧0≤x∧x≤k∧BestAt W vC (Pl.code d q).length (some p.code):=by
 rcases h with ⟨h0,h1,h2,_⟩ | ⟨p,h1,h2,h3,h4⟩
 ·exact .inl ⟨h0,h1⟩
 ·refine .inr ⟨p,h1,h2,h3,h4,?_⟩
  obtain ⟨r,hr,hc,ho⟩:=h2.is
  have hm:=hl r (List.mem_of_mem_take hr)
  obtain ⟨A,c,e,hcap,ht⟩:=h1.c
  have hlen:p.code.length=(Pl.code d q).length:=by rw [hc];exact Pl.code_len_eq hd hm.1 hq hm.2
  have hpos:0<p.code.length:=by
   rw [hlen,Pl.code_len]
   have:=(Pl.ord_ok hd hq).root
   have:=List.length_pos_of_mem this
   omega
  obtain ⟨b,o,cs,fr,hA,_⟩:=ht.2 hpos
  subst hA
  exact ⟨b,o,c,e,ht.row,hlen,hcap⟩
end Go.Proofs.YtdgliimmnnhhjaaGreatDoor
end
section
namespace Go.Proofs.YtdgliimmnnhhjaaGreatDoor
open Go Go.RowKit
attribute [local go_sem ↓] Go.wp_at_zero Go.wp_at_succ
theorem own_setNe {W:World}{base b n s:Nat}{e:TypeId}{v:Value}{xs:List Value}(h:W.ownsRow base e s v n xs)(hne:v.ownBlock≠some b)(o:Nat)(u:Value):(W.setCell ⟨b,o,none⟩ u).ownsRow base e s v n xs:=by
 refine ⟨h.1,?_⟩
 rcases h.2 with hz | ⟨g,cap,cur,r1,r2,r3,r4⟩
 ·exact .inl hz
 ·refine .inr ⟨g,cap,cur,r1,r2,?_,r4⟩
  have hgb:g≠b:=fun e=>hne (by rw [r1,e];rfl)
  exact (Below.heap_setCell W ⟨b,o,none⟩ u g hgb).trans r3
def PcsV (W:World):List Value→List Pl.Pc→Prop
 | [],[]=>True
 | vC :: vO :: .int .i64 x :: r,p :: ps=>PcV W vC vO x p∧PcsV W r ps
 | _,_=>False
theorem PcsV.map {W W':World}(f:∀{vC vO:Value} {x:Int} {p:Pl.Pc},PcV W vC vO x p→PcV W' vC vO x p):∀{cs:List Value} {ps:List Pl.Pc},PcsV W cs ps→PcsV W' cs ps
 | [],[],_=>trivial
 | vC :: vO :: .int .i64 x :: r,p :: ps,h=>⟨f h.1,PcsV.map f h.2⟩
theorem PcsV.add {W:World}{vC vO:Value}{x:Int}{p:Pl.Pc}(hp:PcV W vC vO x p):∀{cs:List Value} {ps:List Pl.Pc},PcsV W cs ps→PcsV W (cs++[vC,vO,.int .i64 x]) (ps++[p])
 | [],[],_=>⟨hp,trivial⟩
 | vC' :: vO' :: .int .i64 x' :: r,p' :: ps,h=>⟨h.1,PcsV.add hp h.2⟩
structure GRf (d:Pl.Dg) (ls:List Int) (P:Nat) (A:Option Addr) (vs:List Value) (W:World):Prop where
 r:RowT W 22 A P vs
 v:Vs W vs ((List.range P).map (Gl ls d.n))
structure PL (w:World) (d:Pl.Dg) (ls:List Int) (P:Nat) (A:Option Addr) (vs dv:List Value) (j:Nat) (vL:Value) (cs:List Value) (ps:List Pl.Pc) (W:World):Prop where
 bx:Row W w.heap.size 24 dv
 gr:GRf d ls P A vs W
 own:W.ownsRow (w.heap.size+1) 64 3 vL j cs
 pv:PcsV W cs ps
 len:ps.length=j
 is:∀(i:Nat) (p:Pl.Pc),ps[i]? = some p→Pl.Lst5 d (Gl ls d.n i) p
 bel:Below w.heap.size w W
section
variable {w W W':World} {d:Pl.Dg} {ls:List Int} {P:Nat} {A:Option Addr} {vs dv:List Value} {j:Nat} {vL:Value} {cs:List Value} {ps:List Pl.Pc}
theorem PL.big (h:PL w d ls P A vs dv j vL cs ps W):w.heap.size+1≤W.heap.size:=by have:=h.bx.lt;omega
theorem PL.below (h:PL w d ls P A vs dv j vL cs ps W)(hb:Below W.heap.size W W'):PL w d ls P A vs dv j vL cs ps W' :=
 ⟨h.bx.below hb,⟨h.gr.r.keep hb,h.gr.v.below hb⟩,own_below h.own hb,h.pv.map (fun p=>p.below hb),h.len,h.is,h.bel.trans (hb.mono h.bel.size)⟩
theorem PL.alloc (h:PL w d ls P A vs dv j vL cs ps W)(o:Obj):PL w d ls P A vs dv j vL cs ps (W.alloc o):=h.below ((Below.refl _ _).alloc (Nat.le_refl _) o)
theorem PL.setB (h:PL w d ls P A vs dv j vL cs ps W){g:Nat}{us:List Value}(hr:Row W g 64 us)(hg:w.heap.size<g)(hne:vL.ownBlock≠some g)(o:Nat)(u:Value):PL w d ls P A vs dv j vL cs ps (W.setCell ⟨g,o,none⟩ u) :=
 ⟨h.bx.other (by show _≠g;omega) _,⟨h.gr.r.store hr (by decide) u,h.gr.v.store hr (by decide) u⟩,own_setNe h.own hne o u,h.pv.map (fun p=>p.store hr (by decide) u),h.len,h.is,h.bel.setCell (by show _≤g;omega) _⟩
theorem PL.app (h:PL w d ls P A vs dv j vL cs ps W){g c n:Nat}{vC vO:Value}{x:Int}{p:Pl.Pc}(own:W'.ownsRow (w.heap.size+1) 64 3 (.slice (some ⟨g,0,none⟩) n c) n (cs++[vC,vO,.int .i64 x]))(gr:W.grownBy W' vL.ownBlock)(hn:n=j+1)(hp:PcV W vC vO x p)(hi:Pl.Lst5 d (Gl ls d.n j) p) :
 PL w d ls P A vs dv n (.slice (some ⟨g,0,none⟩) n c) (cs++[vC,vO,.int .i64 x]) (ps++[p]) W':=by
 have hbk:=fun g (hg:vL.ownBlock=some g)=>ownsRow_block h.own g hg
 refine ⟨h.bx.grown gr (fun e=>?_),⟨h.gr.r.grown gr hbk (by decide),h.gr.v.grown gr hbk (by decide)⟩,own,PcsV.add (hp.grown gr hbk (by decide)) (h.pv.map (fun q=>q.grown gr hbk (by decide))),by rw [List.length_append,h.len,hn];rfl,fun i q hq=>?_,h.bel.grown gr h.bel.size (fun k hk=>by have:=(h.own.lt k hk).1;omega)⟩
 ·have:=(h.own.lt _ e.symm).1
  omega
 ·rw [List.getElem?_append] at hq
  split at hq
  ·exact h.is i q hq
  ·have h1:=(List.getElem?_eq_some_iff.1 hq).1
   have h2:i=j:=by have:=h.len;simp at h1;omega
   subst h2
   rw [h.len,Nat.sub_self] at hq
   injection hq with hq
   subst hq
   exact hi
end
end Go.Proofs.YtdgliimmnnhhjaaGreatDoor
end
section
namespace Go.Proofs.YtdgliimmnnhhjaaGreatDoor
open Go Go.RowKit
attribute [local go_sem ↓] Go.wp_at_zero Go.wp_at_succ
theorem PL.setB3 {w W:World}{d:Pl.Dg}{ls:List Int}{P:Nat}{A:Option Addr}{vs dv:List Value}{j:Nat}{vL:Value}{cs:List Value}{ps:List Pl.Pc}(h:PL w d ls P A vs dv j vL cs ps W){g:Nat}{us:List Value}(hr:Row W g 64 us)(hg:w.heap.size<g)(hne:vL.ownBlock≠some g)(y0 y1 y2:Value) :
 PL w d ls P A vs dv j vL cs ps (((W.setCell ⟨g,0,none⟩ y0).setCell ⟨g,1,none⟩ y1).setCell ⟨g,2,none⟩ y2) :=
 ((h.setB hr hg hne 0 y0).setB (hr.set 0 y0) hg hne 1 y1).setB ((hr.set 0 y0).set 1 y1) hg hne 2 y2
theorem IntT.store3 {W:World}{v:Value}{xs:List Int}(h:IntT W v xs){g:Nat}{us:List Value}(hr:Row W g 64 us)(y0 y1 y2:Value) :
 IntT (((W.setCell ⟨g,0,none⟩ y0).setCell ⟨g,1,none⟩ y1).setCell ⟨g,2,none⟩ y2) v xs :=
 ((h.store hr (by decide) y0).store (hr.set 0 y0) (by decide) y1).store ((hr.set 0 y0).set 1 y1) (by decide) y2
theorem own_natT {W:World}{base:Nat}{v:Value}{l:List Nat}(h:W.ownsRow base 3 1 v l.length (l.map (fun k:Nat=>Value.int .i64 k))):IntT W v (nats l):=by
 refine own_intT (base:=base) ?_
 rw [map_nats]
 have e:(nats l).length=l.length:=by unfold nats;simp
 rw [e]
 exact h
structure PI (w:World) (d:Pl.Dg) (ls:List Int) (P:Nat) (A:Option Addr) (vs dv:List Value) (j:Nat) (vL:Value) (cs:List Value) (ps:List Pl.Pc) (g6 k:Nat) (vC vO:Value) (x:Int) (W:World):Prop where
 p:PL w d ls P A vs dv j vL cs ps W
 r:Row W g6 64 [vC,vO,.int .i64 x]
 b:PBox d (Gl ls d.n j) k W vC vO x
 lo:w.heap.size<g6
 ne:vL.ownBlock≠some g6
section
variable {w W W':World} {d:Pl.Dg} {ls:List Int} {P:Nat} {A:Option Addr} {vs dv:List Value} {j g6 k:Nat} {vL vC vO:Value} {x:Int} {cs:List Value} {ps:List Pl.Pc}
theorem PI.below (h:PI w d ls P A vs dv j vL cs ps g6 k vC vO x W)(hb:Below W.heap.size W W'):PI w d ls P A vs dv j vL cs ps g6 k vC vO x W' :=
 ⟨h.p.below hb,h.r.below hb,h.b.below hb,h.lo,h.ne⟩
theorem PI.put (h:PI w d ls P A vs dv j vL cs ps g6 k vC vO x W){p:Pl.Pc}{vC' vO':Value}(hp:PcV W vC' vO' 1 p)(hl:Pl.Lst5 d ((Gl ls d.n j).take (k+1)) p) :
 PI w d ls P A vs dv j vL cs ps g6 (k+1) vC' vO' 1 (((W.setCell ⟨g6,0,none⟩ vC').setCell ⟨g6,1,none⟩ vO').setCell ⟨g6,2,none⟩ (.int .i64 1)) :=
 ⟨h.p.setB3 h.r h.lo h.ne _ _ _,row3 h.r rfl _ _ _,.inr ⟨p,⟨hp.c.store3 h.r _ _ _,hp.o.store3 h.r _ _ _,hp.r⟩,hl,by omega,by omega⟩,h.lo,h.ne⟩
theorem PI.more (h:PI w d ls P A vs dv j vL cs ps g6 k vC vO x W){p:Pl.Pc}(hp:PcV W vC vO x p)(hl:Pl.Lst5 d ((Gl ls d.n j).take (k+1)) ⟨p.code,p.order,x+1⟩)(h0:0≤x)(h1:x≤k) :
 PI w d ls P A vs dv j vL cs ps g6 (k+1) vC vO (x+1) (W.setCell ⟨g6,2,none⟩ (.int .i64 (x+1))) :=
 ⟨h.p.setB h.r h.lo h.ne _ _,h.r.set 2 (.int .i64 (x+1)),.inr ⟨⟨p.code,p.order,x+1⟩,⟨hp.c.store h.r (by decide) _,hp.o.store h.r (by decide) _,rfl⟩,hl,by omega,by omega⟩,h.lo,h.ne⟩
theorem PI.skip (h:PI w d ls P A vs dv j vL cs ps g6 k vC vO x W){p:Pl.Pc}(hp:PcV W vC vO x p)(hl:Pl.Lst5 d ((Gl ls d.n j).take (k+1)) ⟨p.code,p.order,x⟩)(h0:0≤x)(h1:x≤k) :
 PI w d ls P A vs dv j vL cs ps g6 (k+1) vC vO x W :=
 ⟨h.p,h.r,.inr ⟨⟨p.code,p.order,x⟩,⟨hp.c,hp.o,rfl⟩,hl,by omega,by omega⟩,h.lo,h.ne⟩
end
theorem gl_comp {d:Pl.Dg}{ls:List Int}{P:Nat}(h:Pl.LB d ls P)(hp:∀a,a<d.n→0≤Pl.pv ls a){j a b:Nat}(ha:a ∈ Gl ls d.n j)(hb:b ∈ Gl ls d.n j):a<d.n∧Pl.Comp d a b:=by
 rw [mem_Gl] at ha hb
 exact ⟨ha.1,h.conn a b ha.1 hb.1 (hp a ha.1) (by rw [ha.2,hb.2])⟩
theorem gl_at {P j:Nat}(ls:List Int)(n:Nat)(hj:j<P):((List.range P).map (Gl ls n))[j]? = some (Gl ls n j):=by
 rw [List.getElem?_map,List.getElem?_range hj];rfl
end Go.Proofs.YtdgliimmnnhhjaaGreatDoor
end
section
namespace Go.Proofs.YtdgliimmnnhhjaaGreatDoor
open Go Go.RowKit
attribute [local go_sem ↓] Go.wp_at_zero Go.wp_at_succ
def cmpP (p q:Pl.Pc):Int:=if p.order.length=q.order.length then Pl.lx p.code q.code else (p.order.length:Int) - (q.order.length:Int)
set_option maxRecDepth 100000 in
set_option maxHeartbeats 2000000 in
theorem cmp_pieces (vC vO vC' vO':Value)(x x':Int)(p q:Pl.Pc)(w:World)(hp:PcV w vC vO x p)(hq:PcV w vC' vO' x' q)(lp:p.order.length≤64)(lq:q.order.length≤64)(cp:p.code.length≤320)(cq:q.code.length≤320) :
 Calls Tryz.prog 52 #[.agg #[vC,vO,.int .i64 x],.agg #[vC',vO',.int .i64 x']] w fun e w'=>e = .returned (.int .i64 (cmpP p q))∧Below w.heap.size w w':=by
 obtain ⟨A1,e1,h1,h1c,h1b⟩:=hp.c
 obtain ⟨A2,e2,h2,_,h2b⟩:=hp.o
 obtain ⟨A3,e3,h3,h3c,h3b⟩:=hq.c
 obtain ⟨A4,e4,h4,_,h4b⟩:=hq.o
 subst h1;subst h2;subst h3;subst h4
 rw [nats_len,nats_len]
 have H1:=hide (show IntsAt w A1 p.code.length p.code from h1b.row)
 have H3:=hide (show IntsAt w A3 q.code.length q.code from h3b.row)
 clear h1b h2b h3b h4b hp hq h1c h3c
 obtain ⟨m,hm⟩:∃m,m=p.order.length:=⟨_,rfl⟩
 obtain ⟨n,hn⟩:∃n,n=q.order.length:=⟨_,rfl⟩
 have HMN:=hide (show cmpP p q=if m=n then Pl.lx p.code q.code else (m:Int) - (n:Int) by unfold cmpP;rw [hm,hn])
 rw [←hm,←hn]
 rw [←hm] at lp
 rw [←hn] at lq
 clear hm hn
 have B0:=hide (show Below w.heap.size w ((w.alloc (.cells #[.slice A1 p.code.length e1,.slice A2 m e2,.int .i64 x] 64)).alloc (.cells #[.slice A3 q.code.length e3,.slice A4 n e4,.int .i64 x'] 64)) from ((Below.refl _ _).alloc (Nat.le_refl _) _).alloc (by simp) _)
 by_cases he:m=n
 ·subst he
  have HR:=hide (show cmpP p q=Pl.lx p.code q.code by rw [HMN.out,if_pos rfl])
  go_enter Tryz.func52,Tryz.ntmps52
  go_wp2_with fail
  refine (compare_any p.code q.code A1 A3 _ _ e1 e3 _ (H1.out.keep B0.out) (H3.out.keep B0.out) (by omega) (by omega)).mono ?_
  rintro e w1 ⟨rfl,rfl⟩
  go_wp2
  go_ret
  exact ⟨by rw [HR.out];rfl,B0.out⟩
 ·have HR:=hide (show cmpP p q=(m:Int) - (n:Int) by rw [HMN.out,if_neg he])
  have hei:¬((m:Int)=(n:Int)):=by omega
  have heb:((m:Int) != (n:Int))=true:=by rw [bne_iff_ne];exact hei
  clear he
  go_enter Tryz.func52,Tryz.ntmps52
  go_wp2
  go_ret
  exact ⟨ret_int (by rw [HR.out]),B0.out⟩
end Go.Proofs.YtdgliimmnnhhjaaGreatDoor
end
section
namespace Go.Proofs.YtdgliimmnnhhjaaGreatDoor
open Go Go.RowKit
attribute [local go_sem ↓] Go.wp_at_zero Go.wp_at_succ
theorem cmp_kle {p q:Pl.Pc}(hp:p.code.length=5 * p.order.length)(hq:q.code.length=5 * q.order.length):cmpP p q<0↔¬Pl.leP q p:=by
 unfold cmpP Pl.leP Pl.kle
 by_cases h:p.order.length=q.order.length
 ·rw [if_pos h]
  have:=Pl.lx_neg p.code q.code
  constructor
  ·rintro h1 (h2 | ⟨_,h2⟩) <;> omega
  ·intro h1
   rcases Int.lt_or_le (Pl.lx p.code q.code) 0 with h2 | h2
   ·exact h2
   ·exact absurd (.inr ⟨by omega,by omega⟩) h1
 ·rw [if_neg h]
  constructor
  ·rintro h1 (h2 | ⟨h2,_⟩) <;> omega
  ·intro h1
   rcases Nat.lt_or_ge p.order.length q.order.length with h2 | h2
   ·omega
   ·exact absurd (.inl (by omega)) h1
theorem PcsV.at_ {W:World}:∀{cs:List Value} {ps:List Pl.Pc},PcsV W cs ps→∀{j:Nat} {p:Pl.Pc},ps[j]? = some p→∃vC vO x,PcV W vC vO x p∧cs[j * 3]? = some vC∧cs[j * 3+1]? = some vO∧cs[j * 3+2]? = some (.int .i64 x)
 | [],[],_,j,p,h=>by simp at h
 | vC :: vO :: .int .i64 x :: r, q :: ps, hv, 0, p, h => by
   obtain rfl:q=p:=by simpa using h
   exact ⟨vC,vO,x,hv.1,rfl,rfl,rfl⟩
 | vC :: vO :: .int .i64 x :: r, q :: ps, hv, j + 1, p, h => by
   obtain ⟨a,b,y,h1,h2,h3,h4⟩:=PcsV.at_ hv.2 (j:=j) (p:=p) (by simpa using h)
   refine ⟨a,b,y,h1,?_,?_,?_⟩
   ·rw [show (j+1) * 3=j * 3+3 by omega];exact h2
   ·rw [show (j+1) * 3+1=j * 3+1+3 by omega];exact h3
   ·rw [show (j+1) * 3+2=j * 3+2+3 by omega];exact h4
theorem PcsV.put {W:World}{vC vO:Value}{x:Int}{p:Pl.Pc}(hp:PcV W vC vO x p):∀{cs:List Value} {ps:List Pl.Pc},PcsV W cs ps→∀(j:Nat),j<ps.length→PcsV W (((cs.set (j * 3) vC).set (j * 3+1) vO).set (j * 3+2) (.int .i64 x)) (ps.set j p)
 | [],[],_,j,h=>by simp at h
 | vC' :: vO' :: .int .i64 x' :: r,q :: ps,hv,0,h=>⟨hp,hv.2⟩
 | vC' :: vO' :: .int .i64 x' :: r, q :: ps, hv, j + 1, h => by
   have ih:=PcsV.put hp hv.2 j (by simpa using h)
   rw [show (j+1) * 3=j * 3+3 by omega,show j * 3+3+1=(j * 3+1)+3 by omega,show j * 3+3+2=(j * 3+2)+3 by omega]
   exact ⟨hv.1,ih⟩
end Go.Proofs.YtdgliimmnnhhjaaGreatDoor
end
section
namespace Go.Proofs.YtdgliimmnnhhjaaGreatDoor
open Go Go.RowKit
attribute [local go_sem ↓] Go.wp_at_zero Go.wp_at_succ
theorem dn_valid {d:Pl.Dg}(hd:Pl.Valid d):Pl.Valid (dnD d):=by
 suffices h:∀n,∀d:Pl.Dg,Pl.Valid d→d.n≤n→Pl.Valid (dnD d) from h d.n d hd (Nat.le_refl _)
 intro n
 induction n with
 | zero =>
   intro d hd h0
   rw [(dn_stop (rem_flat (by omega))).1];exact hd
 | succ n ih =>
   intro d hd hn
   cases hr:remL d with
   | nil=>rw [(dn_stop hr).1];exact hd
   | cons z l =>
     have hz:z ∈ remL d:=by rw [hr];exact List.mem_cons_self
     have hl:=rem_less hd hz
     rw [(dn_next hd hr).1]
     exact ih _ (rem_v hd hz) (by omega)
def DownPost (r:Pl.Dg)(l:List Mv)(w:World)(e:Ending)(w':World):Prop:=∃(A9 B9:Option Addr) (c8 c9:Nat) (v:Value),e = .returned (.tuple #[.agg #[.slice A9 r.n c8,.slice B9 (4 * r.n) c9,.int .i64 r.lp],v,.int .i64 0])∧DgAt w' A9 B9 r∧MovesIn w.heap.size w' v l∧Below w.heap.size w w'
theorem descend_n (d:Pl.Dg)(hd:Pl.Valid d)(A B:Option Addr)(n cp cq m lp:Nat)(w:World)(hn:n=d.n)(hl:lp=d.lp)(hm:m=4 * d.n)(hg:DgAt w A B d) :
 Calls Tryz.prog 57 #[.agg #[.slice A n cp,.slice B m cq,.int .i64 (lp:Int)]] w (DnPost A B d w):=by
 subst hn
 subst hl
 exact descend_any d hd A B cp cq m w hm hg
set_option maxRecDepth 100000 in
set_option maxHeartbeats 4000000 in
theorem Down_any (d:Pl.Dg)(hd:Pl.Valid d)(A B:Option Addr)(cp cq m:Nat)(w:World)(hm:m=4 * d.n)(hg:DgAt w A B d) :
 Calls Tryz.prog 31 #[.agg #[.slice A d.n cp,.slice B m cq,.int .i64 d.lp]] w (DownPost (dnD d) (dnM d) w):=by
 have HM:=hide hm
 have HG:=hide hg
 have hdn:=hd.wf.few
 clear hm hg
 have X0:=hide ((row_at (W:=w) (g:=w.heap.size) (t:=24) (vs:=[.slice A d.n cp,.slice B m cq,.int .i64 (d.lp:Int)]) rfl).alloc (.cells #[.slice none 0 0,.slice none 0 0,.int .i64 0] 24))
 have S0:=hide (row_at (W:=w.alloc (.cells #[.slice A d.n cp,.slice B m cq,.int .i64 (d.lp:Int)] 24)) (g:=w.heap.size+1) (t:=24) (vs:=[.slice none 0 0,.slice none 0 0,.int .i64 0]) (by simp))
 have B0:=hide (show Below w.heap.size w ((w.alloc (.cells #[.slice A d.n cp,.slice B m cq,.int .i64 (d.lp:Int)] 24)).alloc (.cells #[.slice none 0 0,.slice none 0 0,.int .i64 0] 24)) from ((Below.refl _ _).alloc (Nat.le_refl _) _).alloc (by simp) _)
 go_enter Tryz.func31,Tryz.ntmps31
 go_wp2_with fail
 refine (valid_yes d hd A B cp cq m _ HM.out (HG.out.keep B0.out)).mono ?_
 rintro e w1 ⟨rfl,hb1⟩
 have X1:=hide (X0.out.below hb1)
 have S1:=hide (S0.out.below hb1)
 have B1:=hide (B0.out.trans (hb1.mono B0.out.size))
 clear hb1 X0 S0 B0
 obtain ⟨d0,d1,d2,d3⟩:=box3 X1.out
 go_wp2_with fail
 refine (clone_all d A B cp cq m _ HM.out (HG.out.keep B1.out) hdn).mono ?_
 rintro e w2 ⟨A9,B9,c8,c9,rfl,hT,hb2⟩
 have S2:=hide (S1.out.below hb2)
 have B2:=hide (B1.out.trans (hb2.mono B1.out.size))
 have HT:=hide hT
 clear hb2 X1 S1 B1 hT d0 d1 d2 d3
 go_wp2_with fail
 refine (descend_n d hd A9 B9 d.n c8 c9 m d.lp _ rfl rfl HM.out HT.out.at).mono ?_
 rintro e w3 ⟨A8,B8,b8,b9,v,rfl,hg8,hv8,hb3⟩
 have hs2:=S2.out.lt
 have hT8:DgT w3 A8 B8 (dnD d):=by
  rcases hg8 with h | ⟨h1,h2,h3⟩
  ·exact h
  ·rw [h1,h2,h3];exact HT.out.keep hb3
 have hv:=dn_valid hd
 have hrn:=hv.wf.few
 have hrl:=hv.wf.lp
 obtain ⟨N8,hN8⟩:∃n,n=(dnD d).n:=⟨_,rfl⟩
 obtain ⟨M8,hM8⟩:∃n,n=4 * (dnD d).n:=⟨_,rfl⟩
 obtain ⟨L8,hL8⟩:∃n,n=(dnD d).lp:=⟨_,rfl⟩
 rw [←hM8,←hN8,←hL8]
 rw [←hN8] at hrn
 rw [←hL8] at hrl
 have HN8:=hide hN8
 have HM8:=hide hM8
 have HL8:=hide hL8
 have b4:=(Below.refl w3.heap.size w3).alloc (Nat.le_refl _) (.cells #[.slice A8 N8 b8,.slice B8 M8 b9,.int .i64 (L8:Int)] 24)
 have S3:=hide ((S2.out.below hb3).below b4)
 have R3:=hide (row_at (W:=w3) (g:=w3.heap.size) (t:=24) (vs:=[.slice A8 N8 b8,.slice B8 M8 b9,.int .i64 (L8:Int)]) rfl)
 have T3:=hide hT8
 have B3:=hide (B2.out.trans (hb3.mono B2.out.size))
 obtain ⟨b,hb1,hb2,own⟩:=hv8
 obtain ⟨A7,c7,hs7⟩:=owns_slice own
 subst hs7
 have OW:=hide own
 have S3':=hide (S2.out.below hb3)
 have hw3:w.heap.size+1<w3.heap.size:=(S2.out.below hb3).lt
 have hw2:w.heap.size+1<b:=by omega
 clear hb3 own hg8 hT8 hN8 hM8 hL8 b4 HT S2 B2 hv
 obtain ⟨e0,e1,e2,e3⟩:=box3 R3.out
 obtain ⟨f0,f1,f2,f3⟩:=box3 S3'.out
 go_wp2
 have RR:=row3 S3'.out rfl (.slice A8 N8 b8) (.slice B8 M8 b9) (.int .i64 (L8:Int))
 have BB:=below3 B3.out (show w.heap.size≤w.heap.size+1 by omega) (.slice A8 N8 b8) (.slice B8 M8 b9) (.int .i64 (L8:Int))
 have OO:=ownsRow_setCell_below (ownsRow_setCell_below (ownsRow_setCell_below OW.out (a:=⟨w.heap.size+1,0,none⟩) (by show w.heap.size+1<_;omega) (.slice A8 N8 b8)) (a:=⟨w.heap.size+1,1,none⟩) (by show w.heap.size+1<_;omega) (.slice B8 M8 b9)) (a:=⟨w.heap.size+1,2,none⟩) (by show w.heap.size+1<_;omega) (.int .i64 (L8:Int))
 have TT:=T3.out.set3 S3'.out (.slice A8 N8 b8) (.slice B8 M8 b9) (.int .i64 (L8:Int))
 refine bodyPost_ret (v := .tuple #[.agg #[.slice A8 N8 b8,.slice B8 M8 b9,.int .i64 (L8:Int)],.slice A7 (dnM d).length c7,.int .i64 0]) ?_ rfl ?_
 ·obtain ⟨r0,r1,r2,r3⟩:=box3 (RR.alloc (.cells #[.slice A8 N8 b8,.slice B8 M8 b9,.int .i64 (L8:Int)] 24))
  simp [results,Tryz.results31,go_sem,r0,r1,r2]
 ·refine ⟨A8,B8,b8,b9,_,by rw [HN8.out,HM8.out,HL8.out],(TT.al _).at,⟨b,by omega,by simp;omega,OO.alloc _⟩,BB.alloc BB.size _⟩
end Go.Proofs.YtdgliimmnnhhjaaGreatDoor
end
section
namespace Go.Proofs.YtdgliimmnnhhjaaGreatDoor
open Go Go.RowKit
attribute [local go_sem ↓] Go.wp_at_zero Go.wp_at_succ
def ResL (x:Pl.Dg)(n m lp nl:Nat)(ms:List Mv)(w:World)(e:Ending)(w':World):Prop:=∃(A9 B9 AL:Option Addr) (c8 c9 cL:Nat),e = .returned (.tuple #[.agg #[.slice A9 n c8,.slice B9 m c9,.int .i64 (lp:Int)],.slice AL nl cL,.int .i64 0])∧DgAt w' A9 B9 x∧MovesAt w' (.slice AL nl cL) ms∧Below w.heap.size w w'
theorem down_e (r:Pl.Dg)(hr:Pl.Valid r)(A B:Option Addr)(n cp cq m lp:Nat)(w:World)(hn:n=r.n)(hm:m=4 * r.n)(hl:lp=r.lp)(hg:DgAt w A B r)(x:Pl.Dg)(ms:List Mv)(n' m' l' nl:Nat)(hx:dnD r=x)(hms:dnM r=ms)(hn':n'=x.n)(hm':m'=4 * x.n)(hl':l'=x.lp)(hnl:nl=ms.length) :
 Calls Tryz.prog 31 #[.agg #[.slice A n cp,.slice B m cq,.int .i64 (lp:Int)]] w (ResL x n' m' l' nl ms w):=by
 subst hn hl hx hms hn' hm' hl' hnl
 refine (Down_any r hr A B cp cq m w hm hg).mono ?_
 rintro e w' ⟨A9,B9,c8,c9,v,he,hT,hv,hb⟩
 obtain ⟨b,hb2⟩:=hv.at
 obtain ⟨AL,cL,rfl⟩:=owns_slice hb2
 exact ⟨A9,B9,AL,c8,c9,cL,he,hT,⟨b,hb2⟩,hb⟩
end Go.Proofs.YtdgliimmnnhhjaaGreatDoor
end
