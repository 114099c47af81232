/-
  The texts Ma.
-/
import Derived.Test.YtdgliimmnnhhjaaGreatDoorU36
set_option linter.unusedVariables false
set_option linter.unusedSimpArgs false
section
namespace Go.Proofs.YtdgliimmnnhhjaaGreatDoor
open Go Go.RowKit
attribute [local go_sem ↓] Go.wp_at_zero Go.wp_at_succ
structure BB (w W:World):Prop where
 b:Below w.heap.size w W
theorem BB.refl (w:World):BB w w:=⟨Below.refl _ _⟩
theorem sz_alloc (W:World)(o:Obj):W.heap.size+1=(W.alloc o).heap.size:=by simp
def Ty (W:World)(g:Nat)(t:TypeId):Prop:=∃vs,Row W g t vs
theorem Row.ty {W:World}{g:Nat}{t:TypeId}{vs:List Value}(h:Row W g t vs):Ty W g t:=⟨_,h⟩
theorem Ty.set {W:World}{g g':Nat}{t:TypeId}(h:Ty W g t)(o:Nat)(v:Value):Ty (W.setCell ⟨g',o,none⟩ v) g t:=by
 obtain ⟨vs,h⟩:=h
 by_cases e:g=g'
 ·subst e;exact ⟨_,h.set o v⟩
 ·exact ⟨vs,h.other e v⟩
theorem Ty.alloc {W:World}{g:Nat}{t:TypeId}(h:Ty W g t)(o:Obj):Ty (W.alloc o) g t:=let ⟨vs,h⟩:=h;⟨vs,h.alloc o⟩
theorem row_new3 (W:World)(g:Nat)(a b c:Value)(h:g=W.heap.size):Row (W.alloc (.cells #[a,b,c] 24)) g 24 [a,b,c]:=row_at (vs:=[a,b,c]) h
theorem DgT.setT {W:World}{A B:Option Addr}{d:Pl.Dg}{g o:Nat}{t:TypeId}{v:Value}(h:DgT W A B d)(ht:Ty W g t)(hne:3≠t):DgT (W.setCell ⟨g,o,none⟩ v) A B d:=by
 obtain ⟨vs,hr⟩:=ht
 have hb:=hr
 unfold Row at hb
 have key:∀{A:Option Addr} {n:Nat} {xs:List Value},RowT W 3 A n xs→RowT (W.setCell ⟨g,o,none⟩ v) 3 A n xs:=fun h =>
  ⟨h.1, fun hn => let ⟨b, o', cs', fr', e, hb', hc⟩ := h.2 hn; ⟨b, o', cs', fr', e, (Below.heap_setCell W ⟨g, o, none⟩ v b (fun he => by
    have he':b=g:=he
    rw [he',hb] at hb'
    injection hb' with hb'
    injection hb' with _ h4
    exact hne h4.symm)).trans hb',hc⟩⟩
 exact ⟨key h.s,key h.m⟩
theorem DgT.al {W:World}{A B:Option Addr}{d:Pl.Dg}(h:DgT W A B d)(o:Obj):DgT (W.alloc o) A B d:=h.keep ((Below.refl _ _).alloc (Nat.le_refl _) o)
theorem BB.drew {w W:World}(h:BB w W):BB w W.drew:=⟨h.b.drew⟩
theorem BB.alloc {w W:World}(h:BB w W)(o:Obj):BB w (W.alloc o):=⟨h.b.alloc h.b.size o⟩
theorem BB.set {w W:World}{g:Nat}(h:BB w W)(hg:w.heap.size≤g)(o:Nat)(v:Value):BB w (W.setCell ⟨g,o,none⟩ v):=⟨h.b.setCell hg v⟩
theorem BB.below {w W W':World}(h:BB w W)(hb:Below W.heap.size W W'):BB w W':=⟨h.b.trans (hb.mono h.b.size)⟩
structure DL (w:World) (A B:Option Addr) (d r:Pl.Dg) (l:List Mv) (v:Value) (A9 B9:Option Addr) (n c8 m c9 lp:Nat) (W:World):Prop where
 val:Pl.Valid r
 eqD:dnD d=dnD r
 eqM:dnM d=l++dnM r
 hn:n=r.n
 hm:m=4 * r.n
 hl:lp=r.lp
 at_:Row W w.heap.size 24 [.slice A9 n c8,.slice B9 m c9,.int .i64 (lp:Int)]
 res:Row W (w.heap.size+1) 24 [.slice none 0 0,.slice none 0 0,.int .i64 0]
 t:DgT W A9 B9 r∨(A9=A∧B9=B∧r=d)
 own:W.ownsRow (w.heap.size+1+1) 43 5 v l.length (mvs l)
 len:l.length+r.n≤d.n
 bel:Below w.heap.size w W
section
variable {w W W':World} {A B:Option Addr} {d r:Pl.Dg} {l:List Mv} {v:Value} {A9 B9:Option Addr} {n c8 m c9 lp:Nat}
theorem DL.below (h:DL w A B d r l v A9 B9 n c8 m c9 lp W)(hb:Below W.heap.size W W'):DL w A B d r l v A9 B9 n c8 m c9 lp W' :=
 ⟨h.val,h.eqD,h.eqM,h.hn,h.hm,h.hl,h.at_.below hb,h.res.below hb,h.t.imp (fun t=>t.keep hb) id,own_below h.own hb,h.len,h.bel.trans (hb.mono h.bel.size)⟩
theorem DL.alloc (h:DL w A B d r l v A9 B9 n c8 m c9 lp W)(o:Obj):DL w A B d r l v A9 B9 n c8 m c9 lp (W.alloc o):=h.below ((Below.refl _ _).alloc (Nat.le_refl _) o)
theorem DL.dg (h:DL w A B d r l v A9 B9 n c8 m c9 lp W)(hg:DgAt w A B d):DgAt W A9 B9 r:=by
 rcases h.t with t | ⟨h1,h2,h3⟩
 ·exact t.at
 ·rw [h1,h2,h3];exact hg.keep h.bel
theorem DL.start (hd:Pl.Valid d)(hm:m=4 * d.n):DL w A B d d [] (.slice none 0 0) A B d.n c8 m c9 d.lp ((w.alloc (.cells #[.slice A d.n c8,.slice B m c9,.int .i64 (d.lp:Int)] 24)).alloc (.cells #[.slice none 0 0,.slice none 0 0,.int .i64 0] 24)) :=
 ⟨hd,rfl,rfl,rfl,hm,rfl,(row_at (vs:=[.slice A d.n c8,.slice B m c9,.int .i64 (d.lp:Int)]) rfl).alloc _,row_at (vs:=[.slice none 0 0,.slice none 0 0,.int .i64 0]) (by simp),.inr ⟨rfl,rfl,rfl⟩,⟨rfl,.inl ⟨rfl,rfl⟩⟩,by simp,((Below.refl _ _).alloc (Nat.le_refl _) _).alloc (by simp) _⟩
end
def DnPost (A B:Option Addr)(d:Pl.Dg)(w:World)(e:Ending)(w':World):Prop:=∃(A9 B9:Option Addr) (c8 c9:Nat) (v:Value),e = .returned (.tuple #[.agg #[.slice A9 (dnD d).n c8,.slice B9 (4 * (dnD d).n) c9,.int .i64 (dnD d).lp],v])∧(DgT w' A9 B9 (dnD d)∨(A9=A∧B9=B∧dnD d=d))∧MovesIn w.heap.size w' v (dnM d)∧Below w.heap.size w w'
theorem DL.post {w W:World}{A B:Option Addr}{d r:Pl.Dg}{l:List Mv}{v:Value}{A9 B9:Option Addr}{n c8 m c9 lp:Nat}(h:DL w A B d r l v A9 B9 n c8 m c9 lp W)(he:remL r=[]) :
 DnPost A B d w (.returned (.tuple #[.agg #[.slice A9 n c8,.slice B9 m c9,.int .i64 (lp:Int)],v])) (((W.setCell ⟨w.heap.size+1,0,none⟩ (.slice A9 n c8)).setCell ⟨w.heap.size+1,1,none⟩ (.slice B9 m c9)).setCell ⟨w.heap.size+1,2,none⟩ (.int .i64 (lp:Int))):=by
 have BB:=below3 h.bel (show w.heap.size≤w.heap.size+1 by omega) (.slice A9 n c8) (.slice B9 m c9) (.int .i64 (lp:Int))
 have OO:=ownsRow_setCell_below (ownsRow_setCell_below (ownsRow_setCell_below h.own (a:=⟨w.heap.size+1,0,none⟩) (by show w.heap.size+1<_;omega) (.slice A9 n c8)) (a:=⟨w.heap.size+1,1,none⟩) (by show w.heap.size+1<_;omega) (.slice B9 m c9)) (a:=⟨w.heap.size+1,2,none⟩) (by show w.heap.size+1<_;omega) (.int .i64 (lp:Int))
 have hs:=h.res.lt
 have e1:dnD d=r:=by rw [h.eqD,(dn_stop he).1]
 have e2:dnM d=l:=by rw [h.eqM,(dn_stop he).2,List.append_nil]
 have TT:DgT (((W.setCell ⟨w.heap.size+1,0,none⟩ (.slice A9 n c8)).setCell ⟨w.heap.size+1,1,none⟩ (.slice B9 m c9)).setCell ⟨w.heap.size+1,2,none⟩ (.int .i64 (lp:Int))) A9 B9 (dnD d)∨(A9=A∧B9=B∧dnD d=d):=by
  rw [e1]
  exact h.t.imp (fun t=>t.set3 h.res _ _ _) id
 unfold DnPost
 rw [e1,e2]
 rw [e1] at TT
 refine ⟨A9,B9,c8,c9,v,by rw [h.hn,h.hm,h.hl],TT,⟨w.heap.size+1+1,by omega,by simp;omega,OO⟩,BB⟩
theorem first_mv {l:List Mv}{z:Mv}(h:l[0]? = some z):∃t,l=z :: t:=by
 cases l with
 | nil=>cases h
 | cons a t=>exact ⟨t,by rw [show a=z from Option.some.inj h]⟩
theorem DL.next {r d:Pl.Dg}{l:List Mv}{z:Mv}(hr:Pl.Valid r)(eqD:dnD d=dnD r)(eqM:dnM d=l++dnM r)(hl:l.length+r.n≤d.n)(h:(remL r)[0]? = some z) :
 Pl.Valid (apD r z)∧dnD d=dnD (apD r z)∧dnM d=(l++[z])++dnM (apD r z)∧(l++[z]).length+(apD r z).n≤d.n∧(apD r z).n+1≤r.n:=by
 obtain ⟨t,ht⟩:=first_mv h
 obtain ⟨e1,e2⟩:=dn_next hr ht
 have hz:z ∈ remL r:=by rw [ht];exact List.mem_cons_self
 have hle:=rem_less hr hz
 refine ⟨rem_v hr hz,by rw [eqD,e1],by rw [eqM,e2];simp,?_,hle⟩
 rw [List.length_append,List.length_singleton]
 omega
set_option maxRecDepth 100000 in
set_option maxHeartbeats 8000000 in
theorem descend_any (d:Pl.Dg)(hd:Pl.Valid d)(A B:Option Addr)(cp cq m:Nat)(w:World)(hm:m=4 * d.n)(hg:DgAt w A B d) :
 Calls Tryz.prog 57 #[.agg #[.slice A d.n cp,.slice B m cq,.int .i64 d.lp]] w (DnPost A B d w):=by
 have HM:=hide hm
 have HG:=hide hg
 have hdn:=hd.wf.few
 have L0:=hide (DL.start (w:=w) (A:=A) (B:=B) (c8:=cp) (c9:=cq) hd hm)
 clear hm hg
 obtain ⟨V,hV⟩:∃V,V=(w.alloc (.cells #[.slice A d.n cp,.slice B m cq,.int .i64 (d.lp:Int)] 24)).alloc (.cells #[.slice none 0 0,.slice none 0 0,.int .i64 0] 24):=⟨_,rfl⟩
 go_enter Tryz.func57,Tryz.ntmps57
 go_wp2
 rw [←hV] at L0 ⊢
 clear hV
 go_loopg [4,5,6,7] d.n (fun g s4 s5 s6 s7 wx=>∃(r:Pl.Dg) (l:List Mv) (A9 B9:Option Addr) (n c8 m c9 lp:Nat),r.n=g∧DL w A B d r l s4 A9 B9 n c8 m c9 lp wx)
 case atStart=>exact ⟨_,_,_,_,_,_,_,_,_,rfl,L0.out⟩
 case round =>
  clear L0
  obtain ⟨r,l,A9,B9,n,c8,m,c9,lp,hrg,hl⟩:=hrel
  have HKG:=hide hrg
  have K0:=hide hl
  have hln:=hl.len
  have hlp:=hl.val.wf.lp
  rw [←hl.hl] at hlp
  have hrn:=hl.val.wf.few
  rw [←hl.hn] at hrn
  have hlen:l.length≤64:=by omega
  clear hl hrg
  obtain ⟨d0,d1,d2,d3⟩:=box3 K0.out.at_
  go_wp2_with fail
  refine (Removing_n r K0.out.val A9 B9 n c8 c9 m lp _ K0.out.hn K0.out.hm K0.out.hl (K0.out.dg HG.out)).mono ?_
  rintro e w3 ⟨v,rfl,hv,hb3⟩
  obtain ⟨A5,c5,rfl,hV⟩:=hv.at.mv
  have K3:=hide (K0.out.below hb3)
  have lch:=remL_le K0.out.val.wf.few
  obtain ⟨L,hL⟩:∃L,L=remL r:=⟨_,rfl⟩
  rw [←hL] at hV lch ⊢
  obtain ⟨N5,hN5⟩:∃n,n=L.length:=⟨_,rfl⟩
  rw [←hN5] at hV lch ⊢
  have HL:=hide hL
  have HN5:=hide hN5
  have HV:=hide hV
  have hw3:w.heap.size+1<w3.heap.size:=K3.out.res.lt
  clear hV hv hL hN5 hb3 d0 d1 d2 d3 K0 hln
  by_cases h0:N5=0
  ·have HE:=hide (show remL r=[] by rw [←HL.out];exact List.eq_nil_of_length_eq_zero (by rw [←HN5.out];exact h0))
   subst h0
   obtain ⟨e0,e1,e2,e3⟩:=box3 K3.out.at_
   obtain ⟨f0,f1,f2,f3⟩:=box3 K3.out.res
   obtain ⟨A7,c7,hs4⟩:=owns_slice K3.out.own
   subst hs4
   go_wp2
   have RR:=row3 K3.out.res rfl (.slice A9 n c8) (.slice B9 m c9) (.int .i64 (lp:Int))
   refine bodyPost_ret (v := .tuple #[.agg #[.slice A9 n c8,.slice B9 m c9,.int .i64 (lp:Int)],.slice A7 l.length c7]) ?_ rfl ?_
   ·obtain ⟨r0,r1,r2,r3⟩:=box3 RR
    simp [results,Tryz.results57,go_sem,r0,r1,r2]
   ·exact K3.out.post HE.out
  ·have hN0:0<N5:=by omega
   have t0:((N5:Int) == 0)=false:=by rw [beq_eq_false_iff_ne];omega
   have hN1:(0:Int)<(N5:Int):=by omega
   obtain ⟨g5,zk,zx,zy,zs,zo,rfl,hgl,hz,c0,c1,c2,c3,c4⟩:=HV.out.at_ hN0
   have HZ:=hide (show (remL r)[0]? = some ⟨zk,zx,zy,zs,zo⟩ by rw [←HL.out];exact hz)
   have HIN:=hide (List.mem_of_getElem? HZ.out)
   have HOK:=hide (rem_ok HIN.out).1
   have HNX:=hide (DL.next K3.out.val K3.out.eqD K3.out.eqM K3.out.len HZ.out)
   simp only [Nat.zero_mul,Nat.zero_add] at c0 c1 c2 c3 c4
   obtain ⟨e0,e1,e2,e3⟩:=box3 K3.out.at_
   clear hz h0
   obtain ⟨r2,hr2⟩:∃r2,r2=apD r ⟨zk,zx,zy,zs,zo⟩:=⟨_,rfl⟩
   rw [←hr2] at HNX
   have HR2:=hide hr2
   obtain ⟨hv2,hd2,hm2,hl2,hlt2⟩:=HNX.out
   have HD2:=hide hd2
   have HMM2:=hide hm2
   have HL2:=hide hl2
   have HLT:=hide hlt2
   have HV2:=hide hv2
   have hr2n:=HV2.out.wf.few
   have hr2l:=HV2.out.wf.lp
   obtain ⟨N8,hN8⟩:∃n,n=r2.n:=⟨_,rfl⟩
   obtain ⟨M8,hM8⟩:∃n,n=4 * r2.n:=⟨_,rfl⟩
   obtain ⟨L8,hL8⟩:∃n,n=r2.lp:=⟨_,rfl⟩
   rw [←hN8] at hr2n
   rw [←hL8] at hr2l
   have HN8:=hide hN8
   have HM8:=hide hM8
   have HL8:=hide hL8
   have AR:=hide (fun (W:World) (hW:DgAt W A9 B9 r)=>(apply_rem r K3.out.val A9 B9 n c8 c9 m lp zk zx zy zs zo W K3.out.hn K3.out.hm K3.out.hl hW HIN.out).mono (R':=fun e w'=>∃(A8 B8:Option Addr) (b8 b9:Nat) (k9 x9 y9 s9:Int) (o9:Bool),e = .returned (.tuple #[.agg #[.slice A8 N8 b8,.slice B8 M8 b9,.int .i64 (L8:Int)],.agg #[.int .i64 k9,.int .i64 x9,.int .i64 y9,.int .i64 s9,.bool o9],.int .i64 0])∧DgT w' A8 B8 r2∧Below W.heap.size W w') (fun e w' hres=>by
    obtain ⟨A8,B8,b8,b9,k9,x9,y9,s9,o9,hmv,he,hT⟩:=(hres.2.1 HOK.out).split
    rw [←HR2.out] at he hT
    rw [←HM8.out,←HN8.out,←HL8.out] at he
    exact ⟨A8,B8,b8,b9,k9,x9,y9,s9,o9,he,hT,hres.2.2⟩))
   have D3:=hide (K3.out.dg HG.out)
   have hrr:w.heap.size<w3.heap.size:=by omega
   clear hr2 hv2 hd2 hm2 hl2 hlt2 hN8 hM8 hL8 HNX
   have HALL:=hide (fun (W:World) (hb:BB w3 W)=>(show (W.cell? ⟨w.heap.size,0,none⟩=some (.slice A9 n c8)∧W.cell? ⟨w.heap.size,1,none⟩=some (.slice B9 m c9)∧W.cell? ⟨w.heap.size,2,none⟩=some (.int .i64 (lp:Int))∧W.cell? ⟨g5,0,none⟩=some (.int .i64 zk)∧W.cell? ⟨g5,1,none⟩=some (.int .i64 zx)∧W.cell? ⟨g5,2,none⟩=some (.int .i64 zy)∧W.cell? ⟨g5,3,none⟩=some (.int .i64 zs)∧W.cell? ⟨g5,4,none⟩=some (.bool zo)) from
    ⟨cell_below e0 hb.b,cell_below e1 hb.b,cell_below e2 hb.b,cell_below c0 hb.b,cell_below c1 hb.b,cell_below c2 hb.b,cell_below c3 hb.b,cell_below c4 hb.b⟩))
   have HB3:=hide (BB.refl w3)
   go_upto_region 5 with fail
   go_cut [6,7,8] from 16 to 24 (fun s6 s7 s8 wx=>s8 = .int .i64 0∧∃(g6:Nat) (A8 B8:Option Addr) (b8 b9:Nat),s6 = .pointer (some ⟨g6,0,none⟩)∧Row wx g6 24 [.slice A8 N8 b8,.slice B8 M8 b9,.int .i64 (L8:Int)]∧w3.heap.size≤g6∧DgT wx A8 B8 r2∧BB w3 wx)
   case first =>
    go_region_held3 (fun W=>W.cell? ⟨w.heap.size,0,none⟩=some (.slice A9 n c8)∧W.cell? ⟨w.heap.size,1,none⟩=some (.slice B9 m c9)∧W.cell? ⟨w.heap.size,2,none⟩=some (.int .i64 (lp:Int))∧W.cell? ⟨g5,0,none⟩=some (.int .i64 zk)∧W.cell? ⟨g5,1,none⟩=some (.int .i64 zx)∧W.cell? ⟨g5,2,none⟩=some (.int .i64 zy)∧W.cell? ⟨g5,3,none⟩=some (.int .i64 zs)∧W.cell? ⟨g5,4,none⟩=some (.bool zo))
     ((refine HALL.out _ ?_;(repeat (first | (with_reducible assumption) | (with_reducible exact HB3.out) | (with_reducible refine BB.drew ?_) | (with_reducible refine BB.alloc ?_ _) | (with_reducible refine BB.set ?_ (by omega) _ _) | (with_reducible refine BB.below ?_ hb5)))))
     (first
       | (go_at_call 20
          refine Calls.mono (AR.out _ ?_) ?_
          ·refine D3.out.keep (BB.b ?_)
           repeat (first | (with_reducible assumption) | (with_reducible exact HB3.out) | (with_reducible refine BB.drew ?_) | (with_reducible refine BB.alloc ?_ _))
          rintro e w5 ⟨A8,B8,b8,b9,k9,x9,y9,s9,o9,rfl,hT,hb5⟩
          have hlt5:w3.heap.size≤w5.heap.size:=by have:=hb5.size;simp at this;omega
          (try (have r60:=Row.below (g:=w3.heap.size) (t:=24) (vs:=[.slice none 0 0,.slice none 0 0,.int .i64 0]) (by first | exact row_at rfl | exact row_at (sz_alloc _ _) | exact (row_at rfl).alloc _) hb5;obtain ⟨q0,q1,q2,q3⟩:=box3 r60;have hl60:=r60.lt;have ty60:=r60.ty;have hrow60:=fun a b c=>row3 r60 rfl a b c))
          (try (have r61:=Row.below (g:=w3.heap.size+1) (t:=24) (vs:=[.slice none 0 0,.slice none 0 0,.int .i64 0]) (by first | exact row_at rfl | exact row_at (sz_alloc _ _) | exact (row_at rfl).alloc _) hb5;obtain ⟨q0,q1,q2,q3⟩:=box3 r61;have hl61:=r61.lt;have ty61:=r61.ty;have hrow61:=fun a b c=>row3 r61 rfl a b c))
          (try (have r70:=Row.below (g:=w3.heap.size) (t:=43) (vs:=[.int .i64 0,.int .i64 0,.int .i64 0,.int .i64 0,.bool false]) (by first | exact row_at rfl | exact row_at (sz_alloc _ _) | exact (row_at rfl).alloc _) hb5;obtain ⟨p0,p1,p2,p3,p4,p5⟩:=box5 r70;have hl70:=r70.lt;have ty70:=r70.ty))
          (try (have r71:=Row.below (g:=w3.heap.size+1) (t:=43) (vs:=[.int .i64 0,.int .i64 0,.int .i64 0,.int .i64 0,.bool false]) (by first | exact row_at rfl | exact row_at (sz_alloc _ _) | exact (row_at rfl).alloc _) hb5;obtain ⟨p0,p1,p2,p3,p4,p5⟩:=box5 r71;have hl71:=r71.lt;have ty71:=r71.ty))
          (try (have n60:¬w3.heap.size=w5.heap.size:=(by omega);have n61:¬w5.heap.size=w3.heap.size:=(by omega)))))
    all_goals (go_wp2_with fail;go_meet)
    all_goals (
     refine ⟨rfl,_,A8,B8,b8,b9,rfl,?_,?_,?_,?_⟩
     ·repeat (first
       | (with_reducible exact hrow60 _ _ _)
       | (with_reducible exact hrow61 _ _ _)
       | (with_reducible refine row_new3 _ _ _ _ _ ?_)
       | (with_reducible refine Row.alloc ?_ _)
       | (with_reducible refine Row.other ?_ (by first | exact Nat.ne_of_lt (Nat.lt_succ_self _) | exact Nat.ne_of_gt (Nat.lt_succ_self _) | (simp <;> omega)) _))
      all_goals simp
     ·omega
     ·repeat (first
       | (with_reducible exact hT)
       | (with_reducible refine DgT.al ?_ _)
       | (with_reducible refine DgT.setT (t:=24) ?_ (by (repeat (first | (with_reducible refine Ty.set ?_ _ _) | (with_reducible refine Ty.alloc ?_ _)));with_reducible assumption) (by decide))
       | (with_reducible refine DgT.setT (t:=43) ?_ (by (repeat (first | (with_reducible refine Ty.set ?_ _ _) | (with_reducible refine Ty.alloc ?_ _)));with_reducible assumption) (by decide)))
     ·repeat (first
       | (with_reducible exact HB3.out)
       | (with_reducible refine BB.drew ?_)
       | (with_reducible refine BB.alloc ?_ _)
       | (with_reducible refine BB.set ?_ (by omega) _ _)
       | (with_reducible refine BB.below ?_ hb5)))
   case rest =>
    obtain ⟨rfl,g6,A8,B8,b8,b9,rfl,hr6,hg6,hT,hbb⟩:=hcut
    obtain ⟨w6,hw6⟩:∃W,W=wc:=⟨_,rfl⟩
    rw [←hw6] at hr6 hT hbb ⊢
    have K6:=hide (K3.out.below hbb.b)
    have D6:=hide hr6
    have T6:=hide hT
    have V6:=hide (HV.out.keep hbb.b)
    have hw60:w.heap.size+1<w6.heap.size:=K6.out.res.lt
    have hg60:w.heap.size+1<g6:=by omega
    clear hw6 hr6 hT hbb e0 e1 e2 e3 c0 c1 c2 c3 c4 HALL HB3 AR D3 K3 HV
    obtain ⟨n0,hn0,hz0,hz1,hz2⟩:=info_parts moveInfo
    obtain ⟨g5',yk,yx,yy,ys,yo,e5',hgl',hz',c0,c1,c2,c3,c4⟩:=V6.out.at_ hN0
    injection e5' with e5'
    injection e5' with e5' _ _
    subst e5'
    rw [HL.out,HZ.out] at hz'
    obtain ⟨rfl,rfl,rfl,rfl,rfl⟩:zk=yk∧zx=yx∧zy=yy∧zs=ys∧zo=yo:=by simpa using hz'
    simp only [Nat.zero_mul,Nat.zero_add] at c0 c1 c2 c3 c4
    obtain ⟨A7,c7,hs4⟩:=owns_slice K6.out.own
    subst hs4
    have K7:=hide (K6.out.alloc (.cells (Mv.cells ⟨zk,zx,zy,zs,zo⟩).toArray 43))
    have A1:∀u ∈ Mv.cells ⟨zk,zx,zy,zs,zo⟩,u.oneCell'=true:=by simp [Mv.cells,Value.oneCell']
    have A2:l.length+1≤maxLen:=by unfold maxLen;omega
    have A3:(l.length+1) * 40≤140737488355328:=by omega
    have A4:w.heap.size+1+1≤(w6.alloc (.cells (Mv.cells ⟨zk,zx,zy,zs,zo⟩).toArray 43)).heap.size:=by simp;omega
    have A6:=hide (five_news w6 w6.heap.size rfl ⟨zk,zx,zy,zs,zo⟩)
    clear hz' V6
    go_wp2_with (at_builtin;refine wpList_append_lies _ (by rfl) _ _ 39 (by rfl) (w.heap.size+1+1) 43 n0 (.agg #[.int .i64 0,.int .i64 0,.int .i64 0,.int .i64 0,.bool false]) 5 40 Tryz.underlying39 hn0 hz0 hz1 hz2 rfl (by omega) _ l.length (mvs l) (by rfl) K7.out.own ⟨w6.heap.size,0,none⟩ 1 1 (Mv.cells ⟨zk,zx,zy,zs,zo⟩) (by rfl) (by rfl) A6.out A1 (by omega) A2 A3 A4 (w6.heap.size+1) (by simp) ?_;intro g2 c2 w7 own2 grow2 at2 lt2;have OWN2:=hide own2;have AT7:=hide (K7.out.at_.grown grow2 (own_row_neM K7.out.own K7.out.at_ (by decide)));have RS7:=hide (K7.out.res.grown grow2 (own_row_neM K7.out.own K7.out.res (by decide)));have D7:=hide ((D6.out.alloc (.cells (Mv.cells ⟨zk,zx,zy,zs,zo⟩).toArray 43)).grown grow2 (own_row_neM K7.out.own (D6.out.alloc (.cells (Mv.cells ⟨zk,zx,zy,zs,zo⟩).toArray 43)) (by decide)));have T7:=hide ((T6.out.keep ((Below.refl _ _).alloc (Nat.le_refl _) (.cells (Mv.cells ⟨zk,zx,zy,zs,zo⟩).toArray 43))).grownM K7.out.own grow2);have B7:=hide (K7.out.bel.grown grow2 K7.out.bel.size (fun k hk=>by have:=(K7.out.own.lt k hk).1;omega));clear own2 grow2 at2;obtain ⟨e0,e1,e2,e3⟩:=box3 AT7.out;obtain ⟨f0,f1,f2,f3⟩:=box3 D7.out)
    go_roundg r2.n
    case measure=>have:=HLT.out;have:=HKG.out;omega
    case rel =>
     refine ⟨r2,l++[⟨zk,zx,zy,zs,zo⟩],A8,B8,N8,b8,M8,b9,L8,rfl,HV2.out,HD2.out,HMM2.out,HN8.out,HM8.out,HL8.out,row3 AT7.out rfl _ _ _,?_,.inl (T7.out.set3 AT7.out _ _ _),?_,HL2.out,below3 B7.out (Nat.le_refl _) _ _ _⟩
     ·exact ((RS7.out.other (by show _≠w.heap.size;omega) _).other (by show _≠w.heap.size;omega) _).other (by show _≠w.heap.size;omega) _
     ·rw [mvs_app,List.length_append]
      exact ownsRow_setCell_below (ownsRow_setCell_below (ownsRow_setCell_below OWN2.out (by show w.heap.size<_;omega) _) (by show w.heap.size<_;omega) _) (by show w.heap.size<_;omega) _
end Go.Proofs.YtdgliimmnnhhjaaGreatDoor
end
