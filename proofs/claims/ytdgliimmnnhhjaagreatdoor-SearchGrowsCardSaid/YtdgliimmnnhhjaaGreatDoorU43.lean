/-
  The texts Vl, Vn, Vp, Vq, Hb.
-/
import Derived.Test.YtdgliimmnnhhjaaGreatDoorU36
import Derived.Test.YtdgliimmnnhhjaaGreatDoorU41
set_option linter.unusedVariables false
set_option linter.unusedSimpArgs false
section
namespace Go.Proofs.YtdgliimmnnhhjaaGreatDoor
open Go Go.RowKit
theorem lst5_ok {d:Pl.Dg}(hd:Pl.Wf d){ls:List Int}{P:Nat}(hL:Pl.LB d ls P)(hp:∀a,a<d.n→0≤Pl.pv ls a){i:Nat}{p:Pl.Pc}(h:Pl.Lst5 d (Gl ls d.n i) p):Pl.PcOk d p∧∀c,c ∈ p.order↔c<d.n∧Pl.pv ls c=(i:Int):=by
 obtain ⟨r,h1,h2,h3⟩:=h.is
 obtain ⟨hr,hri⟩:=mem_Gl.1 h1
 have key:∀c,c<d.n→(Pl.pv ls c=(i:Int)↔Pl.Comp d r c):=fun c hc=>by
  constructor
  ·intro e
   exact hL.conn r c hr hc (hp r hr) (by rw [hri,e])
  ·intro e
   rw [hL.same r c hr e (hp r hr),hri]
 refine ⟨h.ok hd hr (fun c=>?_),fun c=>?_⟩
 ·rw [mem_Gl]
  constructor
  ·rintro ⟨hc,e⟩
   exact ⟨hc,(key c hc).1 e⟩
  ·rintro ⟨hc,e⟩
   exact ⟨hc,(key c hc).2 e⟩
 ·rw [h3,Pl.ord_mem hd hr]
  constructor
  ·intro e
   have hc:c<d.n:=((Pl.ord_ok hd hr).mem c ((Pl.ord_mem hd hr c).2 e)).1
   exact ⟨hc,(key c hc).2 e⟩
  ·rintro ⟨hc,e⟩
   exact (key c hc).1 e
theorem pcs_groups {d:Pl.Dg}(hd:Pl.Wf d){ls:List Int}{P:Nat}(hL:Pl.LB d ls P)(hp:∀a,a<d.n→0≤Pl.pv ls a){ps:List Pl.Pc}(hlen:ps.length=P)(his:∀(i:Nat) (p:Pl.Pc),ps[i]? = some p→Pl.Lst5 d (Gl ls d.n i) p):Pl.Pcs d ps:=by
 have hok:∀p,p ∈ ps→Pl.PcOk d p:=fun p hm=>by
  obtain ⟨i,hi,rfl⟩:=List.getElem_of_mem hm
  exact (lst5_ok hd hL hp (his i _ (List.getElem?_eq_getElem hi))).1
 refine ⟨hok,?_,fun c hc=>?_⟩
 ·refine List.pairwise_flatMap.2 ⟨fun p hm=>?_,?_⟩
  ·obtain ⟨r,hr,_,e,_⟩:=hok p hm
   rw [e];exact (Pl.ord_ok hd hr).nd
  ·rw [List.pairwise_iff_getElem]
   intro i j hi hj hij x hx y hy e
   subst e
   have h1:=((lst5_ok hd hL hp (his i _ (List.getElem?_eq_getElem hi))).2 x).1 hx
   have h2:=((lst5_ok hd hL hp (his j _ (List.getElem?_eq_getElem hj))).2 x).1 hy
   have:=h1.2.symm.trans h2.2
   omega
 ·have h0:=hp c hc
  have h1:=(hL.lo c hc).2
  obtain ⟨i,hi⟩:∃i:Nat,Pl.pv ls c=(i:Int):=⟨(Pl.pv ls c).toNat,by omega⟩
  have hiP:i<ps.length:=by rw [hlen];omega
  exact ⟨ps[i],List.getElem_mem hiP,((lst5_ok hd hL hp (his i _ (List.getElem?_eq_getElem hiP))).2 c).2 ⟨hc,hi⟩⟩
theorem pcs_perm {d:Pl.Dg}{ps qs:List Pl.Pc}(h:Pl.Pcs d ps)(hp:qs.Perm ps):Pl.Pcs d qs :=
 ⟨fun p hq => h.ok p (hp.mem_iff.1 hq), (hp.flatMap_right Pl.Pc.order).nodup_iff.2 h.nd, fun c hc => by
   obtain ⟨p,h1,h2⟩:=h.all c hc
   exact ⟨p,hp.mem_iff.2 h1,h2⟩⟩
theorem pcs_sz {d:Pl.Dg}(hd:Pl.Wf d){ps:List Pl.Pc}(h:Pl.Pcs d ps):∀p,p ∈ ps→PcSz p:=fun p hm=>by
 obtain ⟨r,hr,e1,e2,_⟩:=h.ok p hm
 refine ⟨?_,(h.ok p hm).len⟩
 have h1:=(Pl.ord_ok hd hr).nd
 have h2:∀c,c ∈ Pl.ord d r→c<d.n:=fun c hc=>((Pl.ord_ok hd hr).mem c hc).1
 have:=hd.few
 rw [e2]
 have h3:=Pl.nodup_len h1 h2
 omega
end Go.Proofs.YtdgliimmnnhhjaaGreatDoor
end
section
namespace Go.Proofs.YtdgliimmnnhhjaaGreatDoor
open Go Go.RowKit
attribute [local go_sem ↓] Go.wp_at_zero Go.wp_at_succ
set_option maxRecDepth 100000 in
set_option maxHeartbeats 2000000 in
theorem stable_any (base:Nat)(A:Option Addr)(n c:Nat)(cs:List Value)(qs:List Pl.Pc)(w:World)(h0:SI base w A n c cs qs w)(hsz:∀p,p ∈ qs→PcSz p)(hn:n<20) :
 Calls Tryz.prog 87 #[.slice A n c,.int .i64 (n:Int),.func (.func 52) #[] #[]] w fun e w'=>(∃v,e = .returned v)∧∃cs' ps',SI base w A n c cs' ps' w'∧ps'.Perm qs∧ps'.Pairwise Pl.leP:=by
 have H0:=hide h0
 have HSZ:=hide hsz
 have hn1:¬((20:Int)≤(n:Int)):=by omega
 have hn2:¬((20:Int)<(n:Int)):=by omega
 clear h0 hsz
 go_enter Tryz.func87,Tryz.ntmps87
 go_wp2_with fail
 go_loopg [7,8] 0 (fun g s7 s8 wx=>s7 = .int .i64 0∧s8 = .int .i64 20∧wx=w)
 case atStart=>exact ⟨rfl,rfl,rfl⟩
 case round =>
  obtain ⟨rfl,rfl,rfl⟩:=hrel
  go_wp2_with fail
  refine (isort_any base A n c cs qs _ H0.out HSZ.out (by omega)).mono ?_
  rintro e w1 ⟨⟨v,rfl⟩,cs',ps',hS,hP,hW⟩
  have HR:=hide (show ∃cs' ps',SI base wr A n c cs' ps' w1∧ps'.Perm qs∧ps'.Pairwise Pl.leP from ⟨cs',ps',hS,hP,hW⟩)
  clear hS hP hW
  go_wp2_with fail
  go_loopg [6,7,8] 0 (fun g s6 s7 s8 wx=>s6 = .int .i64 20∧wx=w1)
  case atStart=>exact ⟨rfl,rfl⟩
  case round =>
   obtain ⟨rfl,rfl⟩:=hrel
   go_wp2
   exact bodyPost_end (by simp [results,Tryz.results87,go_sem];rfl) rfl ⟨⟨_,rfl⟩,HR.out⟩
set_option maxRecDepth 100000 in
set_option maxHeartbeats 2000000 in
theorem isort_none (A:Option Addr)(n c:Nat)(w:World)(hn:n≤64) :
 Calls Tryz.prog 109 #[.slice A n c,.int .i64 (n:Int),.int .i64 (n:Int),.func (.func 52) #[] #[]] w fun e w'=>(∃v,e = .returned v)∧w'=w:=by
 have h1:¬((n:Int)+1<(n:Int)):=by omega
 go_enter Tryz.func109,Tryz.ntmps109
 go_wp2
 go_loopg [8,9] 0 (fun g s8 s9 wx=>s8 = .int .i64 ((n:Int)+1)∧wx=w)
 case atStart=>exact ⟨rfl,rfl⟩
 case round =>
  obtain ⟨rfl,rfl⟩:=hrel
  go_wp2
  exact bodyPost_end (by simp [results,Tryz.results109,go_sem];rfl) rfl ⟨⟨_,rfl⟩,rfl⟩
set_option maxRecDepth 100000 in
set_option maxHeartbeats 2000000 in
theorem stable_20 (base:Nat)(A:Option Addr)(c:Nat)(cs:List Value)(qs:List Pl.Pc)(w:World)(h0:SI base w A 20 c cs qs w)(hsz:∀p,p ∈ qs→PcSz p) :
 Calls Tryz.prog 87 #[.slice A 20 c,.int .i64 20,.func (.func 52) #[] #[]] w fun e w'=>(∃v,e = .returned v)∧∃cs' ps',SI base w A 20 c cs' ps' w'∧ps'.Perm qs∧ps'.Pairwise Pl.leP:=by
 have H0:=hide h0
 have HSZ:=hide hsz
 clear h0 hsz
 go_enter Tryz.func87,Tryz.ntmps87
 go_wp2_with fail
 go_loopg [7,8] 1 (fun g s7 s8 wx=>(g=1∧s7 = .int .i64 0∧s8 = .int .i64 20∧wx=w)∨(g=0∧s7 = .int .i64 20∧s8 = .int .i64 40∧∃cs' ps',SI base w A 20 c cs' ps' wx∧ps'.Perm qs∧ps'.Pairwise Pl.leP))
 case atStart=>exact .inl ⟨rfl,rfl,rfl,rfl⟩
 case round =>
  obtain ⟨go,rfl⟩:∃go,go=gk:=⟨_,rfl⟩
  rcases hrel with ⟨hg,rfl,rfl,rfl⟩ | ⟨hg,rfl,rfl,hR⟩
  ·have HG:=hide hg
   clear hg
   go_wp2_with fail
   refine (isort_any base A 20 c cs qs _ H0.out HSZ.out (by omega)).mono ?_
   rintro e w1 ⟨⟨v,rfl⟩,cs',ps',hS,hP,hW⟩
   have HR:=hide (show ∃cs' ps',SI base wr A 20 c cs' ps' w1∧ps'.Perm qs∧ps'.Pairwise Pl.leP from ⟨cs',ps',hS,hP,hW⟩)
   clear hS hP hW
   go_wp2_with fail
   go_roundg 0
   case measure=>have:=HG.out;omega
   case rel=>exact .inr ⟨rfl,rfl,rfl,HR.out⟩
  ·have HR:=hide hR
   clear hR hg
   go_wp2_with fail
   refine (isort_none A 20 c _ (by omega)).mono ?_
   rintro e w1 ⟨⟨v,rfl⟩,rfl⟩
   go_wp2_with fail
   go_loopg [6,7,8] 0 (fun g s6 s7 s8 wx=>s6 = .int .i64 20∧wx=w1)
   case atStart=>exact ⟨rfl,rfl⟩
   case round =>
    obtain ⟨rfl,rfl⟩:=hrel
    go_wp2
    exact bodyPost_end (by simp [results,Tryz.results87,go_sem];rfl) rfl ⟨⟨_,rfl⟩,HR.out⟩
set_option maxRecDepth 100000 in
set_option maxHeartbeats 2000000 in
theorem sort_any (base:Nat)(A:Option Addr)(n c:Nat)(cs:List Value)(qs:List Pl.Pc)(w:World)(h0:SI base w A n c cs qs w)(hsz:∀p,p ∈ qs→PcSz p)(hn:n≤20) :
 Calls Tryz.prog 51 #[.slice A n c,.func (.func 52) #[] #[]] w fun e w'=>(∃v,e = .returned v)∧∃cs' ps',SI base w A n c cs' ps' w'∧ps'.Perm qs∧ps'.Pairwise Pl.leP:=by
 have H0:=hide h0
 have HSZ:=hide hsz
 clear h0 hsz
 go_enter Tryz.func51,Tryz.ntmps51
 go_wp2_with fail
 have hst:Calls Tryz.prog 87 #[.slice A n c,.int .i64 (n:Int),.func (.func 52) #[] #[]] w fun e w'=>(∃v,e = .returned v)∧∃cs' ps',SI base w A n c cs' ps' w'∧ps'.Perm qs∧ps'.Pairwise Pl.leP:=by
  rcases Nat.lt_or_ge n 20 with h | h
  ·exact stable_any base A n c cs qs _ H0.out HSZ.out h
  ·obtain rfl:n=20:=by omega
   exact stable_20 base A c cs qs _ H0.out HSZ.out
 refine hst.mono ?_
 clear hst
 rintro e w1 ⟨⟨v,rfl⟩,cs',ps',hS,hP,hW⟩
 have HR:=hide (show ∃cs' ps',SI base w A n c cs' ps' w1∧ps'.Perm qs∧ps'.Pairwise Pl.leP from ⟨cs',ps',hS,hP,hW⟩)
 clear hS hP hW
 go_wp2
 exact bodyPost_end (by simp [results,Tryz.results51,go_sem];rfl) rfl ⟨⟨_,rfl⟩,HR.out⟩
end Go.Proofs.YtdgliimmnnhhjaaGreatDoor
end
section
namespace Go.Proofs.YtdgliimmnnhhjaaGreatDoor
open Go Go.RowKit
attribute [local go_sem ↓] Go.wp_at_zero Go.wp_at_succ
set_option maxRecDepth 100000 in
set_option maxHeartbeats 8000000 in
theorem pieces_any (d:Pl.Dg)(hd:Pl.Valid d)(A B:Option Addr)(cp cq m:Nat)(w:World)(hm:m=4 * d.n)(hg:DgAt w A B d)(h20:d.n≤20) :
 Calls Tryz.prog 22 #[.agg #[.slice A d.n cp,.slice B m cq,.int .i64 d.lp]] w fun e w'=>∃(A':Option Addr) (n c:Nat) (cs:List Value) (ps:List Pl.Pc),e = .returned (.slice A' n c)∧w'.ownsRow (w.heap.size+1) 64 3 (.slice A' n c) n cs∧PcsV w' cs ps∧ps.length=n∧n≤d.n∧Pl.Pcs d ps∧Pl.Srt ps∧Below w.heap.size w w':=by
 have hn:=hd.wf.few
 have HM:=hide hm
 have HG:=hide hg
 have HD:=hide hd
 clear hm hg
 have X0:=hide (row_at (W:=w) (g:=w.heap.size) (t:=24) (vs:=[.slice A d.n cp,.slice B m cq,.int .i64 d.lp]) rfl)
 have B0:=hide (show Below w.heap.size w (w.alloc (.cells #[.slice A d.n cp,.slice B m cq,.int .i64 d.lp] 24)) from (Below.refl _ _).alloc (Nat.le_refl _) _)
 go_enter Tryz.func22,Tryz.ntmps22
 obtain ⟨d0,d1,d2,d3⟩:=box3 X0.out
 go_wp2_with fail
 refine (graph_any d hd A B cp cq m _ HM.out (HG.out.keep B0.out)).mono ?_
 rintro e w1 ⟨AG,cG,P,ls,vs,rfl,hP,hLB,hpos,hrow,hvs,hb1,_⟩
 have HLB:=hide hLB
 have HPOS:=hide hpos
 have L0:=hide (show PL w d ls P AG vs [.slice A d.n cp,.slice B m cq,.int .i64 d.lp] 0 (.slice none 0 0) [] [] w1 from
  ⟨X0.out.below hb1,⟨hrow,hvs⟩,World.ownsRow_nil _ _ _ _,trivial,rfl,fun i p h=>by simp at h,B0.out.trans (hb1.mono B0.out.size)⟩)
 clear hLB hpos hrow hvs hb1 X0 B0 d0 d1 d2 d3
 go_wp2_with fail
 go_loopg [3,5,6,8,9,10,11,15,34,40] P (fun g s3 s5 s6 s8 s9 s10 s11 s15 s34 s40 wx=>∃(j:Nat) (cs:List Value) (ps:List Pl.Pc),j+g=P∧s15 = .int .i64 (j:Int)∧PL w d ls P AG vs [.slice A d.n cp,.slice B m cq,.int .i64 d.lp] j s3 cs ps wx)
 case atStart=>exact ⟨0,_,_,by omega,rfl,L0.out⟩
 case round =>
  clear L0
  obtain ⟨j,cs,ps,hjg,rfl,hk⟩:=hrel
  have HJG:=hide hjg
  have K0:=hide hk
  have hjP:j≤P:=by omega
  clear hk
  obtain ⟨go,rfl⟩:∃go,go=gk:=⟨_,rfl⟩
  by_cases hj:j<P
  ·have hji:(j:Int)<(P:Int):=by omega
   have j0:(0:Int)≤(j:Int):=by omega
   obtain ⟨v,hvj,AF,cF,rfl,hF⟩:=K0.out.gr.v.2 j _ (gl_at ls d.n hj)
   have hvl:=(List.getElem?_eq_some_iff.1 hvj).1
   obtain ⟨bG,oG,rfl,x1⟩:=RowAt.at_ K0.out.gr.r.row hj
   rw [(List.getElem?_eq_some_iff.1 hvj).2] at x1
   have HVJ:=hide hvj
   obtain ⟨l,hl⟩:∃l,l=Gl ls d.n j:=⟨_,rfl⟩
   rw [←hl] at x1 hF
   obtain ⟨nl,hnl⟩:∃n,n=l.length:=⟨_,rfl⟩
   have HNL:=hide hnl
   rw [←hnl] at x1
   have HLL:=hide hl
   have hnl64:nl≤64:=by rw [hnl,hl];have:=Gl_len ls d.n j;omega
   obtain ⟨aLst,cL,rfl⟩:=owns_slice K0.out.own
   have hng:(Value.slice aLst j cL).ownBlock≠some wr.heap.size:=fun e=>by have:=(K0.out.own.lt _ e).2;omega
   have P0:=hide (show PI w d ls P (some ⟨bG,oG,none⟩) vs [.slice A d.n cp,.slice B m cq,.int .i64 d.lp] j (.slice aLst j cL) cs ps wr.heap.size 0 (.slice none 0 0) (.slice none 0 0) 0 (wr.alloc (.cells #[.slice none 0 0,.slice none 0 0,.int .i64 0] 64)) from
    ⟨K0.out.alloc _,row_at (vs:=[.slice none 0 0,.slice none 0 0,.int .i64 0]) rfl,.inl ⟨rfl,rfl,rfl,rfl⟩,by have:=K0.out.big;omega,hng⟩)
   have hlo:w.heap.size<wr.heap.size:=by have:=K0.out.big;omega
   clear hvj hl hnl hF hjg hng
   obtain ⟨d0,d1,d2,d3⟩:=box3 K0.out.bx
   obtain ⟨g6,hg6⟩:∃g,g=wr.heap.size:=⟨_,rfl⟩
   go_upto_region 6 with fail
   rw [←hg6] at P0 hlo ⊢
   clear hg6 d0 d1 d2 d3 x1 K0
   go_wp2_with fail
   go_loopg [8,9,10,11,21,34,40] nl (fun g s8 s9 s10 s11 s21 s34 s40 wx=>∃(k:Nat) (vC vO:Value) (x:Int),k+g=nl∧s21 = .int .i64 (k:Int)∧PI w d ls P (some ⟨bG,oG,none⟩) vs [.slice A d.n cp,.slice B m cq,.int .i64 d.lp] j (.slice aLst j cL) cs ps g6 k vC vO x wx)
   case atStart=>exact ⟨0,_,_,_,by omega,rfl,P0.out⟩
   case round =>
    clear P0
    obtain ⟨k,vC,vO,x,hkg,rfl,hk⟩:=hrel
    have HKG:=hide hkg
    have K0:=hide hk
    have hkn:k≤nl:=by omega
    clear hk
    obtain ⟨gi,rfl⟩:∃gi,gi=gk:=⟨_,rfl⟩
    by_cases hk:k<nl
    ·have hki:(k:Int)<(nl:Int):=by omega
     have k0:(0:Int)≤(k:Int):=by omega
     obtain ⟨v',e',hF⟩:=K0.out.p.gr.v.2 j _ (gl_at ls d.n hj)
     rw [HVJ.out] at e'
     injection e' with e'
     subst e'
     have hF2:=hF.ints.2
     rw [←HLL.out,←HNL.out] at hF2
     obtain ⟨b8,o8,rfl,x8⟩:=nats_at hF2 hk
     obtain ⟨q,hq⟩:∃q,q=l.getD k 0:=⟨_,rfl⟩
     rw [←hq] at x8
     have hql:l[k]? = some q:=by rw [hq,List.getD_eq_getElem?_getD,List.getElem?_eq_getElem (by rw [←HNL.out];exact hk)];rfl
     have hqm:q ∈ Gl ls d.n j:=by rw [←HLL.out];exact List.mem_of_getElem? hql
     have hqn:q<d.n:=(mem_Gl.1 hqm).1
     have HTK:=hide (show (Gl ls d.n j).take (k+1)=(Gl ls d.n j).take k++[q] from Pl.take_one (by rw [←HLL.out];exact hql))
     have hcc:=fun c (hc:c ∈ Gl ls d.n j)=>gl_comp HLB.out HPOS.out hc hqm
     have hq0:(0:Int)≤(q:Int):=by omega
     have hbest:=K0.out.b.best HD.out.wf hqn hcc
     clear hF hF2 hq hql hqm hcc hkg
     obtain ⟨d0,d1,d2,d3⟩:=box3 K0.out.p.bx
     obtain ⟨f0,f1,f2,f3⟩:=box3 K0.out.r
     rcases hbest with ⟨hk0,hb⟩ | ⟨p,hpv,hl5,hx0,hxk,hb⟩
     ·have HB:=hide hb
      have hvn:vC = .slice none 0 0:=hb
      subst hvn
      have HK0:=hide hk0
      clear hb hk0
      go_wp2_with fail
      refine (number_any d HD.out.wf A B cp cq m q _ none _ HM.out (HG.out.keep K0.out.p.bel) hqn HB.out).mono ?_
      intro e w2 hres
      obtain ⟨vC',vO',rfl,own1,own2⟩:=hres.2.1 (by rw [Pl.vall_none];omega)
      have K2:=hide (K0.out.below hres.2.2)
      obtain ⟨A1,e1,rfl⟩:=owns_slice own1
      obtain ⟨A2,e2,rfl⟩:=owns_slice own2
      have HP:=hide (show PcV w2 (.slice A1 (Pl.code d q).length e1) (.slice A2 (Pl.ord d q).length e2) 1 ⟨Pl.code d q,Pl.ord d q,1⟩ from ⟨own_intT own1,own_natT own2,rfl⟩)
      rw [show Pl.vall none (Pl.code d q) = -1 from Pl.vall_none _]
      clear hres own1 own2 d0 d1 d2 d3 f0 f1 f2 f3 x8 K0
      obtain ⟨f0,f1,f2,f3⟩:=box3 K2.out.r
      go_wp2
      go_roundg (gi - 1)
      case measure=>have:=HKG.out;omega
      case rel=>exact ⟨k+1,_,_,1,by have:=HKG.out;omega,by go_num,K2.out.put HP.out (by rw [HTK.out,HK0.out];exact Pl.Lst5.one q 1)⟩
     ·have HB:=hide hb
      obtain ⟨bb,bo,bc,rfl,hrest⟩:=hb
      clear hrest
      have HPV:=hide hpv
      have HL5:=hide hl5
      clear hpv hl5
      go_wp2_with fail
      refine (number_any d HD.out.wf A B cp cq m q _ (some p.code) _ HM.out (HG.out.keep K0.out.p.bel) hqn HB.out).mono ?_
      intro e w2 hres
      have K2:=hide (K0.out.below hres.2.2)
      have HPV2:=hide (HPV.out.below hres.2.2)
      clear d0 d1 d2 d3 f0 f1 f2 f3 x8 K0 HPV HB
      obtain ⟨f0,f1,f2,f3⟩:=box3 K2.out.r
      obtain ⟨v,hv⟩:∃v,v=Pl.vall (some p.code) (Pl.code d q):=⟨_,rfl⟩
      have HV:=hide (show v=Pl.lx (Pl.code d q) p.code from hv.trans (Pl.vall_some _ _))
      by_cases hv0:0<v
      ·obtain rfl:=hres.1 (by rw [←hv];exact hv0)
       clear hres hv
       have HLS:=hide (HL5.out.more (q:=q) (by rw [←HV.out];omega) x)
       go_wp2
       go_roundg (gi - 1)
       case measure=>have:=HKG.out;omega
       case rel=>exact ⟨k+1,_,_,x,by have:=HKG.out;omega,by go_num,K2.out.skip HPV2.out (by rw [HTK.out];exact HLS.out) hx0 hxk⟩
      ·obtain ⟨vC',vO',rfl,own1,own2⟩:=hres.2.1 (by rw [←hv];exact hv0)
       obtain ⟨A1,e1,rfl⟩:=owns_slice own1
       obtain ⟨A2,e2,rfl⟩:=owns_slice own2
       have HP:=hide (show PcV w2 (.slice A1 (Pl.code d q).length e1) (.slice A2 (Pl.ord d q).length e2) 1 ⟨Pl.code d q,Pl.ord d q,1⟩ from ⟨own_intT own1,own_natT own2,rfl⟩)
       rw [←hv]
       clear hres hv own1 own2
       by_cases hvz:v=0
       ·have HLS:=hide (HL5.out.more (q:=q) (by rw [←HV.out];omega) (x+1))
        subst hvz
        have hx64:x≤64:=by omega
        go_wp2
        go_roundg (gi - 1)
        case measure=>have:=HKG.out;omega
        case rel=>exact ⟨k+1,_,_,x+1,by have:=HKG.out;omega,by go_num,K2.out.more HPV2.out (by rw [HTK.out];exact HLS.out) hx0 hxk⟩
       ·have hvn:v<0:=by omega
        have HLS:=hide (HL5.out.less (q:=q) (by rw [←HV.out];exact hvn) 1)
        clear hvz hv0
        go_wp2
        go_roundg (gi - 1)
        case measure=>have:=HKG.out;omega
        case rel=>exact ⟨k+1,_,_,1,by have:=HKG.out;omega,by go_num,K2.out.put HP.out (by rw [HTK.out];exact HLS.out)⟩
    ·have hki:¬((k:Int)<(nl:Int)):=by omega
     have hnl0:0<nl:=by
      obtain ⟨a,ha,he⟩:=HLB.out.all j hj
      rw [HNL.out,HLL.out]
      exact List.length_pos_of_mem (mem_Gl.2 ⟨ha,he⟩)
     rcases K0.out.b with ⟨h0,_⟩ | ⟨p,hp,hl5,hx0,hxk⟩
     ·omega
     ·have HP:=hide hp
      have HL5:=hide (show Pl.Lst5 d (Gl ls d.n j) p by
       have h:(Gl ls d.n j).take k=Gl ls d.n j:=List.take_of_length_le (by rw [←HLL.out,←HNL.out];omega)
       rw [h] at hl5
       exact hl5)
      clear hp hl5
      obtain ⟨A1,e1,h1,h1b⟩:=HP.out.c
      obtain ⟨A2,e2,h2,h2b⟩:=HP.out.o
      subst h1
      subst h2
      clear h1b h2b hkg hnl0
      have hj64:j≤64:=by omega
      obtain ⟨f0,f1,f2,f3⟩:=box3 K0.out.r
      have KA:=hide (K0.out.p.alloc (.cells #[.slice A1 p.code.length e1,.slice A2 (nats p.order).length e2,.int .i64 x] 64))
      have HPA:=hide (HP.out.below ((Below.refl wr.heap.size wr).alloc (Nat.le_refl _) (.cells #[.slice A1 p.code.length e1,.slice A2 (nats p.order).length e2,.int .i64 x] 64)))
      obtain ⟨i0,hi0,hz0,hz1,hz2⟩:=info_parts pieceInfo
      have P1:∀u ∈ [Value.slice A1 p.code.length e1,.slice A2 (nats p.order).length e2,.int .i64 x],u.oneCell'=true:=by simp [Value.oneCell']
      go_wp2_with (at_builtin;refine wpList_append_lies _ (by rfl) _ _ 61 (by rfl) (w.heap.size+1) 64 i0 (.agg #[.slice none 0 0,.slice none 0 0,.int .i64 0]) 3 56 Tryz.underlying61 hi0 hz0 hz1 hz2 rfl (by omega) _ j cs (by rfl) KA.out.own ⟨wr.heap.size,0,none⟩ 1 1 [.slice A1 p.code.length e1,.slice A2 (nats p.order).length e2,.int .i64 x] (by rfl) (by rfl) (three_news wr _ rfl _ _ _) P1 (by omega) (by unfold maxLen;omega) (by omega) KA.out.big (wr.heap.size+1) (by simp) ?_;intro g3 c3 w3 own3 grow3 at3 lt3;have OWN3:=hide own3;have GR3:=hide grow3;clear own3 grow3 at3)
      go_roundg (go - 1)
      case measure=>have:=HJG.out;omega
      case rel=>exact ⟨j+1,_,_,by have:=HJG.out;omega,by go_num,KA.out.app OWN3.out GR3.out rfl HPA.out HL5.out⟩
  ·have hji:¬((j:Int)<(P:Int)):=by omega
   obtain ⟨aLst,cL,rfl⟩:=owns_slice K0.out.own
   have hjP':j=P:=by omega
   have hPd:=HLB.out.le
   have HPCS:=hide (pcs_groups HD.out.wf HLB.out HPOS.out (by rw [K0.out.len];exact hjP') K0.out.is)
   have S0:=hide (show SI (w.heap.size+1) wr aLst j cL cs ps wr from ⟨K0.out.own,K0.out.pv,K0.out.len,Below.refl _ _,K0.out.big⟩)
   have BW:=hide K0.out.bel
   clear K0 hjP'
   go_wp2_with fail
   refine (sort_any (w.heap.size+1) aLst j cL cs ps _ S0.out (pcs_sz HD.out.wf HPCS.out) (by omega)).mono ?_
   rintro e w1 ⟨⟨v,rfl⟩,cs',ps',hS,hP,hW⟩
   have HR:=hide (show ∃(A':Option Addr) (n c:Nat) (cs:List Value) (ps:List Pl.Pc),Ending.returned (.slice aLst j cL) = .returned (.slice A' n c)∧w1.ownsRow (w.heap.size+1) 64 3 (.slice A' n c) n cs∧PcsV w1 cs ps∧ps.length=n∧n≤d.n∧Pl.Pcs d ps∧Pl.Srt ps∧Below w.heap.size w w1 from
    ⟨aLst,j,cL,cs',ps',rfl,hS.own,hS.pv,hS.len,by omega,pcs_perm HPCS.out hP,hW,BW.out.trans (hS.bel.mono (Nat.le_succ _))⟩)
   clear hS hP hW
   go_wp2
   go_ret
   exact HR.out
end Go.Proofs.YtdgliimmnnhhjaaGreatDoor
end
section
namespace Go.Proofs.YtdgliimmnnhhjaaGreatDoor
open Go Go.RowKit
attribute [local go_sem ↓] Go.wp_at_zero Go.wp_at_succ
def pcJ (lp:Nat)(ps:List Pl.Pc)(j:Nat):List Int:=(lp:Int) :: (ps.length:Int) :: (ps.take j).flatMap (fun p=>(p.order.length:Int) :: p.code)
theorem pcJ_zero (lp:Nat)(ps:List Pl.Pc):pcJ lp ps 0=[(lp:Int),(ps.length:Int)]:=by unfold pcJ;simp
theorem pcJ_succ (lp:Nat){ps:List Pl.Pc}{j:Nat}{p:Pl.Pc}(h:ps[j]? = some p):pcJ lp ps (j+1)=(pcJ lp ps j++[(p.order.length:Int)])++p.code:=by
 unfold pcJ
 rw [Pl.take_one h,List.flatMap_append]
 simp
theorem pcJ_all (lp:Nat){ps:List Pl.Pc}{j:Nat}(h:ps.length≤j):pcJ lp ps j=Pl.pcode lp ps:=by
 unfold pcJ Pl.pcode
 rw [List.take_of_length_le h]
theorem pcJ_len (lp:Nat){ps:List Pl.Pc}(hs:∀p,p ∈ ps→PcSz p):∀j,(pcJ lp ps j).length≤2+400 * j
 | 0=>by rw [pcJ_zero];simp
 | j + 1 => by
   by_cases h:j<ps.length
   ·have e:ps[j]? = some ps[j]:=List.getElem?_eq_getElem h
    have h1:=hs _ (List.getElem_mem h)
    have h2:=h1.1
    have h3:=h1.2
    have ih:=pcJ_len lp hs j
    rw [pcJ_succ lp e]
    simp only [List.length_append,List.length_cons,List.length_nil]
    omega
   ·have ih:=pcJ_len lp hs j
    rw [pcJ_all lp (by omega)] at ih
    rw [pcJ_all lp (by omega)]
    omega
structure CL (w1:World) (xs:List Int) (m:Nat) (vL:Value) (W:World):Prop where
 own:W.ownsRow w1.heap.size 3 1 vL m (xs.map (.int .i64))
 len:xs.length=m
 bel:Below w1.heap.size w1 W
theorem CL.alloc {w1 W:World}{xs:List Int}{m:Nat}{vL:Value}(h:CL w1 xs m vL W)(o:Obj):CL w1 xs m vL (W.alloc o) :=
 ⟨own_below h.own ((Below.refl _ _).alloc (Nat.le_refl _) o),h.len,h.bel.trans (((Below.refl _ _).alloc (Nat.le_refl _) o).mono h.bel.size)⟩
theorem CL.app {w1 W W':World}{xs ys:List Int}{m n:Nat}{vL vL':Value}(h:CL w1 xs m vL W)(own:W'.ownsRow w1.heap.size 3 1 vL' n (xs.map (.int .i64)++ys.map (.int .i64)))(gr:W.grownBy W' vL.ownBlock)(hn:n=m+ys.length):CL w1 (xs++ys) n vL' W' :=
 ⟨by rw [List.map_append];exact own,by rw [List.length_append,h.len,hn],h.bel.grown gr h.bel.size (fun k hk=>(h.own.lt k hk).1)⟩
theorem own_two (w:World)(x y:Int):(w.alloc (.cells #[.int .i64 x,.int .i64 y] 3)).ownsRow w.heap.size 3 1 (.slice (some ⟨w.heap.size,0,none⟩) 2 2) 2 ([x,y].map (.int .i64)) :=
 ⟨rfl,.inr ⟨w.heap.size,2,#[.int .i64 x,.int .i64 y],rfl,Nat.le_refl _,heap_alloc_new w _,Nat.le_refl _,by unfold maxLen;omega,rfl,rfl⟩⟩
def CodeT (d:Pl.Dg)(w:World)(e:Ending)(w':World):Prop :=
 ∃(A':Option Addr) (n c:Nat) (ps:List Pl.Pc),e = .returned (.slice A' n c)∧Pl.Pcs d ps∧Pl.Srt ps∧n≤8100∧RowT w' 3 A' n ((Pl.pcode d.lp ps).map (.int .i64))∧Below w.heap.size w w'
set_option maxRecDepth 100000 in
set_option maxHeartbeats 8100000 in
theorem code_t (d:Pl.Dg)(hd:Pl.Valid d)(h20:d.n≤20)(A B:Option Addr)(cp cq m:Nat)(w:World)(hm:m=4 * d.n)(hg:DgAt w A B d) :
 Calls Tryz.prog 25 #[.agg #[.slice A d.n cp,.slice B m cq,.int .i64 d.lp]] w (CodeT d w):=by
 have hlp:=hd.wf.lp
 have HM:=hide hm
 have HG:=hide hg
 have HD:=hide hd
 clear hm hg
 have X0:=hide (row_at (W:=w) (g:=w.heap.size) (t:=24) (vs:=[.slice A d.n cp,.slice B m cq,.int .i64 d.lp]) rfl)
 have B0:=hide (show Below w.heap.size w (w.alloc (.cells #[.slice A d.n cp,.slice B m cq,.int .i64 d.lp] 24)) from (Below.refl _ _).alloc (Nat.le_refl _) _)
 go_enter Tryz.func25,Tryz.ntmps25
 obtain ⟨d0,d1,d2,d3⟩:=box3 X0.out
 go_wp2_with fail
 refine (valid_yes d HD.out A B cp cq m _ HM.out (HG.out.keep B0.out)).mono ?_
 rintro e w1 ⟨rfl,hb1⟩
 have Y0:=hide (X0.out.below hb1)
 have B1:=hide (B0.out.trans (hb1.mono B0.out.size))
 clear X0 B0 hb1 d0 d1 d2 d3
 obtain ⟨d0,d1,d2,d3⟩:=box3 Y0.out
 go_wp2_with fail
 refine (pieces_any d HD.out A B cp cq m _ HM.out (HG.out.keep B1.out) h20).mono ?_
 rintro e w2 ⟨aLst,n,cL,cs,ps,rfl,hown,hpv,hlen,hnd,hpcs,hsrt,hb2⟩
 have Z0:=hide (Y0.out.below hb2)
 have B2:=hide (B1.out.trans (hb2.mono B1.out.size))
 have OW:=hide hown
 have HPV:=hide hpv
 have HLEN:=hide hlen
 have HPS:=hide (show Pl.Pcs d ps∧Pl.Srt ps from ⟨hpcs,hsrt⟩)
 have HSZ:=hide (pcs_sz HD.out.wf hpcs)
 have hn20:n≤20:=by omega
 clear hown hpv hlen hpcs hsrt hb2 d0 d1 d2 d3 Y0 B1 hnd
 obtain ⟨d0,d1,d2,d3⟩:=box3 Z0.out
 go_upto_region 5 with fail
 have L0:=hide (show CL w2 (pcJ d.lp ps 0) 2 (.slice (some ⟨w2.heap.size,0,none⟩) 2 2) (w2.alloc (.cells #[.int .i64 d.lp,.int .i64 n] 3)) from by
  rw [pcJ_zero,HLEN.out]
  exact ⟨own_two _ _ _,rfl,(Below.refl _ _).alloc (Nat.le_refl _) _⟩)
 clear d0 d1 d2 d3
 go_wp2_with fail
 go_loopg [4,6,19] n (fun g s4 s6 s19 wx=>∃(j m:Nat) (xs:List Int),j+g=n∧s19 = .int .i64 (j:Int)∧xs=pcJ d.lp ps j∧CL w2 xs m s4 wx)
 case atStart=>exact ⟨0,_,_,by omega,rfl,rfl,L0.out⟩
 case round =>
  clear L0
  obtain ⟨j,k,xs,hjg,rfl,hxs,hk⟩:=hrel
  have HJG:=hide hjg
  have K0:=hide hk
  have HXS:=hide hxs
  have hjn:j≤n:=by omega
  have hkl:k≤2+400 * j:=by
   rw [←hk.len,hxs]
   exact pcJ_len d.lp HSZ.out j
  clear hk hxs
  obtain ⟨A4,c4,rfl⟩:=owns_slice K0.out.own
  by_cases hj:j<n
  ·have hji:(j:Int)<(n:Int):=by omega
   have j0:(0:Int)≤(j:Int):=by omega
   have hnA:0<n:=by omega
   obtain ⟨g,cap,hA,hcap,hgl⟩:=World.ownsRow.form OW.out hnA
   injection hA with hA _ hcc
   subst hA
   subst hcc
   obtain ⟨p,hp⟩:∃p,ps[j]? = some p:=⟨_,List.getElem?_eq_getElem (by rw [HLEN.out];exact hj)⟩
   have HXN:=hide (pcJ_succ d.lp hp)
   have hpsz:=HSZ.out p (List.mem_of_getElem? hp)
   obtain ⟨a0,a1,a2,hpx,ca0,ca1,ca2⟩:=HPV.out.at_ hp
   have CA:=fun (t:Nat) (u:Value) (ht:j * 3+t<n * 3) (e:cs[j * 3+t]? = some u)=>(show wr.cell? ⟨g,j * 3+t,none⟩=some u by exact cell_below (by rw [World.ownsRow.cellAt OW.out _ ht];exact e) K0.out.bel)
   have x0:=CA 0 a0 (by omega) ca0
   have x1:=CA 1 a1 (by omega) ca1
   have x2:=CA 2 _ (by omega) ca2
   rw [Nat.add_zero] at x0
   clear CA ca0 ca1 ca2 hp hjg
   obtain ⟨A1,e1,h1,h1b⟩:=hpx.c
   obtain ⟨A2,e2,h2,h2b⟩:=hpx.o
   have HC1:=hide (show IntsAt w2 A1 p.code.length p.code from h1b.2.row)
   subst h1
   subst h2
   clear h1b h2b hpx
   rw [nats_len] at x1
   obtain ⟨L1,hL1⟩:∃n,n=p.code.length:=⟨_,rfl⟩
   obtain ⟨L2,hL2⟩:∃n,n=p.order.length:=⟨_,rfl⟩
   rw [←hL1] at x0 HC1
   rw [←hL2] at x1
   have HL2:=hide hL2
   have HL1:=hide hL1
   have hL2b:L2≤64:=by rw [hL2];exact hpsz.1
   have hL1b:L1≤320:=by rw [hL1,hpsz.2];have:=hpsz.1;omega
   clear hpsz hL1 hL2
   have KA:=hide (K0.out.alloc (.cells #[.slice A1 L1 e1,.slice A2 L2 e2,.int .i64 a2] 64))
   have XB:=hide (row_at (W:=wr) (g:=wr.heap.size) (t:=64) (vs:=[.slice A1 L1 e1,.slice A2 L2 e2,.int .i64 a2]) rfl)
   obtain ⟨f0,f1,f2,f3⟩:=box3 XB.out
   go_upto_region 8 with fail
   obtain ⟨V,hV⟩:∃V,V=wr.alloc (.cells #[.slice A1 L1 e1,.slice A2 L2 e2,.int .i64 a2] 64):=⟨_,rfl⟩
   obtain ⟨gb,hgb⟩:∃g,g=wr.heap.size:=⟨_,rfl⟩
   have hgV:w2.heap.size≤gb:=by rw [hgb];exact K0.out.bel.size
   rw [←hV] at KA XB f0 f1 f2 f3 ⊢
   rw [←hgb] at XB f0 f1 f2 f3 ⊢
   have HUB:=hide (show ∀b,(Value.slice A4 k c4).ownBlock=some b→b<gb from fun b h=>by rw [hgb];exact (K0.out.own.lt b h).2)
   clear hV hgb x0 x1 x2 K0
   have KB:=hide (KA.out.alloc (.cells #[.int .i64 L2] 3))
   have hVs:=KA.out.bel.size
   obtain ⟨i0,hi0,hz0,hz1,hz2⟩:=info_parts intInfo
   go_upto_region 9 with (at_builtin;refine wpList_append_lies _ (by rfl) _ _ 22 (by rfl) w2.heap.size 3 i0 (.int .i64 0) 1 8 Tryz.underlying22 hi0 hz0 hz1 hz2 rfl (by omega) _ k _ (by rfl) KB.out.own ⟨V.heap.size,0,none⟩ 1 1 [.int .i64 L2] (by rfl) (by rfl) (one_newsG _ _ rfl) (by simp [Value.oneCell']) (by omega) (by unfold maxLen;omega) (by omega) (by have:=KB.out.bel.size;omega) (V.heap.size+1) (by simp) ?_;intro g3 c3 w3 own3 grow3 at3 lt3;have OWN3:=hide own3;have GR3:=hide grow3;clear own3 grow3 at3)
   have K3:=hide (KB.out.app (ys:=[(L2:Int)]) OWN3.out GR3.out rfl)
   have X3:=hide ((XB.out.below ((Below.refl V.heap.size V).alloc (Nat.le_refl _) (.cells #[.int .i64 L2] 3))).grown GR3.out (fun e=>by have:=HUB.out _ e.symm;omega))
   clear f0 f1 f2 f3 KA KB XB OWN3 GR3 lt3
   obtain ⟨f0,f1,f2,f3⟩:=box3 X3.out
   go_wp2_with (at_builtin;refine wpList_append_int _ (by rfl) _ _ 22 (by rfl) w2.heap.size 3 i0 (.int .i64 0) 8 Tryz.underlying22 hi0 hz0 hz1 hz2 rfl _ (k+1) _ (by rfl) K3.out.own A1 L1 e1 p.code (by rfl) (HC1.out.keep K3.out.bel) (by unfold maxLen;omega) (by omega) K3.out.bel.size ?_;intro v4 w4 own4 gr4;have OWN4:=hide own4;have GR4:=hide gr4;clear own4 gr4)
   go_roundg (gk - 1)
   case measure=>have:=HJG.out;omega
   case rel=>exact ⟨j+1,_,_,by have:=HJG.out;omega,by go_num,rfl,by
    rw [HXN.out,←HXS.out,←HL2.out]
    exact K3.out.app OWN4.out GR4.out (by rw [HL1.out])⟩
  ·have hji:¬((j:Int)<(n:Int)):=by omega
   have HIA:=hide (show RowT wr 3 A4 k ((Pl.pcode d.lp ps).map (.int .i64)) by
    rw [←pcJ_all d.lp (j:=j) (by rw [HLEN.out];omega),←HXS.out]
    exact own_rowT K0.out.own)
   have HBE:=hide (B2.out.trans (K0.out.bel.mono B2.out.size))
   go_wp2
   go_ret
   exact ⟨A4,k,c4,ps,rfl,HPS.out.1,HPS.out.2,by omega,HIA.out,HBE.out⟩
end Go.Proofs.YtdgliimmnnhhjaaGreatDoor
end
section
namespace Go.Proofs.YtdgliimmnnhhjaaGreatDoor
open Go Go.RowKit Go.Shelf
attribute [local go_sem ↓] Go.wp_at_zero Go.wp_at_succ
def bdR:Go.Shelf.Ren:=⟨fun | 166=>27 | 167=>26 | 169=>29 | 240=>54 | 276=>89 | n=>n,fun | 0=>0 | 3=>3 | 4=>4 | 5=>5 | 9=>9 | 20=>20 | 37=>68 | 70=>67 | 72=>70 | 75=>73 | 76=>75 | 164=>139 | 127=>99 | 80=>78 | n=>n,fun | n=>n⟩
set_option maxRecDepth 100000 in
theorem hl167:Go.Proofs.Lays.n167 Tryz.prog bdR:={
 mixed:=by kernel_rfl
 f167:=Tryz.func26.trans (congrArg some (by kernel_rfl))
 f240:=Tryz.func54.trans (congrArg some (by kernel_rfl))
 f276:=Tryz.func89.trans (congrArg some (by kernel_rfl))
 t0:=Tryz.underlying0
 a0:=Tryz.isAgg0
 z0:=Tryz.sizeOf0
 v0:=Tryz.zeroValue0
 t4:=Tryz.underlying4
 a4:=Tryz.isAgg4
 z4:=Tryz.sizeOf4
 v4:=Tryz.zeroValue4
 t5:=Tryz.underlying5
 a5:=Tryz.isAgg5
 z5:=Tryz.sizeOf5
 v5:=Tryz.zeroValue5
 t9:=Tryz.underlying9
 a9:=Tryz.isAgg9
 z9:=Tryz.sizeOf9
 v9:=Tryz.zeroValue9
 t20:=Tryz.underlying20
 a20:=Tryz.isAgg20
 z20:=Tryz.sizeOf20
 v20:=Tryz.zeroValue20
 t37:=Tryz.underlying68
 a37:=Tryz.isAgg68
 z37:=Tryz.sizeOf68
 v37:=Tryz.zeroValue68
 t70:=Tryz.underlying67
 a70:=Tryz.isAgg67
 z70:=Tryz.sizeOf67
 v70:=Tryz.zeroValue67
 t72:=Tryz.underlying70
 a72:=Tryz.isAgg70
 z72:=Tryz.sizeOf70
 v72:=Tryz.zeroValue70
 t75:=Tryz.underlying73
 a75:=Tryz.isAgg73
 z75:=Tryz.sizeOf73
 v75:=Tryz.zeroValue73
 t164:=Tryz.underlying139
 a164:=Tryz.isAgg139
 z164:=Tryz.sizeOf139
 v164:=Tryz.zeroValue139 }
set_option maxRecDepth 100000 in
theorem hl166:Go.Proofs.Lays.n166 Tryz.prog bdR:={
 mixed:=by kernel_rfl
 f166:=Tryz.func27.trans (congrArg some (by kernel_rfl))
 f240:=Tryz.func54.trans (congrArg some (by kernel_rfl))
 f276:=Tryz.func89.trans (congrArg some (by kernel_rfl))
 t0:=Tryz.underlying0
 a0:=Tryz.isAgg0
 z0:=Tryz.sizeOf0
 v0:=Tryz.zeroValue0
 t3:=Tryz.underlying3
 a3:=Tryz.isAgg3
 z3:=Tryz.sizeOf3
 v3:=Tryz.zeroValue3
 t4:=Tryz.underlying4
 a4:=Tryz.isAgg4
 z4:=Tryz.sizeOf4
 v4:=Tryz.zeroValue4
 t9:=Tryz.underlying9
 a9:=Tryz.isAgg9
 z9:=Tryz.sizeOf9
 v9:=Tryz.zeroValue9
 t20:=Tryz.underlying20
 a20:=Tryz.isAgg20
 z20:=Tryz.sizeOf20
 v20:=Tryz.zeroValue20
 t37:=Tryz.underlying68
 a37:=Tryz.isAgg68
 z37:=Tryz.sizeOf68
 v37:=Tryz.zeroValue68
 t70:=Tryz.underlying67
 a70:=Tryz.isAgg67
 z70:=Tryz.sizeOf67
 v70:=Tryz.zeroValue67
 t72:=Tryz.underlying70
 a72:=Tryz.isAgg70
 z72:=Tryz.sizeOf70
 v72:=Tryz.zeroValue70
 t75:=Tryz.underlying73
 a75:=Tryz.isAgg73
 z75:=Tryz.sizeOf73
 v75:=Tryz.zeroValue73
 t164:=Tryz.underlying139
 a164:=Tryz.isAgg139
 z164:=Tryz.sizeOf139
 v164:=Tryz.zeroValue139 }
set_option maxRecDepth 100000 in
theorem bdX:Builder.Extra Tryz.prog bdR:={ Tryz.Builder_Extra_169 with }
def IsBd (B b:Nat)(l:List UInt8)(w:World):Prop:=Lib.IsBuilderF 70 5 B b (Lib.byteCells l) w
theorem bByte_any (B b:Nat)(l:List UInt8)(c:UInt8)(w:World)(h:IsBd B b l w)(hlen:l.length+1≤140737488355328)(hBw:B≤w.heap.size) :
 Calls Tryz.prog 26 #[.pointer (some ⟨b,0,none⟩),.int .u8 c.toNat] w fun e w'=>e = .returned .nilIface∧IsBd B b (l++[c]) w'∧Below B w w'∧Lib.OthersKept 5 (some b) w w' :=
 (Any.Builder_WriteByte_k hl167 bdX B b (Lib.byteCells l) c.toNat w h (by simpa [Lib.byteCells_length] using hlen) hBw).mono fun e w' ⟨he, h1, h2, h3⟩ =>
   ⟨he,.inr (by rw [show Lib.byteCells (l++[c])=Lib.byteCells l++[.int .u8 c.toNat] from by simp [Lib.byteCells]];exact h1),h2,h3⟩
theorem bText_any (B b:Nat)(l:List UInt8)(s:ByteArray)(w:World)(h:IsBd B b l w)(hlen:l.length+s.size≤140737488355328)(hBw:B≤w.heap.size) :
 Calls Tryz.prog 27 #[.pointer (some ⟨b,0,none⟩),.string s] w fun e w'=>e = .returned (.tuple #[.int .i64 s.size,.nilIface])∧IsBd B b (l++s.data.toList) w'∧Below B w w'∧Lib.OthersKept 5 (some b) w w' :=
 (Any.Builder_WriteString_k hl166 bdX B b (Lib.byteCells l) s w h (by simpa [Lib.byteCells_length] using hlen) hBw).mono fun e w' ⟨he, h1, h2, h3⟩ =>
   ⟨he,.inr (by rw [show Lib.byteCells (l++s.data.toList)=Lib.byteCells l++Lib.strCells s from by simp [Lib.byteCells,Lib.strCells]];exact h1),h2,h3⟩
theorem bString_any (B b:Nat)(l:List UInt8)(w:World)(h:IsBd B b l w)(hBw:B≤w.heap.size) :
 Calls Tryz.prog 29 #[.pointer (some ⟨b,0,none⟩)] w fun e w'=>e = .returned (.string ⟨l.toArray⟩)∧IsBd B b l w'∧Below B w w' :=
 Tryz.Builder_String_any_f B b l w h hBw
theorem isBd_new (w:World):IsBd w.heap.size w.heap.size [] (w.alloc (.cells #[.pointer none,.slice none 0 0] 70)):=by
 rcases Lib.fresh_isBuilder 70 5 w with ⟨h1,v,h2,h3,h4⟩ | ⟨h1,v,h2,h3,h4⟩
 ·exact .inl ⟨h1,v,h2,World.ownsRowF_of h3,h4⟩
 ·exact .inr ⟨h1,v,h2,World.ownsRowF_of h3,h4⟩
theorem isBd_lt {B b:Nat}{l:List UInt8}{w:World}(h:IsBd B b l w):b<w.heap.size:=by
 have key:∀p,Lib.BuilderAtF 70 5 B b p (Lib.byteCells l) w→b<w.heap.size:=by
  rintro p ⟨h1,v,h2,h3,h4⟩
  exact lt_of_heap h2
 rcases h with h | h
 ·exact key _ h
 ·exact key _ h
theorem isBd_more {B b:Nat}{l:List UInt8}{w w':World}(h:IsBd B b l w)(hb:Below w.heap.size w w'):IsBd B b l w':=by
 have key:∀p,Lib.BuilderAtF 70 5 B b p (Lib.byteCells l) w→Lib.BuilderAtF 70 5 B b p (Lib.byteCells l) w':=by
  rintro p ⟨h1,v,h2,h3,h4⟩
  refine ⟨h1,v,(hb.block b (lt_of_heap h2)).trans h2,⟨h3.1,?_⟩,h4⟩
  rcases h3.2 with hz | ⟨g,cap,cur,fz,r1,r2,r3,r4⟩
  ·exact .inl hz
  ·exact .inr ⟨g,cap,cur,fz,r1,r2,(hb.block g (lt_of_heap r3)).trans r3,r4⟩
 rcases h with h | h
 ·exact .inl (key _ h)
 ·exact .inr (key _ h)
theorem isBd_block {B b:Nat}{l:List UInt8}{w:World}(h:IsBd B b l w):∃cs fr,w.heap[b]? = some (.cells cs 70 fr):=by
 rcases h with ⟨h1,v,h2,_⟩ | ⟨h1,v,h2,_⟩
 ·exact ⟨_,_,h2⟩
 ·exact ⟨_,_,h2⟩
theorem RowT.oth {w w':World}{A:Option Addr}{n b:Nat}{xs:List Value}(h:RowT w 3 A n xs)(ho:Lib.OthersKept 5 (some b) w w')(hb:∃cs fr,w.heap[b]? = some (.cells cs 70 fr)):RowT w' 3 A n xs :=
 ⟨h.1, fun hn => let ⟨g, o, cs, fr, e, hg, hc⟩ := h.2 hn; ⟨g, o, cs, fr, e, ho g _ hg (fun e => by
   injection e with e
   obtain ⟨cs',fr',hb⟩:=hb
   rw [←e,hg] at hb
   injection hb with hb
   injection hb with _ hb
   exact absurd hb (by decide)) (fun c fz e=>by
   injection e with _ e
   exact absurd e (by decide)),hc⟩⟩
theorem below_ita (w:World)(k:Nat)(os:Array Obj):Below w.heap.size w («Sort».grow (w.drewN k) os):=by
 refine ⟨rfl,rfl,rfl,?_,fun j hj=>?_⟩
 ·show w.heap.size≤(w.heap++os).size
  rw [Array.size_append];omega
 ·show (w.heap++os)[j]? = w.heap[j]?
  rw [Array.getElem?_append_left hj]
def GT (W : World) : Prop := Lib.TabIs Tryz.prog W "internal/strconv.uint64pow10" .u64 Lib.pow10Tab
theorem GT.below {W W':World}(h:GT W)(hb:Below W.heap.size W W'):GT W':=Joins.tab_stays (g:=0) (by kernel_rfl) h hb (Nat.le_refl _)
theorem pcode_in {d:Pl.Dg}(hd:Pl.Wf d){ps:List Pl.Pc}(hp:Pl.Pcs d ps)(hl:(Pl.pcode d.lp ps).length≤8100){x:Int}(hx:x ∈ Pl.pcode d.lp ps):-1≤x∧x≤100000:=by
 have hlp:=hd.lp
 have hle:(ps.flatMap (fun p=>(p.order.length:Int) :: p.code)).length+2≤8100:=by
  have:=hl
  unfold Pl.pcode at this
  simpa using this
 have hps:∀(qs:List Pl.Pc),qs.length≤(qs.flatMap (fun p=>(p.order.length:Int) :: p.code)).length:=by
  intro qs
  induction qs with
  | nil=>simp
  | cons q qs ih=>rw [List.flatMap_cons,List.length_append,List.length_cons,List.length_cons];omega
 have h1:=hps ps
 unfold Pl.pcode at hx
 rcases List.mem_cons.1 hx with rfl | hx
 ·omega
 rcases List.mem_cons.1 hx with rfl | hx
 ·omega
 obtain ⟨p,hpm,hx⟩:=List.mem_flatMap.1 hx
 obtain ⟨r,hr,e1,e2,_⟩:=hp.ok p hpm
 have ho:p.order.length≤64:=by
  rw [e2]
  have:=(Pl.ord_ok hd hr).len
  have:=hd.few
  omega
 rcases List.mem_cons.1 hx with rfl | hx
 ·omega
 rw [e1] at hx
 unfold Pl.code at hx
 obtain ⟨c,hc,hx⟩:=List.mem_flatMap.1 hx
 have hcn:=((Pl.ord_ok hd hr).mem c hc).1
 have hs:=hd.sign c hcn
 have hi:∀b,(Pl.ord d r).idxOf b≤64:=fun b=>by
  have:=List.idxOf_le_length (l:=Pl.ord d r) (a:=b)
  rw [←e2] at this ⊢
  omega
 have h2:=hi (Pl.nb d c 0)
 have h3:=hi (Pl.nb d c 1)
 have h4:=hi (Pl.nb d c 2)
 have h5:=hi (Pl.nb d c 3)
 unfold Pl.chk at hx
 simp only [List.mem_cons,List.not_mem_nil,or_false] at hx
 rcases hx with rfl | rfl | rfl | rfl | rfl <;> omega
theorem keyL_len:∀(l:List Int),(∀x,x ∈ l → -1≤x∧x≤100000)→(keyL l).length≤22 * l.length:=by
 have key:∀(l:List Int),(∀x,x ∈ l → -1≤x∧x≤100000)→(keyF l).length≤22 * l.length:=by
  intro l
  induction l with
  | nil=>intro _;simp [keyF]
  | cons x l ih =>
    intro h
    have h1:=ih (fun y hy=>h y (by simp [hy]))
    have h2:=h x (by simp)
    have h3:=Lib.itoa_length_le x (by omega) (by omega)
    have e:keyF (x :: l)=44 :: (Lib.itoa x++keyF l):=by unfold keyF;rw [List.flatMap_cons];rfl
    rw [e,List.length_cons,List.length_append,List.length_cons]
    omega
 intro l h
 have:=key l h
 unfold keyL
 rw [List.length_drop]
 omega
theorem keyL_step {l:List Int}{k:Nat}{x:Int}(h:l[k]? = some x):keyL (l.take (k+1))=if k=0 then Lib.itoa x else keyL (l.take k)++44 :: Lib.itoa x:=by
 have hk:=(List.getElem?_eq_some_iff.1 h).1
 rw [Pl.take_one h]
 split
 ·rename_i h0
  subst h0
  rw [List.take_zero,List.nil_append,keyL_one]
 ·rename_i h0
  refine keyL_snoc (fun e=>?_) x
  have:=congrArg List.length e
  rw [List.length_take,List.length_nil] at this
  omega
def KeyPost (d:Pl.Dg)(w:World)(e:Ending)(w':World):Prop:=∃s:ByteArray,e = .returned (.string s)∧s.data.toList=keyD d∧s.size≤180000∧Below w.heap.size w w'
set_option maxRecDepth 100000 in
set_option maxHeartbeats 4000000 in
theorem key_any (d:Pl.Dg)(hd:Pl.Valid d)(h20:d.n≤20)(A B:Option Addr)(cp cq m:Nat)(w:World)(hm:m=4 * d.n)(hg:DgAt w A B d)(ht:GT w) :
 Calls Tryz.prog 10 #[.agg #[.slice A d.n cp,.slice B m cq,.int .i64 d.lp]] w (KeyPost d w):=by
 have HM:=hide hm
 have HG:=hide hg
 have HT:=hide ht
 have HD:=hide hd
 clear hm hg ht
 have X0:=hide (row_at (W:=w) (g:=w.heap.size) (t:=24) (vs:=[.slice A d.n cp,.slice B m cq,.int .i64 d.lp]) rfl)
 have B0:=hide (show Below w.heap.size w (w.alloc (.cells #[.slice A d.n cp,.slice B m cq,.int .i64 d.lp] 24)) from (Below.refl _ _).alloc (Nat.le_refl _) _)
 obtain ⟨W1,hW1⟩:∃W,W=w.alloc (.cells #[.slice A d.n cp,.slice B m cq,.int .i64 d.lp] 24):=⟨_,rfl⟩
 rw [←hW1] at X0 B0
 have hs1:W1.heap.size=w.heap.size+1:=by rw [hW1];simp
 have I0:=hide (isBd_new W1)
 rw [hs1] at I0
 have X1:=hide (X0.out.alloc (.cells #[.pointer none,.slice none 0 0] 70))
 have B1:=hide (B0.out.alloc (o := .cells #[.pointer none,.slice none 0 0] 70) B0.out.size)
 have HS1:=hide hs1
 clear X0 B0 hs1
 rw [hW1] at X1 B1 I0
 clear hW1 HS1 W1
 obtain ⟨d0,d1,d2,d3⟩:=box3 X1.out
 go_enter Tryz.func10,Tryz.ntmps10
 go_wp2_with fail
 refine (code_t d HD.out h20 A B cp cq m _ HM.out (HG.out.keep B1.out)).mono ?_
 rintro e w2 ⟨A2,n,c2,ps,rfl,hps,hsr,hn,hints,hb2⟩
 have HCD:=hide (codeD_is HD.out.wf hps hsr)
 have HPI:=hide (fun (x:Int) (hx:x ∈ Pl.pcode d.lp ps)=>pcode_in HD.out.wf hps (by have:=hints.1;rw [List.length_map] at this;omega) hx)
 have HI:=hide hints
 have HN:=hide (show (Pl.pcode d.lp ps).length=n from by have:=hints.1;rw [List.length_map] at this;exact this)
 obtain ⟨cl,hcl⟩:∃l,l=Pl.pcode d.lp ps:=⟨_,rfl⟩
 have hs2:w.heap.size+1≤w2.heap.size:=by have:=hb2.size;simp at this;omega
 have I2:=hide (isBd_more I0.out hb2)
 have B2:=hide (B1.out.trans (hb2.mono B1.out.size))
 rw [←hcl] at HCD HPI HI HN
 clear hps hsr hints hb2 hcl X1 B1 I0 d0 d1 d2 d3
 go_wp2_with fail
 go_loopg [4,5,9,16,18,19] n (fun g s4 s5 i s16 s18 s19 wx=>∃k:Nat,k+g=n∧i = .int .i64 (k:Int)∧IsBd (w.heap.size+1) (w.heap.size+1) (keyL (cl.take k)) wx∧Below w.heap.size w wx∧RowT wx 3 A2 n (cl.map (.int .i64)))
 case atStart=>exact ⟨0,by omega,rfl,by rw [List.take_zero];exact I2.out,B2.out,HI.out⟩
 case round =>
  clear I2 B2 HI
  obtain ⟨k,hkg,rfl,hi,hb,hr⟩:=hrel
  have HKG:=hide hkg
  have I0:=hide hi
  have B0:=hide hb
  have R0:=hide hr
  have hkn:k≤n:=by omega
  have hsz:w.heap.size+1≤wr.heap.size:=Nat.le_of_lt (isBd_lt hi)
  have hkl:(keyL (cl.take k)).length≤22 * k:=by
   have h:=keyL_len (cl.take k) (fun x hx=>HPI.out x (List.mem_of_mem_take hx))
   rw [List.length_take] at h
   have:22 * min k cl.length≤22 * k:=Nat.mul_le_mul_left _ (Nat.min_le_left _ _)
   omega
  clear hkg hi hb hr
  by_cases hk:k<n
  ·have hki:(k:Int)<(n:Int):=by omega
   have k0:(0:Int)≤(k:Int):=by omega
   obtain ⟨x,hx⟩:∃x,cl[k]? = some x:=⟨_,List.getElem?_eq_getElem (by rw [HN.out];exact hk)⟩
   obtain ⟨b,o,rfl,x1⟩:=(R0.out.row).at_ hk
   rw [show (cl.map (Value.int .i64))[k]'(by rw [R0.out.1];exact hk) = .int .i64 x from by rw [List.getElem_map];congr 1;exact (List.getElem?_eq_some_iff.1 hx).2] at x1
   have HXB:=hide (HPI.out x (List.mem_of_getElem? hx))
   have hxb:=HXB.out
   have HST:=hide (keyL_step hx)
   clear hx
   by_cases h0:k=0
   ·have hk0:¬((0:Int)<(k:Int)):=by omega
    have HST2:=hide (show keyL (cl.take (k+1))=keyL (cl.take k)++Lib.itoa x by rw [HST.out,if_pos h0,h0];rfl)
    clear h0
    clear HST
    go_wp2_with fail
    refine (Tryz.strconv_Itoa x (by omega) (by omega) _ (HT.out.below B0.out)).mono ?_
    rintro e w3 ⟨rfl,k3,os3,hw3⟩
    have hb3:Below wr.heap.size wr w3:=by rw [hw3];exact below_ita wr k3 os3
    have B3:=hide (B0.out.trans (hb3.mono B0.out.size))
    have I3:=hide (isBd_more I0.out hb3)
    have R3:=hide (R0.out.keep hb3)
    have hs3:w.heap.size+1≤w3.heap.size:=by have:=hb3.size;omega
    clear hw3 hb3 B0 I0 R0 x1
    obtain ⟨sx,hsx⟩:∃x1:ByteArray,x1=⟨(Lib.itoa x).toArray⟩:=⟨_,rfl⟩
    have HSX:=hide (show sx.data.toList=Lib.itoa x by rw [hsx])
    have hsz2:sx.size≤21:=by rw [Lib.size_eq,HSX.out];exact Lib.itoa_length_le x (by omega) (by omega)
    rw [←hsx]
    clear hsx
    go_wp2_with fail
    refine (bText_any (w.heap.size+1) (w.heap.size+1) _ sx _ I3.out (by omega) hs3).mono ?_
    rintro e w4 ⟨rfl,hi4,hb4,ho4⟩
    have I4:=hide hi4
    have B4:=hide (B3.out.trans (hb4.mono (by omega)))
    have R4:=hide (R3.out.oth ho4 (isBd_block I3.out))
    clear hi4 hb4 ho4
    go_wp2_with fail
    go_roundg (gk - 1)
    case measure=>have:=HKG.out;omega
    case rel=>exact ⟨k+1,by have:=HKG.out;omega,by go_num,by rw [HST2.out,←HSX.out];exact I4.out,B4.out,R4.out⟩
   ·have hk0:(0:Int)<(k:Int):=by omega
    have HST2:=hide (show keyL (cl.take (k+1))=(keyL (cl.take k)++[44])++Lib.itoa x by rw [HST.out,if_neg h0,List.append_assoc];rfl)
    clear HST
    go_wp2_with fail
    refine (bByte_any (w.heap.size+1) (w.heap.size+1) _ 44 _ I0.out (by omega) hsz).mono ?_
    rintro e w2' ⟨rfl,hi2,hb2,ho2⟩
    have I2:=hide hi2
    have B2:=hide (B0.out.trans (hb2.mono (by omega)))
    have R2:=hide (R0.out.oth ho2 (isBd_block I0.out))
    clear hi2 hb2 ho2 B0 I0 R0 x1
    go_wp2_with fail
    refine (Tryz.strconv_Itoa x (by omega) (by omega) _ (HT.out.below B2.out)).mono ?_
    rintro e w3 ⟨rfl,k3,os3,hw3⟩
    have hb3:Below w2'.heap.size w2' w3:=by rw [hw3];exact below_ita w2' k3 os3
    have B3:=hide (B2.out.trans (hb3.mono B2.out.size))
    have I3:=hide (isBd_more I2.out hb3)
    have R3:=hide (R2.out.keep hb3)
    have hs3:w.heap.size+1≤w3.heap.size:=Nat.le_of_lt (isBd_lt I3.out)
    clear hw3 hb3 B2 I2 R2
    obtain ⟨sx,hsx⟩:∃x1:ByteArray,x1=⟨(Lib.itoa x).toArray⟩:=⟨_,rfl⟩
    have HSX:=hide (show sx.data.toList=Lib.itoa x by rw [hsx])
    have hsz2:sx.size≤21:=by rw [Lib.size_eq,HSX.out];exact Lib.itoa_length_le x (by omega) (by omega)
    have hkl2:(keyL (cl.take k)++[44]).length≤22 * k+1:=by rw [List.length_append,List.length_singleton];omega
    rw [←hsx]
    clear hsx
    go_wp2_with fail
    refine (bText_any (w.heap.size+1) (w.heap.size+1) _ sx _ I3.out (by omega) hs3).mono ?_
    rintro e w4 ⟨rfl,hi4,hb4,ho4⟩
    have I4:=hide hi4
    have B4:=hide (B3.out.trans (hb4.mono (by omega)))
    have R4:=hide (R3.out.oth ho4 (isBd_block I3.out))
    clear hi4 hb4 ho4
    go_wp2_with fail
    go_roundg (gk - 1)
    case measure=>have:=HKG.out;omega
    case rel=>exact ⟨k+1,by have:=HKG.out;omega,by go_num,by rw [HST2.out,←HSX.out];exact I4.out,B4.out,R4.out⟩
  ·have hki:¬((k:Int)<(n:Int)):=by omega
   have hkk:k=n:=by omega
   rw [hkk,List.take_of_length_le (by have:=HN.out;omega)] at I0
   have hlen:(keyL cl).length≤22 * n:=by
    have h:=keyL_len cl HPI.out
    have:=HN.out
    rw [←this]
    exact h
   go_wp2_with fail
   refine (bString_any (w.heap.size+1) (w.heap.size+1) _ _ I0.out hsz).mono ?_
   rintro e w4 ⟨rfl,hi4,hb4⟩
   have B4:=hide (B0.out.trans (hb4.mono (by omega)))
   go_wp2
   go_ret
   refine ⟨_,rfl,?_,?_,B4.out⟩
   ·show (keyL cl).toArray.toList=keyD d
    rw [List.toList_toArray,HCD.out]
    rfl
   ·rw [Lib.size_eq]
    show (keyL cl).toArray.toList.length≤180000
    rw [List.toList_toArray]
    omega
end Go.Proofs.YtdgliimmnnhhjaaGreatDoor
end
