/-
  The texts Jg, Jl, Jm, Jo, Jr, Js, Ju, Jv.
-/
import Derived.Test.YtdgliimmnnhhjaaGreatDoorU14
import Derived.Test.YtdgliimmnnhhjaaGreatDoorU39
import Derived.Test.YtdgliimmnnhhjaaGreatDoorU45
import Derived.Test.YtdgliimmnnhhjaaGreatDoorU46
set_option linter.unusedVariables false
set_option linter.unusedSimpArgs false
section
namespace Go.Proofs.YtdgliimmnnhhjaaGreatDoor
open Go Go.RowKit
attribute [local go_sem ↓] Go.wp_at_zero Go.wp_at_succ
def foL (ps:List Pl.Pc)(j:Nat):List Nat:=(ps.take j).flatMap Pl.Pc.order
theorem foL_succ {ps:List Pl.Pc}{j:Nat}{p:Pl.Pc}(h:ps[j]? = some p):foL ps (j+1)=foL ps j++p.order:=by
 unfold foL
 rw [Pl.take_one h,List.flatMap_append]
 simp
theorem foL_all {ps:List Pl.Pc}{j:Nat}(h:ps.length≤j):foL ps j=ps.flatMap Pl.Pc.order:=by
 unfold foL
 rw [List.take_of_length_le h]
theorem fo_all {d:Pl.Dg}(hd:Pl.Wf d){ps:List Pl.Pc}(h:Pl.Pcs d ps):(∀c,c ∈ ps.flatMap Pl.Pc.order→c<d.n)∧(ps.flatMap Pl.Pc.order).length=d.n:=by
 have h1:∀c,c ∈ ps.flatMap Pl.Pc.order→c<d.n:=fun c hc=>by
  obtain ⟨p,hp,hm⟩:=List.mem_flatMap.1 hc
  obtain ⟨r,hr,_,e,_⟩:=h.ok p hp
  rw [e] at hm
  exact ((Pl.ord_ok hd hr).mem c hm).1
 refine ⟨h1,?_⟩
 have h2:=Pl.left_idx h.nd d.n
 rw [List.filter_eq_self.2 fun c hc=>decide_eq_true (h1 c hc)] at h2
 have h3:Pl.left d.n (ps.flatMap Pl.Pc.order)=[]:=by
  unfold Pl.left
  refine List.filter_eq_nil_iff.2 fun c hc=>?_
  obtain ⟨p,hp,hm⟩:=h.all c (List.mem_range.1 hc)
  have:c ∈ ps.flatMap Pl.Pc.order:=List.mem_flatMap.2 ⟨p,hp,hm⟩
  simp only [List.contains_iff_mem.2 this];decide
 rw [h3] at h2
 simpa using h2
theorem foL_len {d:Pl.Dg}(hd:Pl.Wf d){ps:List Pl.Pc}(h:Pl.Pcs d ps)(j:Nat):(foL ps j).length≤d.n:=by
 have h1:=(fo_all hd h).2
 have h2:(ps.flatMap Pl.Pc.order)=foL ps j++(ps.drop j).flatMap Pl.Pc.order:=by
  unfold foL
  rw [←List.flatMap_append,List.take_append_drop]
 rw [h2,List.length_append] at h1
 omega
def fsg (ps:List Pl.Pc)(i:Nat):Nat:=(ps.flatMap Pl.Pc.order).getD i 0
theorem pv_fsg (ps:List Pl.Pc)(i:Nat):Pl.pv (nats (ps.flatMap Pl.Pc.order)) i=(fsg ps i:Nat):=by
 unfold Pl.pv nats fsg
 rw [List.getD_eq_getElem?_getD,List.getElem?_map,List.getD_eq_getElem?_getD]
 cases (ps.flatMap Pl.Pc.order)[i]? <;> rfl
theorem fsg_ok {d:Pl.Dg}(hd:Pl.Wf d){ps:List Pl.Pc}(h:Pl.Pcs d ps):(∀i,i<d.n→fsg ps i<d.n)∧∀i j,i<d.n→j<d.n→fsg ps i=fsg ps j→i=j:=by
 obtain ⟨h1,h2⟩:=fo_all hd h
 have g:∀i,i<d.n→∃hi:i<(ps.flatMap Pl.Pc.order).length,fsg ps i=(ps.flatMap Pl.Pc.order)[i]:=fun i hi=>⟨by omega,by
  unfold fsg
  rw [List.getD_eq_getElem?_getD,List.getElem?_eq_getElem (by omega)];rfl⟩
 refine ⟨fun i hi=>?_,fun i j hi hj e=>?_⟩
 ·obtain ⟨q,e⟩:=g i hi
  rw [e];exact h1 _ (List.getElem_mem q)
 ·obtain ⟨q,e1⟩:=g i hi
  obtain ⟨q',e2⟩:=g j hj
  rw [e1,e2] at e
  exact (List.getElem_inj h.nd).1 e
def FmO (d r:Pl.Dg):Prop:=∃ps,Pl.Pcs d ps∧Pl.Srt ps∧r=rnF d (fsg ps)
theorem FmO.ok {d r:Pl.Dg}(hd:Pl.Valid d)(h:FmO d r):Pl.Valid r∧(∃σ,Pl.Iso r d σ)∧r.n=d.n∧r.lp=d.lp:=by
 obtain ⟨ps,h1,_,rfl⟩:=h
 obtain ⟨f1,f2⟩:=fsg_ok hd.wf h1
 have hi:=inv_tau f1 f2
 exact ⟨rnE_valid hd hi,⟨_,rnE_iso hd.wf hi⟩,rnE_n _ _ _,rfl⟩
set_option maxRecDepth 100000 in
set_option maxHeartbeats 8100000 in
theorem form_any (d:Pl.Dg)(hd:Pl.Valid d)(h20:d.n≤20)(A B:Option Addr)(n0 cp cq m lp:Nat)(w:World)(hn0:n0=d.n)(hm:m=4 * d.n)(hl:lp=d.lp)(hg:DgAt w A B d) :
 Calls Tryz.prog 8 #[.agg #[.slice A n0 cp,.slice B m cq,.int .i64 (lp:Int)]] w fun e w'=>∃(r:Pl.Dg) (A9 B9:Option Addr) (c8 c9:Nat),FmO d r∧e = .returned (.tuple #[.agg #[.slice A9 n0 c8,.slice B9 m c9,.int .i64 (lp:Int)],.int .i64 0])∧DgT w' A9 B9 r∧Below w.heap.size w w':=by
 subst hn0
 subst hl
 have hlp:=hd.wf.lp
 have HM:=hide hm
 have HG:=hide hg
 have HD:=hide hd
 clear hm hg
 have X0:=hide ((row_at (W:=w) (g:=w.heap.size) (t:=24) (vs:=[.slice A d.n cp,.slice B m cq,.int .i64 (d.lp:Int)]) rfl).alloc (.cells #[.slice none 0 0,.slice none 0 0,.int .i64 0] 24))
 have S0:=hide (row_at (W:=w.alloc (.cells #[.slice A d.n cp,.slice B m cq,.int .i64 (d.lp:Int)] 24)) (g:=w.heap.size+1) (t:=24) (vs:=[.slice none 0 0,.slice none 0 0,.int .i64 0]) (by simp))
 have B0:=hide (show Below w.heap.size w ((w.alloc (.cells #[.slice A d.n cp,.slice B m cq,.int .i64 (d.lp:Int)] 24)).alloc (.cells #[.slice none 0 0,.slice none 0 0,.int .i64 0] 24)) from ((Below.refl _ _).alloc (Nat.le_refl _) _).alloc (by simp) _)
 go_enter Tryz.func8,Tryz.ntmps8
 obtain ⟨d0,d1,d2,d3⟩:=box3 X0.out
 go_wp2_with fail
 refine (valid_yes d HD.out A B cp cq m _ HM.out (HG.out.keep B0.out)).mono ?_
 rintro e w1 ⟨rfl,hb1⟩
 have Y0:=hide (X0.out.below hb1)
 have S1:=hide (S0.out.below hb1)
 have B1:=hide (B0.out.trans (hb1.mono B0.out.size))
 clear X0 B0 S0 hb1 d0 d1 d2 d3
 obtain ⟨d0,d1,d2,d3⟩:=box3 Y0.out
 go_wp2_with fail
 refine (pieces_any d HD.out A B cp cq m _ HM.out (HG.out.keep B1.out) h20).mono ?_
 rintro e w2 ⟨aLst,n,cL,cs,ps,rfl,hown,hpv,hlen,hnd,hpcs,hsrt,hb2⟩
 have Z0:=hide (Y0.out.below hb2)
 have S2:=hide (S1.out.below hb2)
 have B2:=hide (B1.out.trans (hb2.mono B1.out.size))
 have OW:=hide hown
 have HPV:=hide hpv
 have HLEN:=hide hlen
 have HPS:=hide (show Pl.Pcs d ps∧Pl.Srt ps from ⟨hpcs,hsrt⟩)
 have HSZ:=hide (pcs_sz HD.out.wf hpcs)
 have hn20:n≤20:=by omega
 clear hown hpv hlen hpcs hsrt hb2 d0 d1 d2 d3 Y0 B1 S1 hnd
 go_wp2_with fail
 go_loopg [4,6,14] n (fun g s4 s6 s14 wx=>∃(j m:Nat) (xs:List Int),j+g=n∧s14 = .int .i64 (j:Int)∧xs=nats (foL ps j)∧CL w2 xs m s4 wx)
 case atStart=>exact ⟨0,0,_,by omega,rfl,rfl,⟨⟨rfl,.inl ⟨rfl,rfl⟩⟩,rfl,Below.refl _ _⟩⟩
 case round =>
  obtain ⟨j,k,xs,hjg,rfl,hxs,hk⟩:=hrel
  have HJG:=hide hjg
  have K0:=hide hk
  have HXS:=hide hxs
  have hjn:j≤n:=by omega
  have hkl:k≤20:=by
   rw [←hk.len,hxs,nats_len]
   exact Nat.le_trans (foL_len HD.out.wf HPS.out.1 j) h20
  clear hk hxs
  obtain ⟨A4,c4,rfl⟩:=owns_slice K0.out.own
  by_cases hj:j<n
  ·have hji:(j:Int)<(n:Int):=by omega
   have j0:(0:Int)≤(j:Int):=by omega
   have hnA:0<n:=by omega
   obtain ⟨g,cap,hA,hcap,hgl⟩:=World.ownsRow.form OW.out hnA
   injection hA with hA _ hcc
   subst hA
   subst hcc
   obtain ⟨p,hp⟩:∃p,ps[j]? = some p:=⟨_,List.getElem?_eq_getElem (by rw [HLEN.out];exact hj)⟩
   have HXN:=hide (show nats (foL ps (j+1))=nats (foL ps j)++nats p.order by rw [foL_succ hp];unfold nats;rw [List.map_append])
   have hpsz:=HSZ.out p (List.mem_of_getElem? hp)
   obtain ⟨a0,a1,a2,hpx,ca0,ca1,ca2⟩:=HPV.out.at_ hp
   have CA:=fun (t:Nat) (u:Value) (ht:j * 3+t<n * 3) (e:cs[j * 3+t]? = some u)=>(show wr.cell? ⟨g,j * 3+t,none⟩=some u by exact cell_below (by rw [World.ownsRow.cellAt OW.out _ ht];exact e) K0.out.bel)
   have x0:=CA 0 a0 (by omega) ca0
   have x1:=CA 1 a1 (by omega) ca1
   have x2:=CA 2 _ (by omega) ca2
   rw [Nat.add_zero] at x0
   clear CA ca0 ca1 ca2 hp hjg
   obtain ⟨A1,e1,h1,h1b⟩:=hpx.c
   obtain ⟨A2,e2,h2,h2b⟩:=hpx.o
   have HC2:=hide (show IntsAt w2 A2 (nats p.order).length (nats p.order) from h2b.2.row)
   subst h1
   subst h2
   clear h1b h2b hpx
   obtain ⟨L1,hL1⟩:∃n,n=p.code.length:=⟨_,rfl⟩
   obtain ⟨L2,hL2⟩:∃n,n=(nats p.order).length:=⟨_,rfl⟩
   rw [←hL1] at x0
   rw [←hL2] at x1 HC2
   have HL2:=hide hL2
   have hL2b:L2≤64:=by rw [hL2,nats_len];exact hpsz.1
   clear hpsz hL1 hL2
   have KA:=hide (K0.out.alloc (.cells #[.slice A1 L1 e1,.slice A2 L2 e2,.int .i64 a2] 64))
   have XB:=hide (row_at (W:=wr) (g:=wr.heap.size) (t:=64) (vs:=[.slice A1 L1 e1,.slice A2 L2 e2,.int .i64 a2]) rfl)
   obtain ⟨f0,f1,f2,f3⟩:=box3 XB.out
   go_upto_region 7 with fail
   obtain ⟨V,hV⟩:∃V,V=wr.alloc (.cells #[.slice A1 L1 e1,.slice A2 L2 e2,.int .i64 a2] 64):=⟨_,rfl⟩
   obtain ⟨gb,hgb⟩:∃g,g=wr.heap.size:=⟨_,rfl⟩
   rw [←hV] at KA XB f0 f1 f2 f3 ⊢
   rw [←hgb] at XB f0 f1 f2 f3 ⊢
   clear hV hgb x0 x1 x2 K0
   obtain ⟨i0,hi0,hz0,hz1,hz2⟩:=info_parts intInfo
   go_wp2_with (at_builtin;refine wpList_append_int _ (by rfl) _ _ 22 (by rfl) w2.heap.size 3 i0 (.int .i64 0) 8 Tryz.underlying22 hi0 hz0 hz1 hz2 rfl _ k _ (by rfl) KA.out.own A2 L2 e2 (nats p.order) (by rfl) (HC2.out.keep KA.out.bel) (by unfold maxLen;omega) (by omega) KA.out.bel.size ?_;intro v4 w4 own4 gr4;have OWN4:=hide own4;have GR4:=hide gr4;clear own4 gr4)
   go_roundg (gk - 1)
   case measure=>have:=HJG.out;omega
   case rel=>exact ⟨j+1,_,_,by have:=HJG.out;omega,by go_num,rfl,by
    rw [HXN.out,←HXS.out]
    exact KA.out.app OWN4.out GR4.out (by rw [HL2.out])⟩
  ·have hji:¬((j:Int)<(n:Int)):=by omega
   have HIA:=hide (show xs=nats (ps.flatMap Pl.Pc.order) by rw [HXS.out,foL_all (by rw [HLEN.out];omega)])
   have HKN:=hide (show k=d.n by rw [←K0.out.len,HIA.out,nats_len];exact (fo_all HD.out.wf HPS.out.1).2)
   have HII:=hide (show IntsAt wr A4 k (nats (ps.flatMap Pl.Pc.order)) by rw [←HIA.out];exact (own_rowT K0.out.own).row)
   have HPM:=hide (show PmL d.n (nats (ps.flatMap Pl.Pc.order)) by
    obtain ⟨q1,q2⟩:=fsg_ok HD.out.wf HPS.out.1
    refine ⟨fun i hi=>?_,fun i j hi hj e=>?_⟩
    ·rw [pv_fsg];have:=q1 i hi;omega
    ·rw [pv_fsg,pv_fsg] at e;exact q2 i j hi hj (by omega))
   have Z3:=hide (Z0.out.below K0.out.bel)
   have S3:=hide (S2.out.below K0.out.bel)
   have B3:=hide (B2.out.trans (K0.out.bel.mono B2.out.size))
   clear K0 HXS HJG HSZ HPV OW HLEN Z0 S2 B2 HIA
   obtain ⟨d0,d1,d2,d3⟩:=box3 Z3.out
   go_wp2_with fail
   refine (renumber_pm d HD.out A B A4 cp cq m k c4 _ _ HM.out (HG.out.keep B3.out) HII.out HKN.out HPM.out).mono ?_
   rintro e w5 ⟨A9,B9,c8,c9,rfl,hT,hb5⟩
   rw [show (fun i=>(Pl.pv (nats (ps.flatMap Pl.Pc.order)) i).toNat)=fsg ps from funext fun i=>by rw [pv_fsg];rfl] at hT
   have HT:=hide hT
   have S5:=hide (S3.out.below hb5)
   have B5:=hide (B3.out.trans (hb5.mono B3.out.size))
   clear hT hb5 d0 d1 d2 d3 Z3 S3 B3
   obtain ⟨f0,f1,f2,f3⟩:=box3 S5.out
   have hs5:=S5.out.lt
   rw [←HM.out]
   go_wp2
   refine bodyPost_ret (v := .tuple #[.agg #[.slice A9 d.n c8,.slice B9 m c9,.int .i64 (d.lp:Int)],.int .i64 0]) ?_ rfl ?_
   ·obtain ⟨r0,r1,r2,r3⟩:=box3 (row3 S5.out rfl (.slice A9 d.n c8) (.slice B9 m c9) (.int .i64 (d.lp:Int)))
    simp [results,Tryz.results8,go_sem,r0,r1,r2]
   ·exact ⟨rnF d (fsg ps),A9,B9,c8,c9,⟨ps,HPS.out.1,HPS.out.2,rfl⟩,rfl,HT.out.set3 S5.out _ _ _,below3 B5.out (by omega) _ _ _⟩
end Go.Proofs.YtdgliimmnnhhjaaGreatDoor
end
section
namespace Go.Proofs.YtdgliimmnnhhjaaGreatDoor
noncomputable def stL (d:Pl.Dg)(most:Int):List Mv:=if (d.n:Int)<most then keepZ d.n most (allL d) else remL d++slD d
inductive BR (i:Nat) (x:Nd) (L:List Mv) (l0:List Nd) (ks0:List (List UInt8)):Nat→List Nd→List (List UInt8)→Prop
 | z:BR i x L l0 ks0 0 l0 ks0
 | no {j:Nat} {l:List Nd} {ks:List (List UInt8)} {m:Mv}:BR i x L l0 ks0 j l ks→L[j]? = some m→keyD (apD x.d m) ∈ ks→BR i x L l0 ks0 (j+1) l ks
 | ad {j:Nat} {l:List Nd} {ks:List (List UInt8)} {m:Mv} {r:Pl.Dg}:BR i x L l0 ks0 j l ks→L[j]? = some m→keyD (apD x.d m) ∉ ks→FmO (apD x.d m) r→BR i x L l0 ks0 (j+1) (l++[⟨r,m,i,x.s+1⟩]) (ks++[keyD (apD x.d m)])
inductive BO (most:Int) (rad:Nat) (r0:Pl.Dg):Nat→List Nd→List (List UInt8)→Prop
 | z:BO most rad r0 0 [nd0 r0] [keyD r0]
 | st {i:Nat} {l l':List Nd} {ks ks':List (List UInt8)} {x:Nd}:BO most rad r0 i l ks→l[i]? = some x→x.s<rad→BR i x (stL x.d most) l ks (stL x.d most).length l' ks'→BO most rad r0 (i+1) l' ks'
theorem BR.le {i:Nat}{x:Nd}{L:List Mv}{l0 l:List Nd}{ks0 ks:List (List UInt8)}{j:Nat}(h:BR i x L l0 ks0 j l ks):j≤L.length:=by
 cases h with
 | z=>omega
 | no _ h _=>have:=(List.getElem?_eq_some_iff.1 h).1;omega
 | ad _ h _ _=>have:=(List.getElem?_eq_some_iff.1 h).1;omega
theorem lone_st:stL lone 1=cuN (-1):=by
 unfold stL
 rw [if_pos (by decide),lone_all]
 unfold keepZ
 have h2:(sel lone (pkNX 0 2)).filter (fun z => !delZ lone.n 1 z)=[]:=List.filter_eq_nil_iff.2 fun z hz=>by
  have hk:=pkNX_kind (mem_sel.1 hz).1
  unfold delZ
  rw [hk]
  decide
 rw [List.filter_append,h2,List.append_nil]
 rfl
theorem fmo_lone {r:Pl.Dg}(h:FmO lone r):r=lone:=by
 obtain ⟨h1,_,h3,h4⟩:=h.ok lone_valid
 obtain ⟨sg,mt,lp⟩:=r
 have e1:sg=[]:=List.eq_nil_of_length_eq_zero h3
 have e2:mt=[]:=List.eq_nil_of_length_eq_zero (by have:=h1.wf.len;rw [this,h3];rfl)
 have e3:lp=1:=h4
 subst e1 e2 e3
 rfl
def kM:Mv:=⟨1,-1,0,-1,false⟩
def kP:Mv:=⟨1,-1,0,1,false⟩
theorem lone_M:apD lone ⟨1,-1,0,-1,true⟩=apD lone kM:=by decide
theorem lone_P:apD lone ⟨1,-1,0,1,true⟩=apD lone kP:=by decide
theorem lone_c (s:Int)(o:Bool)(hs:s=1∨s = -1):apC lone ⟨1,-1,0,s,o⟩=0:=by
 rw [cu_code (by decide) hs]
 decide
theorem lone_v {m:Mv}(h:m ∈ cuN (-1)):apC lone m=0∧Pl.Valid (apD lone m)∧(apD lone m).n=1:=by
 have key:∀(s:Int) (o:Bool),s=1∨s = -1→apC lone ⟨1,-1,0,s,o⟩=0∧Pl.Valid (apD lone ⟨1,-1,0,s,o⟩)∧(apD lone ⟨1,-1,0,s,o⟩).n=1:=fun s o hs =>
  ⟨lone_c s o hs,(ap_ok4 lone_valid (by show (1:Int)≠5;decide) (lone_c s o hs)).1,rfl⟩
 simp only [cuN,List.mem_cons,List.not_mem_nil,or_false] at h
 rcases h with rfl | rfl | rfl | rfl
 ·exact key _ _ (.inr rfl)
 ·exact key _ _ (.inr rfl)
 ·exact key _ _ (.inl rfl)
 ·exact key _ _ (.inl rfl)
theorem key_M0:keyD (apD lone kM)≠keyD lone:=fun h=>by
 obtain ⟨σ,hi⟩:=key_iso (lone_v (m:=kM) (by simp [cuN,kM])).2.1.wf lone_valid.wf h
 have:=hi.n
 exact absurd this (by decide)
theorem key_P0:keyD (apD lone kP)≠keyD lone:=fun h=>by
 obtain ⟨σ,hi⟩:=key_iso (lone_v (m:=kP) (by simp [cuN,kP])).2.1.wf lone_valid.wf h
 have:=hi.n
 exact absurd this (by decide)
theorem key_PM:keyD (apD lone kP)≠keyD (apD lone kM):=fun h=>by
 obtain ⟨σ,hi⟩:=key_iso (lone_v (m:=kP) (by simp [cuN,kP])).2.1.wf (lone_v (m:=kM) (by simp [cuN,kM])).2.1.wf h
 have h0:σ 0<1:=hi.lt 0 (by decide)
 have h1:=hi.s 0 (by decide)
 rw [show σ 0=0 by omega] at h1
 exact absurd h1 (by decide)
theorem br_lone {j:Nat}{l:List Nd}{ks:List (List UInt8)}(h:BR 0 (nd0 lone) (cuN (-1)) [nd0 lone] [keyD lone] j l ks) :
 j≤4∧(∃t,l=nd0 lone :: t∧t.length=(j+1) / 2∧∀x,x ∈ t→x.s=1)∧ks=[keyD lone,keyD (apD lone kM),keyD (apD lone kP)].take (1+(j+1) / 2):=by
 have MEM:∀{j:Nat} {m:Mv},(cuN (-1))[j]? = some m→j=0∧apD lone m=apD lone kM∨j=1∧apD lone m=apD lone kM∨j=2∧apD lone m=apD lone kP∨j=3∧apD lone m=apD lone kP:=fun {j m} e=>by
  match j,e with
  | 0,e=>injection e with e;subst e;exact .inl ⟨rfl,rfl⟩
  | 1,e=>injection e with e;subst e;exact .inr (.inl ⟨rfl,lone_M⟩)
  | 2,e=>injection e with e;subst e;exact .inr (.inr (.inl ⟨rfl,rfl⟩))
  | 3,e=>injection e with e;subst e;exact .inr (.inr (.inr ⟨rfl,lone_P⟩))
  | j+4,e=>exact absurd e (by simp [cuN])
 induction h with
 | z=>exact ⟨by omega,⟨[],rfl,rfl,fun x hx=>by cases hx⟩,rfl⟩
 | @no j l ks m _ e hk ih =>
   obtain ⟨h1,⟨t,h2,h3,h4⟩,h5⟩:=ih
   change keyD (apD lone m) ∈ ks at hk
   rcases MEM e with ⟨rfl,em⟩ | ⟨rfl,em⟩ | ⟨rfl,em⟩ | ⟨rfl,em⟩
   ·rw [em,h5] at hk
    exact absurd hk (by simp [key_M0])
   ·exact ⟨by omega,⟨t,h2,h3,h4⟩,h5⟩
   ·rw [em,h5] at hk
    exact absurd hk (by simp [key_P0,key_PM])
   ·exact ⟨by omega,⟨t,h2,h3,h4⟩,h5⟩
 | @ad j l ks m r _ e hk _ ih =>
   obtain ⟨h1,⟨t,h2,h3,h4⟩,h5⟩:=ih
   change keyD (apD lone m) ∉ ks at hk
   have T:∃t',l++[⟨r,m,((0:Nat):Int),(nd0 lone).s+1⟩]=nd0 lone :: t'∧t'.length=(j+1) / 2+1∧∀x,x ∈ t'→x.s=1 :=
    ⟨t ++ [⟨r, m, ((0 : Nat) : Int), 1⟩], by rw [h2]; rfl, by simp [h3], fun x hx => by
      rcases List.mem_append.1 hx with hx | hx
      ·exact h4 x hx
      ·rw [List.mem_singleton.1 hx]⟩
   rcases MEM e with ⟨rfl,em⟩ | ⟨rfl,em⟩ | ⟨rfl,em⟩ | ⟨rfl,em⟩
   ·refine ⟨by omega,T,?_⟩
    show ks++[keyD (apD lone m)]=_
    rw [h5,em];rfl
   ·rw [em,h5] at hk
    exact absurd (by simp) hk
   ·refine ⟨by omega,T,?_⟩
    show ks++[keyD (apD lone m)]=_
    rw [h5,em];rfl
   ·rw [em,h5] at hk
    exact absurd (by simp) hk
theorem bo_lone {i:Nat}{l:List Nd}{ks:List (List UInt8)}(h:BO 1 1 lone i l ks) :
 (i=0∧l=[nd0 lone]∧ks=[keyD lone])∨(i=1∧∃t,l=nd0 lone :: t∧t.length=2∧∀x,x ∈ t→x.s=1):=by
 induction h with
 | z=>exact .inl ⟨rfl,rfl,rfl⟩
 | @st i l l' ks ks' x _ hx hs hr ih =>
   rcases ih with ⟨rfl,rfl,rfl⟩ | ⟨rfl,t,rfl,ht,h4⟩
   ·injection hx with hx
    subst hx
    change BR 0 (nd0 lone) (stL lone 1) [nd0 lone] [keyD lone] (stL lone 1).length l' ks' at hr
    rw [lone_st] at hr
    exact .inr ⟨rfl,(br_lone hr).2.1⟩
   ·match t,ht,h4,hx with
    | [a, b], _, h4, hx =>
      injection hx with hx
      subst hx
      have:=h4 a (by simp)
      omega
end Go.Proofs.YtdgliimmnnhhjaaGreatDoor
end
section
namespace Go.Proofs.YtdgliimmnnhhjaaGreatDoor
open Go Go.RowKit
attribute [local go_sem ↓] Go.wp_at_zero Go.wp_at_succ
theorem plainElem_int_inv {P:Program}{e:TypeId}(he:P.underlying e=some (.int .i64)){v:Value}{z:DataW Unit × List MemPlace}(h:plainElem P e v=some z):∃x,v = .int .i64 x:=by
 unfold plainElem at h
 rw [he] at h
 cases v <;> simp at h
 rename_i k x
 cases k <;> simp at h
 exact ⟨_,rfl⟩
set_option maxRecDepth 100000 in
theorem box2q {W:World}{g:Nat}{t:TypeId}{a b:Value}(h:Row W g t [a,b]):W.cell? ⟨g,0,none⟩=some a∧W.cell? ⟨g,1,none⟩=some b∧∀o,W.frozen? ⟨g,o,none⟩=false :=
 ⟨h.cell (i:=0) (by simp),h.cell (i:=1) (by simp),h.free⟩
set_option maxRecDepth 100000 in
theorem MapQ.look {W:World}{b:Nat}{ks:List (List UInt8)}(h:MapQ W b ks)(s:ByteArray)(hs:s.size≤maxLen) :
 ∃x,(Instr.lookup 52 (.map (some b)) (.string s) true).run Tryz.prog W = .ok (.tuple #[.int .i64 x,.bool (Pl.vb (s.data.toList ∈ ks))]) W:=by
 obtain ⟨n,D,h1,h2,h3,h4⟩:=h
 obtain ⟨v,ps,hrun,hv⟩:=h1.look_ok skKey Tryz.underlying52 (Tryz.zeroValue3 W) (plainElem_int Tryz.underlying3 (by decide)) (WideMaps.keyOf_string_mk Tryz.underlying9 hs)
 rw [h4] at hrun
 obtain ⟨x,rfl⟩:=plainElem_int_inv Tryz.underlying3 hv
 exact ⟨x,hrun⟩
structure AddO (b0 gt gm:Nat) (v v':Value) (W W':World):Prop where
 bel:Below b0 W W'
 kp:∀g,g<W.heap.size→g≠gt→g≠gm→v.ownBlock≠some g→W'.heap[g]? = W.heap[g]?
 nb:∀g,g<W.heap.size→v.ownBlock≠some g→v'.ownBlock≠some g
def AddPost (b0 gt gm:Nat)(v:Value)(zs:List Nm)(ks:List (List UInt8))(z:Nm)(key:List UInt8)(w:World)(e:Ending)(w':World):Prop :=
 (key ∈ ks→e = .returned (.bool false)∧Below w.heap.size w w') ∧
 (key ∉ ks→e = .returned (.bool true)∧∃v',TbL b0 gt gm v' (zs++[z]) (ks++[key]) w'∧AddO b0 gt gm v v' w w')
theorem add_end {w w1 w2 w3:World}{b0 gt gm N gn cn:Nat}{v:Value}{zs:List Nm}{ks:List (List UInt8)}{key:List UInt8}{z:Nm}{X:Obj}
 (T1:TbL b0 gt gm v zs ks w1) (B1:Below w.heap.size w w1) (hb0:b0≤w.heap.size) (G2:w1.drew.grownBy w2 (some gm)) (Q2:MapQ w2 gm (ks++[key]))
 (G3:(w2.alloc X).drew.grownBy w3 v.ownBlock) (own3:w3.ownsRow b0 56 10 (.slice (some ⟨gn,0,none⟩) (N+1) cn) (N+1) (nms zs++z.v)) (hN:N=zs.length) (at3:v.ownBlock=some gn∨gn=w2.heap.size+1) (hT:DgT w z.A z.B z.a.d) :
 TbL b0 gt gm (.slice (some ⟨gn,0,none⟩) (N+1) cn) (zs++[z]) (ks++[key]) (w3.setCell ⟨gt,0,none⟩ (.slice (some ⟨gn,0,none⟩) (N+1) cn))∧AddO b0 gt gm v (.slice (some ⟨gn,0,none⟩) (N+1) cn) w (w3.setCell ⟨gt,0,none⟩ (.slice (some ⟨gn,0,none⟩) (N+1) cn)):=by
 have s01:=B1.size
 have s12:w1.heap.size≤w2.heap.size:=G2.size
 have s23:w2.heap.size+1≤w3.heap.size:=by
  have:=G3.size
  have e:(w2.alloc X).drew.heap.size=w2.heap.size+1:=World.size_alloc w2 X
  omega
 have hv:=ownsRow_block T1.own
 have hbx:w1.heap[gt]? = some (.cells #[v,.map (some gm)] 54 (0,0)):=T1.box
 have hgtl:=T1.box.lt
 have hgml:=T1.mp.lt
 have hlt:=T1.lt
 have hlm:=T1.lm
 have ne1:gt≠gm:=fun e=>by
  obtain ⟨es,cl,h2⟩:=T1.mp.obj
  rw [←e,hbx] at h2
  injection h2 with h2
  cases h2
 have ne2:v.ownBlock≠some gt:=fun e=>by
  obtain ⟨cs,fr,h2⟩:=hv gt e
  rw [hbx] at h2
  injection h2 with h2
  injection h2 with _ h2
  exact absurd h2 (by decide)
 have ne3:v.ownBlock≠some gm:=fun e=>by
  obtain ⟨cs,fr,h2⟩:=hv gm e
  obtain ⟨es,cl,h3⟩:=T1.mp.obj
  rw [h3] at h2
  injection h2 with h2
  cases h2
 have hvl:∀g,v.ownBlock=some g→g<w1.heap.size:=fun g hg=>by
  obtain ⟨cs,fr,h2⟩:=hv g hg
  exact lt_of_heap h2
 have F3:∀g,g<w2.heap.size→v.ownBlock≠some g→w3.heap[g]? = w2.heap[g]?:=fun g hg n3=>by
  rw [G3.block g (show g<(w2.alloc X).heap.size by rw [World.size_alloc];omega) (fun e=>n3 e.symm)]
  show (w2.alloc X).heap[g]? = _
  rw [Below.heap_alloc _ _ _ hg]
 have F:∀g,g<w1.heap.size→g≠gt→g≠gm→v.ownBlock≠some g→(w3.setCell ⟨gt,0,none⟩ (.slice (some ⟨gn,0,none⟩) (N+1) cn)).heap[g]? = w1.heap[g]?:=fun g hg n1 n2 n3=>by
  rw [Below.heap_setCell _ _ _ _ (show g≠(⟨gt,0,none⟩:Addr).block from n1),F3 g (by omega) n3,G2.block g hg (fun e=>n2 (by injection e))]
  rfl
 have K:∀t,t≠54→t≠56→KpT t w1 (w3.setCell ⟨gt,0,none⟩ (.slice (some ⟨gn,0,none⟩) (N+1) cn)):=fun t h1 h2 g cs fr hg=>by
  refine (F g (lt_of_heap hg) (fun e=>?_) (fun e=>?_) (fun e=>?_)).trans hg
  ·rw [e,hbx] at hg
   injection hg with hg
   injection hg with _ hg
   exact h1 hg.symm
  ·obtain ⟨es,cl,h3⟩:=T1.mp.obj
   rw [e,h3] at hg
   injection hg with hg
   cases hg
  ·obtain ⟨cs',fr',h3⟩:=hv g e
   rw [hg] at h3
   injection h3 with h3
   injection h3 with _ h3
   exact h2 h3
 have hgn:(Value.slice (some ⟨gn,0,none⟩) (N+1) cn).ownBlock=some gn:=rfl
 have ne4:gn≠gt:=fun e=>by
  rcases at3 with h | h
  ·exact ne2 (by rw [h,e])
  ·omega
 have bx3:Row w3 gt 54 [v,.map (some gm)]:=(F3 gt (by omega) ne2).trans ((G2.block gt hgtl (fun e=>ne1 (by injection e))).trans hbx)
 have bel4:Below b0 w (w3.setCell ⟨gt,0,none⟩ (.slice (some ⟨gn,0,none⟩) (N+1) cn)) :=
  ((((((B1.mono hb0).drew.grown G2 (show b0≤w1.drew.heap.size from by show b0≤w1.heap.size;omega) (fun k hk=>by injection hk with hk;omega)).alloc (by omega) X).drew).grown G3 (show b0≤(w2.alloc X).heap.size by rw [World.size_alloc];omega) (fun k hk=>(T1.own.lt k hk).1)).setCell (show b0≤(⟨gt,0,none⟩:Addr).block from hlt) _)
 refine ⟨⟨?_,?_,fun y hy=>?_,?_,hlt,hlm⟩,bel4,fun g hg n1 n2 n3=>?_,fun g hg n3=>?_⟩
 ·exact bx3.set 0 _
 ·rw [nms_app,List.length_append,List.length_singleton,←hN]
  exact ownsRow_setCell_other own3 (by rw [hgn];intro e;injection e with e;exact ne4 e) _
 ·rcases List.mem_append.1 hy with hy | hy
  ·exact (T1.nt y hy).kp (K _ (by decide) (by decide))
  ·rw [List.mem_singleton.1 hy]
   exact (hT.keep B1).kp (K _ (by decide) (by decide))
 ·refine Q2.same ?_
  rw [Below.heap_setCell _ _ _ _ (show gm≠(⟨gt,0,none⟩:Addr).block from fun e=>ne1 e.symm),F3 gm (by omega) ne3]
 ·rw [F g (by omega) n1 n2 n3]
  exact B1.block g hg
 ·rw [hgn]
  intro e
  injection e with e
  rcases at3 with h | h
  ·exact n3 (by rw [h,e])
  ·omega
set_option maxRecDepth 100000 in
set_option maxHeartbeats 4000000 in
theorem add_any (b0 gt gm:Nat)(v:Value)(zs:List Nm)(ks:List (List UInt8))(z:Nm)(A B:Option Addr)(n cp m cq:Nat)(lp k x y s:Int)(o:Bool)(fr ds:Int)(sk:ByteArray)(w:World)
 (h:TbL b0 gt gm v zs ks w) (hz:z.v=[.slice A n cp,.slice B m cq,.int .i64 lp,.int .i64 k,.int .i64 x,.int .i64 y,.int .i64 s,.bool o,.int .i64 fr,.int .i64 ds]) (hT:DgT w z.A z.B z.a.d) (hb0:b0≤w.heap.size) (hzs:zs.length<100000) (hks:ks.length<1000000) (hsk:sk.size≤180000) (hfr:(Lit.int .i64 fr).wf=true) :
 Calls Tryz.prog 21 #[.pointer (some ⟨gt,0,none⟩),.agg #[.slice A n cp,.slice B m cq,.int .i64 lp,.int .i64 k,.int .i64 x,.int .i64 y,.int .i64 s,.bool o,.int .i64 fr,.int .i64 ds],.string sk] w (AddPost b0 gt gm v zs ks z sk.data.toList w):=by
 have H0:=hide h
 have HZ:=hide hz
 have HT:=hide hT
 have HF:=hide hfr
 obtain ⟨aL,cL,rfl⟩:=owns_slice h.own
 obtain ⟨N,hN⟩:∃n,n=zs.length:=⟨_,rfl⟩
 have b1:=(Below.refl w.heap.size w).alloc (Nat.le_refl _) (.cells #[.slice A n cp,.slice B m cq,.int .i64 lp,.int .i64 k,.int .i64 x,.int .i64 y,.int .i64 s,.bool o,.int .i64 fr,.int .i64 ds] 56)
 have X1:=hide (row_at (W:=w) (g:=w.heap.size) (t:=56) (vs:=[.slice A n cp,.slice B m cq,.int .i64 lp,.int .i64 k,.int .i64 x,.int .i64 y,.int .i64 s,.bool o,.int .i64 fr,.int .i64 ds]) rfl)
 have T1:=hide (h.below b1)
 have B1:=hide b1
 have S1:=hide (World.size_alloc w (.cells #[.slice A n cp,.slice B m cq,.int .i64 lp,.int .i64 k,.int .i64 x,.int .i64 y,.int .i64 s,.bool o,.int .i64 fr,.int .i64 ds] 56))
 rw [←hN] at hzs ⊢
 have HN:=hide hN
 clear h hz hT hfr b1 hN
 go_enter Tryz.func21,Tryz.ntmps21
 go_upto_region 1 with fail
 obtain ⟨w1,hw1⟩:∃W:World,W=w.alloc (.cells #[.slice A n cp,.slice B m cq,.int .i64 lp,.int .i64 k,.int .i64 x,.int .i64 y,.int .i64 s,.bool o,.int .i64 fr,.int .i64 ds] 56):=⟨_,rfl⟩
 rw [←hw1] at X1 T1 B1 S1 ⊢
 clear hw1
 obtain ⟨q0,q1,q2⟩:=box2q T1.out.box
 rw [←HN.out] at q0
 obtain ⟨c0,c1,c2,c3,c4,c5,c6,c7,c8,c9,cf⟩:=box10 X1.out
 obtain ⟨xv,hlook⟩:=T1.out.mp.look sk (by unfold maxLen;omega)
 by_cases hk:sk.data.toList ∈ ks
 ·rw [Pl.vb_true hk] at hlook
  have HK:=hide hk
  clear hk
  go_wp2
  go_ret
  exact ⟨fun _=>⟨rfl,B1.out⟩,fun h=>absurd HK.out h⟩
 ·rw [Pl.vb_false hk] at hlook
  have HK:=hide hk
  clear hk
  go_upto_region 4 with fail
  obtain ⟨w2,r2,qd,kd,gd⟩:=MapQ.upd (W:=w1.drew) T1.out.mp.drew (sk:=sk) (z:=fr) (by unfold maxLen;omega) (by unfold maxLen;omega) HF.out
  have Q2:=hide qd
  have K2:=hide kd
  have G2:=hide gd
  clear qd kd gd hlook
  go_region
  go_upto_region 5 with fail
  obtain ⟨i0,hi0,hx0,hx1,hx2⟩:=info_parts nodeInfoS
  have K1:∀t,KpT t w1 w2:=fun t=>K2.out t
  have BX2:=hide (T1.out.box.kp (K1 _))
  have XX2:=hide (X1.out.kp (K1 _))
  have OW2:=hide (own_kp T1.out.own (K1 _))
  have NE:=hide (show some gt≠(Value.slice aL N cL).ownBlock from fun e=>by
   obtain ⟨cs,fr,h2⟩:=ownsRow_block T1.out.own gt (by rw [←HN.out];exact e.symm)
   have h3:=T1.out.box
   unfold Row at h3
   rw [h3] at h2
   injection h2 with h2
   injection h2 with _ h2
   exact absurd h2 (by decide))
  rw [←HN.out] at OW2
  have hgt2:gt<w2.heap.size:=BX2.out.lt
  have hw2:w.heap.size<w2.heap.size:=XX2.out.lt
  have RR:∀(X:Obj),Row (w2.alloc X).drew gt 54 [.slice aL N cL,.map (some gm)]:=fun X=>by
   have:=BX2.out
   rw [←HN.out] at this
   exact (this.alloc X).drew
  have RH:=hide RR
  clear K1 q0 q1 q2 c0 c1 c2 c3 c4 c5 c6 c7 c8 c9 cf RR
  have RB:=BX2.out
  rw [←HN.out] at RB
  obtain ⟨q0,q1,q2⟩:=box2q RB
  obtain ⟨c0,c1,c2,c3,c4,c5,c6,c7,c8,c9,cf⟩:=box10 XX2.out
  clear RB
  have lb:b0≤(w2.alloc (.cells #[.slice A n cp,.slice B m cq,.int .i64 lp,.int .i64 k,.int .i64 x,.int .i64 y,.int .i64 s,.bool o,.int .i64 fr,.int .i64 ds] 56)).drew.heap.size:=by show b0≤(w2.alloc _).heap.size;rw [World.size_alloc];omega
  have lsz:(w2.alloc (.cells #[.slice A n cp,.slice B m cq,.int .i64 lp,.int .i64 k,.int .i64 x,.int .i64 y,.int .i64 s,.bool o,.int .i64 fr,.int .i64 ds] 56)).drew.heap.size=w2.heap.size+1:=by show (w2.alloc _).heap.size=_;rw [World.size_alloc]
  have LB:=hide lb
  have LSZ:=hide lsz
  have ONES:=hide (show ∀u ∈ ([.slice A n cp,.slice B m cq,.int .i64 lp,.int .i64 k,.int .i64 x,.int .i64 y,.int .i64 s,.bool o,.int .i64 fr,.int .i64 ds]:List Value),u.oneCell'=true by simp [Value.oneCell'])
  have OWA:=hide ((OW2.out.alloc (.cells #[.slice A n cp,.slice B m cq,.int .i64 lp,.int .i64 k,.int .i64 x,.int .i64 y,.int .i64 s,.bool o,.int .i64 fr,.int .i64 ds] 56)).drew)
  clear lb lsz
  have mx1:N+1≤maxLen:=by unfold maxLen;omega
  have mx2:(N+1) * 112≤140737488355328:=by omega
  go_region_law
   ((refine step_append_lies _ (by rfl) _ _ 51 (by rfl) b0 56 i0 _ 10 112 Tryz.underlying51 hi0 hx0 hx1 hx2 rfl (by omega) (.slice aL N cL) N (nms zs) (by rfl) OWA.out ⟨w2.heap.size,0,none⟩ 1 1 [.slice A n cp,.slice B m cq,.int .i64 lp,.int .i64 k,.int .i64 x,.int .i64 y,.int .i64 s,.bool o,.int .i64 fr,.int .i64 ds] (by rfl) (by rfl) (World.news_of_block (cs:=#[.slice A n cp,.slice B m cq,.int .i64 lp,.int .i64 k,.int .i64 x,.int .i64 y,.int .i64 s,.bool o,.int .i64 fr,.int .i64 ds]) (t:=56) (fr:=(0,0)) (heap_alloc_new w2 _)) ONES.out (by omega) mx1 mx2 LB.out (w2.heap.size+1) LSZ.out ?_;intro gn cn w3 own3 gr3 at3 lt3;have bx3:=(RH.out _).grown gr3 NE.out;obtain ⟨r0,r1,r2⟩:=box2q bx3;have hl3:=bx3.lt))
  all_goals (go_wp2;go_ret)
  all_goals (
   refine ⟨fun h=>absurd h HK.out,fun _=>⟨rfl,.slice (some ⟨gn,0,none⟩) (N+1) cn,?_⟩⟩
   have T1':=T1.out
   rw [←HN.out] at T1'
   exact add_end T1' B1.out hb0 G2.out Q2.out gr3 (by rw [HZ.out];exact own3) HN.out at3 HT.out)
end Go.Proofs.YtdgliimmnnhhjaaGreatDoor
end
section
namespace Go.Proofs.YtdgliimmnnhhjaaGreatDoor
open Go Go.RowKit
attribute [local go_sem ↓] Go.wp_at_zero Go.wp_at_succ
def fitB (n:Nat)(most:Int):Bool:=decide (0≤most) && decide (most≤64) && decide ((n:Int)≤most)
set_option maxRecDepth 100000 in
set_option maxHeartbeats 2000000 in
theorem fits_any (A B:Option Addr)(n q cp cq:Nat)(lp most:Int)(w:World):Calls Tryz.prog 17 #[.agg #[.slice A n cp,.slice B q cq,.int .i64 lp],.int .i64 most] w fun e w'=>e = .returned (.bool (fitB n most))∧Below w.heap.size w w':=by
 have X0:=hide (row_at (W:=w) (g:=w.heap.size) (t:=24) (vs:=[.slice A n cp,.slice B q cq,.int .i64 lp]) rfl)
 have B0:=hide (show Below w.heap.size w (w.alloc (.cells #[.slice A n cp,.slice B q cq,.int .i64 lp] 24)) from (Below.refl _ _).alloc (Nat.le_refl _) _)
 by_cases h1:0≤most
 ·by_cases h2:most≤64
  ·go_enter Tryz.func17,Tryz.ntmps17
   go_wp2
   go_ret
   exact ⟨by unfold fitB;simp [h1,h2],B0.out⟩
  ·go_enter Tryz.func17,Tryz.ntmps17
   go_wp2
   go_ret
   exact ⟨by unfold fitB;simp [h1];omega,B0.out⟩
 ·go_enter Tryz.func17,Tryz.ntmps17
  go_wp2
  go_ret
  exact ⟨by unfold fitB;simp;omega,B0.out⟩
section
variable (sg mt:List Int) (lp:Int) (A B:Option Addr) (n q cp cq:Nat) (most nodes:Int) (w:World) (hs:IntsAt w A n sg) (hm:IntsAt w B q mt) (hn:n≤maxLen) (hq:q≤maxLen) (hlp:-9223372036854775808≤lp∧lp≤9223372036854775807)
set_option maxRecDepth 100000 in
set_option maxHeartbeats 2000000 in
include hs hm hn hq hlp in
set_option maxRecDepth 100000 in
set_option maxHeartbeats 4000000 in
include hs hm hn hq hlp in
end
section
variable (sg mt:List Int) (lp:Int) (A B:Option Addr) (n q cp cq:Nat) (sg' mt':List Int) (lp':Int) (A' B':Option Addr) (n' q' cp' cq':Nat) (most nodes:Int) (w:World)
 (hs:IntsAt w A n sg) (hm:IntsAt w B q mt) (hn:n≤maxLen) (hq:q≤maxLen) (hlp:-9223372036854775808≤lp∧lp≤9223372036854775807)
 (hs':IntsAt w A' n' sg') (hm':IntsAt w B' q' mt') (hn':n'≤maxLen) (hq':q'≤maxLen) (hlp':-9223372036854775808≤lp'∧lp'≤9223372036854775807)
set_option maxRecDepth 100000 in
set_option maxHeartbeats 4000000 in
include hs hm hn hq hlp hs' hm' hn' hq' hlp' in
set_option maxRecDepth 100000 in
set_option maxHeartbeats 4000000 in
include hs hm hn hq hlp hs' hm' hn' hq' hlp' in
end
def kink:Pl.Dg:=⟨[1],[1,0,3,2],0⟩
theorem kink_is:∃o,apD lone ⟨1,-1,0,1,o⟩=kink:=by
 first | exact ⟨false,by decide⟩ | exact ⟨true,by decide⟩
theorem knk_okV:Pl.Valid kink:=by
 obtain ⟨o,h⟩:=kink_is
 rw [←h]
 exact (ap_ok4 lone_valid (by show (1:Int)≠5;decide) (lone_c 1 o (.inl rfl))).1
theorem kink_rem:remL kink=[⟨2,0,0,0,false⟩]:=by
 unfold remL
 show sel kink [⟨2,(0:Nat),0,0,false⟩]++sel kink []=_
 rw [sel_cons,sel_nil,un_code (d:=kink) (c:=0) (by decide),one_yes (show uncC kink 0=0 by decide)]
 rfl
theorem kink_dn:dnD kink=lone∧dnM kink=[⟨2,0,0,0,false⟩]:=by
 obtain ⟨h1,h2⟩:=dn_next knk_okV kink_rem
 have e:apD kink ⟨2,0,0,0,false⟩=lone:=by decide
 obtain ⟨h3,h4⟩:=dn_stop (d:=lone) (rem_flat rfl)
 rw [h1,h2,e,h3,h4]
 exact ⟨rfl,rfl⟩
set_option maxRecDepth 100000 in
set_option maxHeartbeats 2000000 in
theorem untie_kink (A B:Option Addr)(cp cq:Nat)(w:World)(hg:DgAt w A B kink) :
 Calls Tryz.prog 12 #[.agg #[.slice A 1 cp,.slice B 4 cq,.int .i64 0],.int .i64 1,.int .i64 10] w fun e w'=>∃(AL:Option Addr) (cL:Nat),e = .returned (.tuple #[.slice AL 1 cL,.bool true,.int .i64 0])∧MovesAt w' (.slice AL 1 cL) [⟨2,0,0,0,false⟩]∧Below w.heap.size w w':=by
 have HG:=hide hg
 have X0:=hide (row_at (W:=w) (g:=w.heap.size) (t:=24) (vs:=[.slice A 1 cp,.slice B 4 cq,.int .i64 0]) rfl)
 have B0:=hide (show Below w.heap.size w (w.alloc (.cells #[.slice A 1 cp,.slice B 4 cq,.int .i64 0] 24)) from (Below.refl _ _).alloc (Nat.le_refl _) _)
 clear hg
 go_enter Tryz.func12,Tryz.ntmps12
 go_wp2_with fail
 refine (valid_yes kink knk_okV A B cp cq 4 _ rfl (HG.out.keep B0.out)).mono ?_
 rintro e w1 ⟨rfl,hb1⟩
 have B1:=hide (B0.out.trans (hb1.mono B0.out.size))
 have X1:=hide (X0.out.below hb1)
 clear hb1 B0 X0
 obtain ⟨d0,d1,d2,d3⟩:=box3 X1.out
 go_wp2_with fail
 refine (fits_any A B 1 4 cp cq 0 1 _).mono ?_
 rintro e w2 ⟨he,hb2⟩
 rw [show fitB 1 1=true by decide] at he
 subst he
 have B2:=hide (B1.out.trans (hb2.mono B1.out.size))
 have X2:=hide (X1.out.below hb2)
 clear hb2 B1 X1 d0 d1 d2 d3
 obtain ⟨d0,d1,d2,d3⟩:=box3 X2.out
 go_wp2_with fail
 refine (down_e kink knk_okV A B 1 cp cq 4 0 _ rfl rfl rfl (HG.out.keep B2.out) lone [⟨2,0,0,0,false⟩] 0 0 1 1 kink_dn.1 kink_dn.2 rfl rfl rfl rfl).mono ?_
 rintro e w3 ⟨A9,B9,AL,c8,c9,cL,rfl,hD,hv,hb3⟩
 have B3:=hide (B2.out.trans (hb3.mono B2.out.size))
 have MV:=hide hv
 clear hb3 hv hD B2 X2 d0 d1 d2 d3
 go_wp2
 go_ret3
 exact ⟨AL,cL,rfl,MV.out.kp (.of_below ((Below.refl _ _).alloc (Nat.le_refl _) _)),B3.out.alloc B3.out.size _⟩
end Go.Proofs.YtdgliimmnnhhjaaGreatDoor
end
section
namespace Go.Proofs.YtdgliimmnnhhjaaGreatDoor
theorem FmO.eq {a b r r':Pl.Dg}(ha:Pl.Valid a)(hb:Pl.Valid b)(hI:∃σ,Pl.Iso a b σ)(h:FmO a r)(h':FmO b r'):r=r':=by
 obtain ⟨ps,p1,p2,rfl⟩:=h
 obtain ⟨qs,q1,q2,rfl⟩:=h'
 obtain ⟨σ0,I0⟩:=hI
 have hc:=I0.pcode ha.wf hb.wf p1 q1 p2 q2
 obtain ⟨σ,I,hlen,hol,fit⟩:=Pl.iso_of_codeP ha.wf hb.wf p1 q1 hc
 obtain ⟨f1,f2⟩:=fsg_ok ha.wf p1
 obtain ⟨g1,g2⟩:=fsg_ok hb.wf q1
 obtain ⟨_,fl⟩:=fo_all ha.wf p1
 obtain ⟨_,gl⟩:=fo_all hb.wf q1
 have hn:=I.n
 have at_:∀(l:List Pl.Pc) (i:Nat),i<(l.flatMap Pl.Pc.order).length→(l.flatMap Pl.Pc.order)[i]? = some (fsg l i):=fun l i hi=>by
  unfold fsg
  rw [List.getD_eq_getElem?_getD,List.getElem?_eq_getElem hi]
  rfl
 have pl:∀i,i<a.n→σ (fsg ps i)=fsg qs i:=fun i hi=>by
  obtain ⟨i',k,p,q,h1,h2,h3,h4⟩:=Pl.flat_place ps qs hlen hol i _ _ (at_ ps i (by omega)) (at_ qs i (by omega))
  exact fit _ i' k p q _ (f1 i hi) h1 h2 h3 h4
 have ia:=inv_tau f1 f2
 have ib:=inv_tau g1 g2
 have tau:∀c,c<a.n→tauF b.n (fsg qs) (σ c)=tauF a.n (fsg ps) c:=fun c hc=>by
  have t:=ia.2 c hc
  have e:σ c=fsg qs (tauF a.n (fsg ps) c):=by rw [←pl _ t.1,t.2]
  rw [e]
  exact (ib.1 _ (by rw [←hn];exact t.1)).2
 show rnE a _ _=rnE b _ _
 unfold rnE
 rw [←hn]
 congr 1
 ·refine List.map_congr_left fun i hi=>?_
  have hi:=List.mem_range.1 hi
  rw [←I.s _ (f1 i hi),pl i hi]
 ·refine List.map_congr_left fun x hx=>?_
  have hx:=List.mem_range.1 hx
  have hx4:x / 4<a.n:=by omega
  have e1:Pl.hf (fsg qs) x=Pl.hf σ (Pl.hf (fsg ps) x):=by
   unfold Pl.hf
   rw [show (4 * fsg ps (x / 4)+x % 4) / 4=fsg ps (x / 4) by omega,show (4 * fsg ps (x / 4)+x % 4) % 4=x % 4 by omega,pl _ hx4]
  have hlt:Pl.hf (fsg ps) x<4 * a.n:=by
   have:=f1 _ hx4
   unfold Pl.hf
   omega
  have hm:=ha.wf.lt _ hlt
  rw [e1,I.m _ hlt]
  unfold Pl.hf
  rw [show (4 * σ (a.m (4 * fsg ps (x / 4)+x % 4) / 4)+a.m (4 * fsg ps (x / 4)+x % 4) % 4) / 4=σ (a.m (4 * fsg ps (x / 4)+x % 4) / 4) by omega,show (4 * σ (a.m (4 * fsg ps (x / 4)+x % 4) / 4)+a.m (4 * fsg ps (x / 4)+x % 4) % 4) % 4=a.m (4 * fsg ps (x / 4)+x % 4) % 4 by omega]
  have hq:a.m (4 * fsg ps (x / 4)+x % 4) / 4<a.n:=by
   have:a.m (Pl.hf (fsg ps) x)<4 * a.n:=hm
   unfold Pl.hf at this
   omega
  have:=tau _ hq
  rw [hn] at this
  rw [hn,this]
 ·exact I.lp
theorem key_same {a b:Pl.Dg}(ha:Pl.Wf a)(hb:Pl.Wf b)(hI:∃σ,Pl.Iso a b σ):keyD a=keyD b:=by
 obtain ⟨ps,p1,p2⟩:=Pl.code_ex ha
 obtain ⟨qs,q1,q2⟩:=Pl.code_ex hb
 obtain ⟨σ,I⟩:=hI
 unfold keyD
 rw [←codeD_is ha p1 p2,←codeD_is hb q1 q2,I.pcode ha hb p1 q1 p2 q2]
end Go.Proofs.YtdgliimmnnhhjaaGreatDoor
end
section
namespace Go.Proofs.YtdgliimmnnhhjaaGreatDoor
theorem iso_st {a b:Pl.Dg}{σ:Nat→Nat}(I:Pl.Iso a b σ){h:Nat}(hh:h<4 * a.n):Pl.st b (Pl.hf σ h)=Pl.hf σ (Pl.st a h):=by
 unfold Pl.st
 rw [I.m h hh,Pl.hf_tn]
theorem iso_it {a b:Pl.Dg}{σ:Nat→Nat}(I:Pl.Iso a b σ)(ha:Pl.Wf a){h:Nat}(hh:h<4 * a.n):∀k,Pl.it (Pl.st a) k h<4 * a.n∧Pl.it (Pl.st b) k (Pl.hf σ h)=Pl.hf σ (Pl.it (Pl.st a) k h)
 | 0=>⟨hh,rfl⟩
 | k + 1 => by
   obtain ⟨h1,h2⟩:=iso_it I ha hh k
   refine ⟨?_,?_⟩
   ·show Pl.tn (a.m _) 2<_
    exact Pl.tn_lt (ha.lt _ h1)
   ·show Pl.st b (Pl.it (Pl.st b) k (Pl.hf σ h))=Pl.hf σ (Pl.st a _)
    rw [h2,iso_st I h1]
theorem iso_str {a b:Pl.Dg}{σ:Nat→Nat}{s:Nat}(I:Pl.Iso a b σ)(ha:Pl.Wf a)(h:Pl.Str a s):Pl.Str b s:=by
 obtain ⟨τ,J,t1,t2⟩:=I.symm ha
 refine Pl.Cls.map h (Pl.hf σ) (fun x hx=>⟨?_,?_⟩) (fun y hy=>⟨Pl.hf τ y,⟨?_,?_⟩,?_⟩) (fun x y hx hy=>⟨fun e=>?_,fun e=>?_⟩)
 ·rw [←I.n];exact I.hlt hx.1
 ·rw [I.out hx.1];exact hx.2
 ·rw [I.n];exact J.hlt hy.1
 ·rw [J.out hy.1];exact hy.2
 ·have:y / 4<a.n:=by have:=hy.1;rw [←I.n] at this;omega
  unfold Pl.hf
  rw [show (4 * τ (y / 4)+y % 4) / 4=τ (y / 4) by omega,t2 _ this]
  omega
 ·obtain ⟨k,e⟩:=e
  exact ⟨k,by rw [(iso_it I ha hx.1 k).2,e]⟩
 ·obtain ⟨k,e⟩:=e
  obtain ⟨h1,h2⟩:=iso_it I ha hx.1 k
  rw [h2] at e
  exact ⟨k,I.hinj h1 hy.1 e⟩
theorem iso_comps {a b:Pl.Dg}(ha:Pl.Wf a)(hb:Pl.Wf b)(hI:∃σ,Pl.Iso a b σ):strN a+a.lp=strN b+b.lp:=by
 obtain ⟨σ,I⟩:=hI
 rw [I.lp,Pl.Cls.unique (iso_str I ha (strN_str a ha)) (strN_str b hb)]
theorem ap_comps {d:Pl.Dg}(hd:Pl.Valid d){m:Mv}(h5:m.kind≠5)(h:apC d m=0):strN (apD d m)+(apD d m).lp=strN d+d.lp:=by
 obtain ⟨h1,h2⟩:=ap_ok4 hd h5 h
 exact (h2 _ _ (strN_str d hd.wf) (strN_str _ h1.wf)).symm
theorem sl_few {d:Pl.Dg}(hd:Pl.Wf d)(h2:d.n≤2){z:Mv}(h:z ∈ slL d (4 * d.n)):False:=by
 obtain ⟨x,hx,hp,_⟩:=(slL_mem d z _).1 h
 obtain ⟨_,_,⟨_,a,b,c⟩,_⟩:=hp
 have:=th_lt hd hx 1
 have:=th_lt hd hx 2
 omega
theorem stL_ok {d:Pl.Dg}(hd:Pl.Valid d){most:Nat}(hm2:most≤2)(hn:d.n≤most){z:Mv}(hz:z ∈ stL d most):apC d z=0∧(apD d z).n≤most∧z.kind≠5:=by
 unfold stL at hz
 split at hz
 ·rename_i hlt
  obtain ⟨h1,h2⟩:=List.mem_filter.1 hz
  have hc:apC d z=0∧z.kind≠5:=by
   unfold allL at h1
   simp only [List.mem_append] at h1
   rcases h1 with (((h1 | h1) | h1) | h1) | h1
   ·exact ⟨(mem_sel.1 h1).2,by rw [cu_kind h1];decide⟩
   ·exact ⟨(mem_sel.1 h1).2,by rw [un_kind h1];decide⟩
   ·exact ⟨(mem_sel.1 h1).2,by rw [pk_kind h1];decide⟩
   ·exact ⟨(mem_sel.1 h1).2,by rw [up_kind h1];decide⟩
   ·exact absurd h1 (fun h=>sl_few hd.wf (by omega) h)
  obtain ⟨hc,h5⟩:=hc
  refine ⟨hc,?_,h5⟩
  have:=ap_n hd hc
  unfold gro at this
  unfold delZ at h2
  by_cases h3:z.kind=3
  ·rw [if_neg (by omega),if_neg (by omega),if_pos h3] at this
   simp [h3] at h2
   omega
  ·split at this
   ·omega
   ·split at this <;> (try split at this) <;> (try split at this) <;> omega
 ·rcases List.mem_append.1 hz with h | h
  ·have:=rem_less hd h
   exact ⟨(rem_ok h).1,by omega,by have:=(rem_ok h).2;omega⟩
  ·exact absurd h (fun h=>sl_few hd.wf (by omega) h)
structure BOk (most:Nat) (r0:Pl.Dg) (l:List Nd) (ks:List (List UInt8)):Prop where
 v:∀y,y ∈ l→Pl.Valid y.d∧y.d.n≤most∧strN y.d+y.d.lp=strN r0+r0.lp
 k:ks=keysL l
 nd:ks.Nodup
theorem BOk.start {most:Nat}{r0:Pl.Dg}(hv:Pl.Valid r0)(hn:r0.n≤most):BOk most r0 [nd0 r0] [keyD r0] :=
 ⟨fun y hy=>by rw [List.mem_singleton.1 hy];exact ⟨hv,hn,rfl⟩,rfl,by simp⟩
theorem BR.ok {most:Nat}(hm2:most≤2){r0:Pl.Dg}{i j:Nat}{x:Nd}{l0 l:List Nd}{k0 ks:List (List UInt8)}(h:BR i x (stL x.d most) l0 k0 j l ks)(h0:BOk most r0 l0 k0)(hx:x ∈ l0):BOk most r0 l ks:=by
 obtain ⟨xv,xn,xc⟩:=h0.v x hx
 induction h with
 | z=>exact h0
 | no _ _ _ ih=>exact ih
 | @ad j l ks m r _ e hk hr ih =>
   obtain ⟨hc,hn,h5⟩:=stL_ok xv hm2 xn (List.mem_of_getElem? e)
   have hv:=(ap_ok4 xv h5 hc).1
   obtain ⟨r1,rI,r2,r3⟩:=hr.ok hv
   have e1:keyD r=keyD (apD x.d m):=key_same r1.wf hv.wf rI
   refine ⟨fun y hy=>?_,?_,?_⟩
   ·rcases List.mem_append.1 hy with hy | hy
    ·exact ih.v y hy
    ·rw [List.mem_singleton.1 hy]
     refine ⟨r1,by show r.n≤most;omega,?_⟩
     show strN r+r.lp=_
     rw [iso_comps r1.wf hv.wf rI,ap_comps xv h5 hc,xc]
   ·rw [ih.k]
    unfold keysL
    rw [List.map_append]
    show _=_++[keyD r]
    rw [e1]
   ·refine List.nodup_append.2 ⟨ih.nd,by simp,fun a ha b hb=>?_⟩
    rw [List.mem_singleton.1 hb]
    exact fun e2=>hk (e2 ▸ ha)
theorem BO.ok {most rad:Nat}(hm2:most≤2){r0:Pl.Dg}{i:Nat}{l:List Nd}{ks:List (List UInt8)}(h:BO most rad r0 i l ks)(hv:Pl.Valid r0)(hn:r0.n≤most):BOk most r0 l ks:=by
 induction h with
 | z=>exact BOk.start hv hn
 | st _ hx _ hr ih=>exact BR.ok hm2 hr ih (List.mem_of_getElem? hx)
theorem BR.det {i j:Nat}{x:Nd}{L:List Mv}{l0 l l':List Nd}{k0 ks ks':List (List UInt8)}(hv:∀m,m ∈ L→Pl.Valid (apD x.d m))(h:BR i x L l0 k0 j l ks)(h':BR i x L l0 k0 j l' ks'):l=l'∧ks=ks':=by
 induction h generalizing l' ks' with
 | z =>
   cases h' with
   | z=>exact ⟨rfl,rfl⟩
 | no _ e hk ih =>
   cases h' with
   | no a e' hk'=>exact ih a
   | ad a e' hk' hr' =>
     obtain ⟨e1,e2⟩:=ih a
     rw [e] at e'
     injection e' with e'
     subst e'
     exact absurd (e2 ▸ hk) hk'
 | ad _ e hk hr ih =>
   cases h' with
   | no a e' hk' =>
     obtain ⟨e1,e2⟩:=ih a
     rw [e] at e'
     injection e' with e'
     subst e'
     exact absurd (e2 ▸ hk') hk
   | ad a e' hk' hr' =>
     obtain ⟨e1,e2⟩:=ih a
     rw [e] at e'
     injection e' with e'
     subst e'
     have hV:=hv _ (List.mem_of_getElem? e)
     have:=FmO.eq hV hV ⟨_,Pl.Iso.refl _⟩ hr hr'
     rw [this,e1,e2]
     exact ⟨rfl,rfl⟩
theorem BR.pre {i j:Nat}{x:Nd}{L:List Mv}{l0 l:List Nd}{k0 ks:List (List UInt8)}(h:BR i x L l0 k0 j l ks):∃t,l=l0++t∧t.length≤j∧∀y,y ∈ t→y.s=x.s+1:=by
 induction h with
 | z=>exact ⟨[],by simp,by simp,fun y hy=>by cases hy⟩
 | no _ _ _ ih =>
   obtain ⟨t,h1,h2,h3⟩:=ih
   exact ⟨t,h1,by omega,h3⟩
 | ad _ _ _ _ ih =>
   obtain ⟨t,h1,h2,h3⟩:=ih
   refine ⟨t++[_],by rw [h1,List.append_assoc],by simp;omega,fun y hy=>?_⟩
   rcases List.mem_append.1 hy with hy | hy
   ·exact h3 y hy
   ·rw [List.mem_singleton.1 hy]
theorem BO.det {most rad:Nat}(hm2:most≤2){r0:Pl.Dg}(hv:Pl.Valid r0)(hn:r0.n≤most){i:Nat}{l l':List Nd}{ks ks':List (List UInt8)}(h:BO most rad r0 i l ks)(h':BO most rad r0 i l' ks'):l=l'∧ks=ks':=by
 induction h generalizing l' ks' with
 | z =>
   cases h' with
   | z=>exact ⟨rfl,rfl⟩
 | st h0 hx hs hr ih =>
   cases h' with
   | st g0 gx gs gr =>
     obtain ⟨e1,e2⟩:=ih g0
     subst e1 e2
     rw [hx] at gx
     injection gx with gx
     subst gx
     obtain ⟨xv,xn,_⟩:=(BO.ok hm2 h0 hv hn).v _ (List.mem_of_getElem? hx)
     exact BR.det (fun m hm=>let ⟨a,_,b⟩:=stL_ok xv hm2 xn hm;(ap_ok4 xv b a).1) hr gr
theorem BO.more {most rad rad':Nat}(hr:rad≤rad'){r0:Pl.Dg}{i:Nat}{l:List Nd}{ks:List (List UInt8)}(h:BO most rad r0 i l ks):BO most rad' r0 i l ks:=by
 induction h with
 | z=>exact .z
 | st _ hx hs hb ih=>exact .st ih hx (by omega) hb
theorem BO.begin {most rad:Nat}(hm2:most≤2){r0:Pl.Dg}(hv:Pl.Valid r0)(hn:r0.n≤most){i:Nat}{l:List Nd}{ks:List (List UInt8)}(h:BO most rad r0 i l ks):∀{j:Nat} {l':List Nd} {ks':List (List UInt8)},BO most rad r0 j l' ks'→i≤j→∃t,l'=l++t:=by
 intro j
 induction j with
 | zero =>
   intro l' ks' h' hij
   obtain rfl:i=0:=by omega
   exact ⟨[],by rw [(BO.det hm2 hv hn h h').1,List.append_nil]⟩
 | succ j ih =>
   intro l' ks' h' hij
   by_cases e:i=j+1
   ·subst e
    exact ⟨[],by rw [(BO.det hm2 hv hn h h').1,List.append_nil]⟩
   ·cases h' with
    | st g0 gx gs gr =>
      obtain ⟨t,e1⟩:=ih g0 (by omega)
      obtain ⟨t',e2,_⟩:=gr.pre
      exact ⟨t++t',by rw [e2,e1,List.append_assoc]⟩
end Go.Proofs.YtdgliimmnnhhjaaGreatDoor
end
section
namespace Go.Proofs.YtdgliimmnnhhjaaGreatDoor
theorem selJ_len (d:Pl.Dg):∀l:List Mv,(sel d l).length≤l.length
 | []=>Nat.le_refl _
 | m :: l => by
   rw [sel_cons,List.length_append,List.length_cons]
   have h1:=one_len (apC d m) m
   have h2:=selJ_len d l
   omega
theorem pk_gone (n:Nat)(most:Int)(h:most<n+2)(d:Pl.Dg)(k:Nat):(sel d (pkNX n k)).filter (fun z => !delZ n most z)=[] :=
 List.filter_eq_nil_iff.2 fun z hz=>by
  have hk:=pkNX_kind (mem_sel.1 hz).1
  unfold delZ
  simp [hk,h]
theorem stL_few {d:Pl.Dg}(hd:Pl.Valid d){most:Nat}(hm:most≤2)(hn:d.n≤most):(stL d most).length≤if most≤1 then 5 else 30:=by
 have hs:=slL_len d (4 * d.n)
 have hR:(remL d).length≤d.n+(upNX d.n d.n).length:=by
  unfold remL
  rw [List.length_append]
  have h1:=selJ_len d (unC d.n)
  have h2:=selJ_len d (upNX d.n d.n)
  have h3:∀k,(unC k).length=k:=fun k=>by
   induction k with
   | zero=>rfl
   | succ k ih=>show (unC k++_).length=_;rw [List.length_append,ih];rfl
  rw [h3] at h1
  omega
 have hA:((d.n:Int)<most)→(keepZ d.n most (allL d)).length≤4 * (4 * d.n+1)+d.n+((sel d (pkNX d.n (4 * d.n+2))).filter (fun z => !delZ d.n most z)).length+(upNX d.n d.n).length+4 * d.n:=fun _=>by
  unfold keepZ allL
  rw [List.filter_append,List.filter_append,List.filter_append,List.filter_append,List.length_append,List.length_append,List.length_append,List.length_append]
  have f:∀l:List Mv,(l.filter (fun z => !delZ d.n most z)).length≤l.length:=fun l=>List.length_filter_le _ _
  have h1:=Nat.le_trans (f (sel d (cuC (4 * d.n+1)))) (selJ_len d _)
  have h2:=Nat.le_trans (f (sel d (unC d.n))) (selJ_len d _)
  have h4:=Nat.le_trans (f (sel d (upNX d.n d.n))) (selJ_len d _)
  have h5:=Nat.le_trans (f (slL d (4 * d.n))) hs
  have c1:∀k,(cuC k).length=4 * k:=fun k=>by
   induction k with
   | zero=>rfl
   | succ k ih=>show (cuC k++_).length=_;rw [List.length_append,ih];rfl
  have c2:∀k,(unC k).length=k:=fun k=>by
   induction k with
   | zero=>rfl
   | succ k ih=>show (unC k++_).length=_;rw [List.length_append,ih];rfl
  rw [c1] at h1
  rw [c2] at h2
  omega
 have hP:((sel d (pkNX d.n (4 * d.n+2))).filter (fun z => !delZ d.n most z)).length≤(pkNX d.n (4 * d.n+2)).length:=Nat.le_trans (List.length_filter_le _ _) (selJ_len d _)
 have hG:=pk_gone d.n most
 unfold stL
 obtain ⟨n,en⟩:∃n,n=d.n:=⟨_,rfl⟩
 rw [←en] at hn hs hR hA hP hG ⊢
 have hD:(slD d).length≤4 * n:=by
  unfold slD
  rw [←en]
  exact hs
 have cs:(n=0∧most=0)∨(n=0∧most=1)∨(n=1∧most=1)∨(n=0∧most=2)∨(n=1∧most=2)∨(n=2∧most=2):=by omega
 rcases cs with ⟨h1,h2⟩ | ⟨h1,h2⟩ | ⟨h1,h2⟩ | ⟨h1,h2⟩ | ⟨h1,h2⟩ | ⟨h1,h2⟩
 ·subst h1 h2
  have u:(upNX 0 0).length=0:=rfl
  rw [if_neg (by decide),if_pos (by decide),List.length_append]
  omega
 ·subst h1 h2
  have u:(upNX 0 0).length=0:=rfl
  have:=hA (by decide)
  rw [hG (by decide)] at this
  rw [if_pos (by decide),if_pos (by decide)]
  rw [List.length_nil] at this
  omega
 ·subst h1 h2
  have u:(upNX 1 1).length=0:=rfl
  rw [if_neg (by decide),if_pos (by decide),List.length_append]
  omega
 ·subst h1 h2
  have u:(upNX 0 0).length=0:=rfl
  have p:(pkNX 0 (4 * 0+2)).length=24:=rfl
  have:=hA (by decide)
  rw [if_pos (by decide),if_neg (by decide)]
  omega
 ·subst h1 h2
  have u:(upNX 1 1).length=0:=rfl
  have:=hA (by decide)
  rw [hG (by decide)] at this
  rw [if_pos (by decide),if_neg (by decide)]
  rw [List.length_nil] at this
  omega
 ·subst h1 h2
  have u:(upNX 2 2).length=1:=rfl
  rw [if_neg (by decide),if_neg (by decide),List.length_append]
  omega
theorem bo_far {most rad M:Nat}(hm2:most≤2){r0:Pl.Dg}(hv:Pl.Valid r0)(hn:r0.n≤most)(hM:∀d:Pl.Dg,Pl.Valid d→d.n≤most→(stL d most).length≤M){i:Nat}{l:List Nd}{ks:List (List UInt8)}(h:BO most rad r0 i l ks) :
 l.length≤1+i * M∧(∀k y,1≤k→l[k]? = some y→1≤y.s)∧(∀k y,1+M≤k→l[k]? = some y→2≤y.s):=by
 induction h with
 | z=>exact ⟨by simp,fun k y hk hy=>by have:=(List.getElem?_eq_some_iff.1 hy).1;simp at this;omega,fun k y hk hy=>by have:=(List.getElem?_eq_some_iff.1 hy).1;simp at this;omega⟩
 | @st i l l' ks ks' x h0 hx hs hr ih =>
   obtain ⟨h1,h2,h3⟩:=ih
   obtain ⟨t,e,ht,hts⟩:=hr.pre
   obtain ⟨xv,xn,_⟩:=(BO.ok hm2 h0 hv hn).v _ (List.mem_of_getElem? hx)
   have hm:=hM x.d xv xn
   have hl:l'.length=l.length+t.length:=by rw [e,List.length_append]
   refine ⟨?_,fun k y hk hy=>?_,fun k y hk hy=>?_⟩
   ·rw [hl,Nat.succ_mul]
    omega
   ·rw [e] at hy
    by_cases hkl:k<l.length
    ·rw [List.getElem?_append_left hkl] at hy
     exact h2 k y hk hy
    ·rw [List.getElem?_append_right (by omega)] at hy
     rw [hts y (List.mem_of_getElem? hy)]
     omega
   ·rw [e] at hy
    by_cases hkl:k<l.length
    ·rw [List.getElem?_append_left hkl] at hy
     exact h3 k y hk hy
    ·rw [List.getElem?_append_right (by omega)] at hy
     rw [hts y (List.mem_of_getElem? hy)]
     have hi:1≤i:=by
      rcases Nat.eq_zero_or_pos i with e0 | e0
      ·subst e0
       have:=(List.getElem?_eq_some_iff.1 hy).1
       rw [Nat.zero_mul,Nat.add_zero] at h1
       omega
      ·exact e0
     have:=h2 i x hi hx
     omega
theorem bo_few {most rad:Nat}{r0:Pl.Dg}(hv:Pl.Valid r0)(hn:r0.n≤most)(hc:rad≤1∧most≤2∨rad≤2∧most≤1){i j:Nat}{l l':List Nd}{ks ks':List (List UInt8)}{x:Nd}(h:BO most rad r0 i l ks)(hx:l[i]? = some x)(hs:x.s<rad)(hr:BR i x (stL x.d most) l ks j l' ks'):l'.length≤300∧(stL x.d most).length≤100000:=by
 obtain ⟨xv,xn,_⟩:=(BO.ok (by omega) h hv hn).v _ (List.mem_of_getElem? hx)
 obtain ⟨t,e,ht,_⟩:=hr.pre
 have hj:=hr.le
 have hl:l'.length=l.length+t.length:=by rw [e,List.length_append]
 rcases hc with ⟨h1,h2⟩ | ⟨h1,h2⟩
 ·have hM : ∀ d : Pl.Dg, Pl.Valid d → d.n ≤ most → (stL d most).length ≤ 30 := fun d hd hdn => by
   have:=stL_few hd h2 hdn
   split at this <;> omega
  have hm:=hM x.d xv xn
  obtain ⟨g1,g2,g3⟩:=bo_far (by omega) hv hn hM h
  have hi:i=0:=by
   rcases Nat.eq_zero_or_pos i with e0 | e0
   ·exact e0
   ·have:=g2 i x e0 hx
    omega
  subst hi
  omega
 ·have hM : ∀ d : Pl.Dg, Pl.Valid d → d.n ≤ most → (stL d most).length ≤ 5 := fun d hd hdn => by
   have:=stL_few hd (by omega) hdn
   rw [if_pos h2] at this
   exact this
  have hm:=hM x.d xv xn
  obtain ⟨g1,g2,g3⟩:=bo_far (by omega) hv hn hM h
  have hi:i<6:=by
   rcases Nat.lt_or_ge i 6 with e0 | e0
   ·exact e0
   ·have:=g3 i x e0 hx
    omega
  omega
end Go.Proofs.YtdgliimmnnhhjaaGreatDoor
end
section
namespace Go.Proofs.YtdgliimmnnhhjaaGreatDoor
theorem BO.at {most rad:Nat}{r0:Pl.Dg}{i:Nat}{l:List Nd}{ks:List (List UInt8)}(h:BO most rad r0 i l ks):∀j,j<i→∃(l':List Nd) (ks':List (List UInt8)) (x:Nd),BO most rad r0 j l' ks'∧l'[j]? = some x∧x.s<rad:=by
 induction h with
 | z=>exact fun j hj=>absurd hj (Nat.not_lt_zero _)
 | @st i l l' ks ks' x h0 hx hs hr ih =>
   intro j hj
   by_cases e:j=i
   ·subst e
    exact ⟨l,ks,x,h0,hx,hs⟩
   ·exact ih j (by omega)
theorem BO.head {most rad:Nat}{r0:Pl.Dg}{i:Nat}{l:List Nd}{ks:List (List UInt8)}(h:BO most rad r0 i l ks):∃t,l=nd0 r0 :: t:=by
 induction h with
 | z=>exact ⟨[],rfl⟩
 | st _ _ _ hr ih =>
   obtain ⟨t,e⟩:=ih
   obtain ⟨t',e',_⟩:=hr.pre
   exact ⟨t++t',by rw [e',e];rfl⟩
theorem ball_grows {most rad rad':Nat}(hm2:most≤2)(hr:rad≤rad'){d r r':Pl.Dg}(hd:Pl.Valid d)(hn:d.n≤most)(hF:FmO d r)(hF':FmO d r'){i j:Nat}{l l':List Nd}{ks ks':List (List UInt8)}(h:BO most rad r i l ks)(h':BO most rad' r' j l' ks')
 (he:∀x,l'[j]? = some x→rad'≤x.s):r=r'∧∃t,l'=l++t:=by
 have e:r=r':=FmO.eq hd hd ⟨_,Pl.Iso.refl _⟩ hF hF'
 subst e
 obtain ⟨rv,_,rn,_⟩:=hF.ok hd
 have rm:r.n≤most:=by omega
 have g:=h.more hr
 refine ⟨rfl,?_⟩
 by_cases hij:i≤j
 ·exact BO.begin hm2 rv rm g h' hij
 ·obtain ⟨l2,ks2,x,b,hx,hs⟩:=h.at j (by omega)
  obtain ⟨e1,_⟩:=BO.det hm2 rv rm (b.more hr) h'
  subst e1
  have:=he x hx
  omega
theorem ball_facts {most rad:Nat}(hm2:most≤2){d r:Pl.Dg}(hd:Pl.Valid d)(hn:d.n≤most)(hF:FmO d r){i:Nat}{l:List Nd}{ks:List (List UInt8)}(h:BO most rad r i l ks) :
 (∃t,l=nd0 r :: t)∧(∀y,y ∈ l→Pl.Valid y.d∧y.d.n≤most∧strN y.d+y.d.lp=strN d+d.lp)∧(keysL l).Nodup:=by
 obtain ⟨rv,rI,rn,_⟩:=hF.ok hd
 have o:=BO.ok hm2 h rv (by omega)
 refine ⟨h.head,fun y hy=>?_,?_⟩
 ·obtain ⟨h1,h2,h3⟩:=o.v y hy
  exact ⟨h1,h2,by rw [h3,iso_comps rv.wf hd.wf rI]⟩
 ·rw [←o.k];exact o.nd
end Go.Proofs.YtdgliimmnnhhjaaGreatDoor
end
