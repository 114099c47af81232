/-
  The texts Lj.
-/
import Derived.Test.YtdgliimmnnhhjaaGreatDoorU14
set_option linter.unusedVariables false
set_option linter.unusedSimpArgs false
section
namespace Go.Proofs.YtdgliimmnnhhjaaGreatDoor
open Go Go.RowKit
theorem rlabel_n (d:Pl.Dg)(hd:Pl.Wf d)(B:Option Addr)(cq n m:Nat)(w:World)(e:n=d.n)(hm:m=4 * d.n)(hb:IntsAt w B m (nats d.mt)) :
 Calls Tryz.prog 14 #[.slice B m cq] w fun e w' =>
  e = .returned (.slice (some ⟨w.heap.size,0,none⟩) n n)∧IRow w' w.heap.size (Pl.lpass d d.n)∧Below w.heap.size w w':=by
 subst e
 exact rlabel_any d hd B cq m w hm hb
theorem vs_head {d:Pl.Dg}{k j:Nat}{w:World}{vs:List Value}{fs:List (List Nat)}(h:FcL d k fs)(hv:Vs w vs fs)(hj:j<fs.length) :
 ∃(x b o n c:Nat),vs[j]'(by rw [hv.1];exact hj) = .slice (some ⟨b,o,none⟩) n c∧x<k∧w.cell? ⟨b,o,none⟩=some (.int .i64 (x:Int))∧0<n∧x=(Pl.hds d k).getD j 0:=by
 obtain ⟨v,h1,A,c,rfl,h2⟩:=hv.2 j _ (List.getElem?_eq_getElem hj)
 have hp:=h.2 _ (List.getElem_mem hj)
 obtain ⟨b,o,rfl,hc⟩:=h2.row.at_ (k:=0) hp
 have e1:(Pl.hds d k).getD j 0=fs[j].getD 0 0:=by
  rw [←h.1,List.getD_eq_getElem?_getD,List.getElem?_map,List.getElem?_eq_getElem hj];rfl
 have e2:fs[j].getD 0 0=fs[j][0]:=by rw [List.getD_eq_getElem?_getD,List.getElem?_eq_getElem hp];rfl
 refine ⟨fs[j][0],b,o,fs[j].length,c,?_,?_,?_,hp,by rw [e1,e2]⟩
 ·rw [List.getElem?_eq_getElem (by rw [hv.1];exact hj)] at h1
  injection h1
 ·rw [←e2,←e1]
  have hl:j<(Pl.hds d k).length:=by rw [←h.len];exact hj
  rw [List.getD_eq_getElem?_getD,List.getElem?_eq_getElem hl]
  exact Pl.hds_lt d k _ (List.getElem_mem hl)
 ·rw [List.getElem_map] at hc
  simpa using hc
set_option maxRecDepth 100000 in
set_option maxHeartbeats 4000000 in
theorem r1valid_any (sg mt:List Int)(lp:Int)(A B:Option Addr)(n q cp cq:Nat)(w:World)(hs:IntsAt w A n sg)(hm:IntsAt w B q mt)(hn:n≤maxLen)(hq:q≤maxLen)(hlp:-9223372036854775808≤lp∧lp≤9223372036854775807) :
 Calls Tryz.prog 6 #[.agg #[.slice A n cp,.slice B q cq,.int .i64 lp]] w fun e w'=>e = .returned (.bool (Pl.vb (Pl.VL sg mt lp)))∧Below w.heap.size w w':=by
 unfold maxLen at hn hq
 have HLS:=hide hs.len
 have HLM:=hide hm.len
 have b0:Below w.heap.size w (w.alloc (.cells #[.slice A n cp,.slice B q cq,.int .i64 lp] 24)):=(Below.refl _ _).alloc (Nat.le_refl _) _
 by_cases h1:64<n
 ·have HV:=hide (fun h:Pl.VL sg mt lp=>show False by have:=h.few;have:=HLS.out;omega)
  go_enter Tryz.func6,Tryz.ntmps6
  go_wp2
  go_ret
  exact ⟨ret_bool (Pl.vb_false HV.out).symm,b0⟩
 ·have h1':decide (64<(n:Int))=false:=by simp;omega
  by_cases h2:q=4 * n
  ·by_cases h3:0≤lp∧lp≤64
   ·have h2':(((q:Nat):Int) != 4 * (n:Int))=false:=by simp;omega
    have h3a:decide (lp<0)=false:=by simp;omega
    have h3b:decide (64<lp)=false:=by simp;omega
    have HQ4:=hide h2
    have hq6:q≤256:=by omega
    clear h2
    have x0:Row (w.alloc (.cells #[.slice A n cp,.slice B q cq,.int .i64 lp] 24)) w.heap.size 24 (boxV A B n cp q cq (.int .i64 lp)):=Row.new w _ _
    go_enter Tryz.func6,Tryz.ntmps6
    go_wp2
    have B0:=hide b0
    have X0:=hide x0
    clear b0 x0 h1' h2' h3a h3b
    go_loopg [4] n (fun g i wx=>∃k:Nat,k+g=n∧i = .int .i64 k∧(∀c,c<k→Pl.pv sg c=1∨Pl.pv sg c = -1)∧Below w.heap.size w wx∧Row wx w.heap.size 24 (boxV A B n cp q cq (.int .i64 lp)))
    case atStart=>exact ⟨0,by omega,rfl,fun c hc=>absurd hc (by omega),B0.out,X0.out⟩
    case round =>
     clear B0 X0
     obtain ⟨k,hkg,rfl,hsg,b1,x1⟩:=hrel
     have HG:=hide hkg
     have HSG:=hide hsg
     have hkn:k≤n:=by omega
     clear hkg hsg
     by_cases hlt:k<n
     ·obtain ⟨ab,ao,rfl,hc⟩:=ints_pv hs hlt
      have hc1:=cell_below hc b1
      obtain ⟨y0,y1,y2,_⟩:=box3 x1
      have B1:=hide b1
      have X1:=hide x1
      clear b1 x1 hc
      by_cases hz:Pl.pv sg k=1
      ·have HZ:=hide hz
       rw [hz] at hc1
       clear hz
       go_wp2
       go_roundg (gk - 1)
       case measure=>have:=HG.out;omega
       case rel =>
        refine ⟨k+1,by have:=HG.out;omega,by go_num,fun c hc=>?_,B1.out,X1.out⟩
        by_cases e:c=k
        ·rw [e];exact .inl HZ.out
        ·exact HSG.out c (by omega)
      ·by_cases hz2:Pl.pv sg k = -1
       ·have HZ:=hide hz2
        rw [hz2] at hc1
        clear hz hz2
        go_wp2
        go_roundg (gk - 1)
        case measure=>have:=HG.out;omega
        case rel =>
         refine ⟨k+1,by have:=HG.out;omega,by go_num,fun c hc=>?_,B1.out,X1.out⟩
         by_cases e:c=k
         ·rw [e];exact .inr HZ.out
         ·exact HSG.out c (by omega)
       ·have HV := hide (fun h : Pl.VL sg mt lp => show False by
         rcases h.sign (c:=k) (by have:=HLS.out;omega) with e | e
         ·exact hz e
         ·exact hz2 e)
        have t1:(Pl.pv sg k != 1)=true:=by rw [bne_iff_ne];exact hz
        have t2:(Pl.pv sg k != -1)=true:=by rw [bne_iff_ne];exact hz2
        clear hz hz2
        go_wp2
        go_ret
        exact ⟨ret_bool (Pl.vb_false HV.out).symm,B1.out⟩
     ·have HSG':=hide (fun (c:Nat) (hc:c<sg.length)=>HSG.out c (by have:=HLS.out;omega))
      have B1:=hide b1
      have X1:=hide x1
      clear b1 x1 HSG HG
      go_wp2
      go_loopg [5] q (fun g i wx=>∃k:Nat,k+g=q∧i = .int .i64 k∧(∀h,h<k→0≤Pl.pv mt h∧Pl.pv mt h<mt.length∧Pl.pv mt h≠h∧Pl.pv mt (Pl.pv mt h).toNat=h∧Pl.out (Pl.mk sg mt lp) h≠Pl.out (Pl.mk sg mt lp) (Pl.pv mt h).toNat)∧Below w.heap.size w wx∧Row wx w.heap.size 24 (boxV A B n cp q cq (.int .i64 lp)))
      case atStart=>exact ⟨0,by omega,rfl,fun c hc=>absurd hc (by omega),B1.out,X1.out⟩
      case round =>
       clear B1 X1
       obtain ⟨j,hjg,rfl,hmo,b2,x2⟩:=hrel
       have HG:=hide hjg
       have HMO:=hide hmo
       have hjq:j≤q:=by omega
       clear hjg hmo
       obtain ⟨y0,y1,y2,_⟩:=box3 x2
       by_cases hlt2:j<q
       ·obtain ⟨bb,bo,rfl,hc⟩:=ints_pv hm hlt2
        have hj4n:(j:Int)<4 * (n:Int):=by have:=HQ4.out;omega
        have hc1:=cell_below hc b2
        have hjl:j<mt.length:=by have:=HLM.out;omega
        have B2:=hide b2
        have X2:=hide x2
        clear b2 x2 hc
        by_cases hz0:Pl.pv mt j<0
        ·have HV:=hide (fun h:Pl.VL sg mt lp=>show False by have:=(h.mate hjl).1;omega)
         have t1:decide (Pl.pv mt j<0)=true:=by simpa using hz0
         clear hz0
         go_wp2
         go_quiet (fail)
         go_wp2
         go_ret
         exact ⟨ret_bool (Pl.vb_false HV.out).symm,Below.drewN' B2.out _⟩
        ·have t1:decide (Pl.pv mt j<0)=false:=by simpa using hz0
         by_cases hz1:Pl.pv mt j<q
         ·obtain ⟨t,ht⟩:∃t:Nat,Pl.pv mt j=t:=⟨(Pl.pv mt j).toNat,by omega⟩
          have htq:t<q:=by omega
          have t2:decide (4 * (n:Int)≤(t:Int))=false:=by have:=HQ4.out;simp;omega
          rw [ht] at hc1 t1
          have HT:=hide ht
          have hj4:j<4 * n:=by have:=HQ4.out;omega
          have ht4:t<4 * n:=by have:=HQ4.out;omega
          clear hz0 hz1 ht
          by_cases htj:t=j
          ·have HV:=hide (fun h:Pl.VL sg mt lp=>show False by have:=(h.mate hjl).2.2.1;rw [HT.out] at this;omega)
           have t3:(((t:Nat):Int) == (j:Int))=true:=by simp;omega
           clear htj
           go_wp2
           go_quiet (fail)
           go_wp2
           go_ret
           exact ⟨ret_bool (Pl.vb_false HV.out).symm,Below.drewN' B2.out _⟩
          ·have t3:(((t:Nat):Int) == (j:Int))=false:=by simp;omega
           obtain ⟨bb',bo',ebb,hcb⟩:=ints_pv hm htq
           injection ebb with ebb
           injection ebb with ebb1 ebb2
           subst ebb1;subst ebb2
           have hc2:=cell_below hcb B2.out
           clear hcb
           by_cases hinv:Pl.pv mt t=j
           ·have HI:=hide hinv
            rw [hinv] at hc2
            have t4:((j:Int) != (j:Int))=false:=by simp
            clear hinv
            have SGN:=hide (hs.keep B2.out)
            go_wp2
            go_quiet ((go_at_call 13;exact Calls.quiet_of_same (r1out_any (Pl.mk sg mt lp) A n cp _ _ HLS.out.symm (by omega) (by omega) SGN.out)))
            go_wp2
            ·have t5:(Pl.out (Pl.mk sg mt lp) j == Pl.out (Pl.mk sg mt lp) t)=true:=by assumption
             go_ret
             refine ⟨ret_bool (Pl.vb_false fun h=>?_).symm,(Below.drewN' B2.out _)⟩
             have h5:=(h.mate hjl).2.2.2.2
             rw [HT.out,Int.toNat_natCast] at h5
             exact h5 (beq_iff_eq.1 t5)
            ·have t5:(Pl.out (Pl.mk sg mt lp) j == Pl.out (Pl.mk sg mt lp) t)=false:=by assumption
             go_roundg (gk - 1)
             case measure=>have:=HG.out;omega
             case rel =>
              refine ⟨j+1,by have:=HG.out;omega,by go_num,fun h hh=>?_,(Below.drewN' B2.out _),Row.drewN X2.out _⟩
              by_cases e:h=j
              ·subst e
               rw [HT.out,Int.toNat_natCast]
               exact ⟨by omega,by have:=HLM.out;omega,by omega,HI.out,beq_eq_false_iff_ne.1 t5⟩
              ·exact HMO.out h (by omega)
           ·have HV := hide (fun h : Pl.VL sg mt lp => show False by
             have:=(h.mate hjl).2.2.2.1
             rw [HT.out,Int.toNat_natCast] at this
             exact hinv this)
            have t4:(Pl.pv mt t != (j:Int))=true:=by rw [bne_iff_ne];exact hinv
            clear hinv
            go_wp2
            go_quiet (fail)
            go_wp2
            go_ret
            exact ⟨ret_bool (Pl.vb_false HV.out).symm,Below.drewN' B2.out _⟩
         ·have HV:=hide (fun h:Pl.VL sg mt lp=>show False by have:=(h.mate hjl).2.1;have:=HLM.out;omega)
          have t2:decide (4 * (n:Int)≤Pl.pv mt j)=true:=by have:=HQ4.out;simp;omega
          clear hz0 hz1
          go_wp2
          go_quiet (fail)
          go_wp2
          go_ret
          exact ⟨ret_bool (Pl.vb_false HV.out).symm,Below.drewN' B2.out _⟩
       ·have hjq':j=q:=by omega
        have hj4n:¬((j:Int)<4 * (n:Int)):=by have:=HQ4.out;omega
        have hw:=Pl.wf_of (sg:=sg) (mt:=mt) (lp:=lp) (by have:=HLS.out;omega) (by have:=HLS.out;have:=HLM.out;have:=HQ4.out;omega) h3 HSG'.out (fun k hk=>HMO.out k (by have:=HLM.out;omega))
        have hpos:∀z,z ∈ mt→0≤z:=fun z hz=>by
         obtain ⟨k,hk,rfl⟩:=Pl.mem_pv hz
         exact (HMO.out k (by have:=HLM.out;omega)).1
        have HW:=hide hw
        have HR:=hide (Pl.VL.of hw hpos h3.1)
        have HN:=hide (Pl.nats_mk (sg:=sg) (lp:=lp) hpos)
        have B2:=hide b2
        have X2:=hide x2
        clear b2 x2 hw hpos hjq'
        obtain ⟨d,hd⟩:∃d,d=Pl.mk sg mt lp:=⟨_,rfl⟩
        have HD:=hide hd
        have HWd:=hide (show Pl.Wf d by rw [hd];exact HW.out)
        have HNd:=hide (show n=d.n by rw [hd];exact HLS.out.symm)
        have HQd:=hide (show q=4 * d.n by have:=HQ4.out;have:=HNd.out;omega)
        have HSd:=hide (show IntsAt w A n d.sg by rw [hd];exact hs)
        have HMd:=hide (show IntsAt w B q (nats d.mt) by rw [hd];unfold nats;rw [HN.out];exact hm)
        clear hd
        have hn64:n≤64:=by omega
        go_wp2_with fail
        refine (rlabel_n d HWd.out B cq n q _ HNd.out HQd.out (HMd.out.keep B2.out)).mono ?_
        rintro e w3 ⟨rfl,hlb,hb3⟩
        have B3:=hide (B2.out.trans (hb3.mono B2.out.size))
        have X3:=hide (X2.out.below hb3)
        obtain ⟨gl,hgl⟩:∃g,g=wr.heap.size:=⟨_,rfl⟩
        rw [←hgl] at hlb ⊢
        have L3:=hide hlb
        obtain ⟨ps,hps⟩:∃ps,ps=Pl.lpass d d.n:=⟨_,rfl⟩
        have HPB:=hide (show Pl.PB d ps by rw [hps];exact Pl.lpass_done HWd.out)
        rw [←hps] at L3
        clear hb3 hlb hgl hps y0 y1 y2
        obtain ⟨y0,y1,y2,_⟩:=box3 X3.out
        go_wp2_with fail
        refine (r1faces_any d HWd.out B cq q _ HQd.out (HMd.out.keep B3.out)).mono ?_
        rintro e w4 ⟨A5,c5,vs,fs,rfl,hfl,hrow,hvs,hb4⟩
        have B4:=hide (B3.out.trans (hb4.mono B3.out.size))
        have L4:=hide (show IRow w4 gl ps from Row.below L3.out hb4)
        have HFL:=hide hfl
        have HRW:=hide hrow
        have HVS:=hide hvs
        have hfn:fs.length≤256:=by have:=hfl.len;have:=Pl.hds_len d (4 * d.n);have:=HNd.out;omega
        have HRU:=hide (HPB.out.rule HWd.out)
        obtain ⟨NF,hNF⟩:∃k,k=fs.length:=⟨_,rfl⟩
        rw [←hNF] at hfn ⊢
        have HNF:=hide hNF
        clear hfl hrow hvs hb4 hNF y0 y1 y2 X3 B3 L3 X2 B2 HMd HSd
        go_wp2_with fail
        go_loopg [9] n (fun g i wx=>∃k:Nat,k+g=n∧i = .int .i64 k∧(∀c,c<k→Pl.pv ps c=c→Pl.nf d ps c (4 * d.n)=Pl.nv ps c d.n+2)∧wx=w4)
        case atStart=>exact ⟨0,by omega,rfl,fun c hc=>absurd hc (by omega),rfl⟩
        case round =>
         obtain ⟨k,hkg,rfl,hok,rfl⟩:=hrel
         have HKG:=hide hkg
         have HOK:=hide hok
         have hkn:k≤n:=by omega
         clear hkg hok
         by_cases hlk:k<n
         ·have hkd:k<d.n:=by rw [←HNd.out];exact hlk
          have c1:=L4.out.cell (i:=k) (by rw [HPB.out.len];exact hkd)
          obtain ⟨z,hz⟩:∃z,z=Pl.pv ps k:=⟨_,rfl⟩
          rw [←hz] at c1
          by_cases hzk:z=k
          ·have t1:(z != (k:Int))=false:=by simpa using hzk
           have HZ:=hide (show Pl.pv ps k=k by rw [←hz];exact hzk)
           clear hz hzk
           go_wp2
           go_loopg [10,12] n (fun g v b wx=>∃j:Nat,j+g=n∧b = .int .i64 j∧v = .int .i64 (Pl.nv ps k j:Nat)∧wx=wr)
           case atStart=>exact ⟨0,by omega,rfl,rfl,rfl⟩
           case round =>
            obtain ⟨j,hjg,rfl,rfl,rfl⟩:=hrel
            have HJG:=hide hjg
            have hjn:j≤n:=by omega
            have hvl:=Pl.nv_le ps k j
            clear hjg
            by_cases hlj:j<n
            ·have c2:=L4.out.cell (i:=j) (by rw [HPB.out.len,←HNd.out];exact hlj)
             obtain ⟨x,hx⟩:∃x,x=Pl.pv ps j:=⟨_,rfl⟩
             rw [←hx] at c2
             by_cases hxk:x=k
             ·have t2:(x == (k:Int))=true:=by simpa using hxk
              have EN:=hide (show Pl.nv ps k (j+1)=Pl.nv ps k j+1 from Pl.cnt_step_pos (p:=fun a=>Pl.pv ps a=k) (by rw [←hx];exact hxk))
              clear hx hxk
              go_wp2
              go_roundg (gk - 1)
              case measure=>have:=HJG.out;omega
              case rel=>exact ⟨j+1,by have:=HJG.out;omega,by go_num,by rw [EN.out];go_num,rfl⟩
             ·have t2:(x == (k:Int))=false:=by simpa using hxk
              have EN:=hide (show Pl.nv ps k (j+1)=Pl.nv ps k j from Pl.cnt_step_neg (p:=fun a=>Pl.pv ps a=k) (by rw [←hx];exact hxk))
              clear hx hxk
              go_wp2
              go_roundg (gk - 1)
              case measure=>have:=HJG.out;omega
              case rel=>exact ⟨j+1,by have:=HJG.out;omega,by go_num,by rw [EN.out],rfl⟩
            ·have hjn':j=n:=by omega
             have EV:=hide (show Pl.nv ps k j=Pl.nv ps k d.n by rw [hjn',HNd.out])
             obtain ⟨nv,hnv⟩:∃x,x=Pl.nv ps k j:=⟨_,rfl⟩
             rw [←hnv] at hvl EV ⊢
             clear hjn' hnv
             go_wp2
             go_loopg [11,13] NF (fun g f i wx=>∃j:Nat,j+g=NF∧i = .int .i64 j∧f = .int .i64 (Pl.cl (fun h=>Pl.pv ps (h / 4)=k) ((Pl.hds d (4 * d.n)).take j):Nat)∧wx=wr)
             case atStart=>exact ⟨0,by omega,rfl,rfl,rfl⟩
             case round =>
              obtain ⟨j,hjg,rfl,rfl,rfl⟩:=hrel
              have HJG:=hide hjg
              have hjn:j≤NF:=by omega
              have hcl:=Pl.cl_le (fun h=>Pl.pv ps (h / 4)=k) ((Pl.hds d (4 * d.n)).take j)
              rw [List.length_take] at hcl
              obtain ⟨f,hf⟩:∃x,x=Pl.cl (fun h=>Pl.pv ps (h / 4)=k) ((Pl.hds d (4 * d.n)).take j):=⟨_,rfl⟩
              rw [←hf] at hcl ⊢
              have HF:=hide hf
              have hf2:f≤256:=by omega
              clear hjg hcl hf
              by_cases hlj:j<NF
              ·obtain ⟨fb,fo,rfl,hfc⟩:=HRW.out.row.at_ (k:=j) (by rw [←HNF.out];exact hlj)
               obtain ⟨x,fb2,fo2,fn2,fc2,hv,hxd,hx0,hpos,hxl⟩:=vs_head HFL.out HVS.out (by rw [←HNF.out];exact hlj)
               rw [hv] at hfc
               have HXL:=hide hxl
               have hp0:(0:Int)<(fn2:Int):=by omega
               have hx4:x / 4<d.n:=by omega
               have c2:=L4.out.cell (i:=x / 4) (by rw [HPB.out.len];exact hx4)
               have hx4n:x / 4<n:=by rw [HNd.out];exact hx4
               have hx256:x<256:=by have:=HNd.out;omega
               have HST:=hide (Pl.cl_take (p:=fun h=>Pl.pv ps (h / 4)=k) (l:=Pl.hds d (4 * d.n)) (i:=j) (by rw [←HFL.out.len,←HNF.out];exact hlj))
               obtain ⟨y,hy⟩:∃y,y=Pl.pv ps (x / 4):=⟨_,rfl⟩
               rw [←hy] at c2
               clear hv hxl hxd
               by_cases hyk:y=k
               ·have t2:(y == (k:Int))=true:=by simpa using hyk
                have EN:=hide (show Pl.cl (fun h=>Pl.pv ps (h / 4)=k) ((Pl.hds d (4 * d.n)).take (j+1))=f+1 by rw [HST.out,HF.out,←HXL.out,Pl.cl_pos (by rw [←hy];exact hyk)])
                clear hy hyk
                go_wp2
                go_roundg (gk - 1)
                case measure=>have:=HJG.out;omega
                case rel=>exact ⟨j+1,by have:=HJG.out;omega,by go_num,by rw [EN.out];go_num,rfl⟩
               ·have t2:(y == (k:Int))=false:=by simpa using hyk
                have EN:=hide (show Pl.cl (fun h=>Pl.pv ps (h / 4)=k) ((Pl.hds d (4 * d.n)).take (j+1))=f by rw [HST.out,HF.out,←HXL.out,Pl.cl_neg (by rw [←hy];exact hyk)];rfl)
                clear hy hyk
                go_wp2
                go_roundg (gk - 1)
                case measure=>have:=HJG.out;omega
                case rel=>exact ⟨j+1,by have:=HJG.out;omega,by go_num,by rw [EN.out],rfl⟩
              ·have hjn':j=NF:=by omega
               have EF:=hide (show f=Pl.nf d ps k (4 * d.n) by rw [HF.out,hjn',HNF.out,HFL.out.len,List.take_length];exact Pl.hds_nf d ps k _)
               clear hjn'
               by_cases hbad:f=nv+2
               ·have t2:((f:Int) != (nv:Int)+2)=false:=by rw [bne_eq_false_iff_eq];omega
                have HBAD:=hide hbad
                clear hbad
                go_wp2
                go_roundg (n - (k+1))
                case measure=>have:=HKG.out;omega
                case rel =>
                 refine ⟨k+1,by omega,by go_num,fun c hc e=>?_,rfl⟩
                 by_cases e2:c=k
                 ·subst e2;rw [←EF.out,←EV.out];exact HBAD.out
                 ·exact HOK.out c (by omega) e
               ·have t2:((f:Int) != (nv:Int)+2)=true:=by rw [bne_iff_ne];omega
                have HV:=hide (show ¬Pl.VL sg mt lp from fun h=>hbad (by
                 have h2:=HR.out.1 h
                 rw [←HD.out] at h2
                 have h3:=HRU.out.2 h2 k hkd HZ.out
                 rw [←EF.out,←EV.out] at h3
                 exact h3))
                clear hbad
                go_wp2
                go_ret
                exact ⟨ret_bool (Pl.vb_false HV.out).symm,B4.out⟩
          ·have t1:(z != (k:Int))=true:=by rw [bne_iff_ne];exact hzk
           have HZ:=hide (show ¬Pl.pv ps k=k by rw [←hz];exact hzk)
           clear hz hzk
           go_wp2
           go_roundg (n - (k+1))
           case measure=>have:=HKG.out;omega
           case rel =>
            refine ⟨k+1,by omega,by go_num,fun c hc e=>?_,rfl⟩
            by_cases e2:c=k
            ·subst e2;exact absurd e HZ.out
            ·exact HOK.out c (by omega) e
         ·have HV := hide (show Pl.VL sg mt lp from HR.out.2 (by
           rw [←HD.out]
           exact HRU.out.1 (fun c hc e=>HOK.out c (by rw [←HNd.out] at hc;omega) e)))
          go_wp2
          go_ret
          exact ⟨ret_bool (Pl.vb_true HV.out).symm,B4.out⟩
   ·have HV:=hide (fun h:Pl.VL sg mt lp=>show False by have:=h.loops;omega)
    have h2':(((q:Nat):Int) != 4 * (n:Int))=false:=by simp;omega
    have HQ2:=hide h2
    clear h2
    by_cases h3a:lp<0
    ·have t1:decide (lp<0)=true:=by simpa using h3a
     go_enter Tryz.func6,Tryz.ntmps6
     go_wp2
     go_ret
     exact ⟨ret_bool (Pl.vb_false HV.out).symm,b0⟩
    ·have t1:decide (lp<0)=false:=by simpa using h3a
     have t2:decide (64<lp)=true:=by simp;omega
     go_enter Tryz.func6,Tryz.ntmps6
     go_wp2
     go_ret
     exact ⟨ret_bool (Pl.vb_false HV.out).symm,b0⟩
  ·have HV:=hide (fun h:Pl.VL sg mt lp=>show False by have:=h.len;have:=HLS.out;have:=HLM.out;omega)
   have h2':(((q:Nat):Int) != 4 * (n:Int))=true:=by simp;omega
   go_enter Tryz.func6,Tryz.ntmps6
   go_wp2
   go_ret
   exact ⟨ret_bool (Pl.vb_false HV.out).symm,b0⟩
end Go.Proofs.YtdgliimmnnhhjaaGreatDoor
end
