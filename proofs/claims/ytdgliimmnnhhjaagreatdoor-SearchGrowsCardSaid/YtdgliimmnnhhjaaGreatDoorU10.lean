/-
  The texts Val.
-/
import Derived.Test.YtdgliimmnnhhjaaGreatDoorU02
import Derived.Test.YtdgliimmnnhhjaaGreatDoorU08
set_option linter.unusedVariables false
set_option linter.unusedSimpArgs false
section
namespace Go.Proofs.YtdgliimmnnhhjaaGreatDoor
open Go.RowKit
theorem ints_pv {w:World}{A:Option Addr}{n k:Nat}{zs:List Int}(h:IntsAt w A n zs)(hk:k<n) :
 ∃b o,A=some ⟨b,o,none⟩∧w.cell? ⟨b,o+k,none⟩=some (.int .i64 (Pl.pv zs k)):=h.at_ hk
set_option maxRecDepth 100000 in
set_option maxHeartbeats 1500000 in
theorem valid_any (sg mt:List Int)(lp:Int)(A B:Option Addr)(n q cp cq:Nat)(w:World)(hs:IntsAt w A n sg)(hm:IntsAt w B q mt)(hn:n≤maxLen)(hq:q≤maxLen)(hlp:-9223372036854775808≤lp∧lp≤9223372036854775807) :
 Calls Tryz.prog 16 #[.agg #[.slice A n cp,.slice B q cq,.int .i64 lp]] w fun e w'=>e = .returned (.bool (Pl.vb (Pl.VL sg mt lp)))∧Below w.heap.size w w':=by
 unfold maxLen at hn hq
 have HLS:=hide hs.len
 have HLM:=hide hm.len
 have b0:Below w.heap.size w (w.alloc (.cells #[.slice A n cp,.slice B q cq,.int .i64 lp] 24)):=(Below.refl _ _).alloc (Nat.le_refl _) _
 by_cases h1:64<n
 ·have HV:=hide (fun h:Pl.VL sg mt lp=>show False by have:=h.few;have:=HLS.out;omega)
  go_enter Tryz.func16,Tryz.ntmps16
  go_wp2
  go_ret
  exact ⟨ret_bool (Pl.vb_false HV.out).symm,b0⟩
 ·have h1':decide (64<(n:Int))=false:=by simp;omega
  by_cases h2:q=4 * n
  ·by_cases h3:0≤lp∧lp≤64
   ·have h2':(((q:Nat):Int) != 4 * (n:Int))=false:=by simp;omega
    have h3a:decide (lp<0)=false:=by simp;omega
    have h3b:decide (64<lp)=false:=by simp;omega
    have HQ4:=hide h2
    have hq6:q≤256:=by omega
    clear h2
    have x0:Row (w.alloc (.cells #[.slice A n cp,.slice B q cq,.int .i64 lp] 24)) w.heap.size 24 (boxV A B n cp q cq (.int .i64 lp)):=Row.new w _ _
    go_enter Tryz.func16,Tryz.ntmps16
    go_wp2
    have B0:=hide b0
    have X0:=hide x0
    clear b0 x0 h1' h2' h3a h3b
    go_loopg [34] n (fun g i wx=>∃k:Nat,k+g=n∧i = .int .i64 k∧(∀c,c<k→Pl.pv sg c=1∨Pl.pv sg c = -1)∧Below w.heap.size w wx∧Row wx w.heap.size 24 (boxV A B n cp q cq (.int .i64 lp)))
    case atStart=>exact ⟨0,by omega,rfl,fun c hc=>absurd hc (by omega),B0.out,X0.out⟩
    case round =>
     clear B0 X0
     obtain ⟨k,hkg,rfl,hsg,b1,x1⟩:=hrel
     have HG:=hide hkg
     have HSG:=hide hsg
     have hkn:k≤n:=by omega
     clear hkg hsg
     by_cases hlt:k<n
     ·obtain ⟨ab,ao,rfl,hc⟩:=ints_pv hs hlt
      have hc1:=cell_below hc b1
      have B1:=hide b1
      have X1:=hide x1
      clear b1 x1 hc
      by_cases hz:Pl.pv sg k=1
      ·have HZ:=hide hz
       rw [hz] at hc1
       clear hz
       go_wp2
       go_roundg (gk - 1)
       case measure=>have:=HG.out;omega
       case rel =>
        refine ⟨k+1,by have:=HG.out;omega,by go_num,fun c hc=>?_,B1.out,X1.out⟩
        by_cases e:c=k
        ·rw [e];exact .inl HZ.out
        ·exact HSG.out c (by omega)
      ·by_cases hz2:Pl.pv sg k = -1
       ·have HZ:=hide hz2
        rw [hz2] at hc1
        clear hz hz2
        go_wp2
        go_roundg (gk - 1)
        case measure=>have:=HG.out;omega
        case rel =>
         refine ⟨k+1,by have:=HG.out;omega,by go_num,fun c hc=>?_,B1.out,X1.out⟩
         by_cases e:c=k
         ·rw [e];exact .inr HZ.out
         ·exact HSG.out c (by omega)
       ·have HV := hide (fun h : Pl.VL sg mt lp => show False by
         rcases h.sign (c:=k) (by have:=HLS.out;omega) with e | e
         ·exact hz e
         ·exact hz2 e)
        have t1:(Pl.pv sg k != 1)=true:=by rw [bne_iff_ne];exact hz
        have t2:(Pl.pv sg k != -1)=true:=by rw [bne_iff_ne];exact hz2
        clear hz hz2
        go_wp2
        go_ret
        exact ⟨ret_bool (Pl.vb_false HV.out).symm,B1.out⟩
     ·have HSG':=hide (fun (c:Nat) (hc:c<sg.length)=>HSG.out c (by have:=HLS.out;omega))
      have B1:=hide b1
      have X1:=hide x1
      have x1c:wr.cell? ⟨w.heap.size,1,none⟩=some (.slice B q cq):=x1.cell (i:=1) (by show 1<3;omega)
      clear b1 x1 HSG HG
      go_wp2
      clear x1c
      go_loopg [48] q (fun g i wx=>∃k:Nat,k+g=q∧i = .int .i64 k∧(∀h,h<k→0≤Pl.pv mt h∧Pl.pv mt h<mt.length∧Pl.pv mt h≠h∧Pl.pv mt (Pl.pv mt h).toNat=h∧Pl.out (Pl.mk sg mt lp) h≠Pl.out (Pl.mk sg mt lp) (Pl.pv mt h).toNat)∧Below w.heap.size w wx∧Row wx w.heap.size 24 (boxV A B n cp q cq (.int .i64 lp)))
      case atStart=>exact ⟨0,by omega,rfl,fun c hc=>absurd hc (by omega),B1.out,X1.out⟩
      case round =>
       clear B1 X1
       obtain ⟨j,hjg,rfl,hmo,b2,x2⟩:=hrel
       have HG:=hide hjg
       have HMO:=hide hmo
       have hjq:j≤q:=by omega
       clear hjg hmo
       by_cases hlt2:j<q
       ·obtain ⟨bb,bo,rfl,hc⟩:=ints_pv hm hlt2
        have hc1:=cell_below hc b2
        have x2c:wr.cell? ⟨w.heap.size,1,none⟩=some (.slice (some ⟨bb,bo,none⟩) q cq):=x2.cell (i:=1) (by show 1<3;omega)
        have hjl:j<mt.length:=by have:=HLM.out;omega
        have B2:=hide b2
        have X2:=hide x2
        clear b2 x2 hc
        by_cases hz0:Pl.pv mt j<0
        ·have HV:=hide (fun h:Pl.VL sg mt lp=>show False by have:=(h.mate hjl).1;omega)
         have t1:decide (Pl.pv mt j<0)=true:=by simpa using hz0
         clear hz0
         go_wp2
         go_ret
         exact ⟨ret_bool (Pl.vb_false HV.out).symm,B2.out⟩
        ·have t1:decide (Pl.pv mt j<0)=false:=by simpa using hz0
         by_cases hz1:Pl.pv mt j<q
         ·obtain ⟨t,ht⟩:∃t:Nat,Pl.pv mt j=t:=⟨(Pl.pv mt j).toNat,by omega⟩
          have htq:t<q:=by omega
          have t2:decide (4 * (n:Int)≤(t:Int))=false:=by have:=HQ4.out;simp;omega
          rw [ht] at hc1 t1
          have HT:=hide ht
          have hj4:j<4 * n:=by have:=HQ4.out;omega
          have ht4:t<4 * n:=by have:=HQ4.out;omega
          clear hz0 hz1 ht
          by_cases htj:t=j
          ·have HV:=hide (fun h:Pl.VL sg mt lp=>show False by have:=(h.mate hjl).2.2.1;rw [HT.out] at this;omega)
           have t3:(((t:Nat):Int) == (j:Int))=true:=by simp;omega
           clear htj
           go_wp2
           go_ret
           exact ⟨ret_bool (Pl.vb_false HV.out).symm,B2.out⟩
          ·have t3:(((t:Nat):Int) == (j:Int))=false:=by simp;omega
           obtain ⟨bb',bo',ebb,hcb⟩:=ints_pv hm htq
           injection ebb with ebb
           injection ebb with ebb1 ebb2
           subst ebb1;subst ebb2
           have hc2:=cell_below hcb B2.out
           clear hcb
           by_cases hinv:Pl.pv mt t=j
           ·have HI:=hide hinv
            rw [hinv] at hc2
            clear hinv
            have HSS:=hide (fun (p:Cls (fun w'=>Row w' w.heap.size 24 (boxV A (some ⟨bb,bo,none⟩) n cp q cq (.int .i64 lp))∧Below w.heap.size w w')) (h:Nat) (hh:h<4 * n) =>
             calls_cls (C:=fun w'=>Row w' w.heap.size 24 (boxV A (some ⟨bb,bo,none⟩) n cp q cq (.int .i64 lp))∧Below w.heap.size w w')
              (out_n (Pl.mk sg mt lp) A (some ⟨bb,bo,none⟩) n cp q cq (.int .i64 lp) h p.w HLS.out.symm hh (by omega) (hs.keep p.ok.2)) (fun e w' h=>⟨h.1,p.ok.1.below h.2,p.ok.2.trans (h.2.mono p.ok.2.size)⟩))
            have c30:∀p:Cls (fun w'=>Row w' w.heap.size 24 (boxV A (some ⟨bb,bo,none⟩) n cp q cq (.int .i64 lp))∧Below w.heap.size w w'),p.w.cell? ⟨w.heap.size,0,none⟩=some (.slice A n cp):=fun p=>p.ok.1.cell (i:=0) (by show 0<3;omega)
            have c31:∀p:Cls (fun w'=>Row w' w.heap.size 24 (boxV A (some ⟨bb,bo,none⟩) n cp q cq (.int .i64 lp))∧Below w.heap.size w w'),p.w.cell? ⟨w.heap.size,1,none⟩=some (.slice (some ⟨bb,bo,none⟩) q cq):=fun p=>p.ok.1.cell (i:=1) (by show 1<3;omega)
            have c32:∀p:Cls (fun w'=>Row w' w.heap.size 24 (boxV A (some ⟨bb,bo,none⟩) n cp q cq (.int .i64 lp))∧Below w.heap.size w w'),p.w.cell? ⟨w.heap.size,2,none⟩=some (.int .i64 lp):=fun p=>p.ok.1.cell (i:=2) (by show 2<3;omega)
            go_wp2
            refine wp_region_cls (fun w'=>Row w' w.heap.size 24 (boxV A (some ⟨bb,bo,none⟩) n cp q cq (.int .i64 lp))∧Below w.heap.size w w') (by kernel_rfl) (by kernel_rfl) ⟨X2.out.drew,B2.out.drew⟩ (fun hne=>?_)
            repeat (quiet_step ((go_at_call 35;exact HSS.out _ _ (by omega))))
            refine wpQuiet_nil ?_
            rintro _ ⟨p,rfl⟩
            have hp1:=hide p.ok.1
            have hp2:=hide p.ok.2
            clear HSS c30 c31 c32
            go_wp2
            ·have t5:(Pl.out (Pl.mk sg mt lp) j == Pl.out (Pl.mk sg mt lp) t)=true:=by assumption
             go_ret
             refine ⟨ret_bool (Pl.vb_false fun h=>?_).symm,hp2.out⟩
             have h5:=(h.mate hjl).2.2.2.2
             rw [HT.out,Int.toNat_natCast] at h5
             exact h5 (beq_iff_eq.1 t5)
            ·have t5:(Pl.out (Pl.mk sg mt lp) j == Pl.out (Pl.mk sg mt lp) t)=false:=by assumption
             go_roundg (gk - 1)
             case measure=>have:=HG.out;omega
             case rel =>
              refine ⟨j+1,by have:=HG.out;omega,by go_num,fun h hh=>?_,hp2.out,hp1.out⟩
              by_cases e:h=j
              ·subst e
               rw [HT.out,Int.toNat_natCast]
               exact ⟨by omega,by have:=HLM.out;omega,by omega,HI.out,beq_eq_false_iff_ne.1 t5⟩
              ·exact HMO.out h (by omega)
           ·have HV := hide (fun h : Pl.VL sg mt lp => show False by
             have:=(h.mate hjl).2.2.2.1
             rw [HT.out,Int.toNat_natCast] at this
             exact hinv this)
            have t4:(Pl.pv mt t != (j:Int))=true:=by rw [bne_iff_ne];exact hinv
            clear hinv
            go_wp2
            go_ret
            exact ⟨ret_bool (Pl.vb_false HV.out).symm,B2.out⟩
         ·have HV:=hide (fun h:Pl.VL sg mt lp=>show False by have:=(h.mate hjl).2.1;have:=HLM.out;omega)
          have t2:decide (4 * (n:Int)≤Pl.pv mt j)=true:=by have:=HQ4.out;simp;omega
          clear hz0 hz1
          go_wp2
          go_ret
          exact ⟨ret_bool (Pl.vb_false HV.out).symm,B2.out⟩
       ·have hjq':j=q:=by omega
        have hw:=Pl.wf_of (sg:=sg) (mt:=mt) (lp:=lp) (by have:=HLS.out;omega) (by have:=HLS.out;have:=HLM.out;have:=HQ4.out;omega) h3 HSG'.out (fun k hk=>HMO.out k (by have:=HLM.out;omega))
        have hpos:∀z,z ∈ mt→0≤z:=fun z hz=>by
         obtain ⟨k,hk,rfl⟩:=Pl.mem_pv hz
         exact (HMO.out k (by have:=HLM.out;omega)).1
        have HW:=hide hw
        have HR:=hide (Pl.VL.of hw hpos h3.1)
        have HN:=hide (Pl.nats_mk (sg:=sg) (lp:=lp) hpos)
        have B2:=hide b2
        have x20:wr.cell? ⟨w.heap.size,0,none⟩=some (.slice A n cp):=x2.cell (i:=0) (by show 0<3;omega)
        have x21:wr.cell? ⟨w.heap.size,1,none⟩=some (.slice B q cq):=x2.cell (i:=1) (by show 1<3;omega)
        have x22:wr.cell? ⟨w.heap.size,2,none⟩=some (.int .i64 lp):=x2.cell (i:=2) (by show 2<3;omega)
        clear b2 x2 hw hpos hjq'
        go_wp2_with fail
        refine (spherical_n (Pl.mk sg mt lp) HW.out A B n q cp cq (.int .i64 lp) _ HLS.out.symm (by have:=HQ4.out;have:=HLS.out;rw [Pl.mk_n];omega) ?_ ⟨?_,?_⟩).mono ?_
        ·show Value.int .i64 lp = .int .i64 ((lp.toNat:Nat):Int)
         rw [Int.toNat_of_nonneg h3.1]
        ·rw [Pl.mk_n,HLS.out];exact hs.keep B2.out
        ·unfold nats
         rw [HN.out,Pl.mk_n,HLS.out,←HQ4.out];exact hm.keep B2.out
        rintro e w3 ⟨rfl,hb3⟩
        go_wp2
        go_ret
        exact ⟨ret_bool (congrArg Pl.vb (propext HR.out.symm)),B2.out.trans (hb3.mono B2.out.size)⟩
   ·have HV:=hide (fun h:Pl.VL sg mt lp=>show False by have:=h.loops;omega)
    have h2':(((q:Nat):Int) != 4 * (n:Int))=false:=by simp;omega
    have HQ2:=hide h2
    clear h2
    go_enter Tryz.func16,Tryz.ntmps16
    go_wp2
    all_goals
     go_ret
     exact ⟨ret_bool (Pl.vb_false HV.out).symm,b0⟩
  ·have HV:=hide (fun h:Pl.VL sg mt lp=>show False by have:=h.len;have:=HLS.out;have:=HLM.out;omega)
   have h2':(((q:Nat):Int) != 4 * (n:Int))=true:=by simp;omega
   go_enter Tryz.func16,Tryz.ntmps16
   go_wp2
   go_ret
   exact ⟨ret_bool (Pl.vb_false HV.out).symm,b0⟩
end Go.Proofs.YtdgliimmnnhhjaaGreatDoor
end
