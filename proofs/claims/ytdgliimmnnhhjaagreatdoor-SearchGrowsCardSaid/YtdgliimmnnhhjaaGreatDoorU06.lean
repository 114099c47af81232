/-
  The texts Wb.
-/
import Derived.Test.YtdgliimmnnhhjaaGreatDoorU01
set_option linter.unusedVariables false
set_option linter.unusedSimpArgs false
section
namespace Go.Proofs.YtdgliimmnnhhjaaGreatDoor
open Go.RowKit
def boxV (A B:Option Addr)(n cp q cq:Nat)(l:Value):List Value:=[.slice A n cp,.slice B q cq,l]
set_option maxRecDepth 100000 in
set_option maxHeartbeats 4000000 in
theorem label_any (d:Pl.Dg)(hd:Pl.Wf d)(A B:Option Addr)(cp cq:Nat)(l:Value)(w:World)(hg:DgAt w A B d) :
 Calls Tryz.prog 61 #[.agg #[.slice A d.n cp,.slice B (4 * d.n) cq,l]] w fun e w' =>
  ∃(ps:List Int) (P g:Nat),e = .returned (.tuple #[.slice (some ⟨g,0,none⟩) d.n d.n,.int .i64 (P:Int)])∧Pl.LB d ps P∧(∀a,a<d.n→0≤Pl.pv ps a)∧w.heap.size≤g∧IRow w' g ps∧Below w.heap.size w w':=by
 have hn:=hd.few
 have HF:=hide hd
 clear hd
 have hmk:=run_ints d.n (by omega) (w.alloc (.cells #[.slice A d.n cp,.slice B (4 * d.n) cq,l] 24))
 go_enter Tryz.func61,Tryz.ntmps61
 go_wp2
 clear hmk
 obtain ⟨W1,hW1⟩:∃W1:World,W1=(w.alloc (.cells #[.slice A d.n cp,.slice B (4 * d.n) cq,l] 24)).alloc (.cells (Array.replicate d.n (Value.int .i64 0)) 3):=⟨_,rfl⟩
 have B1:=hide (show Below w.heap.size w W1 by rw [hW1];exact ((Below.refl _ _).alloc (Nat.le_refl _) _).alloc (by simp) _)
 have X1:=hide (show Row W1 w.heap.size 24 (boxV A B d.n cp (4 * d.n) cq l) by rw [hW1];exact (Row.new w _ _).alloc _)
 have R1:=hide (show IRow W1 (w.heap.size+1) (List.replicate d.n 0) by
  rw [hW1]
  have:=IRow.made (w.alloc (.cells #[.slice A d.n cp,.slice B (4 * d.n) cq,l] 24)) d.n
  simpa using this)
 rw [←hW1]
 clear hW1
 go_loopg [18] d.n (fun g i wx=>∃k:Nat,k+g=d.n∧i = .int .i64 k∧Below w.heap.size w wx∧Row wx w.heap.size 24 (boxV A B d.n cp (4 * d.n) cq l)∧IRow wx (w.heap.size+1) (List.replicate k (-1)++List.replicate (d.n - k) 0))
 case atStart=>exact ⟨0,by omega,rfl,B1.out,X1.out,by simpa using R1.out⟩
 case round =>
  obtain ⟨k,hkg,rfl,b2,x2,r2⟩:=hrel
  have HG:=hide hkg
  have hks:k≤d.n:=by omega
  clear hkg
  by_cases hlt:k<d.n
  ·have c1:=r2.cell (i:=k) (by simp;omega)
   have f1:=Row.free r2 k
   have B2:=hide b2
   have X2:=hide x2
   have R2:=hide r2
   clear b2 x2 r2
   go_wp2
   go_roundg (gk - 1)
   case measure=>have:=HG.out;omega
   case rel =>
    refine ⟨k+1,by have:=HG.out;omega,by go_num,?_,X2.out.other (by simp) _,?_⟩
    ·exact B2.out.setCell (by simp) _
    ·have:=R2.out.set k (-1)
     rwa [Pl.fill_set hlt] at this
  ·have hkn:k=d.n:=by omega
   have B2:=hide b2
   have X2:=hide x2
   have R2:=hide (show IRow wr (w.heap.size+1) (List.replicate d.n (-1)) by subst hkn;simpa using r2)
   clear b2 x2 r2 hkn
   go_wp2
   go_loopg [6,27] d.n (fun g p i wx=>∃(k P:Nat) (ps:List Int),k+g=d.n∧i = .int .i64 k∧p = .int .i64 P∧Pl.LB d ps P∧(∀a,a<k→0≤Pl.pv ps a)∧Below w.heap.size w wx∧Row wx w.heap.size 24 (boxV A B d.n cp (4 * d.n) cq l)∧IRow wx (w.heap.size+1) ps)
   case atStart=>exact ⟨0,0,_,by omega,rfl,rfl,Pl.LB.start d,fun a ha=>absurd ha (by omega),B2.out,X2.out,R2.out⟩
   case round =>
    clear B2 X2 R2 B1 X1 R1 HG hks hlt
    obtain ⟨j,P,ps,hjg,rfl,rfl,hlb,hall,b3,x3,r3⟩:=hrel
    have HG:=hide hjg
    have HL:=hide hlb
    have HA:=hide hall
    have hjs:j≤d.n:=by omega
    have hlen:ps.length=d.n:=hlb.len
    have hP:=hlb.le
    have HLen:=hide hlen
    clear hjg hlb hall
    by_cases hjn:j<d.n
    ·have c1:=r3.cell (i:=j) (by omega)
     have f1:=Row.free r3 j
     have B3:=hide b3
     have X3:=hide x3
     have R3:=hide r3
     clear b3 x3 r3 hlen
     by_cases hlab:0≤Pl.pv ps j
     ·go_wp2
      go_roundg (gk - 1)
      case measure=>have:=HG.out;omega
      case rel =>
       refine ⟨j+1,P,ps,by have:=HG.out;omega,by go_num,rfl,HL.out,fun a ha=>?_,B3.out,X3.out,R3.out⟩
       by_cases e:a=j
       ·rw [e];exact hlab
       ·exact HA.out a (by omega)
     ·have hneg:Pl.pv ps j<0:=by omega
      have hjl:j<ps.length:=by have:=HLen.out;omega
      obtain ⟨wo,rfl⟩:∃wo:World,wo=wr:=⟨_,rfl⟩
      have hwz:w.heap.size+2≤wo.heap.size:=by have:=R3.out.lt;omega
      go_wp2
      obtain ⟨W2,hW2⟩:∃W2:World,W2=(wo.setCell ⟨w.heap.size+1,j,none⟩ (.int .i64 P)).alloc (.cells #[.int .i64 j] 3):=⟨_,rfl⟩
      have B4:=hide (show Below w.heap.size w W2 by rw [hW2];exact (B3.out.setCell (by simp) _).alloc (by simp;omega) _)
      have X4:=hide (show Row W2 w.heap.size 24 (boxV A B d.n cp (4 * d.n) cq l) by rw [hW2];exact (X3.out.other (by simp) _).alloc _)
      have R4:=hide (show IRow W2 (w.heap.size+1) (ps.set j P) by rw [hW2];exact Row.alloc (R3.out.set j P) _)
      have Q4:=hide (show OwnT W2 (w.heap.size+2) 3 (.slice (some ⟨wo.heap.size,0,none⟩) 1 1) 1 [.int .i64 j] by
       rw [hW2]
       refine ⟨rfl,wo.heap.size,0,1,#[.int .i64 j],rfl,hwz,?_,by omega,by unfold maxLen;omega,by simp,rfl⟩
       have:=heap_alloc_new (wo.setCell ⟨w.heap.size+1,j,none⟩ (.int .i64 P)) (.cells #[.int .i64 j] 3)
       simpa using this)
      have HQ:=hide (Pl.LQ.start HL.out hjn hneg)
      have HU:=hide (Pl.unl_set hjl hneg (v:=(P:Int)) (by omega))
      rw [←hW2]
      clear hW2 B3 X3 R3 c1 f1 hneg hlab
      go_loopg [8] (Pl.unl (ps.set j P)+1) (fun g v wx=>∃(p1:List Int) (qs:List Nat),g=Pl.unl p1+qs.length∧Pl.unl p1+qs.length≤d.n∧Pl.LQ d j ps P p1 qs d.n 0∧OwnT wx (w.heap.size+2) 3 v qs.length (qs.map (fun q:Nat=>Value.int .i64 q))∧Below w.heap.size w wx∧Row wx w.heap.size 24 (boxV A B d.n cp (4 * d.n) cq l)∧IRow wx (w.heap.size+1) p1)
      case atStart=>exact ⟨_,[j],rfl,by have h1:=HU.out;have h2:Pl.unl ps≤ps.length:=List.countP_le_length;have h3:=HLen.out;simp only [List.length_singleton];omega,HQ.out,Q4.out,B4.out,X4.out,R4.out⟩
      case round =>
       clear B4 X4 R4 Q4 HQ HU
       obtain ⟨p1,qs,hgk,hgn,hlq,hown,b5,x5,r5⟩:=hrel
       have HGN:=hide hgn
       have HGK:=hide hgk
       have HQ:=hide hlq
       have B5:=hide b5
       have X5:=hide x5
       have R5:=hide r5
       clear hgk hgn hlq b5 x5 r5
       cases qs with
       | nil =>
         obtain ⟨g0,off,cap,rfl,_,_,_,_,_⟩:=hown.cells
         have HD:=hide (Pl.LQ.done HF.out HQ.out)
         simp only [List.length_nil]
         go_wp2
         go_roundg (d.n - (j+1))
         case measure=>have:=HG.out;omega
         case rel =>
          refine ⟨j+1,P+1,p1,by omega,by go_num,by go_num,HD.out.1,fun a ha=>?_,B5.out,X5.out,R5.out⟩
          by_cases e:a=j
          ·rw [e];exact HD.out.2.2
          ·exact HD.out.2.1 a (by omega) (HA.out a (by omega))
       | cons q qs =>
         have hqn:q<d.n:=(HQ.out.wait q (by simp)).1
         have HQP:=hide ((HQ.out.wait q (by simp)).2)
         have hown':=hown
         obtain ⟨g0,off,cap,rfl,hg0,hg1,hcl,hcm,hcells⟩:=hown'.cells
         have cq0:wr.cell? ⟨g0,off,none⟩=some (.int .i64 (q:Int)):=by
          have:=hcells 0 (.int .i64 (q:Int)) rfl
          simpa using this
         rw [List.length_cons] at hown hcl
         rw [List.map_cons] at hown
         have HO:=hide hown
         simp only [List.length_cons]
         unfold maxLen at hcm
         clear hown hcells
         obtain ⟨wo,rfl⟩:∃wo:World,wo=wr:=⟨_,rfl⟩
         have HP:=hide (HQ.out.pop rfl)
         by_cases hcap:cap=1
         case' pos =>
          have Q6:=hide (HO.out.tail0 hcap)
          have hq0:qs.length=0:=by omega
          have HQ0:=hide hq0
          go_wp2
          have HC:=hide hcap
          clear hq0 hcap
         case' neg =>
          have Q6:=hide (show OwnT wo (w.heap.size+2) 3 (.slice (some ⟨g0,off+1,none⟩) qs.length (cap - 1)) qs.length (qs.map (fun q:Nat=>Value.int .i64 q)) from HO.out.tail)
          go_wp2
         all_goals
          clear HO cq0
          go_loopg [8,49] 4 (fun g v i wx=>∃(p2:List Int) (qs2:List Nat) (s:Nat),s+g=4∧i = .int .i64 s∧Pl.unl p2+qs2.length=Pl.unl p1+qs.length∧Pl.LQ d j ps P p2 qs2 q s∧Pl.pv p2 q=P∧OwnT wx (w.heap.size+2) 3 v qs2.length (qs2.map (fun q:Nat=>Value.int .i64 q))∧Below w.heap.size w wx∧Row wx w.heap.size 24 (boxV A B d.n cp (4 * d.n) cq l)∧IRow wx (w.heap.size+1) p2)
          case atStart =>
           refine ⟨p1,qs,0,rfl,rfl,rfl,HP.out,HQP.out,?_,B5.out,X5.out,R5.out⟩
           first
            | exact Q6.out
            | (have h6:=Q6.out;rw [HQ0.out,HC.out] at h6;rw [HQ0.out];exact h6)
          case round =>
           clear B5 X5 R5 HP HQP Q6
           obtain ⟨p2,qs2,s,hsg,rfl,hum,hlq2,hpq,hown2,b6,x6,r6⟩:=hrel
           have HSG:=hide hsg
           have HUM:=hide hum
           have HQ2:=hide hlq2
           have HPQ:=hide hpq
           have HO2:=hide hown2
           have hs4:s≤4:=by omega
           have HL2:=hide hlq2.len
           obtain ⟨g2,off2,cap2,rfl,hg20,hg21,hcl2,hcm2,_⟩:=hown2.cells
           unfold maxLen at hcm2
           clear hsg hum hlq2 hpq hown2
           by_cases hs:s<4
           ·have hi:4 * q+s<4 * d.n:=by omega
            obtain ⟨bb,bo,rfl,hmc⟩:=mate_at hg.m hi
            have hmc':=cell_below hmc b6
            have hnb:=Pl.nb_lt HF.out hqn hs
            have hml:=HF.out.lt _ hi
            have hnl:Pl.nb d q s<p2.length:=by have:=HL2.out;omega
            have c7:=r6.cell hnl
            have f7:=Row.free r6 (Pl.nb d q s)
            have B6:=hide b6
            have X6:=hide x6
            have R6:=hide r6
            have x7:=x6.cell (i:=1) (by show 1<3;omega)
            have x7':wr.cell? ⟨w.heap.size,1,none⟩=some (.slice (some ⟨bb,bo,none⟩) (4 * d.n) cq):=x7
            unfold Pl.nb at c7 f7
            clear b6 x6 r6 x7 hmc
            by_cases hneg:Pl.pv p2 (d.m (4 * q+s) / 4)<0
            ·obtain ⟨wq,rfl⟩:∃wq:World,wq=wr:=⟨_,rfl⟩
             have hq65:qs2.length≤1000:=by
              have h1:=HUM.out
              have h2:=HGN.out
              rw [List.length_cons] at h2
              omega
             obtain ⟨i0,hi0,hz0,hz1,hz2⟩:=info_parts intInfo
             have hwz2:w.heap.size+2≤wq.heap.size:=by have:=R6.out.lt;omega
             have HC1:=hide (show ((wq.setCell ⟨w.heap.size+1,d.m (4 * q+s) / 4,none⟩ (.int .i64 P)).alloc (.cells #[.int .i64 ((d.m (4 * q+s):Int) / 4)] 3)).cell? ((⟨wq.heap.size,0,none⟩:Addr).add 0)=some (.int .i64 ((d.m (4 * q+s):Int) / 4)) by
              have h8:=Lib.cell_of_heap (heap_alloc_new (wq.setCell ⟨w.heap.size+1,d.m (4 * q+s) / 4,none⟩ (.int .i64 P)) (.cells #[.int .i64 ((d.m (4 * q+s):Int) / 4)] 3)) 0
              simpa [Addr.add] using h8)
             go_wp2_with (at_builtin;refine wpList_append_tail _ rfl _ _ 22 rfl (w.heap.size+2) 3 i0 (.int .i64 0) 8 Tryz.underlying22 hi0 hz0 hz1 hz2 rfl (.slice (some ⟨g2,off2,none⟩) qs2.length cap2) qs2.length (qs2.map (fun q:Nat=>Value.int .i64 q)) (by rfl) (OwnT.below (OwnT.keep HO2.out (w':=wq.setCell ⟨w.heap.size+1,d.m (4 * q+s) / 4,none⟩ (.int .i64 P)) (fun g h1 h2 h3=>Below.heap_setCell _ _ _ _ (by simp;omega))) ((Below.refl _ _).alloc (Nat.le_refl _) _)) ⟨wq.heap.size,0,none⟩ 1 (.int .i64 ((d.m (4 * q+s):Int) / 4)) (by rfl) HC1.out rfl (by unfold maxLen;omega) (by omega) (by simp;omega) ?_;intro v7 w7 own7 grow7)
             have hne2:(Value.slice (some ⟨g2,off2,none⟩) qs2.length cap2).ownBlock=some g2:=rfl
             rw [hne2] at grow7
             go_roundg (gk - 1)
             case measure=>have:=HSG.out;omega
             case rel =>
              have hu:=Pl.unl_set (ps:=p2) (i:=Pl.nb d q s) (by have:=HL2.out;omega) hneg (v:=(P:Int)) (by omega)
              refine ⟨p2.set (Pl.nb d q s) P,qs2++[Pl.nb d q s],s+1,by have:=HSG.out;omega,by go_num,?_,HQ2.out.push HF.out hqn HPQ.out hs hneg,?_,?_,?_,?_,?_⟩
              ·have:=HUM.out;rw [List.length_append,List.length_singleton];omega
              ·rw [Pl.pv_set (by have:=HL2.out;omega)];split;rfl;exact HPQ.out
              ·rw [List.length_append,List.length_singleton,List.map_append]
               have e9:(Value.int .i64 ((Pl.nb d q s:Nat):Int))=Value.int .i64 ((d.m (4 * q+s):Int) / 4):=by
                congr 1
               rw [List.map_cons,List.map_nil,e9]
               exact own7
              ·exact (Below.alloc (B6.out.setCell (by simp) _) (by simp;omega) _).grown grow7 (by simp;omega) (fun k hk=>by injection hk with hk;omega)
              ·exact Row.grown ((X6.out.other (by simp) _).alloc _) grow7 (by intro e;injection e with e;omega)
              ·exact Row.grown (Row.alloc (R6.out.set _ P) _) grow7 (by intro e;injection e with e;omega)
            ·go_wp2
             go_roundg (gk - 1)
             case measure=>have:=HSG.out;omega
             case rel =>
              exact ⟨p2,qs2,s+1,by have:=HSG.out;omega,by go_num,HUM.out,HQ2.out.skip (by unfold Pl.nb;omega),HPQ.out,HO2.out,B6.out,X6.out,R6.out⟩
           ·have hs4':s=4:=by omega
            have B6:=hide b6
            have X6:=hide x6
            have R6:=hide r6
            clear b6 x6 r6
            go_wp2
            go_roundg (Pl.unl p1+qs.length)
            case measure=>have:=HGK.out;rw [List.length_cons] at this;omega
            case rel =>
             exact ⟨p2,qs2,HUM.out.symm,by have h8:=HUM.out;have h9:=HGN.out;rw [List.length_cons] at h9;omega,by have h7:=HQ2.out;rw [hs4'] at h7;exact h7.rest,HO2.out,B6.out,X6.out,R6.out⟩
    ·have hjn':j=d.n:=by omega
     have B3:=hide b3
     have R3:=hide r3
     have hwz3:w.heap.size+1<wr.heap.size:=r3.lt
     clear b3 x3 r3 hlen
     go_wp2
     go_ret2
     exact ⟨ps,P,w.heap.size+1,rfl,HL.out,fun a ha=>HA.out a (by omega),by omega,R3.out,B3.out⟩
theorem label_m (d:Pl.Dg)(hd:Pl.Wf d)(A B:Option Addr)(cp cq m:Nat)(l:Value)(w:World)(hm:m=4 * d.n)(hg:DgAt w A B d) :
 Calls Tryz.prog 61 #[.agg #[.slice A d.n cp,.slice B m cq,l]] w fun e w' =>
  ∃(ps:List Int) (P g:Nat),e = .returned (.tuple #[.slice (some ⟨g,0,none⟩) d.n d.n,.int .i64 (P:Int)])∧Pl.LB d ps P∧(∀a,a<d.n→0≤Pl.pv ps a)∧w.heap.size≤g∧IRow w' g ps∧Below w.heap.size w w':=by
 subst hm;exact label_any d hd A B cp cq l w hg
end Go.Proofs.YtdgliimmnnhhjaaGreatDoor
end
