/-
  The texts Jf.
-/
import Derived.Test.YtdgliimmnnhhjaaGreatDoorU42
set_option linter.unusedVariables false
set_option linter.unusedSimpArgs false
section
namespace Go.Proofs.YtdgliimmnnhhjaaGreatDoor
open Go Go.RowKit
attribute [local go_sem ↓] Go.wp_at_zero Go.wp_at_succ
def PmL (n:Nat)(cs:List Int):Prop:=(∀i,i<n→0≤Pl.pv cs i∧Pl.pv cs i<n)∧∀i j,i<n→j<n→Pl.pv cs i=Pl.pv cs j→i=j
def tauF (n:Nat)(σ:Nat→Nat)(c:Nat):Nat:=(Pl.pv (rnA n σ n) c).toNat
def rnF (d:Pl.Dg)(σ:Nat→Nat):Pl.Dg:=rnE d σ (tauF d.n σ)
theorem inv_tau {n:Nat}{σ:Nat→Nat}(h1:∀i,i<n→σ i<n)(h2:∀i j,i<n→j<n→σ i=σ j→i=j):Inv2 n σ (tauF n σ):=by
 have key:∀i,i<n→tauF n σ (σ i)=i:=fun i hi=>by
  have h:=sct_at (f:=σ) (g:=fun i=>(i:Int)) (z:=List.replicate n 0) (by simpa using h1) (by simpa using h2) n (by simp) i hi
  unfold tauF rnA Pl.pv
  rw [List.getD_eq_getElem?_getD,h];rfl
 refine ⟨fun i hi=>⟨h1 i hi,key i hi⟩,fun c hc=>?_⟩
 have hb:Pl.Bij n (fun c=>c<n) σ:=⟨fun _ h=>h,h1,h2⟩
 obtain ⟨p,hp,_,e⟩:=hb.back hc
 have:p=(p - 1)+1:=by omega
 rw [this] at e
 have e2:σ (Pl.it σ (p - 1) c)=c:=e
 have l:=hb.it (p - 1) c hc
 have k:=key _ l
 rw [e2] at k
 rw [k]
 exact ⟨l,e2⟩
theorem rnD_rnF {d:Pl.Dg}(hd:Pl.Wf d){σ:Nat→Nat}{num:List Int}(h:Pl.Nmb d.n σ num d.n):Pl.rnD d σ num=rnF d σ:=by
 have hi:=inv_tau h.lt (fun i j hi hj e=>h.inj hi hj e)
 have ht:∀c,c<d.n→Pl.pv num c=(tauF d.n σ c:Nat):=fun c hc=>by
  obtain ⟨i,i1,i2,i3⟩:=h.all hc
  rw [i3,←i2,(hi.1 i i1).2]
 have hl:∀x,x<4 * d.n→Pl.hf σ x<4 * d.n:=fun x hx=>by have:=h.lt (x / 4) (by omega);unfold Pl.hf;omega
 unfold Pl.rnD rnF rnE
 congr 1
 ·unfold Pl.rsg
  refine List.map_congr_left fun j hj=>?_
  rw [if_pos (List.mem_range.1 hj)]
 ·unfold Pl.rmt
  rw [List.map_map]
  refine List.map_congr_left fun x hx=>?_
  have hx:=List.mem_range.1 hx
  show (if x<4 * d.n then _ else (0:Int)).toNat=_
  have hm:=hd.lt _ (hl x hx)
  rw [if_pos hx,ht _ (by omega)]
  unfold Pl.hf
  omega
set_option maxRecDepth 100000 in
set_option maxHeartbeats 8000000 in
theorem renumber_pm (d:Pl.Dg)(hd:Pl.Valid d)(A B C:Option Addr)(cp cq m nc cc:Nat)(cs:List Int)(w:World)(hm:m=4 * d.n)(hg:DgAt w A B d)(hc:IntsAt w C nc cs)(hnc:nc=d.n)(hp:PmL d.n cs) :
 Calls Tryz.prog 23 #[.agg #[.slice A d.n cp,.slice B m cq,.int .i64 d.lp],.slice C nc cc] w fun e w'=>∃(A9 B9:Option Addr) (c8 c9:Nat),e = .returned (.tuple #[.agg #[.slice A9 d.n c8,.slice B9 (4 * d.n) c9,.int .i64 d.lp],.int .i64 0])∧DgT w' A9 B9 (rnF d (fun i=>(Pl.pv cs i).toNat))∧Below w.heap.size w w':=by
 subst hnc
 have HP:=hide hp
 clear hp
 have HM:=hide hm
 have HG:=hide hg
 have HCS:=hide hc
 have HCL:=hide hc.len
 have hn:=hd.wf.few
 have hlp:=hd.wf.lp
 have HD:=hide hd
 clear hm hg hc
 have X0:=hide ((row_at (W:=w) (g:=w.heap.size) (t:=24) (vs:=[.slice A d.n cp,.slice B m cq,.int .i64 (d.lp:Int)]) rfl).alloc (.cells #[.slice none 0 0,.slice none 0 0,.int .i64 0] 24))
 have S0:=hide (row_at (W:=w.alloc (.cells #[.slice A d.n cp,.slice B m cq,.int .i64 (d.lp:Int)] 24)) (g:=w.heap.size+1) (t:=24) (vs:=[.slice none 0 0,.slice none 0 0,.int .i64 0]) (by simp))
 have B0:=hide (show Below w.heap.size w ((w.alloc (.cells #[.slice A d.n cp,.slice B m cq,.int .i64 (d.lp:Int)] 24)).alloc (.cells #[.slice none 0 0,.slice none 0 0,.int .i64 0] 24)) from ((Below.refl _ _).alloc (Nat.le_refl _) _).alloc (by simp) _)
 go_enter Tryz.func23,Tryz.ntmps23
 go_wp2_with fail
 refine (valid_yes d hd A B cp cq m _ HM.out (HG.out.keep B0.out)).mono ?_
 rintro e w1 ⟨rfl,hb1⟩
 have X1:=hide (X0.out.below hb1)
 have S1:=hide (S0.out.below hb1)
 have B1:=hide (B0.out.trans (hb1.mono B0.out.size))
 clear hb1 X0 S0 B0
 obtain ⟨d0,d1,d2,d3⟩:=box3 X1.out
 obtain ⟨f0,f1,f2,f3⟩:=box3 S1.out
 ·obtain ⟨n,hnn⟩:∃n,n=d.n:=⟨_,rfl⟩
  have HN:=hide hnn
  have hmk:=run_ints d.n (by omega) w1
  have Q2:=hide (show NQ w [.slice A d.n cp,.slice B m cq,.int .i64 (d.lp:Int)] w1.heap.size (Pl.fil d.n 0) (w1.alloc (.cells (Array.replicate d.n (Value.int .i64 0)) 3)) from
   ⟨X1.out.alloc _,S1.out.alloc _,by rw [Pl.fil_zero];exact IRow.made w1 d.n,B1.out.alloc B1.out.size _,S1.out.lt⟩)
  obtain ⟨gn,hgn⟩:∃g,g=w1.heap.size:=⟨_,rfl⟩
  obtain ⟨W2,hW2⟩:∃W:World,W=w1.alloc (.cells (Array.replicate d.n (Value.int .i64 0)) 3):=⟨_,rfl⟩
  rw [←hW2,←hgn] at Q2
  go_wp2
  rw [←hW2,←hgn]
  clear hmk hW2 hgn d0 d1 d2 d3 f0 f1 f2 f3
  go_loopg [8,32] d.n (fun g s8 s32 wx=>∃k:Nat,k+g=d.n∧s32 = .int .i64 (k:Int)∧NQ w [.slice A d.n cp,.slice B m cq,.int .i64 (d.lp:Int)] gn (Pl.fil d.n k) wx)
  case atStart=>exact ⟨0,by omega,rfl,Q2.out⟩
  case round =>
   clear Q2
   obtain ⟨k,hkg,rfl,hq⟩:=hrel
   have HKG:=hide hkg
   have Q:=hide hq
   have hkn:k≤d.n:=by omega
   clear hkg hq
   by_cases hk:k<d.n
   ·have hki:(k:Int)<(d.n:Int):=by omega
    have k0:(0:Int)≤(k:Int):=by omega
    have c1:=Q.out.nr.cell (i:=k) (by rw [Pl.fil_len];exact hk)
    have f1:=Row.free Q.out.nr k
    go_wp2
    go_roundg (gk - 1)
    case measure=>have:=HKG.out;omega
    case rel=>exact ⟨k+1,by have:=HKG.out;omega,by go_num,by rw [←Pl.fil_set hk];exact Q.out.setN k (-1)⟩
   ·have hki:¬((k:Int)<(d.n:Int)):=by omega
    have hkk:k=d.n:=by omega
    have Q3:=hide (show NQ w [.slice A d.n cp,.slice B m cq,.int .i64 (d.lp:Int)] gn (List.replicate d.n (-1)) wr by rw [←Pl.fil_done,←hkk];exact hkk ▸ Q.out)
    clear Q HKG hkk
    go_wp2
    go_loopg [9,10,41] d.n (fun g s9 s10 s41 wx=>∃(k:Nat) (num:List Int),k+g=d.n∧s41 = .int .i64 (k:Int)∧Pl.Nmb d.n (fun i=>(Pl.pv cs i).toNat) num k∧(∀j,j<k→0≤Pl.pv cs j)∧NQ w [.slice A d.n cp,.slice B m cq,.int .i64 (d.lp:Int)] gn num wx)
    case atStart=>exact ⟨0,_,by omega,rfl,Pl.Nmb.start _ _,fun j hj=>absurd hj (by omega),Q3.out⟩
    case round =>
     clear Q3
     obtain ⟨k,num,hkg,rfl,hnm,hnn,hq⟩:=hrel
     have HNN:=hide hnn
     clear hnn
     have HKG:=hide hkg
     have HNM:=hide hnm
     have Q:=hide hq
     have hkn:k≤d.n:=by omega
     clear hkg hq hnm
     by_cases hk:k<d.n
     ·have hki:(k:Int)<(d.n:Int):=by omega
      have k0:(0:Int)≤(k:Int):=by omega
      obtain ⟨b,o,rfl,x1⟩:=(HCS.out.keep Q.out.bel).at_ hk
      obtain ⟨u,hu⟩:∃u,u=Pl.pv cs k:=⟨_,rfl⟩
      rw [show cs.getD k 0=u from hu.symm] at x1
      have HU:=hide hu
      obtain ⟨f0,f1,f2,f3⟩:=box3 Q.out.res
      clear hu
      by_cases h1:u<0
      ·exact absurd (HP.out.1 k hk).1 (by rw [←HU.out];omega)
      ·obtain ⟨c,rfl⟩:=Int.eq_ofNat_of_zero_le (show 0≤u by omega)
       have t1:decide ((c:Int)<0)=false:=by simp
       by_cases h2:d.n≤c
       ·exact absurd (HP.out.1 k hk).2 (by rw [←HU.out];omega)
       ·have t2:decide ((d.n:Int)≤(c:Int))=false:=by simp;omega
        have hcn:c<d.n:=by omega
        have c1:=Q.out.nr.cell (i:=c) (by rw [HNM.out.len];exact hcn)
        have fr1:=Row.free Q.out.nr c
        obtain ⟨z,hz⟩:∃z,z=Pl.pv num c:=⟨_,rfl⟩
        rw [←hz] at c1
        have HZ:=hide hz
        clear h1 h2 hz
        by_cases h3:0≤z
        ·exfalso
         rcases HNM.out.no c hcn with h4 | ⟨i,h4,h5⟩
         ·rw [←HZ.out] at h4;omega
         ·have h6:=(HP.out.1 i (by omega)).1
          have h7:Pl.pv cs i=Pl.pv cs k:=by rw [←HU.out];have h5:(Pl.pv cs i).toNat=c:=h5;omega
          have:=HP.out.2 i k (by omega) hk h7
          omega
        ·have t3:decide ((0:Int)≤z)=false:=by simpa using h3
         have ec:(Pl.pv cs k).toNat=c:=by rw [←HU.out];rfl
         have HST:=hide (show Pl.Nmb d.n (fun i=>(Pl.pv cs i).toNat) (num.set c (k:Int)) (k+1) by
          have h:=HNM.out.step (k:=k) (by show (Pl.pv cs k).toNat<d.n;rw [ec];exact hcn) (by show Pl.pv num (Pl.pv cs k).toNat<0;rw [ec,←HZ.out];omega)
          have h':Pl.Nmb d.n (fun i=>(Pl.pv cs i).toNat) (num.set (Pl.pv cs k).toNat (k:Int)) (k+1):=h
          rwa [ec] at h')
         have HNN2:=hide (show ∀j,j<k+1→0≤Pl.pv cs j from fun j hj=>by
          by_cases e:j=k
          ·rw [e,←HU.out];exact Int.natCast_nonneg c
          ·exact HNN.out j (by omega))
         clear h3 ec
         go_wp2
         go_roundg (gk - 1)
         case measure=>have:=HKG.out;omega
         case rel=>exact ⟨k+1,_,by have:=HKG.out;omega,by go_num,HST.out,HNN2.out,Q.out.setN c k⟩
     ·have hki:¬((k:Int)<(d.n:Int)):=by omega
      have hkk:k=d.n:=by omega
      have HNM2:=hide (show Pl.Nmb d.n (fun i=>(Pl.pv cs i).toNat) num d.n by rw [←hkk];exact hkk ▸ HNM.out)
      have HNN2:=hide (show ∀j,j<d.n→0≤Pl.pv cs j by rw [←hkk];exact HNN.out)
      clear HKG hkk HNM HNN
      go_upto_region 19 with fail
      have X4:=hide (show NQ w [.slice A d.n cp,.slice B m cq,.int .i64 (d.lp:Int)] gn num wr.drew from Q.out.below (Below.refl _ _).drew)
      obtain ⟨d0,d1,d2,d3⟩:=box3 Q.out.box
      have hwr:w.heap.size<wr.heap.size:=Q.out.box.lt
      have hwr1:w.heap.size<wr.heap.size+1:=by omega
      have hwr2:w.heap.size<wr.heap.size+1+1:=by omega
      have hwp:IntKind.i64.wrap (4 * (d.n:Int))=4 * (d.n:Int):=IntWalk.i64_in _ (by omega)
      have hmk:=fun W:World=>run_ints d.n (by omega) W
      have hmk4:∀W:World,(Instr.makeSlice 22 (.int .i64 (4 * (d.n:Int))) (.int .i64 (4 * (d.n:Int)))).run Tryz.prog W = .ok (.slice (some ⟨W.heap.size,0,none⟩) (4 * d.n) (4 * d.n)) (W.alloc (.cells (Array.replicate (4 * d.n) (Value.int .i64 0)) 3)):=fun W=>run_ints (4 * d.n) (by omega) W
      go_cut [11] from 66 to 73 (fun s11 wx=>∃gr gs gm:Nat,s11 = .pointer (some ⟨gr,0,none⟩)∧Row wx gr 24 [.slice (some ⟨gs,0,none⟩) d.n d.n,.slice (some ⟨gm,0,none⟩) (4 * d.n) (4 * d.n),.int .i64 (d.lp:Int)]∧IRow wx gs (List.replicate d.n 0)∧IRow wx gm (List.replicate (4 * d.n) 0)∧gs≠gm∧gr≠gs∧gr≠gm∧wr.heap.size≤gr∧wr.heap.size≤gs∧wr.heap.size≤gm∧Below wr.heap.size wr wx)
      case first =>
       go_region
       all_goals (go_wp2_with fail;go_meet)
       all_goals (
        apply Exists.intro
        apply Exists.intro
        apply Exists.intro
        refine ⟨rfl,?_,?_,?_,?_,?_,?_,?_,?_,?_,?_⟩
        ·repeat (first
          | (with_reducible refine Row.drew ?_)
          | (with_reducible refine row_new3 _ _ _ _ _ ?_)
          | (with_reducible refine Row.alloc ?_ _))
         all_goals simp
        ·repeat (first
          | (with_reducible refine IRow.dr ?_)
          | (with_reducible refine irow_new _ _ _ ?_)
          | (with_reducible refine IRow.al ?_ _))
         all_goals simp
        ·repeat (first
          | (with_reducible refine IRow.dr ?_)
          | (with_reducible refine irow_new _ _ _ ?_)
          | (with_reducible refine IRow.al ?_ _))
         all_goals simp
        ·omega
        ·omega
        ·omega
        ·omega
        ·omega
        ·omega
        ·refine BB.b ?_
         repeat (first
          | (with_reducible exact BB.refl _)
          | (with_reducible refine BB.drew ?_)
          | (with_reducible refine BB.alloc ?_ _)))
      case rest =>
       obtain ⟨gr,gs,gm,rfl,hr,hs,hmr,n1,n2,n3,l1,l2,l3,hb⟩:=hcut
       obtain ⟨wz,hwz⟩:∃W,W=wc:=⟨_,rfl⟩
       rw [←hwz] at hr hs hmr hb ⊢
       have hgn:gn<wr.heap.size:=Q.out.nr.lt
       have P4:=hide (show RQ w [.slice A d.n cp,.slice B m cq,.int .i64 (d.lp:Int)] gn gr gs gm d.n (d.lp:Int) num (Pl.rsg d (fun i=>(Pl.pv cs i).toNat) 0) (Pl.rmt d (fun i=>(Pl.pv cs i).toNat) num 0) wz from
        ⟨Q.out.below hb,hr,by rw [Pl.rsg_zero];exact hs,by rw [Pl.rmt_zero];exact hmr,n1,n2,n3,by omega,by omega,by omega,Q.out.lo⟩)
       clear hwz hr hs hmr hb hmk hmk4 X4 d0 d1 d2 d3 l1 l2 l3 n1 n2 n3 hgn hwr hwr1 hwr2 hwp Q
       go_wp2
       go_loopg [12,13,76] d.n (fun g s12 s13 s76 wx=>∃k:Nat,k+g=d.n∧s76 = .int .i64 (k:Int)∧RQ w [.slice A d.n cp,.slice B m cq,.int .i64 (d.lp:Int)] gn gr gs gm d.n (d.lp:Int) num (Pl.rsg d (fun i=>(Pl.pv cs i).toNat) k) (Pl.rmt d (fun i=>(Pl.pv cs i).toNat) num (4 * k)) wx)
       case atStart=>exact ⟨0,by omega,rfl,P4.out⟩
       case round =>
        clear P4
        obtain ⟨k,hkg,rfl,hq⟩:=hrel
        have HKG:=hide hkg
        have Q:=hide hq
        have hkn:k≤d.n:=by omega
        clear hkg hq
        by_cases hk:k<d.n
        ·have hki:(k:Int)<(d.n:Int):=by omega
         have k0:(0:Int)≤(k:Int):=by omega
         obtain ⟨b,o,rfl,x1⟩:=(HCS.out.keep Q.out.q.bel).at_ hk
         have hcl:=HNM2.out.lt k hk
         obtain ⟨u,hu⟩:∃u,u=Pl.pv cs k:=⟨_,rfl⟩
         rw [show cs.getD k 0=u from hu.symm] at x1
         have hu0:0≤u:=by rw [hu];exact HNN2.out k hk
         obtain ⟨c,rfl⟩:=Int.eq_ofNat_of_zero_le hu0
         have hcs:(Pl.pv cs k).toNat=c:=by rw [←hu];rfl
         have hcn:c<d.n:=by rw [←hcs];exact hcl
         have HC:=hide hcs
         have c0:(0:Int)≤(c:Int):=by omega
         have hci:(c:Int)<(d.n:Int):=by omega
         obtain ⟨b1,o1,rfl,y1⟩:=(HG.out.keep Q.out.q.bel).sign hcn
         obtain ⟨z,hz⟩:∃z,z=d.s c:=⟨_,rfl⟩
         rw [←hz] at y1
         have HZ:=hide hz
         obtain ⟨d0,d1,d2,d3⟩:=box3 Q.out.q.box
         obtain ⟨r0,r1,r2,r3⟩:=box3 Q.out.r
         clear hcl hu hu0 hcs hz
         go_upto_region 23 with fail
         go_still_tail 9,(by kernel_rfl)
         change wpList _ _ _ _ _ wr.drew
         obtain ⟨W6,hW6⟩:∃W6:World,W6=wr.drew:=⟨_,rfl⟩
         rw [←hW6]
         have Q6:=hide (show RQ w [.slice (some ⟨b1,o1,none⟩) d.n cp,.slice B m cq,.int .i64 (d.lp:Int)] gn gr gs gm d.n (d.lp:Int) num (Pl.rsg d (fun i=>(Pl.pv cs i).toNat) k) (Pl.rmt d (fun i=>(Pl.pv cs i).toNat) num (4 * k)) W6 by
          rw [hW6];exact Q.out.below (Below.refl _ _).drew)
         clear hW6 d0 d1 d2 d3 r0 r1 r2 r3 x1 y1 Q
         have cs1:=Q6.out.s.cell (i:=k) (by rw [Pl.rsg_len];exact hk)
         have fs:=Row.free Q6.out.s k
         have Q7:=hide (show RQ w [.slice (some ⟨b1,o1,none⟩) d.n cp,.slice B m cq,.int .i64 (d.lp:Int)] gn gr gs gm d.n (d.lp:Int) num (Pl.rsg d (fun i=>(Pl.pv cs i).toNat) (k+1)) (Pl.rmt d (fun i=>(Pl.pv cs i).toNat) num (4 * k)) (W6.setCell ⟨gs,k,none⟩ (.int .i64 z)) by
          have h:=Q6.out.setS k z
          have e:(Pl.rsg d (fun i=>(Pl.pv cs i).toNat) k).set k (d.s (Pl.pv cs k).toNat)=_:=Pl.rsg_set hk
          rw [HC.out,←HZ.out] at e
          rwa [e] at h)
         clear Q6
         go_wp2
         clear cs1 fs
         obtain ⟨gK,hgK⟩:∃g,g=gk:=⟨_,rfl⟩
         rw [←hgK] at HKG
         go_loopg [14,15,90] 4 (fun g s14 s15 s90 wx=>∃s:Nat,s+g=4∧s90 = .int .i64 (s:Int)∧RQ w [.slice (some ⟨b1,o1,none⟩) d.n cp,.slice B m cq,.int .i64 (d.lp:Int)] gn gr gs gm d.n (d.lp:Int) num (Pl.rsg d (fun i=>(Pl.pv cs i).toNat) (k+1)) (Pl.rmt d (fun i=>(Pl.pv cs i).toNat) num (4 * k+s)) wx)
         case atStart=>exact ⟨0,by omega,rfl,Q7.out⟩
         case round =>
          clear Q7
          obtain ⟨s,hsg,rfl,hq⟩:=hrel
          have HSG:=hide hsg
          have Q:=hide hq
          have hs4:s≤4:=by omega
          clear hsg hq
          by_cases hs:s<4
          ·have hsi:(s:Int)<4:=by omega
           have s0:(0:Int)≤(s:Int):=by omega
           have hcs:4 * c+s<4 * d.n:=by omega
           obtain ⟨b2,o2,rfl,y1⟩:=mate_at (HG.out.keep Q.out.q.bel).m hcs
           obtain ⟨M,hM⟩:∃M,M=d.m (4 * c+s):=⟨_,rfl⟩
           rw [←hM] at y1
           have hM4:M<4 * d.n:=by rw [hM];exact HD.out.wf.lt _ hcs
           have HMM:=hide hM
           obtain ⟨j,hj,_,hj2⟩:=HNM2.out.all (c:=M / 4) (by omega)
           have HJ:=hide hj2
           have z1:=Q.out.q.nr.cell (i:=M / 4) (by rw [HNM2.out.len];omega)
           rw [hj2] at z1
           clear hM hj2
           obtain ⟨d0,d1,d2,d3⟩:=box3 Q.out.q.box
           have i1:(4:Int) * (c:Int)+(s:Int)<(m:Int):=by have:=HM.out;omega
           have i2:(0:Int)≤(4:Int) * (c:Int)+(s:Int):=by omega
           go_upto_region 28 with fail
           clear y1 d0 d1 d2 d3
           obtain ⟨r0,r1,r2,r3⟩:=box3 Q.out.r
           obtain ⟨t,ht⟩:∃t,t=M / 4:=⟨_,rfl⟩
           obtain ⟨r,hr⟩:∃r,r=M % 4:=⟨_,rfl⟩
           rw [←ht] at z1
           have q0:(M:Int) / 4=(t:Int):=by omega
           have q3:(M:Int) % 4=(r:Int):=by omega
           have q1:(t:Int)<(d.n:Int):=by omega
           have q2:(0:Int)≤(t:Int):=by omega
           have q8:IntKind.i64.wrap (4 * (k:Int))=4 * (k:Int):=IntWalk.i64_in _ (by omega)
           have q9:IntKind.i64.wrap (4 * (k:Int)+(s:Int))=4 * (k:Int)+(s:Int):=IntWalk.i64_in _ (by omega)
           have q4:IntKind.i64.wrap (t:Int)=(t:Int):=IntWalk.i64_in _ (by omega)
           have q5:IntKind.i64.wrap (r:Int)=(r:Int):=IntWalk.i64_in _ (by omega)
           have q6:IntKind.i64.wrap (4 * (j:Int))=4 * (j:Int):=IntWalk.i64_in _ (by omega)
           have q7:IntKind.i64.wrap (4 * (j:Int)+(r:Int))=4 * (j:Int)+(r:Int):=IntWalk.i64_in _ (by omega)
           have HT:=hide ht
           have HR:=hide hr
           clear ht hr
           have i3:(4:Int) * (k:Int)+(s:Int)<4 * (d.n:Int):=by omega
           have i4:(0:Int)≤(4:Int) * (k:Int)+(s:Int):=by omega
           go_still_tail 16,(by kernel_rfl)
           change wpList _ _ _ _ _ wr.drew
           obtain ⟨W6,hW6⟩:∃W6:World,W6=wr.drew:=⟨_,rfl⟩
           rw [←hW6]
           have Q6:=hide (show RQ w [.slice (some ⟨b1,o1,none⟩) d.n cp,.slice (some ⟨b2,o2,none⟩) m cq,.int .i64 (d.lp:Int)] gn gr gs gm d.n (d.lp:Int) num (Pl.rsg d (fun i=>(Pl.pv cs i).toNat) (k+1)) (Pl.rmt d (fun i=>(Pl.pv cs i).toNat) num (4 * k+s)) W6 by
            rw [hW6];exact Q.out.below (Below.refl _ _).drew)
           clear hW6 r0 r1 r2 r3 z1 Q
           have cs1:=Q6.out.m.cell (i:=4 * k+s) (by rw [Pl.rmt_len];omega)
           have fs:=Row.free Q6.out.m (4 * k+s)
           have Q7:=hide (show RQ w [.slice (some ⟨b1,o1,none⟩) d.n cp,.slice (some ⟨b2,o2,none⟩) m cq,.int .i64 (d.lp:Int)] gn gr gs gm d.n (d.lp:Int) num (Pl.rsg d (fun i=>(Pl.pv cs i).toNat) (k+1)) (Pl.rmt d (fun i=>(Pl.pv cs i).toNat) num (4 * k+(s+1))) (W6.setCell ⟨gm,4 * k+s,none⟩ (.int .i64 (4 * (j:Int)+(r:Int)))) by
            have h:=Q6.out.setM (4 * k+s) (4 * (j:Int)+(r:Int))
            have e:(Pl.rmt d (fun i=>(Pl.pv cs i).toNat) num (4 * k+s)).set (4 * k+s) _=_:=Pl.rmt_set (by omega)
            have e2:Pl.hf (fun i=>(Pl.pv cs i).toNat) (4 * k+s)=4 * c+s:=by
             rw [Pl.hf_at _ _ hs,HC.out]
            rw [e2,←HMM.out,HJ.out,←HR.out] at e
            rwa [e] at h)
           clear Q6
           have hoff:(4 * (k:Int)+(s:Int)).toNat=4 * k+s:=by omega
           go_wp2
           go_roundg (gk - 1)
           case measure=>have:=HSG.out;omega
           case rel=>exact ⟨s+1,by have:=HSG.out;omega,by go_num,Q7.out⟩
          ·have hsi:¬((s:Int)<4):=by omega
           have hs4e:s=4:=by omega
           have Q8:=hide (show RQ w [.slice (some ⟨b1,o1,none⟩) d.n cp,.slice B m cq,.int .i64 (d.lp:Int)] gn gr gs gm d.n (d.lp:Int) num (Pl.rsg d (fun i=>(Pl.pv cs i).toNat) (k+1)) (Pl.rmt d (fun i=>(Pl.pv cs i).toNat) num (4 * (k+1))) wr by
            have h:=Q.out
            rw [hs4e] at h
            exact h)
           clear Q hs4e HSG
           go_wp2
           go_roundg (gK - 1)
           case measure=>have:=HKG.out;omega
           case rel=>exact ⟨k+1,by have:=HKG.out;omega,by go_num,Q8.out⟩
        ·have hki:¬((k:Int)<(d.n:Int)):=by omega
         have hkk:k=d.n:=by omega
         obtain ⟨d0,d1,d2,d3⟩:=box3 Q.out.r
         obtain ⟨f0,f1,f2,f3⟩:=box3 Q.out.q.res
         have ne:=Q.out.n2
         go_wp2
         refine bodyPost_ret (v := .tuple #[.agg #[.slice (some ⟨gs,0,none⟩) d.n d.n,.slice (some ⟨gm,0,none⟩) (4 * d.n) (4 * d.n),.int .i64 (d.lp:Int)],.int .i64 0]) ?_ rfl ?_
         ·obtain ⟨r0,r1,r2,r3⟩:=box3 (row3 Q.out.q.res rfl (.slice (some ⟨gs,0,none⟩) d.n d.n) (.slice (some ⟨gm,0,none⟩) (4 * d.n) (4 * d.n)) (.int .i64 (d.lp:Int)))
          simp [results,Tryz.results23,go_sem,r0,r1,r2]
         ·have hlo:=Q.out.lo
          have hl2:=Q.out.l2
          have hl3:=Q.out.l3
          have hrs:=Q.out.s
          have hrm:=Q.out.m
          rw [hkk] at hrs hrm
          refine ⟨some ⟨gs,0,none⟩,some ⟨gm,0,none⟩,⟨d.n,4 * d.n,rfl⟩,?_,below3 Q.out.q.bel (by omega) _ _ _⟩
          rw [←rnD_rnF HD.out.wf HNM2.out]
          refine ⟨?_,?_⟩
          ·rw [Pl.rnD_n]
           exact (IRow.T (Row.other (Row.other (Row.other hrs (by show gs≠w.heap.size+1;omega) _) (by show gs≠w.heap.size+1;omega) _) (by show gs≠w.heap.size+1;omega) _) (Pl.rsg_len _ _ _))
          ·rw [Pl.rnD_n]
           have e:=Pl.rnD_nats HD.out.wf HNM2.out
           have e2:nats (Pl.rnD d (fun i=>(Pl.pv cs i).toNat) num).mt=Pl.rmt d (fun i=>(Pl.pv cs i).toNat) num (4 * d.n):=e
           rw [e2]
           exact (IRow.T (Row.other (Row.other (Row.other hrm (by show gm≠w.heap.size+1;omega) _) (by show gm≠w.heap.size+1;omega) _) (by show gm≠w.heap.size+1;omega) _) (Pl.rmt_len _ _ _ _))
end Go.Proofs.YtdgliimmnnhhjaaGreatDoor
end
