/-
  The texts Xe.
-/
import Derived.Test.YtdgliimmnnhhjaaGreatDoorU15
set_option linter.unusedVariables false
set_option linter.unusedSimpArgs false
section
namespace Go.Proofs.YtdgliimmnnhhjaaGreatDoor
open Go Go.RowKit
attribute [local go_sem ↓] Go.wp_at_zero Go.wp_at_succ
def eo (d:Pl.Dg)(o:Nat):Nat:=if Pl.out d o=true then o else d.m o
def ei (d:Pl.Dg)(o:Nat):Nat:=d.m (eo d o)
def pz (d:Pl.Dg)(o:Nat):List Value:=[.int .i64 (Pl.tn (eo d o) 2:Nat),.int .i64 (eo d o:Nat),.int .i64 (ei d o:Nat),.int .i64 (Pl.tn (ei d o) 2:Nat)]
def zz:List Value:=[.int .i64 0,.int .i64 0,.int .i64 0,.int .i64 0]
def isO (d:Pl.Dg)(o:Nat):Bool:=eo d o % 2 == 1 && ei d o % 2 == 1
def isU (d:Pl.Dg)(o:Nat):Bool:=eo d o % 2 == 0 && ei d o % 2 == 0
def th (d:Pl.Dg)(h k:Nat):Nat:=if k=0 then h else if k=1 then Pl.nx d h else Pl.nx d (Pl.nx d h)
def is3 (d:Pl.Dg)(h:Nat):Prop:=Pl.nx d (th d h 2)=h∧h / 4≠th d h 1 / 4∧th d h 1 / 4≠th d h 2 / 4∧h / 4≠th d h 2 / 4
def cntO (d:Pl.Dg)(h k:Nat):Nat:=((List.range k).filter (fun i=>isO d (th d h i))).length
def cntU (d:Pl.Dg)(h k:Nat):Nat:=((List.range k).filter (fun i=>isU d (th d h i))).length
theorem cntO_s (d:Pl.Dg)(h k:Nat):cntO d h (k+1)=cntO d h k+if isO d (th d h k) then 1 else 0:=by
 unfold cntO;rw [List.range_succ,List.filter_append,List.length_append];congr 1;cases hh:isO d (th d h k) <;> simp [hh]
theorem cntU_s (d:Pl.Dg)(h k:Nat):cntU d h (k+1)=cntU d h k+if isU d (th d h k) then 1 else 0:=by
 unfold cntU;rw [List.range_succ,List.filter_append,List.length_append];congr 1;cases hh:isU d (th d h k) <;> simp [hh]
def isT (d:Pl.Dg)(h:Nat):Prop:=is3 d h∧cntO d h 3=1∧cntU d h 3=1
def edg (d:Pl.Dg)(h k:Nat):List Value:=(if 0<k then pz d (th d h 0) else zz)++(if 1<k then pz d (th d h 1) else zz)++(if 2<k then pz d (th d h 2) else zz)
theorem th_lt {d:Pl.Dg}(hd:Pl.Wf d){h:Nat}(hh:h<4 * d.n)(k:Nat):th d h k<4 * d.n:=by
 have a:∀z,z<4 * d.n→Pl.nx d z<4 * d.n:=fun z hz=>Pl.tn_lt (hd.lt z hz)
 unfold th
 split
 ·exact hh
 ·split
  ·exact a _ hh
  ·exact a _ (a _ hh)
theorem eo_lt {d:Pl.Dg}(hd:Pl.Wf d){o:Nat}(hh:o<4 * d.n):eo d o<4 * d.n:=by
 unfold eo;split
 ·exact hh
 ·exact hd.lt o hh
def TriPost (d:Pl.Dg)(h:Nat)(w:World)(e:Ending)(w':World):Prop :=
 (is3 d h→e = .returned (.tuple #[.agg (edg d h 3).toArray,.bool (Pl.vb (isT d h))]))∧(¬is3 d h→e = .returned (.tuple #[.agg (edg d h 0).toArray,.bool false]))∧Below w.heap.size w w'
theorem box12 {W:World}{g:Nat}{t:TypeId}{a0 a1 a2 a3 a4 a5 a6 a7 a8 a9 a10 a11:Value}(h:Row W g t [a0,a1,a2,a3,a4,a5,a6,a7,a8,a9,a10,a11]) :
 W.cell? ⟨g,0,none⟩=some a0∧W.cell? ⟨g,1,none⟩=some a1∧W.cell? ⟨g,2,none⟩=some a2∧W.cell? ⟨g,3,none⟩=some a3∧W.cell? ⟨g,4,none⟩=some a4∧W.cell? ⟨g,5,none⟩=some a5∧W.cell? ⟨g,6,none⟩=some a6∧W.cell? ⟨g,7,none⟩=some a7∧W.cell? ⟨g,8,none⟩=some a8∧W.cell? ⟨g,9,none⟩=some a9∧W.cell? ⟨g,10,none⟩=some a10∧W.cell? ⟨g,11,none⟩=some a11∧∀o,W.frozen? ⟨g,o,none⟩=false :=
 ⟨h.cell (i:=0) (by simp),h.cell (i:=1) (by simp),h.cell (i:=2) (by simp),h.cell (i:=3) (by simp),h.cell (i:=4) (by simp),h.cell (i:=5) (by simp),h.cell (i:=6) (by simp),h.cell (i:=7) (by simp),h.cell (i:=8) (by simp),h.cell (i:=9) (by simp),h.cell (i:=10) (by simp),h.cell (i:=11) (by simp),h.free⟩
theorem row12 {W:World}{g:Nat}{t:TypeId}{vs:List Value}(h:Row W g t vs)(l:vs.length=12)(y0 y1 y2 y3 y4 y5 y6 y7 y8 y9 y10 y11:Value) :
 Row ((((((((((((W.setCell ⟨g,0,none⟩ y0).setCell ⟨g,1,none⟩ y1).setCell ⟨g,2,none⟩ y2).setCell ⟨g,3,none⟩ y3).setCell ⟨g,4,none⟩ y4).setCell ⟨g,5,none⟩ y5).setCell ⟨g,6,none⟩ y6).setCell ⟨g,7,none⟩ y7).setCell ⟨g,8,none⟩ y8).setCell ⟨g,9,none⟩ y9).setCell ⟨g,10,none⟩ y10).setCell ⟨g,11,none⟩ y11) g t [y0,y1,y2,y3,y4,y5,y6,y7,y8,y9,y10,y11]:=by
 obtain ⟨a0,a1,a2,a3,a4,a5,a6,a7,a8,a9,a10,a11,rfl⟩:∃a0 a1 a2 a3 a4 a5 a6 a7 a8 a9 a10 a11,vs=[a0,a1,a2,a3,a4,a5,a6,a7,a8,a9,a10,a11]:=by
  match vs,l with
  | [a0,a1,a2,a3,a4,a5,a6,a7,a8,a9,a10,a11],_=>exact ⟨_,_,_,_,_,_,_,_,_,_,_,_,rfl⟩
 exact (((((((((((h.set 0 y0).set 1 y1).set 2 y2).set 3 y3).set 4 y4).set 5 y5).set 6 y6).set 7 y7).set 8 y8).set 9 y9).set 10 y10).set 11 y11
theorem below_set12 {w W:World}{g:Nat}(h:Below w.heap.size w W)(hg:w.heap.size≤g)(y0 y1 y2 y3 y4 y5 y6 y7 y8 y9 y10 y11:Value) :
 Below w.heap.size w ((((((((((((W.setCell ⟨g,0,none⟩ y0).setCell ⟨g,1,none⟩ y1).setCell ⟨g,2,none⟩ y2).setCell ⟨g,3,none⟩ y3).setCell ⟨g,4,none⟩ y4).setCell ⟨g,5,none⟩ y5).setCell ⟨g,6,none⟩ y6).setCell ⟨g,7,none⟩ y7).setCell ⟨g,8,none⟩ y8).setCell ⟨g,9,none⟩ y9).setCell ⟨g,10,none⟩ y10).setCell ⟨g,11,none⟩ y11) :=
 (((((((((((h.setCell hg _).setCell hg _).setCell hg _).setCell hg _).setCell hg _).setCell hg _).setCell hg _).setCell hg _).setCell hg _).setCell hg _).setCell hg _).setCell hg _
structure TB (w:World) (dv:List Value) (ev:List Value) (W:World):Prop where
 d:Row W w.heap.size 24 dv
 r:Row W (w.heap.size+1) 134 (zz++zz++zz)
 e:Row W (w.heap.size+1+1) 134 ev
 bel:Below w.heap.size w W
section
variable {w W W':World} {dv ev:List Value}
theorem TB.below (h:TB w dv ev W)(hb:Below W.heap.size W W'):TB w dv ev W':=⟨h.d.below hb,h.r.below hb,h.e.below hb,h.bel.trans (hb.mono h.bel.size)⟩
theorem TB.set (h:TB w dv ev W)(o:Nat)(v:Value):TB w dv (ev.set o v) (W.setCell ⟨w.heap.size+1+1,o,none⟩ v) :=
 ⟨h.d.other (by show _≠w.heap.size+1+1;omega) v,h.r.other (by show _≠w.heap.size+1+1;omega) v,h.e.set o v,h.bel.setCell (by show _≤w.heap.size+1+1;omega) v⟩
theorem TB.start (w:World)(x0 x1 x2:Value):TB w [x0,x1,x2] (zz++zz++zz) (((w.alloc (.cells #[x0,x1,x2] 24)).alloc (.cells #[.int .i64 0,.int .i64 0,.int .i64 0,.int .i64 0,.int .i64 0,.int .i64 0,.int .i64 0,.int .i64 0,.int .i64 0,.int .i64 0,.int .i64 0,.int .i64 0] 134)).alloc (.cells #[.int .i64 0,.int .i64 0,.int .i64 0,.int .i64 0,.int .i64 0,.int .i64 0,.int .i64 0,.int .i64 0,.int .i64 0,.int .i64 0,.int .i64 0,.int .i64 0] 134)) :=
 ⟨((row_at (vs:=[_,_,_]) rfl).alloc _).alloc _,(row_at (vs:=[_,_,_,_,_,_,_,_,_,_,_,_]) (by simp)).alloc _,row_at (vs:=[_,_,_,_,_,_,_,_,_,_,_,_]) (by simp),(((Below.refl _ _).alloc (Nat.le_refl _) _).alloc (by simp) _).alloc (by simp;omega) _⟩
end
set_option maxRecDepth 100000 in
set_option maxHeartbeats 4000000 in
theorem triangle_any (d:Pl.Dg)(hd:Pl.Wf d)(A B:Option Addr)(cp cq m h:Nat)(w:World)(hm:m=4 * d.n)(hg:DgAt w A B d)(hh:h<4 * d.n) :
 Calls Tryz.prog 85 #[.agg #[.slice A d.n cp,.slice B m cq,.int .i64 d.lp],.int .i64 (h:Int)] w (TriPost d h w):=by
 have hn:=hd.few
 have HM:=hide hm
 have HG:=hide hg
 have hm2:m≤256:=by omega
 clear hm hg
 have TB0:=hide (TB.start w (.slice A d.n cp) (.slice B m cq) (.int .i64 (d.lp:Int)))
 have h1:=th_lt hd hh 1
 have h2:=th_lt hd hh 2
 obtain ⟨i,hi⟩:∃i,i=th d h 1:=⟨_,rfl⟩
 obtain ⟨j,hj⟩:∃j,j=th d h 2:=⟨_,rfl⟩
 rw [←hi] at h1
 rw [←hj] at h2
 have HI:=hide (show Pl.nx d h=i by rw [hi];rfl)
 have HJ:=hide (show Pl.nx d i=j by rw [hj,hi];rfl)
 have IS:=hide (show is3 d h↔Pl.nx d j=h∧h / 4≠i / 4∧i / 4≠j / 4∧h / 4≠j / 4 by unfold is3;rw [←hi,←hj])
 have HTI:=hide hi
 have HTJ:=hide hj
 clear hi hj
 have ih0:(0:Int)≤(h:Int)∧(h:Int)<(m:Int):=by have:=HM.out;omega
 have ii0:(0:Int)≤(i:Int)∧(i:Int)<(m:Int):=by have:=HM.out;omega
 have ij0:(0:Int)≤(j:Int)∧(j:Int)<(m:Int):=by have:=HM.out;omega
 go_enter Tryz.func85,Tryz.ntmps85
 go_wp2_with fail
 have HGM:=hide (show ∀W,Below w.heap.size w W→IntsAt W B m (nats d.mt) from fun W hb=>by rw [HM.out];exact (HG.out.keep hb).m)
 refine (next_i d hd B cq m (h:Int) _ HM.out ih0 (HGM.out _ TB0.out.bel)).mono ?_
 rintro e w1 ⟨rfl,rfl⟩
 rw [Int.toNat_natCast,HI.out]
 go_wp2_with fail
 refine (next_i d hd B cq m (i:Int) _ HM.out ii0 (HGM.out _ TB0.out.bel)).mono ?_
 rintro e w1 ⟨rfl,rfl⟩
 rw [Int.toNat_natCast,HJ.out]
 obtain ⟨v,hv⟩:∃v,v=Pl.nx d j:=⟨_,rfl⟩
 rw [←hv] at IS
 have HV:=hide hv
 clear hv
 obtain ⟨W0,hW0⟩:∃W0:World,W0=((w.alloc (.cells #[.slice A d.n cp,.slice B m cq,.int .i64 (d.lp:Int)] 24)).alloc (.cells #[.int .i64 0,.int .i64 0,.int .i64 0,.int .i64 0,.int .i64 0,.int .i64 0,.int .i64 0,.int .i64 0,.int .i64 0,.int .i64 0,.int .i64 0,.int .i64 0] 134)).alloc (.cells #[.int .i64 0,.int .i64 0,.int .i64 0,.int .i64 0,.int .i64 0,.int .i64 0,.int .i64 0,.int .i64 0,.int .i64 0,.int .i64 0,.int .i64 0,.int .i64 0] 134):=⟨_,rfl⟩
 rw [←hW0] at TB0 ⊢
 clear hW0
 go_upto_region 4 with fail
 go_cut [48] (fun s48 wx=>s48 = .bool (!Pl.vb (is3 d h))∧wx=W0)
 case first =>
  obtain ⟨d0,d1,d2,d3⟩:=box3 TB0.out.d
  go_wp2_with fail
  refine (next_i d hd B cq m (j:Int) _ HM.out ij0 (HGM.out _ TB0.out.bel)).mono ?_
  rintro e w1 ⟨rfl,rfl⟩
  rw [Int.toNat_natCast,←HV.out]
  by_cases c1:v=h
  ·have t1:((v:Int) != (h:Int))=false:=by rw [bne_eq_false_iff_eq];omega
   by_cases c2:h / 4=i / 4
   ·have t2:((h:Int) / 4 == (i:Int) / 4)=true:=by rw [beq_iff_eq];omega
    have E:=hide (Pl.vb_false (fun h=>(IS.out.1 h).2.1 c2))
    clear c1 c2
    go_wp2_with fail
    go_meet
    exact ⟨by rw [E.out];rfl,rfl⟩
   ·have t2:((h:Int) / 4 == (i:Int) / 4)=false:=by rw [beq_eq_false_iff_ne];omega
    by_cases c3:i / 4=j / 4
    ·have t3:((i:Int) / 4 == (j:Int) / 4)=true:=by rw [beq_iff_eq];omega
     have E:=hide (Pl.vb_false (fun h=>(IS.out.1 h).2.2.1 c3))
     clear c1 c2 c3
     go_wp2_with fail
     go_meet
     exact ⟨by rw [E.out];rfl,rfl⟩
    ·have t3:((i:Int) / 4 == (j:Int) / 4)=false:=by rw [beq_eq_false_iff_ne];omega
     by_cases c4:h / 4=j / 4
     ·have t4:((h:Int) / 4 == (j:Int) / 4)=true:=by rw [beq_iff_eq];omega
      have E:=hide (Pl.vb_false (fun h=>(IS.out.1 h).2.2.2 c4))
      clear c1 c2 c3 c4
      go_wp2_with fail
      go_meet
      exact ⟨by rw [E.out];rfl,rfl⟩
     ·have t4:((h:Int) / 4 == (j:Int) / 4)=false:=by rw [beq_eq_false_iff_ne];omega
      have E:=hide (Pl.vb_true (IS.out.2 ⟨c1,c2,c3,c4⟩))
      clear c1 c2 c3 c4
      go_wp2_with fail
      go_meet
      exact ⟨by rw [E.out];rfl,rfl⟩
  ·have t1:((v:Int) != (h:Int))=true:=by rw [bne_iff_ne];omega
   have E:=hide (Pl.vb_false (fun h=>c1 (IS.out.1 h).1))
   clear c1
   go_wp2_with fail
   go_meet
   exact ⟨by rw [E.out];rfl,rfl⟩
 case rest =>
  obtain ⟨rfl,rfl⟩:=hcut
  by_cases h3:is3 d h
  ·have H3:=hide h3
   rw [Pl.vb_true h3]
   clear h3
   have HTH0:=hide (show h=th d h 0 from rfl)
   obtain ⟨d0,d1,d2,d3⟩:=box3 TB0.out.d
   go_wp2
   go_loopg [9,10,54] 3 (fun g s9 s10 s54 wx=>∃k:Nat,k+g=3∧s54 = .int .i64 k∧s9 = .int .i64 (cntO d h k:Nat)∧s10 = .int .i64 (cntU d h k:Nat)∧TB w [.slice A d.n cp,.slice B m cq,.int .i64 (d.lp:Int)] (edg d h k) wx)
   case atStart=>exact ⟨0,rfl,rfl,rfl,rfl,TB0.out⟩
   case round =>
    clear TB0 d0 d1 d2 d3
    obtain ⟨k,hkg,rfl,rfl,rfl,htb⟩:=hrel
    have HKG:=hide hkg
    have TBk:=hide htb
    clear htb
    have hk4:k=0∨k=1∨k=2∨k=3:=by omega
    clear hkg
    have i0:∀W,(Instr.index 146 (.agg #[.int .i64 (h:Int),.int .i64 (i:Int),.int .i64 (j:Int)]) (.int .i64 0)).run Tryz.prog W = .ok (.int .i64 (h:Int)) W:=fun _=>by kernel_rfl
    have i1:∀W,(Instr.index 146 (.agg #[.int .i64 (h:Int),.int .i64 (i:Int),.int .i64 (j:Int)]) (.int .i64 1)).run Tryz.prog W = .ok (.int .i64 (i:Int)) W:=fun _=>by kernel_rfl
    have i2:∀W,(Instr.index 146 (.agg #[.int .i64 (h:Int),.int .i64 (i:Int),.int .i64 (j:Int)]) (.int .i64 2)).run Tryz.prog W = .ok (.int .i64 (j:Int)) W:=fun _=>by kernel_rfl
    rcases hk4 with rfl | rfl | rfl | rfl
    ·-- round 0
     have hO:h<4 * d.n:=by first | exact hh | exact h1 | exact h2
     have EO:=hide (eo_lt hd hO)
     obtain ⟨d0,d1,d2,d3⟩:=box3 TBk.out.d
     go_wp2_with fail
     refine (out2_n d A B d.n cp m cq (.int .i64 (d.lp:Int)) h _ rfl hO (by omega) (HG.out.keep TBk.out.bel).s).mono ?_
     rintro e w1 ⟨rfl,hb1⟩
     have TB1:=hide (TBk.out.below hb1)
     clear hb1 d0 d1 d2 d3
     go_upto_if 61 with fail
     go_cut [12] (fun s12 wx=>s12 = .int .i64 (eo d h:Nat)∧TB w [.slice A d.n cp,.slice B m cq,.int .i64 (d.lp:Int)] (edg d h 0) wx)
     case first =>
      cases ho:Pl.out d h with
      | true =>
        have E:=hide (show eo d h=h by unfold eo;rw [if_pos ho])
        clear ho
        go_wp2_with fail
        go_meet
        exact ⟨by rw [E.out],TB1.out⟩
      | false =>
        have E:=hide (show eo d h=d.m h by unfold eo;rw [if_neg (by rw [ho];decide)])
        clear ho
        obtain ⟨d0,d1,d2,d3⟩:=box3 TB1.out.d
        obtain ⟨mb,mo,rfl,cm⟩:=mate_at (HG.out.keep TB1.out.bel).m hO
        have io0:(0:Int)≤(h:Int):=by omega
        have io1:(h:Int)<(m:Int):=by have:=HM.out;omega
        go_wp2_with fail
        go_meet
        exact ⟨by rw [E.out],TB1.out⟩
     case rest =>
      obtain ⟨rfl,htb⟩:=hcut
      have TB2:=hide htb
      clear htb TBk TB1
      have heo:=EO.out
      obtain ⟨e,he⟩:∃e,e=eo d h:=⟨_,rfl⟩
      rw [←he] at heo ⊢
      have hei:=hd.lt e heo
      have HE:=hide he
      clear he
      obtain ⟨d0,d1,d2,d3⟩:=box3 TB2.out.d
      obtain ⟨mb,mo,rfl,cm⟩:=mate_at (HG.out.keep TB2.out.bel).m heo
      obtain ⟨u,hu⟩:∃u,u=d.m e:=⟨_,rfl⟩
      rw [←hu] at cm hei
      have HU:=hide (show ei d h=u by unfold ei;rw [←HE.out,hu])
      clear hu
      have io0:(0:Int)≤(e:Int):=by omega
      have io1:(e:Int)<(m:Int):=by have:=HM.out;omega
      go_wp2_with fail
      refine (opp_i (e:Int) _ (by omega)).mono ?_
      rintro en w1 ⟨rfl,rfl⟩
      go_wp2_with fail
      refine (opp_i (u:Int) _ (by omega)).mono ?_
      rintro en w1 ⟨rfl,rfl⟩
      try rw [Int.toNat_natCast]
      have EQ:=hide (show edg d h (0+1)=((((edg d h 0).set (4 * 0) (.int .i64 (Pl.tn e 2:Nat))).set (4 * 0+1) (.int .i64 (e:Int))).set (4 * 0+2) (.int .i64 (u:Int))).set (4 * 0+3) (.int .i64 (Pl.tn u 2:Nat)) by
       have hz:pz d h=[.int .i64 (Pl.tn e 2:Nat),.int .i64 (e:Int),.int .i64 (u:Int),.int .i64 (Pl.tn u 2:Nat)]:=by unfold pz;rw [HU.out,←HE.out]
       simp only [edg,←HTH0.out,←HTI.out,←HTJ.out,hz]
       rfl)
      have CO:=hide (show cntO d h (0+1)=cntO d h 0+if isO d h then 1 else 0 by rw [cntO_s];simp only [←HTH0.out,←HTI.out,←HTJ.out])
      have CU:=hide (show cntU d h (0+1)=cntU d h 0+if isU d h then 1 else 0 by rw [cntU_s];simp only [←HTH0.out,←HTI.out,←HTJ.out])
      have IO:=hide (show isO d h=(e % 2 == 1 && u % 2 == 1) by unfold isO;rw [HU.out,←HE.out])
      have IU:=hide (show isU d h=(e % 2 == 0 && u % 2 == 0) by unfold isU;rw [HU.out,←HE.out])
      obtain ⟨kO,hkO⟩:∃c,c=cntO d h 0:=⟨_,rfl⟩
      obtain ⟨kU,hkU⟩:∃c,c=cntU d h 0:=⟨_,rfl⟩
      rw [←hkO] at CO ⊢
      rw [←hkU] at CU ⊢
      have bO:kO≤3:=by rw [hkO];unfold cntO;have:=List.length_filter_le (fun i=>isO d (th d h i)) (List.range 0);simp at this ⊢;try omega
      have bU:kU≤3:=by rw [hkU];unfold cntU;have:=List.length_filter_le (fun i=>isU d (th d h i)) (List.range 0);simp at this ⊢;try omega
      clear hkO hkU
      obtain ⟨e0,e1,e2,e3,e4,e5,e6,e7,e8,e9,e10,e11,ef⟩:=box12 TB2.out.e
      by_cases q0:e % 2=1∧u % 2=1
      ·obtain ⟨qa,qb⟩:=q0
       have t1:((e:Int) % 2 == 1)=true:=by rw [beq_iff_eq];omega
       have t2:((u:Int) % 2 == 1)=true:=by rw [beq_iff_eq];omega
       have t3:((e:Int) % 2 == 0)=false:=by rw [beq_eq_false_iff_ne];omega
       have t4:((u:Int) % 2 == 0)=false:=by rw [beq_eq_false_iff_ne];omega
       have FO:=hide (show cntO d h (0+1)=kO+1 by rw [CO.out,IO.out,qa,qb];rfl)
       have FU:=hide (show cntU d h (0+1)=kU+0 by rw [CU.out,IU.out,qa,qb];rfl)
       clear qa qb
       go_wp2_with fail
       go_roundg (gk - 1)
       case measure=>have:=HKG.out;omega
       case rel =>
        refine ⟨0+1,by have:=HKG.out;omega,by go_num,by rw [FO.out];(try first | rfl | go_num),by rw [FU.out];(try first | rfl | go_num),?_⟩
        rw [EQ.out]
        exact (((TB2.out.set _ _).set _ _).set _ _).set _ _
      by_cases q1:e % 2=1∧u % 2=0
      ·obtain ⟨qa,qb⟩:=q1
       have t1:((e:Int) % 2 == 1)=true:=by rw [beq_iff_eq];omega
       have t2:((u:Int) % 2 == 1)=false:=by rw [beq_eq_false_iff_ne];omega
       have t3:((e:Int) % 2 == 0)=false:=by rw [beq_eq_false_iff_ne];omega
       have t4:((u:Int) % 2 == 0)=true:=by rw [beq_iff_eq];omega
       have FO:=hide (show cntO d h (0+1)=kO+0 by rw [CO.out,IO.out,qa,qb];rfl)
       have FU:=hide (show cntU d h (0+1)=kU+0 by rw [CU.out,IU.out,qa,qb];rfl)
       clear qa qb
       go_wp2_with fail
       go_roundg (gk - 1)
       case measure=>have:=HKG.out;omega
       case rel =>
        refine ⟨0+1,by have:=HKG.out;omega,by go_num,by rw [FO.out];(try first | rfl | go_num),by rw [FU.out];(try first | rfl | go_num),?_⟩
        rw [EQ.out]
        exact (((TB2.out.set _ _).set _ _).set _ _).set _ _
      by_cases q2:e % 2=0∧u % 2=1
      ·obtain ⟨qa,qb⟩:=q2
       have t1:((e:Int) % 2 == 1)=false:=by rw [beq_eq_false_iff_ne];omega
       have t2:((u:Int) % 2 == 1)=true:=by rw [beq_iff_eq];omega
       have t3:((e:Int) % 2 == 0)=true:=by rw [beq_iff_eq];omega
       have t4:((u:Int) % 2 == 0)=false:=by rw [beq_eq_false_iff_ne];omega
       have FO:=hide (show cntO d h (0+1)=kO+0 by rw [CO.out,IO.out,qa,qb];rfl)
       have FU:=hide (show cntU d h (0+1)=kU+0 by rw [CU.out,IU.out,qa,qb];rfl)
       clear qa qb
       go_wp2_with fail
       go_roundg (gk - 1)
       case measure=>have:=HKG.out;omega
       case rel =>
        refine ⟨0+1,by have:=HKG.out;omega,by go_num,by rw [FO.out];(try first | rfl | go_num),by rw [FU.out];(try first | rfl | go_num),?_⟩
        rw [EQ.out]
        exact (((TB2.out.set _ _).set _ _).set _ _).set _ _
      by_cases q3:e % 2=0∧u % 2=0
      ·obtain ⟨qa,qb⟩:=q3
       have t1:((e:Int) % 2 == 1)=false:=by rw [beq_eq_false_iff_ne];omega
       have t2:((u:Int) % 2 == 1)=false:=by rw [beq_eq_false_iff_ne];omega
       have t3:((e:Int) % 2 == 0)=true:=by rw [beq_iff_eq];omega
       have t4:((u:Int) % 2 == 0)=true:=by rw [beq_iff_eq];omega
       have FO:=hide (show cntO d h (0+1)=kO+0 by rw [CO.out,IO.out,qa,qb];rfl)
       have FU:=hide (show cntU d h (0+1)=kU+1 by rw [CU.out,IU.out,qa,qb];rfl)
       clear qa qb
       go_wp2_with fail
       go_roundg (gk - 1)
       case measure=>have:=HKG.out;omega
       case rel =>
        refine ⟨0+1,by have:=HKG.out;omega,by go_num,by rw [FO.out];(try first | rfl | go_num),by rw [FU.out];(try first | rfl | go_num),?_⟩
        rw [EQ.out]
        exact (((TB2.out.set _ _).set _ _).set _ _).set _ _
      exfalso;omega
    ·-- round 1
     have hO:i<4 * d.n:=by first | exact hh | exact h1 | exact h2
     have EO:=hide (eo_lt hd hO)
     obtain ⟨d0,d1,d2,d3⟩:=box3 TBk.out.d
     go_wp2_with fail
     refine (out2_n d A B d.n cp m cq (.int .i64 (d.lp:Int)) i _ rfl hO (by omega) (HG.out.keep TBk.out.bel).s).mono ?_
     rintro e w1 ⟨rfl,hb1⟩
     have TB1:=hide (TBk.out.below hb1)
     clear hb1 d0 d1 d2 d3
     go_upto_if 61 with fail
     go_cut [12] (fun s12 wx=>s12 = .int .i64 (eo d i:Nat)∧TB w [.slice A d.n cp,.slice B m cq,.int .i64 (d.lp:Int)] (edg d h 1) wx)
     case first =>
      cases ho:Pl.out d i with
      | true =>
        have E:=hide (show eo d i=i by unfold eo;rw [if_pos ho])
        clear ho
        go_wp2_with fail
        go_meet
        exact ⟨by rw [E.out],TB1.out⟩
      | false =>
        have E:=hide (show eo d i=d.m i by unfold eo;rw [if_neg (by rw [ho];decide)])
        clear ho
        obtain ⟨d0,d1,d2,d3⟩:=box3 TB1.out.d
        obtain ⟨mb,mo,rfl,cm⟩:=mate_at (HG.out.keep TB1.out.bel).m hO
        have io0:(0:Int)≤(i:Int):=by omega
        have io1:(i:Int)<(m:Int):=by have:=HM.out;omega
        go_wp2_with fail
        go_meet
        exact ⟨by rw [E.out],TB1.out⟩
     case rest =>
      obtain ⟨rfl,htb⟩:=hcut
      have TB2:=hide htb
      clear htb TBk TB1
      have heo:=EO.out
      obtain ⟨e,he⟩:∃e,e=eo d i:=⟨_,rfl⟩
      rw [←he] at heo ⊢
      have hei:=hd.lt e heo
      have HE:=hide he
      clear he
      obtain ⟨d0,d1,d2,d3⟩:=box3 TB2.out.d
      obtain ⟨mb,mo,rfl,cm⟩:=mate_at (HG.out.keep TB2.out.bel).m heo
      obtain ⟨u,hu⟩:∃u,u=d.m e:=⟨_,rfl⟩
      rw [←hu] at cm hei
      have HU:=hide (show ei d i=u by unfold ei;rw [←HE.out,hu])
      clear hu
      have io0:(0:Int)≤(e:Int):=by omega
      have io1:(e:Int)<(m:Int):=by have:=HM.out;omega
      go_wp2_with fail
      refine (opp_i (e:Int) _ (by omega)).mono ?_
      rintro en w1 ⟨rfl,rfl⟩
      go_wp2_with fail
      refine (opp_i (u:Int) _ (by omega)).mono ?_
      rintro en w1 ⟨rfl,rfl⟩
      try rw [Int.toNat_natCast]
      have EQ:=hide (show edg d h (1+1)=((((edg d h 1).set (4 * 1) (.int .i64 (Pl.tn e 2:Nat))).set (4 * 1+1) (.int .i64 (e:Int))).set (4 * 1+2) (.int .i64 (u:Int))).set (4 * 1+3) (.int .i64 (Pl.tn u 2:Nat)) by
       have hz:pz d i=[.int .i64 (Pl.tn e 2:Nat),.int .i64 (e:Int),.int .i64 (u:Int),.int .i64 (Pl.tn u 2:Nat)]:=by unfold pz;rw [HU.out,←HE.out]
       simp only [edg,←HTH0.out,←HTI.out,←HTJ.out,hz]
       rfl)
      have CO:=hide (show cntO d h (1+1)=cntO d h 1+if isO d i then 1 else 0 by rw [cntO_s];simp only [←HTH0.out,←HTI.out,←HTJ.out])
      have CU:=hide (show cntU d h (1+1)=cntU d h 1+if isU d i then 1 else 0 by rw [cntU_s];simp only [←HTH0.out,←HTI.out,←HTJ.out])
      have IO:=hide (show isO d i=(e % 2 == 1 && u % 2 == 1) by unfold isO;rw [HU.out,←HE.out])
      have IU:=hide (show isU d i=(e % 2 == 0 && u % 2 == 0) by unfold isU;rw [HU.out,←HE.out])
      obtain ⟨kO,hkO⟩:∃c,c=cntO d h 1:=⟨_,rfl⟩
      obtain ⟨kU,hkU⟩:∃c,c=cntU d h 1:=⟨_,rfl⟩
      rw [←hkO] at CO ⊢
      rw [←hkU] at CU ⊢
      have bO:kO≤3:=by rw [hkO];unfold cntO;have:=List.length_filter_le (fun i=>isO d (th d h i)) (List.range 1);simp at this ⊢;try omega
      have bU:kU≤3:=by rw [hkU];unfold cntU;have:=List.length_filter_le (fun i=>isU d (th d h i)) (List.range 1);simp at this ⊢;try omega
      clear hkO hkU
      obtain ⟨e0,e1,e2,e3,e4,e5,e6,e7,e8,e9,e10,e11,ef⟩:=box12 TB2.out.e
      by_cases q0:e % 2=1∧u % 2=1
      ·obtain ⟨qa,qb⟩:=q0
       have t1:((e:Int) % 2 == 1)=true:=by rw [beq_iff_eq];omega
       have t2:((u:Int) % 2 == 1)=true:=by rw [beq_iff_eq];omega
       have t3:((e:Int) % 2 == 0)=false:=by rw [beq_eq_false_iff_ne];omega
       have t4:((u:Int) % 2 == 0)=false:=by rw [beq_eq_false_iff_ne];omega
       have FO:=hide (show cntO d h (1+1)=kO+1 by rw [CO.out,IO.out,qa,qb];rfl)
       have FU:=hide (show cntU d h (1+1)=kU+0 by rw [CU.out,IU.out,qa,qb];rfl)
       clear qa qb
       go_wp2_with fail
       go_roundg (gk - 1)
       case measure=>have:=HKG.out;omega
       case rel =>
        refine ⟨1+1,by have:=HKG.out;omega,by go_num,by rw [FO.out];(try first | rfl | go_num),by rw [FU.out];(try first | rfl | go_num),?_⟩
        rw [EQ.out]
        exact (((TB2.out.set _ _).set _ _).set _ _).set _ _
      by_cases q1:e % 2=1∧u % 2=0
      ·obtain ⟨qa,qb⟩:=q1
       have t1:((e:Int) % 2 == 1)=true:=by rw [beq_iff_eq];omega
       have t2:((u:Int) % 2 == 1)=false:=by rw [beq_eq_false_iff_ne];omega
       have t3:((e:Int) % 2 == 0)=false:=by rw [beq_eq_false_iff_ne];omega
       have t4:((u:Int) % 2 == 0)=true:=by rw [beq_iff_eq];omega
       have FO:=hide (show cntO d h (1+1)=kO+0 by rw [CO.out,IO.out,qa,qb];rfl)
       have FU:=hide (show cntU d h (1+1)=kU+0 by rw [CU.out,IU.out,qa,qb];rfl)
       clear qa qb
       go_wp2_with fail
       go_roundg (gk - 1)
       case measure=>have:=HKG.out;omega
       case rel =>
        refine ⟨1+1,by have:=HKG.out;omega,by go_num,by rw [FO.out];(try first | rfl | go_num),by rw [FU.out];(try first | rfl | go_num),?_⟩
        rw [EQ.out]
        exact (((TB2.out.set _ _).set _ _).set _ _).set _ _
      by_cases q2:e % 2=0∧u % 2=1
      ·obtain ⟨qa,qb⟩:=q2
       have t1:((e:Int) % 2 == 1)=false:=by rw [beq_eq_false_iff_ne];omega
       have t2:((u:Int) % 2 == 1)=true:=by rw [beq_iff_eq];omega
       have t3:((e:Int) % 2 == 0)=true:=by rw [beq_iff_eq];omega
       have t4:((u:Int) % 2 == 0)=false:=by rw [beq_eq_false_iff_ne];omega
       have FO:=hide (show cntO d h (1+1)=kO+0 by rw [CO.out,IO.out,qa,qb];rfl)
       have FU:=hide (show cntU d h (1+1)=kU+0 by rw [CU.out,IU.out,qa,qb];rfl)
       clear qa qb
       go_wp2_with fail
       go_roundg (gk - 1)
       case measure=>have:=HKG.out;omega
       case rel =>
        refine ⟨1+1,by have:=HKG.out;omega,by go_num,by rw [FO.out];(try first | rfl | go_num),by rw [FU.out];(try first | rfl | go_num),?_⟩
        rw [EQ.out]
        exact (((TB2.out.set _ _).set _ _).set _ _).set _ _
      by_cases q3:e % 2=0∧u % 2=0
      ·obtain ⟨qa,qb⟩:=q3
       have t1:((e:Int) % 2 == 1)=false:=by rw [beq_eq_false_iff_ne];omega
       have t2:((u:Int) % 2 == 1)=false:=by rw [beq_eq_false_iff_ne];omega
       have t3:((e:Int) % 2 == 0)=true:=by rw [beq_iff_eq];omega
       have t4:((u:Int) % 2 == 0)=true:=by rw [beq_iff_eq];omega
       have FO:=hide (show cntO d h (1+1)=kO+0 by rw [CO.out,IO.out,qa,qb];rfl)
       have FU:=hide (show cntU d h (1+1)=kU+1 by rw [CU.out,IU.out,qa,qb];rfl)
       clear qa qb
       go_wp2_with fail
       go_roundg (gk - 1)
       case measure=>have:=HKG.out;omega
       case rel =>
        refine ⟨1+1,by have:=HKG.out;omega,by go_num,by rw [FO.out];(try first | rfl | go_num),by rw [FU.out];(try first | rfl | go_num),?_⟩
        rw [EQ.out]
        exact (((TB2.out.set _ _).set _ _).set _ _).set _ _
      exfalso;omega
    ·-- round 2
     have hO:j<4 * d.n:=by first | exact hh | exact h1 | exact h2
     have EO:=hide (eo_lt hd hO)
     obtain ⟨d0,d1,d2,d3⟩:=box3 TBk.out.d
     go_wp2_with fail
     refine (out2_n d A B d.n cp m cq (.int .i64 (d.lp:Int)) j _ rfl hO (by omega) (HG.out.keep TBk.out.bel).s).mono ?_
     rintro e w1 ⟨rfl,hb1⟩
     have TB1:=hide (TBk.out.below hb1)
     clear hb1 d0 d1 d2 d3
     go_upto_if 61 with fail
     go_cut [12] (fun s12 wx=>s12 = .int .i64 (eo d j:Nat)∧TB w [.slice A d.n cp,.slice B m cq,.int .i64 (d.lp:Int)] (edg d h 2) wx)
     case first =>
      cases ho:Pl.out d j with
      | true =>
        have E:=hide (show eo d j=j by unfold eo;rw [if_pos ho])
        clear ho
        go_wp2_with fail
        go_meet
        exact ⟨by rw [E.out],TB1.out⟩
      | false =>
        have E:=hide (show eo d j=d.m j by unfold eo;rw [if_neg (by rw [ho];decide)])
        clear ho
        obtain ⟨d0,d1,d2,d3⟩:=box3 TB1.out.d
        obtain ⟨mb,mo,rfl,cm⟩:=mate_at (HG.out.keep TB1.out.bel).m hO
        have io0:(0:Int)≤(j:Int):=by omega
        have io1:(j:Int)<(m:Int):=by have:=HM.out;omega
        go_wp2_with fail
        go_meet
        exact ⟨by rw [E.out],TB1.out⟩
     case rest =>
      obtain ⟨rfl,htb⟩:=hcut
      have TB2:=hide htb
      clear htb TBk TB1
      have heo:=EO.out
      obtain ⟨e,he⟩:∃e,e=eo d j:=⟨_,rfl⟩
      rw [←he] at heo ⊢
      have hei:=hd.lt e heo
      have HE:=hide he
      clear he
      obtain ⟨d0,d1,d2,d3⟩:=box3 TB2.out.d
      obtain ⟨mb,mo,rfl,cm⟩:=mate_at (HG.out.keep TB2.out.bel).m heo
      obtain ⟨u,hu⟩:∃u,u=d.m e:=⟨_,rfl⟩
      rw [←hu] at cm hei
      have HU:=hide (show ei d j=u by unfold ei;rw [←HE.out,hu])
      clear hu
      have io0:(0:Int)≤(e:Int):=by omega
      have io1:(e:Int)<(m:Int):=by have:=HM.out;omega
      go_wp2_with fail
      refine (opp_i (e:Int) _ (by omega)).mono ?_
      rintro en w1 ⟨rfl,rfl⟩
      go_wp2_with fail
      refine (opp_i (u:Int) _ (by omega)).mono ?_
      rintro en w1 ⟨rfl,rfl⟩
      try rw [Int.toNat_natCast]
      have EQ:=hide (show edg d h (2+1)=((((edg d h 2).set (4 * 2) (.int .i64 (Pl.tn e 2:Nat))).set (4 * 2+1) (.int .i64 (e:Int))).set (4 * 2+2) (.int .i64 (u:Int))).set (4 * 2+3) (.int .i64 (Pl.tn u 2:Nat)) by
       have hz:pz d j=[.int .i64 (Pl.tn e 2:Nat),.int .i64 (e:Int),.int .i64 (u:Int),.int .i64 (Pl.tn u 2:Nat)]:=by unfold pz;rw [HU.out,←HE.out]
       simp only [edg,←HTH0.out,←HTI.out,←HTJ.out,hz]
       rfl)
      have CO:=hide (show cntO d h (2+1)=cntO d h 2+if isO d j then 1 else 0 by rw [cntO_s];simp only [←HTH0.out,←HTI.out,←HTJ.out])
      have CU:=hide (show cntU d h (2+1)=cntU d h 2+if isU d j then 1 else 0 by rw [cntU_s];simp only [←HTH0.out,←HTI.out,←HTJ.out])
      have IO:=hide (show isO d j=(e % 2 == 1 && u % 2 == 1) by unfold isO;rw [HU.out,←HE.out])
      have IU:=hide (show isU d j=(e % 2 == 0 && u % 2 == 0) by unfold isU;rw [HU.out,←HE.out])
      obtain ⟨kO,hkO⟩:∃c,c=cntO d h 2:=⟨_,rfl⟩
      obtain ⟨kU,hkU⟩:∃c,c=cntU d h 2:=⟨_,rfl⟩
      rw [←hkO] at CO ⊢
      rw [←hkU] at CU ⊢
      have bO:kO≤3:=by rw [hkO];unfold cntO;have:=List.length_filter_le (fun i=>isO d (th d h i)) (List.range 2);simp at this ⊢;try omega
      have bU:kU≤3:=by rw [hkU];unfold cntU;have:=List.length_filter_le (fun i=>isU d (th d h i)) (List.range 2);simp at this ⊢;try omega
      clear hkO hkU
      obtain ⟨e0,e1,e2,e3,e4,e5,e6,e7,e8,e9,e10,e11,ef⟩:=box12 TB2.out.e
      by_cases q0:e % 2=1∧u % 2=1
      ·obtain ⟨qa,qb⟩:=q0
       have t1:((e:Int) % 2 == 1)=true:=by rw [beq_iff_eq];omega
       have t2:((u:Int) % 2 == 1)=true:=by rw [beq_iff_eq];omega
       have t3:((e:Int) % 2 == 0)=false:=by rw [beq_eq_false_iff_ne];omega
       have t4:((u:Int) % 2 == 0)=false:=by rw [beq_eq_false_iff_ne];omega
       have FO:=hide (show cntO d h (2+1)=kO+1 by rw [CO.out,IO.out,qa,qb];rfl)
       have FU:=hide (show cntU d h (2+1)=kU+0 by rw [CU.out,IU.out,qa,qb];rfl)
       clear qa qb
       go_wp2_with fail
       go_roundg (gk - 1)
       case measure=>have:=HKG.out;omega
       case rel =>
        refine ⟨2+1,by have:=HKG.out;omega,by go_num,by rw [FO.out];(try first | rfl | go_num),by rw [FU.out];(try first | rfl | go_num),?_⟩
        rw [EQ.out]
        exact (((TB2.out.set _ _).set _ _).set _ _).set _ _
      by_cases q1:e % 2=1∧u % 2=0
      ·obtain ⟨qa,qb⟩:=q1
       have t1:((e:Int) % 2 == 1)=true:=by rw [beq_iff_eq];omega
       have t2:((u:Int) % 2 == 1)=false:=by rw [beq_eq_false_iff_ne];omega
       have t3:((e:Int) % 2 == 0)=false:=by rw [beq_eq_false_iff_ne];omega
       have t4:((u:Int) % 2 == 0)=true:=by rw [beq_iff_eq];omega
       have FO:=hide (show cntO d h (2+1)=kO+0 by rw [CO.out,IO.out,qa,qb];rfl)
       have FU:=hide (show cntU d h (2+1)=kU+0 by rw [CU.out,IU.out,qa,qb];rfl)
       clear qa qb
       go_wp2_with fail
       go_roundg (gk - 1)
       case measure=>have:=HKG.out;omega
       case rel =>
        refine ⟨2+1,by have:=HKG.out;omega,by go_num,by rw [FO.out];(try first | rfl | go_num),by rw [FU.out];(try first | rfl | go_num),?_⟩
        rw [EQ.out]
        exact (((TB2.out.set _ _).set _ _).set _ _).set _ _
      by_cases q2:e % 2=0∧u % 2=1
      ·obtain ⟨qa,qb⟩:=q2
       have t1:((e:Int) % 2 == 1)=false:=by rw [beq_eq_false_iff_ne];omega
       have t2:((u:Int) % 2 == 1)=true:=by rw [beq_iff_eq];omega
       have t3:((e:Int) % 2 == 0)=true:=by rw [beq_iff_eq];omega
       have t4:((u:Int) % 2 == 0)=false:=by rw [beq_eq_false_iff_ne];omega
       have FO:=hide (show cntO d h (2+1)=kO+0 by rw [CO.out,IO.out,qa,qb];rfl)
       have FU:=hide (show cntU d h (2+1)=kU+0 by rw [CU.out,IU.out,qa,qb];rfl)
       clear qa qb
       go_wp2_with fail
       go_roundg (gk - 1)
       case measure=>have:=HKG.out;omega
       case rel =>
        refine ⟨2+1,by have:=HKG.out;omega,by go_num,by rw [FO.out];(try first | rfl | go_num),by rw [FU.out];(try first | rfl | go_num),?_⟩
        rw [EQ.out]
        exact (((TB2.out.set _ _).set _ _).set _ _).set _ _
      by_cases q3:e % 2=0∧u % 2=0
      ·obtain ⟨qa,qb⟩:=q3
       have t1:((e:Int) % 2 == 1)=false:=by rw [beq_eq_false_iff_ne];omega
       have t2:((u:Int) % 2 == 1)=false:=by rw [beq_eq_false_iff_ne];omega
       have t3:((e:Int) % 2 == 0)=true:=by rw [beq_iff_eq];omega
       have t4:((u:Int) % 2 == 0)=true:=by rw [beq_iff_eq];omega
       have FO:=hide (show cntO d h (2+1)=kO+0 by rw [CO.out,IO.out,qa,qb];rfl)
       have FU:=hide (show cntU d h (2+1)=kU+1 by rw [CU.out,IU.out,qa,qb];rfl)
       clear qa qb
       go_wp2_with fail
       go_roundg (gk - 1)
       case measure=>have:=HKG.out;omega
       case rel =>
        refine ⟨2+1,by have:=HKG.out;omega,by go_num,by rw [FO.out];(try first | rfl | go_num),by rw [FU.out];(try first | rfl | go_num),?_⟩
        rw [EQ.out]
        exact (((TB2.out.set _ _).set _ _).set _ _).set _ _
      exfalso;omega
    ·-- the end
     have E3:=hide (show Pl.vb (isT d h)=(decide (cntO d h 3=1) && decide (cntU d h 3=1)) by
      rw [Bool.eq_iff_iff,Pl.vb_iff];unfold isT;simp [H3.out])
     obtain ⟨kO,hkO⟩:∃c,c=cntO d h 3:=⟨_,rfl⟩
     obtain ⟨kU,hkU⟩:∃c,c=cntU d h 3:=⟨_,rfl⟩
     rw [←hkO] at E3 ⊢
     rw [←hkU] at E3 ⊢
     clear hkO hkU
     have HTR:=hide (show ∃a0 a1 a2 a3 a4 a5 a6 a7 a8 a9 a10 a11:Nat,edg d h 3=[.int .i64 (a0:Int),.int .i64 (a1:Int),.int .i64 (a2:Int),.int .i64 (a3:Int),.int .i64 (a4:Int),.int .i64 (a5:Int),.int .i64 (a6:Int),.int .i64 (a7:Int),.int .i64 (a8:Int),.int .i64 (a9:Int),.int .i64 (a10:Int),.int .i64 (a11:Int)] from ⟨_,_,_,_,_,_,_,_,_,_,_,_,rfl⟩)
     obtain ⟨a0,a1,a2,a3,a4,a5,a6,a7,a8,a9,a10,a11,hedg⟩:=HTR.out
     rw [hedg] at TBk
     have HEDG:=hide hedg
     clear hedg
     obtain ⟨r0,r1,r2,r3,r4,r5,r6,r7,r8,r9,r10,r11,rf⟩:=box12 TBk.out.r
     obtain ⟨e0,e1,e2,e3,e4,e5,e6,e7,e8,e9,e10,e11,ef⟩:=box12 TBk.out.e
     obtain ⟨bb,hbb⟩:∃bb,bb=Pl.vb (isT d h):=⟨_,rfl⟩
     rw [←hbb] at E3
     have HBB:=hide hbb
     clear hbb
     go_upto_region 19 with fail
     go_cut [5] (fun s5 wx=>s5 = .bool bb∧∃W,TB w [.slice A d.n cp,.slice B m cq,.int .i64 (d.lp:Int)] [.int .i64 (a0:Int),.int .i64 (a1:Int),.int .i64 (a2:Int),.int .i64 (a3:Int),.int .i64 (a4:Int),.int .i64 (a5:Int),.int .i64 (a6:Int),.int .i64 (a7:Int),.int .i64 (a8:Int),.int .i64 (a9:Int),.int .i64 (a10:Int),.int .i64 (a11:Int)] W∧wx=(((((((((((((W.setCell ⟨w.heap.size+1,0,none⟩ (.int .i64 (a0:Int))).setCell ⟨w.heap.size+1,1,none⟩ (.int .i64 (a1:Int))).setCell ⟨w.heap.size+1,2,none⟩ (.int .i64 (a2:Int))).setCell ⟨w.heap.size+1,3,none⟩ (.int .i64 (a3:Int))).setCell ⟨w.heap.size+1,4,none⟩ (.int .i64 (a4:Int))).setCell ⟨w.heap.size+1,5,none⟩ (.int .i64 (a5:Int))).setCell ⟨w.heap.size+1,6,none⟩ (.int .i64 (a6:Int))).setCell ⟨w.heap.size+1,7,none⟩ (.int .i64 (a7:Int))).setCell ⟨w.heap.size+1,8,none⟩ (.int .i64 (a8:Int))).setCell ⟨w.heap.size+1,9,none⟩ (.int .i64 (a9:Int))).setCell ⟨w.heap.size+1,10,none⟩ (.int .i64 (a10:Int))).setCell ⟨w.heap.size+1,11,none⟩ (.int .i64 (a11:Int)))))
     case first =>
      by_cases c1:kO=1
      ·have t1:((kO:Int) == 1)=true:=by rw [beq_iff_eq];omega
       by_cases c2:kU=1
       ·have t2:((kU:Int) == 1)=true:=by rw [beq_iff_eq];omega
        have F:=hide (show bb=true by rw [E3.out];simp [c1,c2])
        clear c1 c2
        go_wp2_with fail
        go_meet
        exact ⟨by rw [F.out],_,TBk.out,rfl⟩
       ·have t2:((kU:Int) == 1)=false:=by rw [beq_eq_false_iff_ne];omega
        have F:=hide (show bb=false by rw [E3.out];simp [c1,c2])
        clear c1 c2
        go_wp2_with fail
        go_meet
        exact ⟨by rw [F.out],_,TBk.out,rfl⟩
      ·have t1:((kO:Int) == 1)=false:=by rw [beq_eq_false_iff_ne];omega
       have F:=hide (show bb=false by rw [E3.out];simp [c1])
       clear c1
       go_wp2_with fail
       go_meet
       exact ⟨by rw [F.out],_,TBk.out,rfl⟩
     case rest =>
      obtain ⟨rfl,W,hT,rfl⟩:=hcut
      clear e0 e1 e2 e3 e4 e5 e6 e7 e8 e9 e10 e11 r0 r1 r2 r3 r4 r5 r6 r7 r8 r9 r10 r11
      go_wp2
      refine bodyPost_ret (v := .tuple #[.agg #[.int .i64 (a0:Int),.int .i64 (a1:Int),.int .i64 (a2:Int),.int .i64 (a3:Int),.int .i64 (a4:Int),.int .i64 (a5:Int),.int .i64 (a6:Int),.int .i64 (a7:Int),.int .i64 (a8:Int),.int .i64 (a9:Int),.int .i64 (a10:Int),.int .i64 (a11:Int)],.bool bb]) ?_ rfl ?_
      ·obtain ⟨r0,r1,r2,r3,r4,r5,r6,r7,r8,r9,r10,r11,rf⟩:=box12 (row12 hT.r rfl (.int .i64 (a0:Int)) (.int .i64 (a1:Int)) (.int .i64 (a2:Int)) (.int .i64 (a3:Int)) (.int .i64 (a4:Int)) (.int .i64 (a5:Int)) (.int .i64 (a6:Int)) (.int .i64 (a7:Int)) (.int .i64 (a8:Int)) (.int .i64 (a9:Int)) (.int .i64 (a10:Int)) (.int .i64 (a11:Int)))
       simp [results,Tryz.results85,go_sem,r0,r1,r2,r3,r4,r5,r6,r7,r8,r9,r10,r11]
      ·exact ⟨fun _=>by rw [HEDG.out,←HBB.out],fun h=>absurd H3.out h,below_set12 hT.bel (by omega) _ _ _ _ _ _ _ _ _ _ _ _⟩
  ·have H3:=hide h3
   rw [Pl.vb_false h3]
   clear h3
   obtain ⟨r0,r1,r2,r3,r4,r5,r6,r7,r8,r9,r10,r11,rf⟩:=box12 TB0.out.r
   obtain ⟨e0,e1,e2,e3,e4,e5,e6,e7,e8,e9,e10,e11,ef⟩:=box12 TB0.out.e
   go_wp2
   refine bodyPost_ret (v := .tuple #[.agg (edg d h 0).toArray,.bool false]) ?_ rfl ?_
   ·obtain ⟨r0,r1,r2,r3,r4,r5,r6,r7,r8,r9,r10,r11,rf⟩:=box12 (row12 TB0.out.r rfl (.int .i64 0) (.int .i64 0) (.int .i64 0) (.int .i64 0) (.int .i64 0) (.int .i64 0) (.int .i64 0) (.int .i64 0) (.int .i64 0) (.int .i64 0) (.int .i64 0) (.int .i64 0))
    clear e0 e1 e2 e3 e4 e5 e6 e7 e8 e9 e10 e11
    show _=Result.ok (Value.tuple #[Value.agg #[.int .i64 0,.int .i64 0,.int .i64 0,.int .i64 0,.int .i64 0,.int .i64 0,.int .i64 0,.int .i64 0,.int .i64 0,.int .i64 0,.int .i64 0,.int .i64 0],.bool false]) _
    simp [results,Tryz.results85,go_sem,r0,r1,r2,r3,r4,r5,r6,r7,r8,r9,r10,r11]
   ·exact ⟨fun h=>absurd h H3.out,fun _=>rfl,below_set12 TB0.out.bel (by omega) _ _ _ _ _ _ _ _ _ _ _ _⟩
end Go.Proofs.YtdgliimmnnhhjaaGreatDoor
end
