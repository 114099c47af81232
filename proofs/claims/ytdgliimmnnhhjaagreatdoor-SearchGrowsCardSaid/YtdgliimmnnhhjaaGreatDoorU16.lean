/-
  The texts Wn.
-/
import Derived.Test.YtdgliimmnnhhjaaGreatDoorU13
set_option linter.unusedVariables false
set_option linter.unusedSimpArgs false
section
namespace Go.Proofs.YtdgliimmnnhhjaaGreatDoor
open Go Go.RowKit
attribute [local go_sem ↓] Go.wp_at_zero Go.wp_at_succ
theorem below8 {w W:World}(h:Below w.heap.size w W)(y0 y1 y2 z0 z1 z2 z3 z4:Value) :
 Below w.heap.size w ((((((((W.setCell ⟨w.heap.size+1+1,0,none⟩ y0).setCell ⟨w.heap.size+1+1,1,none⟩ y1).setCell ⟨w.heap.size+1+1,2,none⟩ y2).setCell ⟨w.heap.size+1+1+1,0,none⟩ z0).setCell ⟨w.heap.size+1+1+1,1,none⟩ z1).setCell ⟨w.heap.size+1+1+1,2,none⟩ z2).setCell ⟨w.heap.size+1+1+1,3,none⟩ z3).setCell ⟨w.heap.size+1+1+1,4,none⟩ z4) :=
 (((((((h.setCell (by show _≤w.heap.size+1+1;omega) _).setCell (by show _≤w.heap.size+1+1;omega) _).setCell (by show _≤w.heap.size+1+1;omega) _).setCell (by show _≤w.heap.size+1+1+1;omega) _).setCell (by show _≤w.heap.size+1+1+1;omega) _).setCell (by show _≤w.heap.size+1+1+1;omega) _).setCell (by show _≤w.heap.size+1+1+1;omega) _).setCell (by show _≤w.heap.size+1+1+1;omega) _
theorem one_ints (W:World)(c:Nat):IntsAt (W.alloc (.cells #[.int .i64 (c:Int)] 3)).drew (some ⟨W.heap.size,0,none⟩) 1 (nats [c]):=by
 refine IntsAt.drew ⟨rfl,fun _=>⟨_,0,rfl,fun j u hu=>?_⟩⟩
 match j,hu with
 | 0,hu=>simp [nats] at hu;subst hu;exact (Lib.cell_of_heap (heap_alloc_new W _) 0).trans rfl
theorem one_ints' (W:World)(c:Nat){g:Nat}(h:g=W.heap.size):IntsAt (W.alloc (.cells #[.int .i64 (c:Int)] 3)) (some ⟨g,0,none⟩) 1 (nats [c]):=by
 subst h
 exact one_ints W c
theorem OwnN.alloc {w:World}{base g n c:Nat}{l:List Nat}(h:OwnN w base g n c l)(o:Obj):OwnN (w.alloc o) base g n c l:=World.ownsRow.alloc h o
theorem OwnN.caps {w:World}{base g n c:Nat}{l:List Nat}(h:OwnN w base g n c l):n≤c∧c≤maxLen:=by
 rcases h.2 with ⟨h1,h2⟩ | ⟨g',cap,cur,h1,_,_,h4,h5,_⟩
 ·injection h1 with h1;injection h1
 ·injection h1 with _ _ h3
  subst h3
  exact ⟨h4,h5⟩
theorem own8 {w W:World}{base:Nat}{v:Value}{n:Nat}{xs:List Value}(h:W.ownsRow base 3 1 v n xs)(hb:w.heap.size+1+1+1<base)(y0 y1 y2 z0 z1 z2 z3 z4:Value) :
 ((((((((W.setCell ⟨w.heap.size+1+1,0,none⟩ y0).setCell ⟨w.heap.size+1+1,1,none⟩ y1).setCell ⟨w.heap.size+1+1,2,none⟩ y2).setCell ⟨w.heap.size+1+1+1,0,none⟩ z0).setCell ⟨w.heap.size+1+1+1,1,none⟩ z1).setCell ⟨w.heap.size+1+1+1,2,none⟩ z2).setCell ⟨w.heap.size+1+1+1,3,none⟩ z3).setCell ⟨w.heap.size+1+1+1,4,none⟩ z4).ownsRow base 3 1 v n xs :=
 ownsRow_setCell_below (ownsRow_setCell_below (ownsRow_setCell_below (ownsRow_setCell_below (ownsRow_setCell_below (ownsRow_setCell_below (ownsRow_setCell_below (ownsRow_setCell_below h (by show w.heap.size+1+1<base;omega) _) (by show w.heap.size+1+1<base;omega) _) (by show w.heap.size+1+1<base;omega) _) (by show w.heap.size+1+1+1<base;omega) _) (by show w.heap.size+1+1+1<base;omega) _) (by show w.heap.size+1+1+1<base;omega) _) (by show w.heap.size+1+1+1<base;omega) _) (by show w.heap.size+1+1+1<base;omega) _
theorem closed_yes (base g n cap a b:Nat)(l:List Nat)(w:World)(h:OwnN w base g n cap l)(ha:a<n)(hb:b<n)(hn:n≤100000)(hl:∀k,k<n→l.getD k 0<n)(hy:l.getD a 0=b) :
 Calls Tryz.prog 73 #[.slice (some ⟨g,0,none⟩) n cap,.int .i64 (a:Int),.int .i64 (b:Int)] w fun e w'=>e = .returned (.int .i64 1)∧OwnN w' base g n cap l∧w.grownBy w' (some g):=by
 refine (closed_any base g n cap a b l w h ha hb hn hl).mono ?_
 rintro e w' ⟨h1,h2,h3⟩
 rw [if_pos hy] at h1 h2
 exact ⟨h1,h2,h3⟩
theorem closed_no (base g n cap a b:Nat)(l:List Nat)(w:World)(h:OwnN w base g n cap l)(ha:a<n)(hb:b<n)(hn:n≤100000)(hl:∀k,k<n→l.getD k 0<n)(hy:¬l.getD a 0=b) :
 Calls Tryz.prog 73 #[.slice (some ⟨g,0,none⟩) n cap,.int .i64 (a:Int),.int .i64 (b:Int)] w fun e w'=>e = .returned (.int .i64 0)∧OwnN w' base g n cap (jn l (l.getD a 0) (l.getD b 0))∧w.grownBy w' (some g):=by
 refine (closed_any base g n cap a b l w h ha hb hn hl).mono ?_
 rintro e w' ⟨h1,h2,h3⟩
 rw [if_neg hy] at h1 h2
 exact ⟨h1,h2,h3⟩
set_option maxRecDepth 100000 in
set_option maxHeartbeats 4000000 in
theorem uncurl_any (d:Pl.Dg)(hd:Pl.Wf d)(A B:Option Addr)(cp cq c:Nat)(k y sg:Int)(ov:Bool)(w:World)(hg:DgAt w A B d)(hc:c<d.n) :
 Calls Tryz.prog 44 #[.agg #[.slice A d.n cp,.slice B (4 * d.n) cq,.int .i64 d.lp],.agg #[.int .i64 k,.int .i64 (c:Int),.int .i64 y,.int .i64 sg,.bool ov]] w (UncPost d c w):=by
 have hn:=hd.few
 have hlp:=hd.lp
 obtain ⟨m,hm⟩:∃m,m=4 * d.n:=⟨_,rfl⟩
 have HG:=hide hg
 clear hg
 rw [←hm]
 have HM:=hide hm
 clear hm
 obtain ⟨x0,x1,x2,x3,b0,s0⟩:=boxes4 w (.slice A d.n cp) (.slice B m cq) (.int .i64 d.lp) (.int .i64 k) (.int .i64 (c:Int)) (.int .i64 y) (.int .i64 sg) (.bool ov)
 unfold W4 at x0 x1 x2 x3 b0 s0
 have X0:=hide x0
 have X1:=hide x1
 have X2:=hide x2
 have X3:=hide x3
 have B0:=hide b0
 have S0:=hide s0
 clear x0 x1 x2 x3 b0 s0
 go_enter Tryz.func44,Tryz.ntmps44
 go_wp2_with fail
 refine (kink_any d hd A B cp cq m c _ HM.out (HG.out.keep B0.out) hc).mono ?_
 rintro e w1 ⟨rfl,hb1⟩
 have Y0:=hide (X0.out.below hb1)
 have Y1:=hide (X1.out.below hb1)
 have Y2:=hide (X2.out.below hb1)
 have Y3:=hide (X3.out.below hb1)
 have B1:=hide (B0.out.trans (hb1.mono B0.out.size))
 have hsz:w.heap.size+4≤w1.heap.size:=by have:=hb1.size;have:=S0.out;omega
 clear X0 X1 X2 X3 B0 S0 hb1
 obtain ⟨f0,f1,f2,f3⟩:=box3 Y0.out
 obtain ⟨m0,m1,m2,m3,m4,m5⟩:=box5 Y1.out
 obtain ⟨p0,p1,p2,p3⟩:=box3 Y2.out
 obtain ⟨q0,q1,q2,q3,q4,q5⟩:=box5 Y3.out
 by_cases hK:d.m (kk d c) / 4=c
 ·rw [Pl.vb_true (show isK d c from hK)]
  unfold kinkE
  rw [if_pos rfl]
  have HK:=hide hK
  clear hK
  have ha1:=kA_lt (d:=d) hc
  have hb1:=kB_lt hd hc
  unfold kA at ha1
  unfold kB at hb1
  obtain ⟨a,ha⟩:∃a,a=Pl.tn (kk d c) 2:=⟨_,rfl⟩
  obtain ⟨b,hb⟩:∃b,b=Pl.tn (d.m (kk d c)) 2:=⟨_,rfl⟩
  rw [←ha,←hb]
  rw [←ha] at ha1
  rw [←hb] at hb1
  have HA:=hide (show a=kA d c from ha)
  have HB:=hide (show b=kB d c from hb)
  clear ha hb
  have hml:d.mt.length=m:=by have:=hd.len;have:=HM.out;omega
  have HML:=hide hml
  have ham:a<m:=by have:=HM.out;omega
  have hbm:b<m:=by have:=HM.out;omega
  have hm1:0<m:=by omega
  have hm2:m≤256:=by have:=HM.out;omega
  have HLT:=hide (show ∀k,k<m→d.mt.getD k 0<m from fun k hk=>by
   rw [getD_m (by rw [HML.out];exact hk)]
   have:=hd.lt k (by have:=HM.out;omega)
   have:=HM.out
   omega)
  have HGA:=hide (show d.mt.getD a 0=d.m a from getD_m (by rw [HML.out];exact ham))
  have HGM:=hide (show IntsAt w1 B m (nats d.mt) by rw [HM.out];exact (HG.out.keep B1.out).m)
  clear hml
  obtain ⟨i0,hi0,hz0,hz1,hz2⟩:=info_parts intInfo
  go_wp2_with (at_builtin;refine wpList_append_ints _ rfl _ _ 22 rfl w1.heap.size 3 i0 (.int .i64 0) 8 Tryz.underlying22 hi0 hz0 hz1 hz2 rfl (.slice none 0 0) 0 [] (by rfl) (World.ownsRow_nil _ _ _ _) B m cq (nats d.mt) (by rfl) HGM.out (by unfold maxLen;omega) (by omega) (Nat.le_refl _) ?_;intro v2 w2 own2 grow2)
  simp only [Nat.zero_add,List.nil_append] at own2
  obtain ⟨A2,c2,rfl⟩:=owns_slice own2
  obtain ⟨g2,rfl,lo2,hi2⟩:=owns_pos hm1 own2
  have OWN2:=hide (show OwnN w2 w1.heap.size g2 m c2 d.mt by unfold OwnN;rw [←map_nats];exact own2)
  have GR2:=hide grow2
  clear own2 grow2
  have Z0:=hide (Y0.out.grown GR2.out (by simp [Value.ownBlock]))
  have Z1:=hide (Y1.out.grown GR2.out (by simp [Value.ownBlock]))
  have Z2:=hide (Y2.out.grown GR2.out (by simp [Value.ownBlock]))
  have Z3:=hide (Y3.out.grown GR2.out (by simp [Value.ownBlock]))
  have B2:=hide (B1.out.grown GR2.out B1.out.size (fun k hk=>by simp [Value.ownBlock] at hk))
  have hs2:=GR2.out.size
  clear f0 f1 f2 f3 m0 m1 m2 m3 m4 m5 p0 p1 p2 p3 q0 q1 q2 q3 q4 q5 Y0 Y1 Y2 Y3
  have HG2:=hide (HG.out.keep B2.out)
  by_cases hcl:d.m a=b
  ·have HC:=hide (show d.mt.getD a 0=b by rw [HGA.out];exact hcl)
   have HCL:=hide hcl
   clear hcl
   obtain ⟨f0,f1,f2,f3⟩:=box3 Z0.out
   have hwr:IntKind.i64.wrap ((d.lp:Int)+1)=(d.lp:Int)+1:=IntWalk.i64_in _ (by omega)
   go_region_held3 (fun w'=>w'.cell? ⟨w.heap.size,2,none⟩=some (.int .i64 (d.lp:Int))) (first | go_keep | assumption)
    (first
      | (go_at_call 73
         refine Calls.mono (closed_yes w1.heap.size g2 m c2 a b d.mt _ ?_ ham hbm (by omega) HLT.out HC.out) ?_
         ·exact OwnN.drew' rfl OWN2.out
         rintro e w3 ⟨rfl,own3,gr3⟩
         obtain ⟨_,_,h2,_⟩:=box3 ((Z0.out.drew).grown gr3 (by intro h;injection h;omega))
         have OWN3:=hide own3
         have GR3:=hide gr3
         clear own3 gr3))
   clear hwr f0 f1 f2 f3 h2
   have V0:=hide ((Z0.out.drew).grown GR3.out (by intro h;injection h;omega))
   have V1:=hide ((Z1.out.drew).grown GR3.out (by intro h;injection h;omega))
   have V2:=hide ((Z2.out.drew).grown GR3.out (by intro h;injection h;omega))
   have V3:=hide ((Z3.out.drew).grown GR3.out (by intro h;injection h;omega))
   have B3:=hide ((B2.out.drew).grown GR3.out (B2.out.drew).size (fun k hk=>by injection hk with hk;omega))
   have hs3:w.heap.size+4≤w3.heap.size:=by have:=GR3.out.size;have:w2.drew.heap.size=w2.heap.size:=rfl;omega
   have l1:w.heap.size<w3.heap.size:=by omega
   have l2:w.heap.size+1<w3.heap.size:=by omega
   have l3:w.heap.size+1+1<w3.heap.size:=by omega
   have l4:w.heap.size+1+1+1<w3.heap.size:=by omega
   obtain ⟨f0,f1,f2,f3⟩:=box3 V0.out
   obtain ⟨m0,m1,m2,m3,m4,m5⟩:=box5 V1.out
   obtain ⟨p0,p1,p2,p3⟩:=box3 V2.out
   obtain ⟨q0,q1,q2,q3,q4,q5⟩:=box5 V3.out
   by_cases hfull:64<d.lp+1
   ·have hfu:(64:Int)<(d.lp:Int)+1:=by omega
    go_wp2
    refine bodyPost_ret (v := .tuple #[nilD,nilM,.int .i64 5]) ?_ rfl ?_
    ·obtain ⟨e0,e1,e2,e3,e4,e5,e6,e7⟩:=fin8 V2.out V3.out rfl rfl (by omega) (.slice none 0 0) (.slice none 0 0) (.int .i64 0) (.int .i64 0) (.int .i64 0) (.int .i64 0) (.int .i64 0) (.bool false)
     unfold nilD nilM
     simp [results,Tryz.results44,go_sem,e0,e1,e2,e3,e4,e5,e6,e7]
    ·have e6:uncC d c=5:=by unfold uncC;rw [if_pos HK.out,←HA.out,←HB.out,if_pos HCL.out,if_pos hfull]
     refine ⟨fun _=>by rw [e6];exact rfl,fun h=>absurd h (by rw [e6];decide),below8 B3.out _ _ _ _ _ _ _ _⟩
   ·have hfu:(d.lp:Int)+1≤64:=by omega
    have t3:((d.lp:Int)+1 == (d.lp:Int))=false:=by rw [beq_eq_false_iff_ne];omega
    have HG3:=hide (HG.out.keep B3.out)
    obtain ⟨ab,ao,rfl,hcs⟩:=sign_at HG3.out.s hc
    go_wp2_with fail
    obtain ⟨W5,hW5⟩:∃W5:World,W5=w3.alloc (.cells #[.int .i64 1,.int .i64 (-1),.int .i64 0,.int .i64 (d.s c),.bool ((a:Int) % 2 == 1)] 43):=⟨_,rfl⟩
    rw [←hW5]
    obtain ⟨bb,hbb⟩:∃bb,bb=((a:Int) % 2 == 1):=⟨_,rfl⟩
    have HBB:=hide hbb
    rw [←hbb] at hW5 ⊢
    clear hbb
    obtain ⟨gi,hgi⟩:∃gi,gi=w3.heap.size:=⟨_,rfl⟩
    rw [←hgi]
    have HU:=hide (show UC w gi (.slice (some ⟨ab,ao,none⟩) d.n cp) (.slice B m cq) (.int .i64 (d.lp:Int)) (.int .i64 1) (.int .i64 (-1)) (.int .i64 0) (.int .i64 (d.s c)) (.bool bb) W5 by
     rw [hW5]
     exact ⟨V0.out.alloc _,row_at (vs:=[.int .i64 1,.int .i64 (-1),.int .i64 0,.int .i64 (d.s c),.bool bb]) hgi,⟨_,V2.out.alloc _,rfl⟩,⟨_,V3.out.alloc _,rfl⟩,B3.out.alloc (by omega) _,by omega⟩)
    obtain ⟨LL,hLL⟩:∃LL,LL=d.mt:=⟨_,rfl⟩
    have HMo:=hide (show OwnN W5 w1.heap.size g2 m c2 LL by rw [hW5,hLL];exact OWN3.out.alloc _)
    have HLE:=hide (show ∀k,LL.getD k 0≤1000 from fun k=>by rw [hLL];exact Nat.le_trans (getD_le hd k) (by omega))
    have HG5:=hide (show DgAt W5 (some ⟨ab,ao,none⟩) B d from HG.out.keep HU.out.bel)
    have HLL:=hide (show LL=unM d c by unfold unM;rw [←HA.out,←HB.out,if_pos HCL.out,hLL])
    have HE0:=hide (show uncC d c=0 by unfold uncC;rw [if_pos HK.out,←HA.out,←HB.out,if_pos HCL.out,if_neg hfull])
    clear hW5 hgi hLL f0 f1 f2 f3 m0 m1 m2 m3 m4 m5 p0 p1 p2 p3 q0 q1 q2 q3 q4 q5 hcs t3 l1 l2 l3 l4
    have HCAP:=hide HMo.out.caps
    have KS:=hide (IntsAt.drew ((HG5.out.s).alloc (.cells #[.int .i64 (c:Int)] 3)))
    have KM:=hide (OwnN.ints (OwnN.drew' rfl (HMo.out.alloc (.cells #[.int .i64 (c:Int)] 3))))
    have KG:=hide (one_ints W5 c)
    go_region_held3 (fun w'=>w'.cell? ⟨w.heap.size,0,none⟩=some (.slice (some ⟨ab,ao,none⟩) d.n cp)∧w'.cell? ⟨gi,0,none⟩=some (.int .i64 1)∧w'.cell? ⟨gi,1,none⟩=some (.int .i64 (-1))∧w'.cell? ⟨gi,2,none⟩=some (.int .i64 0)∧w'.cell? ⟨gi,3,none⟩=some (.int .i64 (d.s c))∧w'.cell? ⟨gi,4,none⟩=some (.bool bb) ∧
     w'.cell? ⟨w.heap.size+1+1,0,none⟩=some (cv w' ⟨w.heap.size+1+1,0,none⟩)∧w'.cell? ⟨w.heap.size+1+1,1,none⟩=some (cv w' ⟨w.heap.size+1+1,1,none⟩)∧w'.cell? ⟨w.heap.size+1+1,2,none⟩=some (cv w' ⟨w.heap.size+1+1,2,none⟩) ∧
     w'.cell? ⟨w.heap.size+1+1+1,0,none⟩=some (cv w' ⟨w.heap.size+1+1+1,0,none⟩)∧w'.cell? ⟨w.heap.size+1+1+1,1,none⟩=some (cv w' ⟨w.heap.size+1+1+1,1,none⟩)∧w'.cell? ⟨w.heap.size+1+1+1,2,none⟩=some (cv w' ⟨w.heap.size+1+1+1,2,none⟩)∧w'.cell? ⟨w.heap.size+1+1+1,3,none⟩=some (cv w' ⟨w.heap.size+1+1+1,3,none⟩)∧w'.cell? ⟨w.heap.size+1+1+1,4,none⟩=some (cv w' ⟨w.heap.size+1+1+1,4,none⟩) ∧
     (∀o,w'.frozen? ⟨w.heap.size+1+1,o,none⟩=false)∧(∀o,w'.frozen? ⟨w.heap.size+1+1+1,o,none⟩=false)∧UC w gi (.slice (some ⟨ab,ao,none⟩) d.n cp) (.slice B m cq) (.int .i64 (d.lp:Int)) (.int .i64 1) (.int .i64 (-1)) (.int .i64 0) (.int .i64 (d.s c)) (.bool bb) w')
     ((go_split_ands;refine UC.all ?_;(repeat (first | (with_reducible assumption) | (with_reducible exact HU.out) | (with_reducible refine UC.setD ?_ _ _) | (with_reducible refine UC.setM ?_ _ _) | (with_reducible refine UC.alloc ?_ _) | (with_reducible refine UC.drew ?_) | (with_reducible refine UC.below ?_ hb6)))))
     (first
       | (go_at_call 75
          refine Calls.mono (shrunk_sl [c] d.sg LL ((d.lp:Int)+1) (some ⟨ab,ao,none⟩) (some ⟨g2,0,none⟩) (some ⟨W5.heap.size,0,none⟩) d.n m 1 cp c2 1 _ ?_ ?_ ?_ (Pl.few_one c) HM.out HCAP.out.1 HCAP.out.2 (by omega) (by omega) HLE.out) ?_
          ·exact KS.out
          ·exact KM.out
          ·exact KG.out
          rintro e w6 ⟨A7,A8,c7,c8,rfl,owS,owM,hb6⟩
          have OWS:=hide owS
          have OWM:=hide owM
          clear owS owM))
    all_goals
     have HU6:=hide (show UC w gi (.slice (some ⟨ab,ao,none⟩) d.n cp) (.slice B m cq) (.int .i64 (d.lp:Int)) (.int .i64 1) (.int .i64 (-1)) (.int .i64 0) (.int .i64 (d.s c)) (.bool bb) w6 from by
      repeat (first | (with_reducible assumption) | (with_reducible exact HU.out) | (with_reducible refine UC.alloc ?_ _) | (with_reducible refine UC.drew ?_) | (with_reducible refine UC.below ?_ hb6)))
     have hb6s:W5.heap.size+1+2≤w6.heap.size∨True:=.inr trivial
     go_wp2
     obtain ⟨vs6,r6,l6⟩:=HU6.out.rd
     obtain ⟨us6,t6,k6⟩:=HU6.out.rm
     refine bodyPost_ret (v := .tuple #[.agg #[.slice A7 (Pl.left d.sg.length [c]).length c7,.slice A8 (4 * (Pl.left d.sg.length [c]).length) c8,.int .i64 ((d.lp:Int)+1)],.agg #[.int .i64 1,.int .i64 (-1),.int .i64 0,.int .i64 (d.s c),.bool bb],.int .i64 0]) ?_ rfl ?_
     ·obtain ⟨e0,e1,e2,e3,e4,e5,e6,e7⟩:=fin8 r6 t6 l6 k6 (by omega) (.slice A7 (Pl.left d.sg.length [c]).length c7) (.slice A8 (4 * (Pl.left d.sg.length [c]).length) c8) (.int .i64 ((d.lp:Int)+1)) (.int .i64 1) (.int .i64 (-1)) (.int .i64 0) (.int .i64 (d.s c)) (.bool bb)
      simp [results,Tryz.results44,go_sem,e0,e1,e2,e3,e4,e5,e6,e7]
     ·have hn7:(unD d c).n=(Pl.left d.sg.length [c]).length:=by unfold unD Pl.Dg.n;exact Pl.shrS_len _ _
      refine ⟨fun h=>absurd HE0.out h,fun _=>⟨A7,A8,c7,c8,?_,?_,?_⟩,below8 HU6.out.bel _ _ _ _ _ _ _ _⟩
      ·rw [hn7]
       unfold unD unI Mv.v
       simp only [←HA.out,←HB.out,if_pos HCL.out]
       have e1:((d.lp+1:Nat):Int)=(d.lp:Int)+1:=by omega
       have e2:decide (a % 2=1)=bb:=by rw [HBB.out,Bool.eq_iff_iff];simp;omega
       rw [e1,e2]
      ·rw [hn7]
       refine own_intsT (base:=(W5.alloc (.cells #[.int .i64 (c:Int)] 3)).drew.heap.size+2) (e:=3) (c:=c7) (own8 ?_ ?_ _ _ _ _ _ _ _ _)
       ·exact OWS.out
       ·have:=HU.out.i.lt;have:=HU.out.lo;simp;omega
      ·rw [hn7]
       refine own_intsT (base:=(W5.alloc (.cells #[.int .i64 (c:Int)] 3)).drew.heap.size+2) (e:=3) (c:=c8) (own8 ?_ ?_ _ _ _ _ _ _ _ _)
       ·rw [map_nats]
        have:=OWM.out
        rw [HLL.out] at this
        exact this
       ·have:=HU.out.i.lt;have:=HU.out.lo;simp;omega
  ·have HC:=hide (show ¬d.mt.getD a 0=b by rw [HGA.out];exact hcl)
   have HCL:=hide hcl
   have HGB:=hide (show d.mt.getD b 0=d.m b from getD_m (by rw [HML.out];exact hbm))
   clear hcl
   obtain ⟨f0,f1,f2,f3⟩:=box3 Z0.out
   have hwr:IntKind.i64.wrap (d.lp:Int)=(d.lp:Int):=IntWalk.i64_in _ (by omega)
   have hwr0:IntKind.i64.wrap ((d.lp:Int)+0)=(d.lp:Int):=by rw [Int.add_zero];exact hwr
   go_region_held3 (fun w'=>w'.cell? ⟨w.heap.size,2,none⟩=some (.int .i64 (d.lp:Int))) (first | go_keep | assumption)
    (first
      | (go_at_call 73
         refine Calls.mono (closed_no w1.heap.size g2 m c2 a b d.mt _ ?_ ham hbm (by omega) HLT.out HC.out) ?_
         ·exact OwnN.drew' rfl OWN2.out
         rintro e w3 ⟨rfl,own3,gr3⟩
         obtain ⟨_,_,h2,_⟩:=box3 ((Z0.out.drew).grown gr3 (by intro h;injection h;omega))
         have OWN3:=hide own3
         have GR3:=hide gr3
         clear own3 gr3))
   clear hwr hwr0 f0 f1 f2 f3 h2
   have V0:=hide ((Z0.out.drew).grown GR3.out (by intro h;injection h;omega))
   have V1:=hide ((Z1.out.drew).grown GR3.out (by intro h;injection h;omega))
   have V2:=hide ((Z2.out.drew).grown GR3.out (by intro h;injection h;omega))
   have V3:=hide ((Z3.out.drew).grown GR3.out (by intro h;injection h;omega))
   have B3:=hide ((B2.out.drew).grown GR3.out (B2.out.drew).size (fun k hk=>by injection hk with hk;omega))
   have hs3:w.heap.size+4≤w3.heap.size:=by have:=GR3.out.size;have:w2.drew.heap.size=w2.heap.size:=rfl;omega
   have l1:w.heap.size<w3.heap.size:=by omega
   have l2:w.heap.size+1<w3.heap.size:=by omega
   have l3:w.heap.size+1+1<w3.heap.size:=by omega
   have l4:w.heap.size+1+1+1<w3.heap.size:=by omega
   obtain ⟨f0,f1,f2,f3⟩:=box3 V0.out
   obtain ⟨m0,m1,m2,m3,m4,m5⟩:=box5 V1.out
   obtain ⟨p0,p1,p2,p3⟩:=box3 V2.out
   obtain ⟨q0,q1,q2,q3,q4,q5⟩:=box5 V3.out
   have hfu:(d.lp:Int)≤64:=by omega
   have HG3:=hide (HG.out.keep B3.out)
   obtain ⟨ab,ao,rfl,hcs⟩:=sign_at HG3.out.s hc
   obtain ⟨mb,mo,rfl,hcm⟩:=mate_at HG3.out.m (k:=a) (by have:=HM.out;omega)
   have lmb:mb<w3.heap.size:=lt_of_cell hcm
   have ia:(0:Int)≤(a:Int):=by omega
   have ib:(a:Int)<(m:Int):=by omega
   have hma:d.m a≤256:=by have:=hd.lt a ha1;omega
   obtain ⟨u,hu⟩:∃u,u=d.m a:=⟨_,rfl⟩
   rw [←hu] at hcm hma
   have HUU:=hide hu
   clear hu
   go_wp2_with fail
   obtain ⟨bb,hbb⟩:∃bb,bb=((a:Int) % 2 == 1):=⟨_,rfl⟩
   have HBB:=hide hbb
   rw [←hbb]
   clear hbb
   refine (shifted_any [c] (some ⟨w3.heap.size+1,0,none⟩) 1 1 u _ ?_ (by omega) (by omega) (Pl.few_one c)).mono ?_
   ·exact one_ints' (w3.alloc (.cells #[.int .i64 1,.int .i64 (-1),.int .i64 0,.int .i64 (d.s c),.bool bb] 43)) c (by simp)
   rintro e w4 ⟨rfl,rfl⟩
   go_wp2_with fail
   obtain ⟨W5,hW5⟩:∃W5:World,W5=(w3.alloc (.cells #[.int .i64 1,.int .i64 (Pl.shf [c] u:Nat),.int .i64 0,.int .i64 (d.s c),.bool bb] 43)).alloc (.cells #[.int .i64 (c:Int)] 3):=⟨_,rfl⟩
   rw [←hW5]
   obtain ⟨gi,hgi⟩:∃gi,gi=w3.heap.size:=⟨_,rfl⟩
   rw [←hgi]
   have HU:=hide (show UC w gi (.slice (some ⟨ab,ao,none⟩) d.n cp) (.slice (some ⟨mb,mo,none⟩) m cq) (.int .i64 (d.lp:Int)) (.int .i64 1) (.int .i64 (Pl.shf [c] u:Nat)) (.int .i64 0) (.int .i64 (d.s c)) (.bool bb) W5 by
    rw [hW5]
    exact ⟨(V0.out.alloc _).alloc _,Row.alloc (row_at (vs:=[.int .i64 1,.int .i64 (Pl.shf [c] u:Nat),.int .i64 0,.int .i64 (d.s c),.bool bb]) hgi) _,⟨_,(V2.out.alloc _).alloc _,rfl⟩,⟨_,(V3.out.alloc _).alloc _,rfl⟩,(B3.out.alloc (by omega) _).alloc (by simp;omega) _,by omega⟩)
   obtain ⟨LL,hLL⟩:∃LL,LL=jn d.mt (d.mt.getD a 0) (d.mt.getD b 0):=⟨_,rfl⟩
   have HMo:=hide (show OwnN W5 w1.heap.size g2 m c2 LL by rw [hW5,hLL];exact (OWN3.out.alloc _).alloc _)
   have HLE:=hide (show ∀k,LL.getD k 0≤1000 from fun k=>by rw [hLL];exact Nat.le_trans (jn_le (getD_le hd) (getD_le hd a) (getD_le hd b) k) (by omega))
   have HG5:=hide (show DgAt W5 (some ⟨ab,ao,none⟩) (some ⟨mb,mo,none⟩) d from HG.out.keep HU.out.bel)
   have HLL:=hide (show LL=unM d c by unfold unM;rw [←HA.out,←HB.out,if_neg HCL.out,hLL,HGA.out,HGB.out])
   have HE0:=hide (show uncC d c=0 by unfold uncC;rw [if_pos HK.out,←HA.out,←HB.out,if_neg HCL.out])
   clear hW5 hgi hLL f0 f1 f2 f3 m0 m1 m2 m3 m4 m5 p0 p1 p2 p3 q0 q1 q2 q3 q4 q5 hcs hcm l1 l2 l3 l4
   have HCAP:=hide HMo.out.caps
   have KS:=hide (IntsAt.drew ((HG5.out.s).alloc (.cells #[.int .i64 (c:Int)] 3)))
   have KM:=hide (OwnN.ints (OwnN.drew' rfl (HMo.out.alloc (.cells #[.int .i64 (c:Int)] 3))))
   have KG:=hide (one_ints W5 c)
   go_region_held3 (fun w'=>w'.cell? ⟨w.heap.size,0,none⟩=some (.slice (some ⟨ab,ao,none⟩) d.n cp)∧w'.cell? ⟨gi,0,none⟩=some (.int .i64 1)∧w'.cell? ⟨gi,1,none⟩=some (.int .i64 (Pl.shf [c] u:Nat))∧w'.cell? ⟨gi,2,none⟩=some (.int .i64 0)∧w'.cell? ⟨gi,3,none⟩=some (.int .i64 (d.s c))∧w'.cell? ⟨gi,4,none⟩=some (.bool bb) ∧
    w'.cell? ⟨w.heap.size+1+1,0,none⟩=some (cv w' ⟨w.heap.size+1+1,0,none⟩)∧w'.cell? ⟨w.heap.size+1+1,1,none⟩=some (cv w' ⟨w.heap.size+1+1,1,none⟩)∧w'.cell? ⟨w.heap.size+1+1,2,none⟩=some (cv w' ⟨w.heap.size+1+1,2,none⟩) ∧
    w'.cell? ⟨w.heap.size+1+1+1,0,none⟩=some (cv w' ⟨w.heap.size+1+1+1,0,none⟩)∧w'.cell? ⟨w.heap.size+1+1+1,1,none⟩=some (cv w' ⟨w.heap.size+1+1+1,1,none⟩)∧w'.cell? ⟨w.heap.size+1+1+1,2,none⟩=some (cv w' ⟨w.heap.size+1+1+1,2,none⟩)∧w'.cell? ⟨w.heap.size+1+1+1,3,none⟩=some (cv w' ⟨w.heap.size+1+1+1,3,none⟩)∧w'.cell? ⟨w.heap.size+1+1+1,4,none⟩=some (cv w' ⟨w.heap.size+1+1+1,4,none⟩) ∧
    (∀o,w'.frozen? ⟨w.heap.size+1+1,o,none⟩=false)∧(∀o,w'.frozen? ⟨w.heap.size+1+1+1,o,none⟩=false)∧UC w gi (.slice (some ⟨ab,ao,none⟩) d.n cp) (.slice (some ⟨mb,mo,none⟩) m cq) (.int .i64 (d.lp:Int)) (.int .i64 1) (.int .i64 (Pl.shf [c] u:Nat)) (.int .i64 0) (.int .i64 (d.s c)) (.bool bb) w')
    ((go_split_ands;refine UC.all ?_;(repeat (first | (with_reducible assumption) | (with_reducible exact HU.out) | (with_reducible refine UC.setD ?_ _ _) | (with_reducible refine UC.setM ?_ _ _) | (with_reducible refine UC.alloc ?_ _) | (with_reducible refine UC.drew ?_) | (with_reducible refine UC.below ?_ hb6)))))
    (first
      | (go_at_call 75
         refine Calls.mono (shrunk_sl [c] d.sg LL (d.lp:Int) (some ⟨ab,ao,none⟩) (some ⟨g2,0,none⟩) (some ⟨W5.heap.size,0,none⟩) d.n m 1 cp c2 1 _ ?_ ?_ ?_ (Pl.few_one c) HM.out HCAP.out.1 HCAP.out.2 (by omega) (by omega) HLE.out) ?_
         ·exact KS.out
         ·exact KM.out
         ·exact KG.out
         rintro e w6 ⟨A7,A8,c7,c8,rfl,owS,owM,hb6⟩
         have OWS:=hide owS
         have OWM:=hide owM
         clear owS owM))
   all_goals
    have HU6:=hide (show UC w gi (.slice (some ⟨ab,ao,none⟩) d.n cp) (.slice (some ⟨mb,mo,none⟩) m cq) (.int .i64 (d.lp:Int)) (.int .i64 1) (.int .i64 (Pl.shf [c] u:Nat)) (.int .i64 0) (.int .i64 (d.s c)) (.bool bb) w6 from by
     repeat (first | (with_reducible assumption) | (with_reducible exact HU.out) | (with_reducible refine UC.alloc ?_ _) | (with_reducible refine UC.drew ?_) | (with_reducible refine UC.below ?_ hb6)))
    have hb6s:W5.heap.size+1+2≤w6.heap.size∨True:=.inr trivial
    go_wp2
    obtain ⟨vs6,r6,l6⟩:=HU6.out.rd
    obtain ⟨us6,t6,k6⟩:=HU6.out.rm
    refine bodyPost_ret (v := .tuple #[.agg #[.slice A7 (Pl.left d.sg.length [c]).length c7,.slice A8 (4 * (Pl.left d.sg.length [c]).length) c8,.int .i64 (d.lp:Int)],.agg #[.int .i64 1,.int .i64 (Pl.shf [c] u:Nat),.int .i64 0,.int .i64 (d.s c),.bool bb],.int .i64 0]) ?_ rfl ?_
    ·obtain ⟨e0,e1,e2,e3,e4,e5,e6,e7⟩:=fin8 r6 t6 l6 k6 (by omega) (.slice A7 (Pl.left d.sg.length [c]).length c7) (.slice A8 (4 * (Pl.left d.sg.length [c]).length) c8) (.int .i64 (d.lp:Int)) (.int .i64 1) (.int .i64 (Pl.shf [c] u:Nat)) (.int .i64 0) (.int .i64 (d.s c)) (.bool bb)
     simp [results,Tryz.results44,go_sem,e0,e1,e2,e3,e4,e5,e6,e7]
    ·have hn7:(unD d c).n=(Pl.left d.sg.length [c]).length:=by unfold unD Pl.Dg.n;exact Pl.shrS_len _ _
     refine ⟨fun h=>absurd HE0.out h,fun _=>⟨A7,A8,c7,c8,?_,?_,?_⟩,below8 HU6.out.bel _ _ _ _ _ _ _ _⟩
     ·rw [hn7]
      unfold unD unI Mv.v
      simp only [←HA.out,←HB.out,if_neg HCL.out]
      simp only [←HUU.out]
      have e2:decide (a % 2=1)=bb:=by rw [HBB.out,Bool.eq_iff_iff];simp;omega
      rw [e2]
     ·rw [hn7]
      refine own_intsT (base:=(W5.alloc (.cells #[.int .i64 (c:Int)] 3)).drew.heap.size+2) (e:=3) (c:=c7) (own8 ?_ ?_ _ _ _ _ _ _ _ _)
      ·exact OWS.out
      ·have:=HU.out.i.lt;have:=HU.out.lo;simp;omega
     ·rw [hn7]
      refine own_intsT (base:=(W5.alloc (.cells #[.int .i64 (c:Int)] 3)).drew.heap.size+2) (e:=3) (c:=c8) (own8 ?_ ?_ _ _ _ _ _ _ _ _)
      ·rw [map_nats]
       have:=OWM.out
       rw [HLL.out] at this
       exact this
      ·have:=HU.out.i.lt;have:=HU.out.lo;simp;omega
 ·rw [Pl.vb_false (show ¬isK d c from hK)]
  unfold kinkE
  rw [if_neg (by decide)]
  have HK:=hide hK
  clear hK
  go_wp2
  refine bodyPost_ret (v := .tuple #[nilD,nilM,.int .i64 6]) ?_ rfl ?_
  ·obtain ⟨e0,e1,e2,e3,e4,e5,e6,e7⟩:=fin8 Y2.out Y3.out rfl rfl (by omega) (.slice none 0 0) (.slice none 0 0) (.int .i64 0) (.int .i64 0) (.int .i64 0) (.int .i64 0) (.int .i64 0) (.bool false)
   unfold nilD nilM
   simp [results,Tryz.results44,go_sem,e0,e1,e2,e3,e4,e5,e6,e7]
  ·have e6:uncC d c=6:=by unfold uncC;rw [if_neg HK.out]
   refine ⟨fun _=>by rw [e6];exact rfl,fun h=>absurd h (by rw [e6];decide),below8 B1.out _ _ _ _ _ _ _ _⟩
end Go.Proofs.YtdgliimmnnhhjaaGreatDoor
end
