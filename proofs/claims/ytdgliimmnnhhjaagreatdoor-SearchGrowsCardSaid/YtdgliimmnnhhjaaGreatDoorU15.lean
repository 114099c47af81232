/-
  The texts Xa.
-/
import Derived.Test.YtdgliimmnnhhjaaGreatDoorU13
set_option linter.unusedVariables false
set_option linter.unusedSimpArgs false
section
namespace Go.Proofs.YtdgliimmnnhhjaaGreatDoor
open Go Go.RowKit
theorem next_i (d:Pl.Dg)(hd:Pl.Wf d)(B:Option Addr)(cq m:Nat)(h:Int)(w:World)(e:m=4 * d.n)(hh:0≤h∧h<(m:Int))(hm:IntsAt w B m (nats d.mt)) :
 Calls Tryz.prog 86 #[.slice B m cq,.int .i64 h] w fun e w'=>e = .returned (.int .i64 (Pl.nx d h.toNat:Nat))∧w'=w:=by
 subst e
 obtain ⟨k,rfl⟩:=Int.eq_ofNat_of_zero_le hh.1
 have hk:k<4 * d.n:=by omega
 refine (next_any d B cq k w hk (by have:=hd.few;omega) hm (hd.lt k hk)).mono ?_
 rintro e w' ⟨rfl,rfl⟩
 exact ⟨rfl,rfl⟩
def lnH (x y i:Nat):Nat:=if i<4 then 4 * x+i else 4 * y+i - 4
def lnO (x y i:Nat):Nat:=if i<4 then y else x
def isL (d:Pl.Dg)(x y i:Nat):Prop:=Pl.nx d (lnH x y i) / 4=lnO x y i∧Pl.nx d (Pl.nx d (lnH x y i))=lnH x y i∧lnH x y i % 2=d.m (lnH x y i) % 2
instance (d:Pl.Dg) (x y i:Nat):Decidable (isL d x y i):=by unfold isL;infer_instance
def lensI (d:Pl.Dg)(x y:Nat):Option Nat:=(List.range 8).find? (fun i=>decide (isL d x y i))
def lensV (d:Pl.Dg)(h:Nat):Value :=
 .agg #[.int .i64 (h:Int),.int .i64 (d.m (Pl.nx d h):Int),.int .i64 (Pl.tn h 2:Int),.int .i64 (Pl.tn (d.m (Pl.nx d h)) 2:Int),.int .i64 (Pl.tn (d.m h) 2:Int),.int .i64 (Pl.nx d h:Int),.int .i64 (d.m h:Int),.int .i64 (Pl.tn (Pl.nx d h) 2:Int)]
def noLens:Value := .agg #[.int .i64 0,.int .i64 0,.int .i64 0,.int .i64 0,.int .i64 0,.int .i64 0,.int .i64 0,.int .i64 0]
def findE (d:Pl.Dg)(x y:Nat):Option Nat→Ending
 | some i => .returned (.tuple #[lensV d (lnH x y i),.bool true])
 | none => .returned (.tuple #[noLens,.bool false])
def FindPost (d:Pl.Dg)(x y:Nat)(w:World)(e:Ending)(w':World):Prop:=e=findE d x y (lensI d x y)∧Below w.heap.size w w'
theorem find_some {p:Nat→Bool}{k:Nat}:∀n,k<n→p k=true→(∀j,j<k→p j=false)→(List.range n).find? p=some k:=by
 intro n
 induction n with
 | zero=>intro h;omega
 | succ n ih =>
   intro hk hp hn
   rw [List.range_succ,List.find?_append]
   rcases Nat.lt_or_ge k n with h | h
   ·rw [ih h hp hn];rfl
   ·have:k=n:=by omega
    subst this
    have h0:(List.range k).find? p=none:=by
     rw [List.find?_eq_none]
     intro x hx
     rw [hn x (List.mem_range.1 hx)];decide
    rw [h0]
    simp [hp]
theorem find_none {p:Nat→Bool}{n:Nat}(hn:∀j,j<n→p j=false):(List.range n).find? p=none:=by
 rw [List.find?_eq_none]
 intro x hx
 rw [hn x (List.mem_range.1 hx)];decide
theorem lens_at {d:Pl.Dg}{x y k:Nat}(hk:k<8)(hp:isL d x y k)(hn:∀j,j<k→¬isL d x y j):lensI d x y=some k :=
 find_some 8 hk (by simpa using hp) (fun j hj=>by simpa using hn j hj)
theorem lens_no {d:Pl.Dg}{x y:Nat}(hn:∀j,j<8→¬isL d x y j):lensI d x y=none:=find_none (fun j hj=>by simpa using hn j hj)
theorem find_more {p:Nat→Prop}{k:Nat}(h:∀j,j<k→¬p j)(hk:¬p k):∀j,j<k+1→¬p j:=fun j hj=>by
 rcases Nat.lt_or_ge j k with h1 | h1
 ·exact h j h1
 ·have:j=k:=by omega
  subst this;exact hk
theorem row8 {W:World}{g:Nat}{t:TypeId}{vs:List Value}(h:Row W g t vs)(l:vs.length=8)(y0 y1 y2 y3 y4 y5 y6 y7:Value) :
 Row ((((((((W.setCell ⟨g,0,none⟩ y0).setCell ⟨g,1,none⟩ y1).setCell ⟨g,2,none⟩ y2).setCell ⟨g,3,none⟩ y3).setCell ⟨g,4,none⟩ y4).setCell ⟨g,5,none⟩ y5).setCell ⟨g,6,none⟩ y6).setCell ⟨g,7,none⟩ y7) g t [y0,y1,y2,y3,y4,y5,y6,y7]:=by
 obtain ⟨a,b,c,d,e,f,g',h',rfl⟩:∃a b c d e f g h,vs=[a,b,c,d,e,f,g,h]:=by
  match vs,l with
  | [a,b,c,d,e,f,g,h],_=>exact ⟨a,b,c,d,e,f,g,h,rfl⟩
 exact (((((((h.set 0 y0).set 1 y1).set 2 y2).set 3 y3).set 4 y4).set 5 y5).set 6 y6).set 7 y7
theorem box8 {W:World}{g:Nat}{t:TypeId}{a b c d e f p q:Value}(h:Row W g t [a,b,c,d,e,f,p,q]):W.cell? ⟨g,0,none⟩=some a∧W.cell? ⟨g,1,none⟩=some b∧W.cell? ⟨g,2,none⟩=some c∧W.cell? ⟨g,3,none⟩=some d∧W.cell? ⟨g,4,none⟩=some e∧W.cell? ⟨g,5,none⟩=some f∧W.cell? ⟨g,6,none⟩=some p∧W.cell? ⟨g,7,none⟩=some q∧∀o,W.frozen? ⟨g,o,none⟩=false :=
 ⟨h.cell (i:=0) (by simp),h.cell (i:=1) (by simp),h.cell (i:=2) (by simp),h.cell (i:=3) (by simp),h.cell (i:=4) (by simp),h.cell (i:=5) (by simp),h.cell (i:=6) (by simp),h.cell (i:=7) (by simp),h.free⟩
theorem below_set8 {w W:World}{g:Nat}(h:Below w.heap.size w W)(hg:w.heap.size≤g)(y0 y1 y2 y3 y4 y5 y6 y7:Value) :
 Below w.heap.size w ((((((((W.setCell ⟨g,0,none⟩ y0).setCell ⟨g,1,none⟩ y1).setCell ⟨g,2,none⟩ y2).setCell ⟨g,3,none⟩ y3).setCell ⟨g,4,none⟩ y4).setCell ⟨g,5,none⟩ y5).setCell ⟨g,6,none⟩ y6).setCell ⟨g,7,none⟩ y7) :=
 (((((((h.setCell hg _).setCell hg _).setCell hg _).setCell hg _).setCell hg _).setCell hg _).setCell hg _).setCell hg _
set_option maxRecDepth 100000 in
set_option maxHeartbeats 4000000 in
theorem find_any (d:Pl.Dg)(hd:Pl.Wf d)(A B:Option Addr)(cp cq m x y:Nat)(w:World)(hm:m=4 * d.n)(hg:DgAt w A B d)(hx:x<d.n)(hy:y<d.n) :
 Calls Tryz.prog 83 #[.agg #[.slice A d.n cp,.slice B m cq,.int .i64 d.lp],.int .i64 (x:Int),.int .i64 (y:Int)] w (FindPost d x y w):=by
 have hn:=hd.few
 have HM:=hide hm
 have HG:=hide hg
 have hm2:m≤256:=by omega
 clear hm hg
 have X0:=hide (show Row ((w.alloc (.cells #[.slice A d.n cp,.slice B m cq,.int .i64 d.lp] 24)).alloc (.cells #[.int .i64 0,.int .i64 0,.int .i64 0,.int .i64 0,.int .i64 0,.int .i64 0,.int .i64 0,.int .i64 0] 128)) w.heap.size 24 [.slice A d.n cp,.slice B m cq,.int .i64 d.lp] from Row.alloc (Row.new w _ [_,_,_]) _)
 have R0:=hide (show Row ((w.alloc (.cells #[.slice A d.n cp,.slice B m cq,.int .i64 d.lp] 24)).alloc (.cells #[.int .i64 0,.int .i64 0,.int .i64 0,.int .i64 0,.int .i64 0,.int .i64 0,.int .i64 0,.int .i64 0] 128)) (w.heap.size+1) 128 [.int .i64 0,.int .i64 0,.int .i64 0,.int .i64 0,.int .i64 0,.int .i64 0,.int .i64 0,.int .i64 0] from row_at (vs:=[_,_,_,_,_,_,_,_]) (by simp))
 have B0:=hide (show Below w.heap.size w ((w.alloc (.cells #[.slice A d.n cp,.slice B m cq,.int .i64 d.lp] 24)).alloc (.cells #[.int .i64 0,.int .i64 0,.int .i64 0,.int .i64 0,.int .i64 0,.int .i64 0,.int .i64 0,.int .i64 0] 128)) from ((Below.refl _ _).alloc (Nat.le_refl _) _).alloc (by simp) _)
 go_enter Tryz.func83,Tryz.ntmps83
 go_wp2
 go_loopg [15] 8 (fun g i wx=>∃k:Nat,k+g=8∧i = .int .i64 k∧(∀j,j<k→¬isL d x y j)∧Below w.heap.size w wx∧Row wx w.heap.size 24 [.slice A d.n cp,.slice B m cq,.int .i64 d.lp]∧Row wx (w.heap.size+1) 128 [.int .i64 0,.int .i64 0,.int .i64 0,.int .i64 0,.int .i64 0,.int .i64 0,.int .i64 0,.int .i64 0])
 case atStart=>exact ⟨0,rfl,rfl,fun j h=>absurd h (by omega),B0.out,X0.out,R0.out⟩
 case round =>
  clear B0 X0 R0
  obtain ⟨k,hkg,rfl,hno,b1,x1,r1⟩:=hrel
  have HKG:=hide hkg
  have HNO:=hide hno
  have B1:=hide b1
  have X1:=hide x1
  have R1:=hide r1
  clear hno b1 x1 r1
  by_cases hk:k=8
  ·subst hk
   clear hkg
   obtain ⟨p0,p1,p2,p3,p4,p5,p6,p7,p8⟩:=box8 R1.out
   go_wp2
   refine bodyPost_ret (v := .tuple #[noLens,.bool false]) ?_ rfl ?_
   ·obtain ⟨e0,e1,e2,e3,e4,e5,e6,e7,_⟩:=box8 (row8 R1.out rfl (.int .i64 0) (.int .i64 0) (.int .i64 0) (.int .i64 0) (.int .i64 0) (.int .i64 0) (.int .i64 0) (.int .i64 0))
    unfold noLens
    simp [results,Tryz.results83,go_sem,e0,e1,e2,e3,e4,e5,e6,e7]
   ·refine ⟨?_,below_set8 B1.out (by omega) _ _ _ _ _ _ _ _⟩
    rw [lens_no HNO.out]
    rfl
  ·have hk8:k<8:=by omega
   have HK8:=hide hk8
   clear hkg hk
   obtain ⟨f0,f1,f2,f3⟩:=box3 X1.out
   go_upto_if 24 with fail
   go_cut [9,10] (fun s9 s10 wx=>s9 = .int .i64 (lnH x y k:Nat)∧s10 = .int .i64 (lnO x y k:Nat)∧wx=wr)
   case first =>
    by_cases h4:k<4
    ·have e1:((lnH x y k:Nat):Int)=4 * (x:Int)+(k:Int):=by unfold lnH;rw [if_pos h4];omega
     have e2:lnO x y k=y:=by unfold lnO;rw [if_pos h4]
     have E1:=hide e1
     have E2:=hide e2
     clear e1 e2
     go_wp2_with fail
     go_meet
     exact ⟨by rw [E1.out],by rw [E2.out],rfl⟩
    ·have e1:((lnH x y k:Nat):Int)=4 * (y:Int)+(k:Int) - 4:=by unfold lnH;rw [if_neg h4];omega
     have e2:lnO x y k=x:=by unfold lnO;rw [if_neg h4]
     have E1:=hide e1
     have E2:=hide e2
     clear e1 e2
     go_wp2_with fail
     go_meet
     exact ⟨by rw [E1.out],by rw [E2.out],rfl⟩
   case rest =>
    obtain ⟨rfl,rfl,rfl⟩:=hcut
    have hh:lnH x y k<4 * d.n:=by unfold lnH;split <;> omega
    have ho:lnO x y k<d.n:=by unfold lnO;split <;> omega
    obtain ⟨h,hH⟩:∃h,h=lnH x y k:=⟨_,rfl⟩
    obtain ⟨o,hO⟩:∃o,o=lnO x y k:=⟨_,rfl⟩
    rw [←hH] at hh ⊢
    rw [←hO] at ho ⊢
    have HH:=hide hH
    have HO:=hide hO
    clear hH hO
    have hmh:h<m:=by have:=HM.out;omega
    have ih0:(0:Int)≤(h:Int):=by omega
    have ih1:(h:Int)<(m:Int):=by omega
    have HGc:=hide (HG.out.keep B1.out)
    have HGM:=hide (show IntsAt wc B m (nats d.mt) by rw [HM.out];exact HGc.out.m)
    obtain ⟨mb,mo,rfl,cm⟩:=mate_at HGc.out.m hh
    have hmm:=hd.lt h hh
    have hgg:Pl.nx d h<4 * d.n:=Pl.tn_lt (hd.lt h hh)
    obtain ⟨u,hu⟩:∃u,u=d.m h:=⟨_,rfl⟩
    rw [←hu] at cm hmm
    obtain ⟨g,hgx⟩:∃g,g=Pl.nx d h:=⟨_,rfl⟩
    rw [←hgx] at hgg
    have HU:=hide hu
    have HGX:=hide hgx
    clear hu hgx
    have hg2:Pl.nx d g<4 * d.n:=Pl.tn_lt (hd.lt g hgg)
    have hgm:g<m:=by have:=HM.out;omega
    have ig0:(0:Int)≤(g:Int):=by omega
    have ig1:(g:Int)<(m:Int):=by omega
    go_wp2_with fail
    refine (next_i d hd (some ⟨mb,mo,none⟩) cq m (h:Int) _ HM.out (by omega) HGM.out).mono ?_
    rintro e w2 ⟨rfl,rfl⟩
    rw [Int.toNat_natCast,←HGX.out]
    have HL:=hide (show isL d x y k↔(g / 4=o∧Pl.nx d g=h∧h % 2=u % 2) by unfold isL;rw [←HH.out,←HO.out,←HGX.out,←HU.out])
    obtain ⟨v,hv⟩:∃v,v=Pl.nx d g:=⟨_,rfl⟩
    have HV:=hide hv
    clear hv cm
    by_cases c1:g / 4=o
    ·have t1:((g:Int) / 4 != (o:Int))=false:=by rw [bne_eq_false_iff_eq];omega
     have C1:=hide c1
     clear c1
     go_wp2_with fail
     refine (next_i d hd (some ⟨mb,mo,none⟩) cq m (g:Int) _ HM.out (by omega) HGM.out).mono ?_
     rintro e w3 ⟨rfl,rfl⟩
     rw [Int.toNat_natCast,←HV.out]
     by_cases c2:v=h
     ·have t2:((v:Int) != (h:Int))=false:=by rw [bne_eq_false_iff_eq];omega
      by_cases c3:h % 2=u % 2
      ·have t3:((h:Int) % 2 != (u:Int) % 2)=false:=by rw [bne_eq_false_iff_eq];omega
       have E:=hide (lens_at HK8.out (HL.out.2 ⟨C1.out,by rw [←HV.out];exact c2,c3⟩) HNO.out)
       have C2:=hide c2
       clear c2 c3
       have HGn:=hide (HG.out.keep B1.out)
       obtain ⟨mb',mo',hmb',cn⟩:=mate_at HGn.out.m hgg
       injection hmb' with hmb'
       injection hmb' with hmb1 hmb2
       subst hmb1
       subst hmb2
       have hmg:=hd.lt g hgg
       obtain ⟨up,hup⟩:∃up,up=d.m g:=⟨_,rfl⟩
       rw [←hup] at cn hmg
       have HUP:=hide hup
       clear hup
       obtain ⟨p0,p1,p2,p3,p4,p5,p6,p7,p8⟩:=box8 R1.out
       go_wp2_with fail
       refine (opp_i (h:Int) _ (by omega)).mono ?_
       rintro e w4 ⟨rfl,rfl⟩
       go_wp2_with fail
       refine (opp_i (up:Int) _ (by omega)).mono ?_
       rintro e w5 ⟨rfl,rfl⟩
       go_wp2_with fail
       refine (opp_i (u:Int) _ (by omega)).mono ?_
       rintro e w6 ⟨rfl,rfl⟩
       go_wp2_with fail
       refine (opp_i (g:Int) _ (by omega)).mono ?_
       rintro e w7 ⟨rfl,rfl⟩
       have hlt:=R1.out.lt
       go_wp2
       refine bodyPost_ret (v := .tuple #[lensV d h,.bool true]) ?_ rfl ?_
       ·obtain ⟨e0,e1,e2,e3,e4,e5,e6,e7,_⟩:=box8 ((row8 R1.out rfl (.int .i64 (h:Int)) (.int .i64 (up:Int)) (.int .i64 (Pl.tn h 2:Int)) (.int .i64 (Pl.tn up 2:Int)) (.int .i64 (Pl.tn u 2:Int)) (.int .i64 (g:Int)) (.int .i64 (u:Int)) (.int .i64 (Pl.tn g 2:Int))).alloc (.cells #[.int .i64 (h:Int),.int .i64 (up:Int),.int .i64 (Pl.tn h 2:Int),.int .i64 (Pl.tn up 2:Int),.int .i64 (Pl.tn u 2:Int),.int .i64 (g:Int),.int .i64 (u:Int),.int .i64 (Pl.tn g 2:Int)] 128))
        unfold lensV
        rw [←HGX.out,←HU.out,←HUP.out]
        simp [results,Tryz.results83,go_sem,e0,e1,e2,e3,e4,e5,e6,e7]
       ·refine ⟨?_,Below.alloc (below_set8 B1.out (by omega) _ _ _ _ _ _ _ _) (below_set8 B1.out (by omega) _ _ _ _ _ _ _ _).size _⟩
        rw [E.out]
        show _=Ending.returned (.tuple #[lensV d (lnH x y k),.bool true])
        rw [←HH.out]
      ·have t3:((h:Int) % 2 != (u:Int) % 2)=true:=by rw [bne_iff_ne];omega
       have E:=hide (show ¬isL d x y k from fun h=>c3 (HL.out.1 h).2.2)
       clear c2 c3
       go_wp2_with fail
       go_roundg (gk - 1)
       case measure=>have:=HKG.out;have:=HK8.out;omega
       case rel=>exact ⟨k+1,by have:=HKG.out;have:=HK8.out;omega,by go_num,find_more HNO.out E.out,B1.out,X1.out,R1.out⟩
     ·have t2:((v:Int) != (h:Int))=true:=by rw [bne_iff_ne];omega
      have E:=hide (show ¬isL d x y k from fun h=>c2 (by rw [HV.out];exact (HL.out.1 h).2.1))
      clear c2
      go_wp2_with fail
      go_roundg (gk - 1)
      case measure=>have:=HKG.out;have:=HK8.out;omega
      case rel=>exact ⟨k+1,by have:=HKG.out;have:=HK8.out;omega,by go_num,find_more HNO.out E.out,B1.out,X1.out,R1.out⟩
    ·have t1:((g:Int) / 4 != (o:Int))=true:=by rw [bne_iff_ne];omega
     have E:=hide (show ¬isL d x y k from fun h=>c1 (HL.out.1 h).1)
     clear c1
     go_wp2_with fail
     go_roundg (gk - 1)
     case measure=>have:=HKG.out;have:=HK8.out;omega
     case rel=>exact ⟨k+1,by have:=HKG.out;have:=HK8.out;omega,by go_num,find_more HNO.out E.out,B1.out,X1.out,R1.out⟩
end Go.Proofs.YtdgliimmnnhhjaaGreatDoor
end
