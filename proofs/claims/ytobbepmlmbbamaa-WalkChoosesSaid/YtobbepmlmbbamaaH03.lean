/-
 The texts Xa, Xe, Wn, Xj, Xo, Xp, Wz, Xc, Rd.
-/
import Derived.Test.YtobbepmlmbbamaaH04
set_option linter.unusedVariables false
set_option linter.unusedSimpArgs false
section
namespace Go.Proofs.Ytobbepmlmbbamaa
open Go Go.RowKit
theorem next_i (d:Pl.Dg)(hd:Pl.Wf d)(B:Option Addr)(cq m:Nat)(h:Int)(w:World)(e:m=4 * d.n)(hh:0≤h∧h<(m:Int))(hm:IntsAt w B m (nats d.mt)) :
 Calls Try.prog 95 #[.slice B m cq,.int .i64 h] w fun e w'=>e = .returned (.int .i64 (Pl.nx d h.toNat:Nat))∧w'=w:=by
 subst e
 obtain ⟨k,rfl⟩:=Int.eq_ofNat_of_zero_le hh.1
 have hk:k<4 * d.n:=by omega
 refine (next_any d B cq k w hk (by have:=hd.few;omega) hm (hd.lt k hk)).mono ?_
 rintro e w' ⟨rfl,rfl⟩
 exact ⟨rfl,rfl⟩
def lnH (x y i:Nat):Nat:=if i<4 then 4 * x+i else 4 * y+i - 4
def lnO (x y i:Nat):Nat:=if i<4 then y else x
def isL (d:Pl.Dg)(x y i:Nat):Prop:=Pl.nx d (lnH x y i) / 4=lnO x y i∧Pl.nx d (Pl.nx d (lnH x y i))=lnH x y i∧lnH x y i % 2=d.m (lnH x y i) % 2
instance (d:Pl.Dg) (x y i:Nat):Decidable (isL d x y i):=by unfold isL;infer_instance
def lensI (d:Pl.Dg)(x y:Nat):Option Nat:=(List.range 8).find? (fun i=>decide (isL d x y i))
def lensV (d:Pl.Dg)(h:Nat):Value :=
 .agg #[.int .i64 (h:Int),.int .i64 (d.m (Pl.nx d h):Int),.int .i64 (Pl.tn h 2:Int),.int .i64 (Pl.tn (d.m (Pl.nx d h)) 2:Int),.int .i64 (Pl.tn (d.m h) 2:Int),.int .i64 (Pl.nx d h:Int),.int .i64 (d.m h:Int),.int .i64 (Pl.tn (Pl.nx d h) 2:Int)]
def noLens:Value := .agg #[.int .i64 0,.int .i64 0,.int .i64 0,.int .i64 0,.int .i64 0,.int .i64 0,.int .i64 0,.int .i64 0]
def findE (d:Pl.Dg)(x y:Nat):Option Nat→Ending
 | some i => .returned (.tuple #[lensV d (lnH x y i),.bool true])
 | none => .returned (.tuple #[noLens,.bool false])
def FindPost (d:Pl.Dg)(x y:Nat)(w:World)(e:Ending)(w':World):Prop:=e=findE d x y (lensI d x y)∧Below w.heap.size w w'
theorem find_some {p:Nat→Bool}{k:Nat}:∀n,k<n→p k=true→(∀j,j<k→p j=false)→(List.range n).find? p=some k:=by
 intro n
 induction n with
 | zero=>intro h;omega
 | succ n ih =>
   intro hk hp hn
   rw [List.range_succ,List.find?_append]
   rcases Nat.lt_or_ge k n with h | h
   ·rw [ih h hp hn];rfl
   ·have:k=n:=by omega
    subst this
    have h0:(List.range k).find? p=none:=by
     rw [List.find?_eq_none]
     intro x hx
     rw [hn x (List.mem_range.1 hx)];decide
    rw [h0]
    simp [hp]
theorem find_none {p:Nat→Bool}{n:Nat}(hn:∀j,j<n→p j=false):(List.range n).find? p=none:=by
 rw [List.find?_eq_none]
 intro x hx
 rw [hn x (List.mem_range.1 hx)];decide
theorem lens_at {d:Pl.Dg}{x y k:Nat}(hk:k<8)(hp:isL d x y k)(hn:∀j,j<k→¬isL d x y j):lensI d x y=some k :=
 find_some 8 hk (by simpa using hp) (fun j hj=>by simpa using hn j hj)
theorem lens_no {d:Pl.Dg}{x y:Nat}(hn:∀j,j<8→¬isL d x y j):lensI d x y=none:=find_none (fun j hj=>by simpa using hn j hj)
theorem find_more {p:Nat→Prop}{k:Nat}(h:∀j,j<k→¬p j)(hk:¬p k):∀j,j<k+1→¬p j:=fun j hj=>by
 rcases Nat.lt_or_ge j k with h1 | h1
 ·exact h j h1
 ·have:j=k:=by omega
  subst this;exact hk
theorem row8 {W:World}{g:Nat}{t:TypeId}{vs:List Value}(h:Row W g t vs)(l:vs.length=8)(y0 y1 y2 y3 y4 y5 y6 y7:Value) :
 Row ((((((((W.setCell ⟨g,0,none⟩ y0).setCell ⟨g,1,none⟩ y1).setCell ⟨g,2,none⟩ y2).setCell ⟨g,3,none⟩ y3).setCell ⟨g,4,none⟩ y4).setCell ⟨g,5,none⟩ y5).setCell ⟨g,6,none⟩ y6).setCell ⟨g,7,none⟩ y7) g t [y0,y1,y2,y3,y4,y5,y6,y7]:=by
 obtain ⟨a,b,c,d,e,f,g',h',rfl⟩:∃a b c d e f g h,vs=[a,b,c,d,e,f,g,h]:=by
  match vs,l with
  | [a,b,c,d,e,f,g,h],_=>exact ⟨a,b,c,d,e,f,g,h,rfl⟩
 exact (((((((h.set 0 y0).set 1 y1).set 2 y2).set 3 y3).set 4 y4).set 5 y5).set 6 y6).set 7 y7
theorem box8 {W:World}{g:Nat}{t:TypeId}{a b c d e f p q:Value}(h:Row W g t [a,b,c,d,e,f,p,q]):W.cell? ⟨g,0,none⟩=some a∧W.cell? ⟨g,1,none⟩=some b∧W.cell? ⟨g,2,none⟩=some c∧W.cell? ⟨g,3,none⟩=some d∧W.cell? ⟨g,4,none⟩=some e∧W.cell? ⟨g,5,none⟩=some f∧W.cell? ⟨g,6,none⟩=some p∧W.cell? ⟨g,7,none⟩=some q∧∀o,W.frozen? ⟨g,o,none⟩=false :=
 ⟨h.cell (i:=0) (by simp),h.cell (i:=1) (by simp),h.cell (i:=2) (by simp),h.cell (i:=3) (by simp),h.cell (i:=4) (by simp),h.cell (i:=5) (by simp),h.cell (i:=6) (by simp),h.cell (i:=7) (by simp),h.free⟩
theorem below_set8 {w W:World}{g:Nat}(h:Below w.heap.size w W)(hg:w.heap.size≤g)(y0 y1 y2 y3 y4 y5 y6 y7:Value) :
 Below w.heap.size w ((((((((W.setCell ⟨g,0,none⟩ y0).setCell ⟨g,1,none⟩ y1).setCell ⟨g,2,none⟩ y2).setCell ⟨g,3,none⟩ y3).setCell ⟨g,4,none⟩ y4).setCell ⟨g,5,none⟩ y5).setCell ⟨g,6,none⟩ y6).setCell ⟨g,7,none⟩ y7) :=
 (((((((h.setCell hg _).setCell hg _).setCell hg _).setCell hg _).setCell hg _).setCell hg _).setCell hg _).setCell hg _
set_option maxRecDepth 100000 in
set_option maxHeartbeats 4000000 in
theorem find_any (d:Pl.Dg)(hd:Pl.Wf d)(A B:Option Addr)(cp cq m x y:Nat)(w:World)(hm:m=4 * d.n)(hg:DgAt w A B d)(hx:x<d.n)(hy:y<d.n) :
 Calls Try.prog 92 #[.agg #[.slice A d.n cp,.slice B m cq,.int .i64 d.lp],.int .i64 (x:Int),.int .i64 (y:Int)] w (FindPost d x y w):=by
 have hn:=hd.few
 have HM:=hide hm
 have HG:=hide hg
 have hm2:m≤256:=by omega
 clear hm hg
 have X0:=hide (show Row ((w.alloc (.cells #[.slice A d.n cp,.slice B m cq,.int .i64 d.lp] 24)).alloc (.cells #[.int .i64 0,.int .i64 0,.int .i64 0,.int .i64 0,.int .i64 0,.int .i64 0,.int .i64 0,.int .i64 0] 93)) w.heap.size 24 [.slice A d.n cp,.slice B m cq,.int .i64 d.lp] from Row.alloc (Row.new w _ [_,_,_]) _)
 have R0:=hide (show Row ((w.alloc (.cells #[.slice A d.n cp,.slice B m cq,.int .i64 d.lp] 24)).alloc (.cells #[.int .i64 0,.int .i64 0,.int .i64 0,.int .i64 0,.int .i64 0,.int .i64 0,.int .i64 0,.int .i64 0] 93)) (w.heap.size+1) 93 [.int .i64 0,.int .i64 0,.int .i64 0,.int .i64 0,.int .i64 0,.int .i64 0,.int .i64 0,.int .i64 0] from row_at (vs:=[_,_,_,_,_,_,_,_]) (by simp))
 have B0:=hide (show Below w.heap.size w ((w.alloc (.cells #[.slice A d.n cp,.slice B m cq,.int .i64 d.lp] 24)).alloc (.cells #[.int .i64 0,.int .i64 0,.int .i64 0,.int .i64 0,.int .i64 0,.int .i64 0,.int .i64 0,.int .i64 0] 93)) from ((Below.refl _ _).alloc (Nat.le_refl _) _).alloc (by simp) _)
 go_enter Try.func92,Try.ntmps92
 go_wp2
 go_loopg [15] 8 (fun g i wx=>∃k:Nat,k+g=8∧i = .int .i64 k∧(∀j,j<k→¬isL d x y j)∧Below w.heap.size w wx∧Row wx w.heap.size 24 [.slice A d.n cp,.slice B m cq,.int .i64 d.lp]∧Row wx (w.heap.size+1) 93 [.int .i64 0,.int .i64 0,.int .i64 0,.int .i64 0,.int .i64 0,.int .i64 0,.int .i64 0,.int .i64 0])
 case atStart=>exact ⟨0,rfl,rfl,fun j h=>absurd h (by omega),B0.out,X0.out,R0.out⟩
 case round =>
  clear B0 X0 R0
  obtain ⟨k,hkg,rfl,hno,b1,x1,r1⟩:=hrel
  have HKG:=hide hkg
  have HNO:=hide hno
  have B1:=hide b1
  have X1:=hide x1
  have R1:=hide r1
  clear hno b1 x1 r1
  by_cases hk:k=8
  ·subst hk
   clear hkg
   obtain ⟨p0,p1,p2,p3,p4,p5,p6,p7,p8⟩:=box8 R1.out
   go_wp2
   refine bodyPost_ret (v := .tuple #[noLens,.bool false]) ?_ rfl ?_
   ·obtain ⟨e0,e1,e2,e3,e4,e5,e6,e7,_⟩:=box8 (row8 R1.out rfl (.int .i64 0) (.int .i64 0) (.int .i64 0) (.int .i64 0) (.int .i64 0) (.int .i64 0) (.int .i64 0) (.int .i64 0))
    unfold noLens
    simp [results,Try.results92,go_sem,e0,e1,e2,e3,e4,e5,e6,e7]
   ·refine ⟨?_,below_set8 B1.out (by omega) _ _ _ _ _ _ _ _⟩
    rw [lens_no HNO.out]
    rfl
  ·have hk8:k<8:=by omega
   have HK8:=hide hk8
   clear hkg hk
   obtain ⟨f0,f1,f2,f3⟩:=box3 X1.out
   go_upto_if 24 with fail
   go_cut [9,10] (fun s9 s10 wx=>s9 = .int .i64 (lnH x y k:Nat)∧s10 = .int .i64 (lnO x y k:Nat)∧wx=wr)
   case first =>
    by_cases h4:k<4
    ·have e1:((lnH x y k:Nat):Int)=4 * (x:Int)+(k:Int):=by unfold lnH;rw [if_pos h4];omega
     have e2:lnO x y k=y:=by unfold lnO;rw [if_pos h4]
     have E1:=hide e1
     have E2:=hide e2
     clear e1 e2
     go_wp2_with fail
     go_meet
     exact ⟨by rw [E1.out],by rw [E2.out],rfl⟩
    ·have e1:((lnH x y k:Nat):Int)=4 * (y:Int)+(k:Int) - 4:=by unfold lnH;rw [if_neg h4];omega
     have e2:lnO x y k=x:=by unfold lnO;rw [if_neg h4]
     have E1:=hide e1
     have E2:=hide e2
     clear e1 e2
     go_wp2_with fail
     go_meet
     exact ⟨by rw [E1.out],by rw [E2.out],rfl⟩
   case rest =>
    obtain ⟨rfl,rfl,rfl⟩:=hcut
    have hh:lnH x y k<4 * d.n:=by unfold lnH;split <;> omega
    have ho:lnO x y k<d.n:=by unfold lnO;split <;> omega
    obtain ⟨h,hH⟩:∃h,h=lnH x y k:=⟨_,rfl⟩
    obtain ⟨o,hO⟩:∃o,o=lnO x y k:=⟨_,rfl⟩
    rw [←hH] at hh ⊢
    rw [←hO] at ho ⊢
    have HH:=hide hH
    have HO:=hide hO
    clear hH hO
    have hmh:h<m:=by have:=HM.out;omega
    have ih0:(0:Int)≤(h:Int):=by omega
    have ih1:(h:Int)<(m:Int):=by omega
    have HGc:=hide (HG.out.keep B1.out)
    have HGM:=hide (show IntsAt wc B m (nats d.mt) by rw [HM.out];exact HGc.out.m)
    obtain ⟨mb,mo,rfl,cm⟩:=mate_at HGc.out.m hh
    have hmm:=hd.lt h hh
    have hgg:Pl.nx d h<4 * d.n:=Pl.tn_lt (hd.lt h hh)
    obtain ⟨u,hu⟩:∃u,u=d.m h:=⟨_,rfl⟩
    rw [←hu] at cm hmm
    obtain ⟨g,hgx⟩:∃g,g=Pl.nx d h:=⟨_,rfl⟩
    rw [←hgx] at hgg
    have HU:=hide hu
    have HGX:=hide hgx
    clear hu hgx
    have hg2:Pl.nx d g<4 * d.n:=Pl.tn_lt (hd.lt g hgg)
    have hgm:g<m:=by have:=HM.out;omega
    have ig0:(0:Int)≤(g:Int):=by omega
    have ig1:(g:Int)<(m:Int):=by omega
    go_wp2_with fail
    refine (next_i d hd (some ⟨mb,mo,none⟩) cq m (h:Int) _ HM.out (by omega) HGM.out).mono ?_
    rintro e w2 ⟨rfl,rfl⟩
    rw [Int.toNat_natCast,←HGX.out]
    have HL:=hide (show isL d x y k↔(g / 4=o∧Pl.nx d g=h∧h % 2=u % 2) by unfold isL;rw [←HH.out,←HO.out,←HGX.out,←HU.out])
    obtain ⟨v,hv⟩:∃v,v=Pl.nx d g:=⟨_,rfl⟩
    have HV:=hide hv
    clear hv cm
    by_cases c1:g / 4=o
    ·have t1:((g:Int) / 4 != (o:Int))=false:=by rw [bne_eq_false_iff_eq];omega
     have C1:=hide c1
     clear c1
     go_wp2_with fail
     refine (next_i d hd (some ⟨mb,mo,none⟩) cq m (g:Int) _ HM.out (by omega) HGM.out).mono ?_
     rintro e w3 ⟨rfl,rfl⟩
     rw [Int.toNat_natCast,←HV.out]
     by_cases c2:v=h
     ·have t2:((v:Int) != (h:Int))=false:=by rw [bne_eq_false_iff_eq];omega
      by_cases c3:h % 2=u % 2
      ·have t3:((h:Int) % 2 != (u:Int) % 2)=false:=by rw [bne_eq_false_iff_eq];omega
       have E:=hide (lens_at HK8.out (HL.out.2 ⟨C1.out,by rw [←HV.out];exact c2,c3⟩) HNO.out)
       have C2:=hide c2
       clear c2 c3
       have HGn:=hide (HG.out.keep B1.out)
       obtain ⟨mb',mo',hmb',cn⟩:=mate_at HGn.out.m hgg
       injection hmb' with hmb'
       injection hmb' with hmb1 hmb2
       subst hmb1
       subst hmb2
       have hmg:=hd.lt g hgg
       obtain ⟨up,hup⟩:∃up,up=d.m g:=⟨_,rfl⟩
       rw [←hup] at cn hmg
       have HUP:=hide hup
       clear hup
       obtain ⟨p0,p1,p2,p3,p4,p5,p6,p7,p8⟩:=box8 R1.out
       go_wp2_with fail
       refine (opp_i (h:Int) _ (by omega)).mono ?_
       rintro e w4 ⟨rfl,rfl⟩
       go_wp2_with fail
       refine (opp_i (up:Int) _ (by omega)).mono ?_
       rintro e w5 ⟨rfl,rfl⟩
       go_wp2_with fail
       refine (opp_i (u:Int) _ (by omega)).mono ?_
       rintro e w6 ⟨rfl,rfl⟩
       go_wp2_with fail
       refine (opp_i (g:Int) _ (by omega)).mono ?_
       rintro e w7 ⟨rfl,rfl⟩
       have hlt:=R1.out.lt
       go_wp2
       refine bodyPost_ret (v := .tuple #[lensV d h,.bool true]) ?_ rfl ?_
       ·obtain ⟨e0,e1,e2,e3,e4,e5,e6,e7,_⟩:=box8 ((row8 R1.out rfl (.int .i64 (h:Int)) (.int .i64 (up:Int)) (.int .i64 (Pl.tn h 2:Int)) (.int .i64 (Pl.tn up 2:Int)) (.int .i64 (Pl.tn u 2:Int)) (.int .i64 (g:Int)) (.int .i64 (u:Int)) (.int .i64 (Pl.tn g 2:Int))).alloc (.cells #[.int .i64 (h:Int),.int .i64 (up:Int),.int .i64 (Pl.tn h 2:Int),.int .i64 (Pl.tn up 2:Int),.int .i64 (Pl.tn u 2:Int),.int .i64 (g:Int),.int .i64 (u:Int),.int .i64 (Pl.tn g 2:Int)] 93))
        unfold lensV
        rw [←HGX.out,←HU.out,←HUP.out]
        simp [results,Try.results92,go_sem,e0,e1,e2,e3,e4,e5,e6,e7]
       ·refine ⟨?_,Below.alloc (below_set8 B1.out (by omega) _ _ _ _ _ _ _ _) (below_set8 B1.out (by omega) _ _ _ _ _ _ _ _).size _⟩
        rw [E.out]
        show _=Ending.returned (.tuple #[lensV d (lnH x y k),.bool true])
        rw [←HH.out]
      ·have t3:((h:Int) % 2 != (u:Int) % 2)=true:=by rw [bne_iff_ne];omega
       have E:=hide (show ¬isL d x y k from fun h=>c3 (HL.out.1 h).2.2)
       clear c2 c3
       go_wp2_with fail
       go_roundg (gk - 1)
       case measure=>have:=HKG.out;have:=HK8.out;omega
       case rel=>exact ⟨k+1,by have:=HKG.out;have:=HK8.out;omega,by go_num,find_more HNO.out E.out,B1.out,X1.out,R1.out⟩
     ·have t2:((v:Int) != (h:Int))=true:=by rw [bne_iff_ne];omega
      have E:=hide (show ¬isL d x y k from fun h=>c2 (by rw [HV.out];exact (HL.out.1 h).2.1))
      clear c2
      go_wp2_with fail
      go_roundg (gk - 1)
      case measure=>have:=HKG.out;have:=HK8.out;omega
      case rel=>exact ⟨k+1,by have:=HKG.out;have:=HK8.out;omega,by go_num,find_more HNO.out E.out,B1.out,X1.out,R1.out⟩
    ·have t1:((g:Int) / 4 != (o:Int))=true:=by rw [bne_iff_ne];omega
     have E:=hide (show ¬isL d x y k from fun h=>c1 (HL.out.1 h).1)
     clear c1
     go_wp2_with fail
     go_roundg (gk - 1)
     case measure=>have:=HKG.out;have:=HK8.out;omega
     case rel=>exact ⟨k+1,by have:=HKG.out;have:=HK8.out;omega,by go_num,find_more HNO.out E.out,B1.out,X1.out,R1.out⟩
end Go.Proofs.Ytobbepmlmbbamaa
end
section
namespace Go.Proofs.Ytobbepmlmbbamaa
open Go Go.RowKit
attribute [local go_sem ↓] Go.wp_at_zero Go.wp_at_succ
def eo (d:Pl.Dg)(o:Nat):Nat:=if Pl.out d o=true then o else d.m o
def ei (d:Pl.Dg)(o:Nat):Nat:=d.m (eo d o)
def pz (d:Pl.Dg)(o:Nat):List Value:=[.int .i64 (Pl.tn (eo d o) 2:Nat),.int .i64 (eo d o:Nat),.int .i64 (ei d o:Nat),.int .i64 (Pl.tn (ei d o) 2:Nat)]
def zz:List Value:=[.int .i64 0,.int .i64 0,.int .i64 0,.int .i64 0]
def isO (d:Pl.Dg)(o:Nat):Bool:=eo d o % 2 == 1 && ei d o % 2 == 1
def isU (d:Pl.Dg)(o:Nat):Bool:=eo d o % 2 == 0 && ei d o % 2 == 0
def th (d:Pl.Dg)(h k:Nat):Nat:=if k=0 then h else if k=1 then Pl.nx d h else Pl.nx d (Pl.nx d h)
def is3 (d:Pl.Dg)(h:Nat):Prop:=Pl.nx d (th d h 2)=h∧h / 4≠th d h 1 / 4∧th d h 1 / 4≠th d h 2 / 4∧h / 4≠th d h 2 / 4
def cntO (d:Pl.Dg)(h k:Nat):Nat:=((List.range k).filter (fun i=>isO d (th d h i))).length
def cntU (d:Pl.Dg)(h k:Nat):Nat:=((List.range k).filter (fun i=>isU d (th d h i))).length
theorem cntO_s (d:Pl.Dg)(h k:Nat):cntO d h (k+1)=cntO d h k+if isO d (th d h k) then 1 else 0:=by
 unfold cntO;rw [List.range_succ,List.filter_append,List.length_append];congr 1;cases hh:isO d (th d h k) <;> simp [hh]
theorem cntU_s (d:Pl.Dg)(h k:Nat):cntU d h (k+1)=cntU d h k+if isU d (th d h k) then 1 else 0:=by
 unfold cntU;rw [List.range_succ,List.filter_append,List.length_append];congr 1;cases hh:isU d (th d h k) <;> simp [hh]
def isT (d:Pl.Dg)(h:Nat):Prop:=is3 d h∧cntO d h 3=1∧cntU d h 3=1
def edg (d:Pl.Dg)(h k:Nat):List Value:=(if 0<k then pz d (th d h 0) else zz)++(if 1<k then pz d (th d h 1) else zz)++(if 2<k then pz d (th d h 2) else zz)
theorem th_lt {d:Pl.Dg}(hd:Pl.Wf d){h:Nat}(hh:h<4 * d.n)(k:Nat):th d h k<4 * d.n:=by
 have a:∀z,z<4 * d.n→Pl.nx d z<4 * d.n:=fun z hz=>Pl.tn_lt (hd.lt z hz)
 unfold th
 split
 ·exact hh
 ·split
  ·exact a _ hh
  ·exact a _ (a _ hh)
theorem eo_lt {d:Pl.Dg}(hd:Pl.Wf d){o:Nat}(hh:o<4 * d.n):eo d o<4 * d.n:=by
 unfold eo;split
 ·exact hh
 ·exact hd.lt o hh
def TriPost (d:Pl.Dg)(h:Nat)(w:World)(e:Ending)(w':World):Prop :=
 (is3 d h→e = .returned (.tuple #[.agg (edg d h 3).toArray,.bool (Pl.vb (isT d h))]))∧(¬is3 d h→e = .returned (.tuple #[.agg (edg d h 0).toArray,.bool false]))∧Below w.heap.size w w'
theorem box12 {W:World}{g:Nat}{t:TypeId}{a0 a1 a2 a3 a4 a5 a6 a7 a8 a9 a10 a11:Value}(h:Row W g t [a0,a1,a2,a3,a4,a5,a6,a7,a8,a9,a10,a11]) :
 W.cell? ⟨g,0,none⟩=some a0∧W.cell? ⟨g,1,none⟩=some a1∧W.cell? ⟨g,2,none⟩=some a2∧W.cell? ⟨g,3,none⟩=some a3∧W.cell? ⟨g,4,none⟩=some a4∧W.cell? ⟨g,5,none⟩=some a5∧W.cell? ⟨g,6,none⟩=some a6∧W.cell? ⟨g,7,none⟩=some a7∧W.cell? ⟨g,8,none⟩=some a8∧W.cell? ⟨g,9,none⟩=some a9∧W.cell? ⟨g,10,none⟩=some a10∧W.cell? ⟨g,11,none⟩=some a11∧∀o,W.frozen? ⟨g,o,none⟩=false :=
 ⟨h.cell (i:=0) (by simp),h.cell (i:=1) (by simp),h.cell (i:=2) (by simp),h.cell (i:=3) (by simp),h.cell (i:=4) (by simp),h.cell (i:=5) (by simp),h.cell (i:=6) (by simp),h.cell (i:=7) (by simp),h.cell (i:=8) (by simp),h.cell (i:=9) (by simp),h.cell (i:=10) (by simp),h.cell (i:=11) (by simp),h.free⟩
theorem row12 {W:World}{g:Nat}{t:TypeId}{vs:List Value}(h:Row W g t vs)(l:vs.length=12)(y0 y1 y2 y3 y4 y5 y6 y7 y8 y9 y10 y11:Value) :
 Row ((((((((((((W.setCell ⟨g,0,none⟩ y0).setCell ⟨g,1,none⟩ y1).setCell ⟨g,2,none⟩ y2).setCell ⟨g,3,none⟩ y3).setCell ⟨g,4,none⟩ y4).setCell ⟨g,5,none⟩ y5).setCell ⟨g,6,none⟩ y6).setCell ⟨g,7,none⟩ y7).setCell ⟨g,8,none⟩ y8).setCell ⟨g,9,none⟩ y9).setCell ⟨g,10,none⟩ y10).setCell ⟨g,11,none⟩ y11) g t [y0,y1,y2,y3,y4,y5,y6,y7,y8,y9,y10,y11]:=by
 obtain ⟨a0,a1,a2,a3,a4,a5,a6,a7,a8,a9,a10,a11,rfl⟩:∃a0 a1 a2 a3 a4 a5 a6 a7 a8 a9 a10 a11,vs=[a0,a1,a2,a3,a4,a5,a6,a7,a8,a9,a10,a11]:=by
  match vs,l with
  | [a0,a1,a2,a3,a4,a5,a6,a7,a8,a9,a10,a11],_=>exact ⟨_,_,_,_,_,_,_,_,_,_,_,_,rfl⟩
 exact (((((((((((h.set 0 y0).set 1 y1).set 2 y2).set 3 y3).set 4 y4).set 5 y5).set 6 y6).set 7 y7).set 8 y8).set 9 y9).set 10 y10).set 11 y11
theorem below_set12 {w W:World}{g:Nat}(h:Below w.heap.size w W)(hg:w.heap.size≤g)(y0 y1 y2 y3 y4 y5 y6 y7 y8 y9 y10 y11:Value) :
 Below w.heap.size w ((((((((((((W.setCell ⟨g,0,none⟩ y0).setCell ⟨g,1,none⟩ y1).setCell ⟨g,2,none⟩ y2).setCell ⟨g,3,none⟩ y3).setCell ⟨g,4,none⟩ y4).setCell ⟨g,5,none⟩ y5).setCell ⟨g,6,none⟩ y6).setCell ⟨g,7,none⟩ y7).setCell ⟨g,8,none⟩ y8).setCell ⟨g,9,none⟩ y9).setCell ⟨g,10,none⟩ y10).setCell ⟨g,11,none⟩ y11) :=
 (((((((((((h.setCell hg _).setCell hg _).setCell hg _).setCell hg _).setCell hg _).setCell hg _).setCell hg _).setCell hg _).setCell hg _).setCell hg _).setCell hg _).setCell hg _
structure TB (w:World) (dv:List Value) (ev:List Value) (W:World):Prop where
 d:Row W w.heap.size 24 dv
 r:Row W (w.heap.size+1) 99 (zz++zz++zz)
 e:Row W (w.heap.size+1+1) 99 ev
 bel:Below w.heap.size w W
section
variable {w W W':World} {dv ev:List Value}
theorem TB.below (h:TB w dv ev W)(hb:Below W.heap.size W W'):TB w dv ev W':=⟨h.d.below hb,h.r.below hb,h.e.below hb,h.bel.trans (hb.mono h.bel.size)⟩
theorem TB.set (h:TB w dv ev W)(o:Nat)(v:Value):TB w dv (ev.set o v) (W.setCell ⟨w.heap.size+1+1,o,none⟩ v) :=
 ⟨h.d.other (by show _≠w.heap.size+1+1;omega) v,h.r.other (by show _≠w.heap.size+1+1;omega) v,h.e.set o v,h.bel.setCell (by show _≤w.heap.size+1+1;omega) v⟩
theorem TB.start (w:World)(x0 x1 x2:Value):TB w [x0,x1,x2] (zz++zz++zz) (((w.alloc (.cells #[x0,x1,x2] 24)).alloc (.cells #[.int .i64 0,.int .i64 0,.int .i64 0,.int .i64 0,.int .i64 0,.int .i64 0,.int .i64 0,.int .i64 0,.int .i64 0,.int .i64 0,.int .i64 0,.int .i64 0] 99)).alloc (.cells #[.int .i64 0,.int .i64 0,.int .i64 0,.int .i64 0,.int .i64 0,.int .i64 0,.int .i64 0,.int .i64 0,.int .i64 0,.int .i64 0,.int .i64 0,.int .i64 0] 99)) :=
 ⟨((row_at (vs:=[_,_,_]) rfl).alloc _).alloc _,(row_at (vs:=[_,_,_,_,_,_,_,_,_,_,_,_]) (by simp)).alloc _,row_at (vs:=[_,_,_,_,_,_,_,_,_,_,_,_]) (by simp),(((Below.refl _ _).alloc (Nat.le_refl _) _).alloc (by simp) _).alloc (by simp;omega) _⟩
end
set_option maxRecDepth 100000 in
set_option maxHeartbeats 4000000 in
theorem triangle_any (d:Pl.Dg)(hd:Pl.Wf d)(A B:Option Addr)(cp cq m h:Nat)(w:World)(hm:m=4 * d.n)(hg:DgAt w A B d)(hh:h<4 * d.n) :
 Calls Try.prog 94 #[.agg #[.slice A d.n cp,.slice B m cq,.int .i64 d.lp],.int .i64 (h:Int)] w (TriPost d h w):=by
 have hn:=hd.few
 have HM:=hide hm
 have HG:=hide hg
 have hm2:m≤256:=by omega
 clear hm hg
 have TB0:=hide (TB.start w (.slice A d.n cp) (.slice B m cq) (.int .i64 (d.lp:Int)))
 have h1:=th_lt hd hh 1
 have h2:=th_lt hd hh 2
 obtain ⟨i,hi⟩:∃i,i=th d h 1:=⟨_,rfl⟩
 obtain ⟨j,hj⟩:∃j,j=th d h 2:=⟨_,rfl⟩
 rw [←hi] at h1
 rw [←hj] at h2
 have HI:=hide (show Pl.nx d h=i by rw [hi];rfl)
 have HJ:=hide (show Pl.nx d i=j by rw [hj,hi];rfl)
 have IS:=hide (show is3 d h↔Pl.nx d j=h∧h / 4≠i / 4∧i / 4≠j / 4∧h / 4≠j / 4 by unfold is3;rw [←hi,←hj])
 have HTI:=hide hi
 have HTJ:=hide hj
 clear hi hj
 have ih0:(0:Int)≤(h:Int)∧(h:Int)<(m:Int):=by have:=HM.out;omega
 have ii0:(0:Int)≤(i:Int)∧(i:Int)<(m:Int):=by have:=HM.out;omega
 have ij0:(0:Int)≤(j:Int)∧(j:Int)<(m:Int):=by have:=HM.out;omega
 go_enter Try.func94,Try.ntmps94
 go_wp2_with fail
 have HGM:=hide (show ∀W,Below w.heap.size w W→IntsAt W B m (nats d.mt) from fun W hb=>by rw [HM.out];exact (HG.out.keep hb).m)
 refine (next_i d hd B cq m (h:Int) _ HM.out ih0 (HGM.out _ TB0.out.bel)).mono ?_
 rintro e w1 ⟨rfl,rfl⟩
 rw [Int.toNat_natCast,HI.out]
 go_wp2_with fail
 refine (next_i d hd B cq m (i:Int) _ HM.out ii0 (HGM.out _ TB0.out.bel)).mono ?_
 rintro e w1 ⟨rfl,rfl⟩
 rw [Int.toNat_natCast,HJ.out]
 obtain ⟨v,hv⟩:∃v,v=Pl.nx d j:=⟨_,rfl⟩
 rw [←hv] at IS
 have HV:=hide hv
 clear hv
 obtain ⟨W0,hW0⟩:∃W0:World,W0=((w.alloc (.cells #[.slice A d.n cp,.slice B m cq,.int .i64 (d.lp:Int)] 24)).alloc (.cells #[.int .i64 0,.int .i64 0,.int .i64 0,.int .i64 0,.int .i64 0,.int .i64 0,.int .i64 0,.int .i64 0,.int .i64 0,.int .i64 0,.int .i64 0,.int .i64 0] 99)).alloc (.cells #[.int .i64 0,.int .i64 0,.int .i64 0,.int .i64 0,.int .i64 0,.int .i64 0,.int .i64 0,.int .i64 0,.int .i64 0,.int .i64 0,.int .i64 0,.int .i64 0] 99):=⟨_,rfl⟩
 rw [←hW0] at TB0 ⊢
 clear hW0
 go_upto_region 4 with fail
 go_cut [48] (fun s48 wx=>s48 = .bool (!Pl.vb (is3 d h))∧wx=W0)
 case first =>
  obtain ⟨d0,d1,d2,d3⟩:=box3 TB0.out.d
  go_wp2_with fail
  refine (next_i d hd B cq m (j:Int) _ HM.out ij0 (HGM.out _ TB0.out.bel)).mono ?_
  rintro e w1 ⟨rfl,rfl⟩
  rw [Int.toNat_natCast,←HV.out]
  by_cases c1:v=h
  ·have t1:((v:Int) != (h:Int))=false:=by rw [bne_eq_false_iff_eq];omega
   by_cases c2:h / 4=i / 4
   ·have t2:((h:Int) / 4 == (i:Int) / 4)=true:=by rw [beq_iff_eq];omega
    have E:=hide (Pl.vb_false (fun h=>(IS.out.1 h).2.1 c2))
    clear c1 c2
    go_wp2_with fail
    go_meet
    exact ⟨by rw [E.out];rfl,rfl⟩
   ·have t2:((h:Int) / 4 == (i:Int) / 4)=false:=by rw [beq_eq_false_iff_ne];omega
    by_cases c3:i / 4=j / 4
    ·have t3:((i:Int) / 4 == (j:Int) / 4)=true:=by rw [beq_iff_eq];omega
     have E:=hide (Pl.vb_false (fun h=>(IS.out.1 h).2.2.1 c3))
     clear c1 c2 c3
     go_wp2_with fail
     go_meet
     exact ⟨by rw [E.out];rfl,rfl⟩
    ·have t3:((i:Int) / 4 == (j:Int) / 4)=false:=by rw [beq_eq_false_iff_ne];omega
     by_cases c4:h / 4=j / 4
     ·have t4:((h:Int) / 4 == (j:Int) / 4)=true:=by rw [beq_iff_eq];omega
      have E:=hide (Pl.vb_false (fun h=>(IS.out.1 h).2.2.2 c4))
      clear c1 c2 c3 c4
      go_wp2_with fail
      go_meet
      exact ⟨by rw [E.out];rfl,rfl⟩
     ·have t4:((h:Int) / 4 == (j:Int) / 4)=false:=by rw [beq_eq_false_iff_ne];omega
      have E:=hide (Pl.vb_true (IS.out.2 ⟨c1,c2,c3,c4⟩))
      clear c1 c2 c3 c4
      go_wp2_with fail
      go_meet
      exact ⟨by rw [E.out];rfl,rfl⟩
  ·have t1:((v:Int) != (h:Int))=true:=by rw [bne_iff_ne];omega
   have E:=hide (Pl.vb_false (fun h=>c1 (IS.out.1 h).1))
   clear c1
   go_wp2_with fail
   go_meet
   exact ⟨by rw [E.out];rfl,rfl⟩
 case rest =>
  obtain ⟨rfl,rfl⟩:=hcut
  by_cases h3:is3 d h
  ·have H3:=hide h3
   rw [Pl.vb_true h3]
   clear h3
   have HTH0:=hide (show h=th d h 0 from rfl)
   obtain ⟨d0,d1,d2,d3⟩:=box3 TB0.out.d
   go_wp2
   go_loopg [9,10,54] 3 (fun g s9 s10 s54 wx=>∃k:Nat,k+g=3∧s54 = .int .i64 k∧s9 = .int .i64 (cntO d h k:Nat)∧s10 = .int .i64 (cntU d h k:Nat)∧TB w [.slice A d.n cp,.slice B m cq,.int .i64 (d.lp:Int)] (edg d h k) wx)
   case atStart=>exact ⟨0,rfl,rfl,rfl,rfl,TB0.out⟩
   case round =>
    clear TB0 d0 d1 d2 d3
    obtain ⟨k,hkg,rfl,rfl,rfl,htb⟩:=hrel
    have HKG:=hide hkg
    have TBk:=hide htb
    clear htb
    have hk4:k=0∨k=1∨k=2∨k=3:=by omega
    clear hkg
    have i0:∀W,(Instr.index 118 (.agg #[.int .i64 (h:Int),.int .i64 (i:Int),.int .i64 (j:Int)]) (.int .i64 0)).run Try.prog W = .ok (.int .i64 (h:Int)) W:=fun _=>by kernel_rfl
    have i1:∀W,(Instr.index 118 (.agg #[.int .i64 (h:Int),.int .i64 (i:Int),.int .i64 (j:Int)]) (.int .i64 1)).run Try.prog W = .ok (.int .i64 (i:Int)) W:=fun _=>by kernel_rfl
    have i2:∀W,(Instr.index 118 (.agg #[.int .i64 (h:Int),.int .i64 (i:Int),.int .i64 (j:Int)]) (.int .i64 2)).run Try.prog W = .ok (.int .i64 (j:Int)) W:=fun _=>by kernel_rfl
    rcases hk4 with rfl | rfl | rfl | rfl
    ·-- round 0
     have hO:h<4 * d.n:=by first | exact hh | exact h1 | exact h2
     have EO:=hide (eo_lt hd hO)
     obtain ⟨d0,d1,d2,d3⟩:=box3 TBk.out.d
     go_wp2_with fail
     refine (out2_n d A B d.n cp m cq (.int .i64 (d.lp:Int)) h _ rfl hO (by omega) (HG.out.keep TBk.out.bel).s).mono ?_
     rintro e w1 ⟨rfl,hb1⟩
     have TB1:=hide (TBk.out.below hb1)
     clear hb1 d0 d1 d2 d3
     go_upto_if 61 with fail
     go_cut [12] (fun s12 wx=>s12 = .int .i64 (eo d h:Nat)∧TB w [.slice A d.n cp,.slice B m cq,.int .i64 (d.lp:Int)] (edg d h 0) wx)
     case first =>
      cases ho:Pl.out d h with
      | true =>
        have E:=hide (show eo d h=h by unfold eo;rw [if_pos ho])
        clear ho
        go_wp2_with fail
        go_meet
        exact ⟨by rw [E.out],TB1.out⟩
      | false =>
        have E:=hide (show eo d h=d.m h by unfold eo;rw [if_neg (by rw [ho];decide)])
        clear ho
        obtain ⟨d0,d1,d2,d3⟩:=box3 TB1.out.d
        obtain ⟨mb,mo,rfl,cm⟩:=mate_at (HG.out.keep TB1.out.bel).m hO
        have io0:(0:Int)≤(h:Int):=by omega
        have io1:(h:Int)<(m:Int):=by have:=HM.out;omega
        go_wp2_with fail
        go_meet
        exact ⟨by rw [E.out],TB1.out⟩
     case rest =>
      obtain ⟨rfl,htb⟩:=hcut
      have TB2:=hide htb
      clear htb TBk TB1
      have heo:=EO.out
      obtain ⟨e,he⟩:∃e,e=eo d h:=⟨_,rfl⟩
      rw [←he] at heo ⊢
      have hei:=hd.lt e heo
      have HE:=hide he
      clear he
      obtain ⟨d0,d1,d2,d3⟩:=box3 TB2.out.d
      obtain ⟨mb,mo,rfl,cm⟩:=mate_at (HG.out.keep TB2.out.bel).m heo
      obtain ⟨u,hu⟩:∃u,u=d.m e:=⟨_,rfl⟩
      rw [←hu] at cm hei
      have HU:=hide (show ei d h=u by unfold ei;rw [←HE.out,hu])
      clear hu
      have io0:(0:Int)≤(e:Int):=by omega
      have io1:(e:Int)<(m:Int):=by have:=HM.out;omega
      go_wp2_with fail
      refine (opp_i (e:Int) _ (by omega)).mono ?_
      rintro en w1 ⟨rfl,rfl⟩
      go_wp2_with fail
      refine (opp_i (u:Int) _ (by omega)).mono ?_
      rintro en w1 ⟨rfl,rfl⟩
      try rw [Int.toNat_natCast]
      have EQ:=hide (show edg d h (0+1)=((((edg d h 0).set (4 * 0) (.int .i64 (Pl.tn e 2:Nat))).set (4 * 0+1) (.int .i64 (e:Int))).set (4 * 0+2) (.int .i64 (u:Int))).set (4 * 0+3) (.int .i64 (Pl.tn u 2:Nat)) by
       have hz:pz d h=[.int .i64 (Pl.tn e 2:Nat),.int .i64 (e:Int),.int .i64 (u:Int),.int .i64 (Pl.tn u 2:Nat)]:=by unfold pz;rw [HU.out,←HE.out]
       simp only [edg,←HTH0.out,←HTI.out,←HTJ.out,hz]
       rfl)
      have CO:=hide (show cntO d h (0+1)=cntO d h 0+if isO d h then 1 else 0 by rw [cntO_s];simp only [←HTH0.out,←HTI.out,←HTJ.out])
      have CU:=hide (show cntU d h (0+1)=cntU d h 0+if isU d h then 1 else 0 by rw [cntU_s];simp only [←HTH0.out,←HTI.out,←HTJ.out])
      have IO:=hide (show isO d h=(e % 2 == 1 && u % 2 == 1) by unfold isO;rw [HU.out,←HE.out])
      have IU:=hide (show isU d h=(e % 2 == 0 && u % 2 == 0) by unfold isU;rw [HU.out,←HE.out])
      obtain ⟨kO,hkO⟩:∃c,c=cntO d h 0:=⟨_,rfl⟩
      obtain ⟨kU,hkU⟩:∃c,c=cntU d h 0:=⟨_,rfl⟩
      rw [←hkO] at CO ⊢
      rw [←hkU] at CU ⊢
      have bO:kO≤3:=by rw [hkO];unfold cntO;have:=List.length_filter_le (fun i=>isO d (th d h i)) (List.range 0);simp at this ⊢;try omega
      have bU:kU≤3:=by rw [hkU];unfold cntU;have:=List.length_filter_le (fun i=>isU d (th d h i)) (List.range 0);simp at this ⊢;try omega
      clear hkO hkU
      obtain ⟨e0,e1,e2,e3,e4,e5,e6,e7,e8,e9,e10,e11,ef⟩:=box12 TB2.out.e
      by_cases q0:e % 2=1∧u % 2=1
      ·obtain ⟨qa,qb⟩:=q0
       have t1:((e:Int) % 2 == 1)=true:=by rw [beq_iff_eq];omega
       have t2:((u:Int) % 2 == 1)=true:=by rw [beq_iff_eq];omega
       have t3:((e:Int) % 2 == 0)=false:=by rw [beq_eq_false_iff_ne];omega
       have t4:((u:Int) % 2 == 0)=false:=by rw [beq_eq_false_iff_ne];omega
       have FO:=hide (show cntO d h (0+1)=kO+1 by rw [CO.out,IO.out,qa,qb];rfl)
       have FU:=hide (show cntU d h (0+1)=kU+0 by rw [CU.out,IU.out,qa,qb];rfl)
       clear qa qb
       go_wp2_with fail
       go_roundg (gk - 1)
       case measure=>have:=HKG.out;omega
       case rel =>
        refine ⟨0+1,by have:=HKG.out;omega,by go_num,by rw [FO.out];(try first | rfl | go_num),by rw [FU.out];(try first | rfl | go_num),?_⟩
        rw [EQ.out]
        exact (((TB2.out.set _ _).set _ _).set _ _).set _ _
      by_cases q1:e % 2=1∧u % 2=0
      ·obtain ⟨qa,qb⟩:=q1
       have t1:((e:Int) % 2 == 1)=true:=by rw [beq_iff_eq];omega
       have t2:((u:Int) % 2 == 1)=false:=by rw [beq_eq_false_iff_ne];omega
       have t3:((e:Int) % 2 == 0)=false:=by rw [beq_eq_false_iff_ne];omega
       have t4:((u:Int) % 2 == 0)=true:=by rw [beq_iff_eq];omega
       have FO:=hide (show cntO d h (0+1)=kO+0 by rw [CO.out,IO.out,qa,qb];rfl)
       have FU:=hide (show cntU d h (0+1)=kU+0 by rw [CU.out,IU.out,qa,qb];rfl)
       clear qa qb
       go_wp2_with fail
       go_roundg (gk - 1)
       case measure=>have:=HKG.out;omega
       case rel =>
        refine ⟨0+1,by have:=HKG.out;omega,by go_num,by rw [FO.out];(try first | rfl | go_num),by rw [FU.out];(try first | rfl | go_num),?_⟩
        rw [EQ.out]
        exact (((TB2.out.set _ _).set _ _).set _ _).set _ _
      by_cases q2:e % 2=0∧u % 2=1
      ·obtain ⟨qa,qb⟩:=q2
       have t1:((e:Int) % 2 == 1)=false:=by rw [beq_eq_false_iff_ne];omega
       have t2:((u:Int) % 2 == 1)=true:=by rw [beq_iff_eq];omega
       have t3:((e:Int) % 2 == 0)=true:=by rw [beq_iff_eq];omega
       have t4:((u:Int) % 2 == 0)=false:=by rw [beq_eq_false_iff_ne];omega
       have FO:=hide (show cntO d h (0+1)=kO+0 by rw [CO.out,IO.out,qa,qb];rfl)
       have FU:=hide (show cntU d h (0+1)=kU+0 by rw [CU.out,IU.out,qa,qb];rfl)
       clear qa qb
       go_wp2_with fail
       go_roundg (gk - 1)
       case measure=>have:=HKG.out;omega
       case rel =>
        refine ⟨0+1,by have:=HKG.out;omega,by go_num,by rw [FO.out];(try first | rfl | go_num),by rw [FU.out];(try first | rfl | go_num),?_⟩
        rw [EQ.out]
        exact (((TB2.out.set _ _).set _ _).set _ _).set _ _
      by_cases q3:e % 2=0∧u % 2=0
      ·obtain ⟨qa,qb⟩:=q3
       have t1:((e:Int) % 2 == 1)=false:=by rw [beq_eq_false_iff_ne];omega
       have t2:((u:Int) % 2 == 1)=false:=by rw [beq_eq_false_iff_ne];omega
       have t3:((e:Int) % 2 == 0)=true:=by rw [beq_iff_eq];omega
       have t4:((u:Int) % 2 == 0)=true:=by rw [beq_iff_eq];omega
       have FO:=hide (show cntO d h (0+1)=kO+0 by rw [CO.out,IO.out,qa,qb];rfl)
       have FU:=hide (show cntU d h (0+1)=kU+1 by rw [CU.out,IU.out,qa,qb];rfl)
       clear qa qb
       go_wp2_with fail
       go_roundg (gk - 1)
       case measure=>have:=HKG.out;omega
       case rel =>
        refine ⟨0+1,by have:=HKG.out;omega,by go_num,by rw [FO.out];(try first | rfl | go_num),by rw [FU.out];(try first | rfl | go_num),?_⟩
        rw [EQ.out]
        exact (((TB2.out.set _ _).set _ _).set _ _).set _ _
      exfalso;omega
    ·-- round 1
     have hO:i<4 * d.n:=by first | exact hh | exact h1 | exact h2
     have EO:=hide (eo_lt hd hO)
     obtain ⟨d0,d1,d2,d3⟩:=box3 TBk.out.d
     go_wp2_with fail
     refine (out2_n d A B d.n cp m cq (.int .i64 (d.lp:Int)) i _ rfl hO (by omega) (HG.out.keep TBk.out.bel).s).mono ?_
     rintro e w1 ⟨rfl,hb1⟩
     have TB1:=hide (TBk.out.below hb1)
     clear hb1 d0 d1 d2 d3
     go_upto_if 61 with fail
     go_cut [12] (fun s12 wx=>s12 = .int .i64 (eo d i:Nat)∧TB w [.slice A d.n cp,.slice B m cq,.int .i64 (d.lp:Int)] (edg d h 1) wx)
     case first =>
      cases ho:Pl.out d i with
      | true =>
        have E:=hide (show eo d i=i by unfold eo;rw [if_pos ho])
        clear ho
        go_wp2_with fail
        go_meet
        exact ⟨by rw [E.out],TB1.out⟩
      | false =>
        have E:=hide (show eo d i=d.m i by unfold eo;rw [if_neg (by rw [ho];decide)])
        clear ho
        obtain ⟨d0,d1,d2,d3⟩:=box3 TB1.out.d
        obtain ⟨mb,mo,rfl,cm⟩:=mate_at (HG.out.keep TB1.out.bel).m hO
        have io0:(0:Int)≤(i:Int):=by omega
        have io1:(i:Int)<(m:Int):=by have:=HM.out;omega
        go_wp2_with fail
        go_meet
        exact ⟨by rw [E.out],TB1.out⟩
     case rest =>
      obtain ⟨rfl,htb⟩:=hcut
      have TB2:=hide htb
      clear htb TBk TB1
      have heo:=EO.out
      obtain ⟨e,he⟩:∃e,e=eo d i:=⟨_,rfl⟩
      rw [←he] at heo ⊢
      have hei:=hd.lt e heo
      have HE:=hide he
      clear he
      obtain ⟨d0,d1,d2,d3⟩:=box3 TB2.out.d
      obtain ⟨mb,mo,rfl,cm⟩:=mate_at (HG.out.keep TB2.out.bel).m heo
      obtain ⟨u,hu⟩:∃u,u=d.m e:=⟨_,rfl⟩
      rw [←hu] at cm hei
      have HU:=hide (show ei d i=u by unfold ei;rw [←HE.out,hu])
      clear hu
      have io0:(0:Int)≤(e:Int):=by omega
      have io1:(e:Int)<(m:Int):=by have:=HM.out;omega
      go_wp2_with fail
      refine (opp_i (e:Int) _ (by omega)).mono ?_
      rintro en w1 ⟨rfl,rfl⟩
      go_wp2_with fail
      refine (opp_i (u:Int) _ (by omega)).mono ?_
      rintro en w1 ⟨rfl,rfl⟩
      try rw [Int.toNat_natCast]
      have EQ:=hide (show edg d h (1+1)=((((edg d h 1).set (4 * 1) (.int .i64 (Pl.tn e 2:Nat))).set (4 * 1+1) (.int .i64 (e:Int))).set (4 * 1+2) (.int .i64 (u:Int))).set (4 * 1+3) (.int .i64 (Pl.tn u 2:Nat)) by
       have hz:pz d i=[.int .i64 (Pl.tn e 2:Nat),.int .i64 (e:Int),.int .i64 (u:Int),.int .i64 (Pl.tn u 2:Nat)]:=by unfold pz;rw [HU.out,←HE.out]
       simp only [edg,←HTH0.out,←HTI.out,←HTJ.out,hz]
       rfl)
      have CO:=hide (show cntO d h (1+1)=cntO d h 1+if isO d i then 1 else 0 by rw [cntO_s];simp only [←HTH0.out,←HTI.out,←HTJ.out])
      have CU:=hide (show cntU d h (1+1)=cntU d h 1+if isU d i then 1 else 0 by rw [cntU_s];simp only [←HTH0.out,←HTI.out,←HTJ.out])
      have IO:=hide (show isO d i=(e % 2 == 1 && u % 2 == 1) by unfold isO;rw [HU.out,←HE.out])
      have IU:=hide (show isU d i=(e % 2 == 0 && u % 2 == 0) by unfold isU;rw [HU.out,←HE.out])
      obtain ⟨kO,hkO⟩:∃c,c=cntO d h 1:=⟨_,rfl⟩
      obtain ⟨kU,hkU⟩:∃c,c=cntU d h 1:=⟨_,rfl⟩
      rw [←hkO] at CO ⊢
      rw [←hkU] at CU ⊢
      have bO:kO≤3:=by rw [hkO];unfold cntO;have:=List.length_filter_le (fun i=>isO d (th d h i)) (List.range 1);simp at this ⊢;try omega
      have bU:kU≤3:=by rw [hkU];unfold cntU;have:=List.length_filter_le (fun i=>isU d (th d h i)) (List.range 1);simp at this ⊢;try omega
      clear hkO hkU
      obtain ⟨e0,e1,e2,e3,e4,e5,e6,e7,e8,e9,e10,e11,ef⟩:=box12 TB2.out.e
      by_cases q0:e % 2=1∧u % 2=1
      ·obtain ⟨qa,qb⟩:=q0
       have t1:((e:Int) % 2 == 1)=true:=by rw [beq_iff_eq];omega
       have t2:((u:Int) % 2 == 1)=true:=by rw [beq_iff_eq];omega
       have t3:((e:Int) % 2 == 0)=false:=by rw [beq_eq_false_iff_ne];omega
       have t4:((u:Int) % 2 == 0)=false:=by rw [beq_eq_false_iff_ne];omega
       have FO:=hide (show cntO d h (1+1)=kO+1 by rw [CO.out,IO.out,qa,qb];rfl)
       have FU:=hide (show cntU d h (1+1)=kU+0 by rw [CU.out,IU.out,qa,qb];rfl)
       clear qa qb
       go_wp2_with fail
       go_roundg (gk - 1)
       case measure=>have:=HKG.out;omega
       case rel =>
        refine ⟨1+1,by have:=HKG.out;omega,by go_num,by rw [FO.out];(try first | rfl | go_num),by rw [FU.out];(try first | rfl | go_num),?_⟩
        rw [EQ.out]
        exact (((TB2.out.set _ _).set _ _).set _ _).set _ _
      by_cases q1:e % 2=1∧u % 2=0
      ·obtain ⟨qa,qb⟩:=q1
       have t1:((e:Int) % 2 == 1)=true:=by rw [beq_iff_eq];omega
       have t2:((u:Int) % 2 == 1)=false:=by rw [beq_eq_false_iff_ne];omega
       have t3:((e:Int) % 2 == 0)=false:=by rw [beq_eq_false_iff_ne];omega
       have t4:((u:Int) % 2 == 0)=true:=by rw [beq_iff_eq];omega
       have FO:=hide (show cntO d h (1+1)=kO+0 by rw [CO.out,IO.out,qa,qb];rfl)
       have FU:=hide (show cntU d h (1+1)=kU+0 by rw [CU.out,IU.out,qa,qb];rfl)
       clear qa qb
       go_wp2_with fail
       go_roundg (gk - 1)
       case measure=>have:=HKG.out;omega
       case rel =>
        refine ⟨1+1,by have:=HKG.out;omega,by go_num,by rw [FO.out];(try first | rfl | go_num),by rw [FU.out];(try first | rfl | go_num),?_⟩
        rw [EQ.out]
        exact (((TB2.out.set _ _).set _ _).set _ _).set _ _
      by_cases q2:e % 2=0∧u % 2=1
      ·obtain ⟨qa,qb⟩:=q2
       have t1:((e:Int) % 2 == 1)=false:=by rw [beq_eq_false_iff_ne];omega
       have t2:((u:Int) % 2 == 1)=true:=by rw [beq_iff_eq];omega
       have t3:((e:Int) % 2 == 0)=true:=by rw [beq_iff_eq];omega
       have t4:((u:Int) % 2 == 0)=false:=by rw [beq_eq_false_iff_ne];omega
       have FO:=hide (show cntO d h (1+1)=kO+0 by rw [CO.out,IO.out,qa,qb];rfl)
       have FU:=hide (show cntU d h (1+1)=kU+0 by rw [CU.out,IU.out,qa,qb];rfl)
       clear qa qb
       go_wp2_with fail
       go_roundg (gk - 1)
       case measure=>have:=HKG.out;omega
       case rel =>
        refine ⟨1+1,by have:=HKG.out;omega,by go_num,by rw [FO.out];(try first | rfl | go_num),by rw [FU.out];(try first | rfl | go_num),?_⟩
        rw [EQ.out]
        exact (((TB2.out.set _ _).set _ _).set _ _).set _ _
      by_cases q3:e % 2=0∧u % 2=0
      ·obtain ⟨qa,qb⟩:=q3
       have t1:((e:Int) % 2 == 1)=false:=by rw [beq_eq_false_iff_ne];omega
       have t2:((u:Int) % 2 == 1)=false:=by rw [beq_eq_false_iff_ne];omega
       have t3:((e:Int) % 2 == 0)=true:=by rw [beq_iff_eq];omega
       have t4:((u:Int) % 2 == 0)=true:=by rw [beq_iff_eq];omega
       have FO:=hide (show cntO d h (1+1)=kO+0 by rw [CO.out,IO.out,qa,qb];rfl)
       have FU:=hide (show cntU d h (1+1)=kU+1 by rw [CU.out,IU.out,qa,qb];rfl)
       clear qa qb
       go_wp2_with fail
       go_roundg (gk - 1)
       case measure=>have:=HKG.out;omega
       case rel =>
        refine ⟨1+1,by have:=HKG.out;omega,by go_num,by rw [FO.out];(try first | rfl | go_num),by rw [FU.out];(try first | rfl | go_num),?_⟩
        rw [EQ.out]
        exact (((TB2.out.set _ _).set _ _).set _ _).set _ _
      exfalso;omega
    ·-- round 2
     have hO:j<4 * d.n:=by first | exact hh | exact h1 | exact h2
     have EO:=hide (eo_lt hd hO)
     obtain ⟨d0,d1,d2,d3⟩:=box3 TBk.out.d
     go_wp2_with fail
     refine (out2_n d A B d.n cp m cq (.int .i64 (d.lp:Int)) j _ rfl hO (by omega) (HG.out.keep TBk.out.bel).s).mono ?_
     rintro e w1 ⟨rfl,hb1⟩
     have TB1:=hide (TBk.out.below hb1)
     clear hb1 d0 d1 d2 d3
     go_upto_if 61 with fail
     go_cut [12] (fun s12 wx=>s12 = .int .i64 (eo d j:Nat)∧TB w [.slice A d.n cp,.slice B m cq,.int .i64 (d.lp:Int)] (edg d h 2) wx)
     case first =>
      cases ho:Pl.out d j with
      | true =>
        have E:=hide (show eo d j=j by unfold eo;rw [if_pos ho])
        clear ho
        go_wp2_with fail
        go_meet
        exact ⟨by rw [E.out],TB1.out⟩
      | false =>
        have E:=hide (show eo d j=d.m j by unfold eo;rw [if_neg (by rw [ho];decide)])
        clear ho
        obtain ⟨d0,d1,d2,d3⟩:=box3 TB1.out.d
        obtain ⟨mb,mo,rfl,cm⟩:=mate_at (HG.out.keep TB1.out.bel).m hO
        have io0:(0:Int)≤(j:Int):=by omega
        have io1:(j:Int)<(m:Int):=by have:=HM.out;omega
        go_wp2_with fail
        go_meet
        exact ⟨by rw [E.out],TB1.out⟩
     case rest =>
      obtain ⟨rfl,htb⟩:=hcut
      have TB2:=hide htb
      clear htb TBk TB1
      have heo:=EO.out
      obtain ⟨e,he⟩:∃e,e=eo d j:=⟨_,rfl⟩
      rw [←he] at heo ⊢
      have hei:=hd.lt e heo
      have HE:=hide he
      clear he
      obtain ⟨d0,d1,d2,d3⟩:=box3 TB2.out.d
      obtain ⟨mb,mo,rfl,cm⟩:=mate_at (HG.out.keep TB2.out.bel).m heo
      obtain ⟨u,hu⟩:∃u,u=d.m e:=⟨_,rfl⟩
      rw [←hu] at cm hei
      have HU:=hide (show ei d j=u by unfold ei;rw [←HE.out,hu])
      clear hu
      have io0:(0:Int)≤(e:Int):=by omega
      have io1:(e:Int)<(m:Int):=by have:=HM.out;omega
      go_wp2_with fail
      refine (opp_i (e:Int) _ (by omega)).mono ?_
      rintro en w1 ⟨rfl,rfl⟩
      go_wp2_with fail
      refine (opp_i (u:Int) _ (by omega)).mono ?_
      rintro en w1 ⟨rfl,rfl⟩
      try rw [Int.toNat_natCast]
      have EQ:=hide (show edg d h (2+1)=((((edg d h 2).set (4 * 2) (.int .i64 (Pl.tn e 2:Nat))).set (4 * 2+1) (.int .i64 (e:Int))).set (4 * 2+2) (.int .i64 (u:Int))).set (4 * 2+3) (.int .i64 (Pl.tn u 2:Nat)) by
       have hz:pz d j=[.int .i64 (Pl.tn e 2:Nat),.int .i64 (e:Int),.int .i64 (u:Int),.int .i64 (Pl.tn u 2:Nat)]:=by unfold pz;rw [HU.out,←HE.out]
       simp only [edg,←HTH0.out,←HTI.out,←HTJ.out,hz]
       rfl)
      have CO:=hide (show cntO d h (2+1)=cntO d h 2+if isO d j then 1 else 0 by rw [cntO_s];simp only [←HTH0.out,←HTI.out,←HTJ.out])
      have CU:=hide (show cntU d h (2+1)=cntU d h 2+if isU d j then 1 else 0 by rw [cntU_s];simp only [←HTH0.out,←HTI.out,←HTJ.out])
      have IO:=hide (show isO d j=(e % 2 == 1 && u % 2 == 1) by unfold isO;rw [HU.out,←HE.out])
      have IU:=hide (show isU d j=(e % 2 == 0 && u % 2 == 0) by unfold isU;rw [HU.out,←HE.out])
      obtain ⟨kO,hkO⟩:∃c,c=cntO d h 2:=⟨_,rfl⟩
      obtain ⟨kU,hkU⟩:∃c,c=cntU d h 2:=⟨_,rfl⟩
      rw [←hkO] at CO ⊢
      rw [←hkU] at CU ⊢
      have bO:kO≤3:=by rw [hkO];unfold cntO;have:=List.length_filter_le (fun i=>isO d (th d h i)) (List.range 2);simp at this ⊢;try omega
      have bU:kU≤3:=by rw [hkU];unfold cntU;have:=List.length_filter_le (fun i=>isU d (th d h i)) (List.range 2);simp at this ⊢;try omega
      clear hkO hkU
      obtain ⟨e0,e1,e2,e3,e4,e5,e6,e7,e8,e9,e10,e11,ef⟩:=box12 TB2.out.e
      by_cases q0:e % 2=1∧u % 2=1
      ·obtain ⟨qa,qb⟩:=q0
       have t1:((e:Int) % 2 == 1)=true:=by rw [beq_iff_eq];omega
       have t2:((u:Int) % 2 == 1)=true:=by rw [beq_iff_eq];omega
       have t3:((e:Int) % 2 == 0)=false:=by rw [beq_eq_false_iff_ne];omega
       have t4:((u:Int) % 2 == 0)=false:=by rw [beq_eq_false_iff_ne];omega
       have FO:=hide (show cntO d h (2+1)=kO+1 by rw [CO.out,IO.out,qa,qb];rfl)
       have FU:=hide (show cntU d h (2+1)=kU+0 by rw [CU.out,IU.out,qa,qb];rfl)
       clear qa qb
       go_wp2_with fail
       go_roundg (gk - 1)
       case measure=>have:=HKG.out;omega
       case rel =>
        refine ⟨2+1,by have:=HKG.out;omega,by go_num,by rw [FO.out];(try first | rfl | go_num),by rw [FU.out];(try first | rfl | go_num),?_⟩
        rw [EQ.out]
        exact (((TB2.out.set _ _).set _ _).set _ _).set _ _
      by_cases q1:e % 2=1∧u % 2=0
      ·obtain ⟨qa,qb⟩:=q1
       have t1:((e:Int) % 2 == 1)=true:=by rw [beq_iff_eq];omega
       have t2:((u:Int) % 2 == 1)=false:=by rw [beq_eq_false_iff_ne];omega
       have t3:((e:Int) % 2 == 0)=false:=by rw [beq_eq_false_iff_ne];omega
       have t4:((u:Int) % 2 == 0)=true:=by rw [beq_iff_eq];omega
       have FO:=hide (show cntO d h (2+1)=kO+0 by rw [CO.out,IO.out,qa,qb];rfl)
       have FU:=hide (show cntU d h (2+1)=kU+0 by rw [CU.out,IU.out,qa,qb];rfl)
       clear qa qb
       go_wp2_with fail
       go_roundg (gk - 1)
       case measure=>have:=HKG.out;omega
       case rel =>
        refine ⟨2+1,by have:=HKG.out;omega,by go_num,by rw [FO.out];(try first | rfl | go_num),by rw [FU.out];(try first | rfl | go_num),?_⟩
        rw [EQ.out]
        exact (((TB2.out.set _ _).set _ _).set _ _).set _ _
      by_cases q2:e % 2=0∧u % 2=1
      ·obtain ⟨qa,qb⟩:=q2
       have t1:((e:Int) % 2 == 1)=false:=by rw [beq_eq_false_iff_ne];omega
       have t2:((u:Int) % 2 == 1)=true:=by rw [beq_iff_eq];omega
       have t3:((e:Int) % 2 == 0)=true:=by rw [beq_iff_eq];omega
       have t4:((u:Int) % 2 == 0)=false:=by rw [beq_eq_false_iff_ne];omega
       have FO:=hide (show cntO d h (2+1)=kO+0 by rw [CO.out,IO.out,qa,qb];rfl)
       have FU:=hide (show cntU d h (2+1)=kU+0 by rw [CU.out,IU.out,qa,qb];rfl)
       clear qa qb
       go_wp2_with fail
       go_roundg (gk - 1)
       case measure=>have:=HKG.out;omega
       case rel =>
        refine ⟨2+1,by have:=HKG.out;omega,by go_num,by rw [FO.out];(try first | rfl | go_num),by rw [FU.out];(try first | rfl | go_num),?_⟩
        rw [EQ.out]
        exact (((TB2.out.set _ _).set _ _).set _ _).set _ _
      by_cases q3:e % 2=0∧u % 2=0
      ·obtain ⟨qa,qb⟩:=q3
       have t1:((e:Int) % 2 == 1)=false:=by rw [beq_eq_false_iff_ne];omega
       have t2:((u:Int) % 2 == 1)=false:=by rw [beq_eq_false_iff_ne];omega
       have t3:((e:Int) % 2 == 0)=true:=by rw [beq_iff_eq];omega
       have t4:((u:Int) % 2 == 0)=true:=by rw [beq_iff_eq];omega
       have FO:=hide (show cntO d h (2+1)=kO+0 by rw [CO.out,IO.out,qa,qb];rfl)
       have FU:=hide (show cntU d h (2+1)=kU+1 by rw [CU.out,IU.out,qa,qb];rfl)
       clear qa qb
       go_wp2_with fail
       go_roundg (gk - 1)
       case measure=>have:=HKG.out;omega
       case rel =>
        refine ⟨2+1,by have:=HKG.out;omega,by go_num,by rw [FO.out];(try first | rfl | go_num),by rw [FU.out];(try first | rfl | go_num),?_⟩
        rw [EQ.out]
        exact (((TB2.out.set _ _).set _ _).set _ _).set _ _
      exfalso;omega
    ·-- the end
     have E3:=hide (show Pl.vb (isT d h)=(decide (cntO d h 3=1) && decide (cntU d h 3=1)) by
      rw [Bool.eq_iff_iff,Pl.vb_iff];unfold isT;simp [H3.out])
     obtain ⟨kO,hkO⟩:∃c,c=cntO d h 3:=⟨_,rfl⟩
     obtain ⟨kU,hkU⟩:∃c,c=cntU d h 3:=⟨_,rfl⟩
     rw [←hkO] at E3 ⊢
     rw [←hkU] at E3 ⊢
     clear hkO hkU
     have HTR:=hide (show ∃a0 a1 a2 a3 a4 a5 a6 a7 a8 a9 a10 a11:Nat,edg d h 3=[.int .i64 (a0:Int),.int .i64 (a1:Int),.int .i64 (a2:Int),.int .i64 (a3:Int),.int .i64 (a4:Int),.int .i64 (a5:Int),.int .i64 (a6:Int),.int .i64 (a7:Int),.int .i64 (a8:Int),.int .i64 (a9:Int),.int .i64 (a10:Int),.int .i64 (a11:Int)] from ⟨_,_,_,_,_,_,_,_,_,_,_,_,rfl⟩)
     obtain ⟨a0,a1,a2,a3,a4,a5,a6,a7,a8,a9,a10,a11,hedg⟩:=HTR.out
     rw [hedg] at TBk
     have HEDG:=hide hedg
     clear hedg
     obtain ⟨r0,r1,r2,r3,r4,r5,r6,r7,r8,r9,r10,r11,rf⟩:=box12 TBk.out.r
     obtain ⟨e0,e1,e2,e3,e4,e5,e6,e7,e8,e9,e10,e11,ef⟩:=box12 TBk.out.e
     obtain ⟨bb,hbb⟩:∃bb,bb=Pl.vb (isT d h):=⟨_,rfl⟩
     rw [←hbb] at E3
     have HBB:=hide hbb
     clear hbb
     go_upto_region 19 with fail
     go_cut [5] (fun s5 wx=>s5 = .bool bb∧∃W,TB w [.slice A d.n cp,.slice B m cq,.int .i64 (d.lp:Int)] [.int .i64 (a0:Int),.int .i64 (a1:Int),.int .i64 (a2:Int),.int .i64 (a3:Int),.int .i64 (a4:Int),.int .i64 (a5:Int),.int .i64 (a6:Int),.int .i64 (a7:Int),.int .i64 (a8:Int),.int .i64 (a9:Int),.int .i64 (a10:Int),.int .i64 (a11:Int)] W∧wx=(((((((((((((W.setCell ⟨w.heap.size+1,0,none⟩ (.int .i64 (a0:Int))).setCell ⟨w.heap.size+1,1,none⟩ (.int .i64 (a1:Int))).setCell ⟨w.heap.size+1,2,none⟩ (.int .i64 (a2:Int))).setCell ⟨w.heap.size+1,3,none⟩ (.int .i64 (a3:Int))).setCell ⟨w.heap.size+1,4,none⟩ (.int .i64 (a4:Int))).setCell ⟨w.heap.size+1,5,none⟩ (.int .i64 (a5:Int))).setCell ⟨w.heap.size+1,6,none⟩ (.int .i64 (a6:Int))).setCell ⟨w.heap.size+1,7,none⟩ (.int .i64 (a7:Int))).setCell ⟨w.heap.size+1,8,none⟩ (.int .i64 (a8:Int))).setCell ⟨w.heap.size+1,9,none⟩ (.int .i64 (a9:Int))).setCell ⟨w.heap.size+1,10,none⟩ (.int .i64 (a10:Int))).setCell ⟨w.heap.size+1,11,none⟩ (.int .i64 (a11:Int)))))
     case first =>
      by_cases c1:kO=1
      ·have t1:((kO:Int) == 1)=true:=by rw [beq_iff_eq];omega
       by_cases c2:kU=1
       ·have t2:((kU:Int) == 1)=true:=by rw [beq_iff_eq];omega
        have F:=hide (show bb=true by rw [E3.out];simp [c1,c2])
        clear c1 c2
        go_wp2_with fail
        go_meet
        exact ⟨by rw [F.out],_,TBk.out,rfl⟩
       ·have t2:((kU:Int) == 1)=false:=by rw [beq_eq_false_iff_ne];omega
        have F:=hide (show bb=false by rw [E3.out];simp [c1,c2])
        clear c1 c2
        go_wp2_with fail
        go_meet
        exact ⟨by rw [F.out],_,TBk.out,rfl⟩
      ·have t1:((kO:Int) == 1)=false:=by rw [beq_eq_false_iff_ne];omega
       have F:=hide (show bb=false by rw [E3.out];simp [c1])
       clear c1
       go_wp2_with fail
       go_meet
       exact ⟨by rw [F.out],_,TBk.out,rfl⟩
     case rest =>
      obtain ⟨rfl,W,hT,rfl⟩:=hcut
      clear e0 e1 e2 e3 e4 e5 e6 e7 e8 e9 e10 e11 r0 r1 r2 r3 r4 r5 r6 r7 r8 r9 r10 r11
      go_wp2
      refine bodyPost_ret (v := .tuple #[.agg #[.int .i64 (a0:Int),.int .i64 (a1:Int),.int .i64 (a2:Int),.int .i64 (a3:Int),.int .i64 (a4:Int),.int .i64 (a5:Int),.int .i64 (a6:Int),.int .i64 (a7:Int),.int .i64 (a8:Int),.int .i64 (a9:Int),.int .i64 (a10:Int),.int .i64 (a11:Int)],.bool bb]) ?_ rfl ?_
      ·obtain ⟨r0,r1,r2,r3,r4,r5,r6,r7,r8,r9,r10,r11,rf⟩:=box12 (row12 hT.r rfl (.int .i64 (a0:Int)) (.int .i64 (a1:Int)) (.int .i64 (a2:Int)) (.int .i64 (a3:Int)) (.int .i64 (a4:Int)) (.int .i64 (a5:Int)) (.int .i64 (a6:Int)) (.int .i64 (a7:Int)) (.int .i64 (a8:Int)) (.int .i64 (a9:Int)) (.int .i64 (a10:Int)) (.int .i64 (a11:Int)))
       simp [results,Try.results94,go_sem,r0,r1,r2,r3,r4,r5,r6,r7,r8,r9,r10,r11]
      ·exact ⟨fun _=>by rw [HEDG.out,←HBB.out],fun h=>absurd H3.out h,below_set12 hT.bel (by omega) _ _ _ _ _ _ _ _ _ _ _ _⟩
  ·have H3:=hide h3
   rw [Pl.vb_false h3]
   clear h3
   obtain ⟨r0,r1,r2,r3,r4,r5,r6,r7,r8,r9,r10,r11,rf⟩:=box12 TB0.out.r
   obtain ⟨e0,e1,e2,e3,e4,e5,e6,e7,e8,e9,e10,e11,ef⟩:=box12 TB0.out.e
   go_wp2
   refine bodyPost_ret (v := .tuple #[.agg (edg d h 0).toArray,.bool false]) ?_ rfl ?_
   ·obtain ⟨r0,r1,r2,r3,r4,r5,r6,r7,r8,r9,r10,r11,rf⟩:=box12 (row12 TB0.out.r rfl (.int .i64 0) (.int .i64 0) (.int .i64 0) (.int .i64 0) (.int .i64 0) (.int .i64 0) (.int .i64 0) (.int .i64 0) (.int .i64 0) (.int .i64 0) (.int .i64 0) (.int .i64 0))
    clear e0 e1 e2 e3 e4 e5 e6 e7 e8 e9 e10 e11
    show _=Result.ok (Value.tuple #[Value.agg #[.int .i64 0,.int .i64 0,.int .i64 0,.int .i64 0,.int .i64 0,.int .i64 0,.int .i64 0,.int .i64 0,.int .i64 0,.int .i64 0,.int .i64 0,.int .i64 0],.bool false]) _
    simp [results,Try.results94,go_sem,r0,r1,r2,r3,r4,r5,r6,r7,r8,r9,r10,r11]
   ·exact ⟨fun h=>absurd h H3.out,fun _=>rfl,below_set12 TB0.out.bel (by omega) _ _ _ _ _ _ _ _ _ _ _ _⟩
end Go.Proofs.Ytobbepmlmbbamaa
end
section
namespace Go.Proofs.Ytobbepmlmbbamaa
open Go Go.RowKit
attribute [local go_sem ↓] Go.wp_at_zero Go.wp_at_succ
theorem below8 {w W:World}(h:Below w.heap.size w W)(y0 y1 y2 z0 z1 z2 z3 z4:Value) :
 Below w.heap.size w ((((((((W.setCell ⟨w.heap.size+1+1,0,none⟩ y0).setCell ⟨w.heap.size+1+1,1,none⟩ y1).setCell ⟨w.heap.size+1+1,2,none⟩ y2).setCell ⟨w.heap.size+1+1+1,0,none⟩ z0).setCell ⟨w.heap.size+1+1+1,1,none⟩ z1).setCell ⟨w.heap.size+1+1+1,2,none⟩ z2).setCell ⟨w.heap.size+1+1+1,3,none⟩ z3).setCell ⟨w.heap.size+1+1+1,4,none⟩ z4) :=
 (((((((h.setCell (by show _≤w.heap.size+1+1;omega) _).setCell (by show _≤w.heap.size+1+1;omega) _).setCell (by show _≤w.heap.size+1+1;omega) _).setCell (by show _≤w.heap.size+1+1+1;omega) _).setCell (by show _≤w.heap.size+1+1+1;omega) _).setCell (by show _≤w.heap.size+1+1+1;omega) _).setCell (by show _≤w.heap.size+1+1+1;omega) _).setCell (by show _≤w.heap.size+1+1+1;omega) _
theorem one_ints (W:World)(c:Nat):IntsAt (W.alloc (.cells #[.int .i64 (c:Int)] 3)).drew (some ⟨W.heap.size,0,none⟩) 1 (nats [c]):=by
 refine IntsAt.drew ⟨rfl,fun _=>⟨_,0,rfl,fun j u hu=>?_⟩⟩
 match j,hu with
 | 0,hu=>simp [nats] at hu;subst hu;exact (Lib.cell_of_heap (heap_alloc_new W _) 0).trans rfl
theorem one_ints' (W:World)(c:Nat){g:Nat}(h:g=W.heap.size):IntsAt (W.alloc (.cells #[.int .i64 (c:Int)] 3)) (some ⟨g,0,none⟩) 1 (nats [c]):=by
 subst h
 exact one_ints W c
theorem OwnN.alloc {w:World}{base g n c:Nat}{l:List Nat}(h:OwnN w base g n c l)(o:Obj):OwnN (w.alloc o) base g n c l:=World.ownsRow.alloc h o
theorem OwnN.caps {w:World}{base g n c:Nat}{l:List Nat}(h:OwnN w base g n c l):n≤c∧c≤maxLen:=by
 rcases h.2 with ⟨h1,h2⟩ | ⟨g',cap,cur,h1,_,_,h4,h5,_⟩
 ·injection h1 with h1;injection h1
 ·injection h1 with _ _ h3
  subst h3
  exact ⟨h4,h5⟩
theorem own8 {w W:World}{base:Nat}{v:Value}{n:Nat}{xs:List Value}(h:W.ownsRow base 3 1 v n xs)(hb:w.heap.size+1+1+1<base)(y0 y1 y2 z0 z1 z2 z3 z4:Value) :
 ((((((((W.setCell ⟨w.heap.size+1+1,0,none⟩ y0).setCell ⟨w.heap.size+1+1,1,none⟩ y1).setCell ⟨w.heap.size+1+1,2,none⟩ y2).setCell ⟨w.heap.size+1+1+1,0,none⟩ z0).setCell ⟨w.heap.size+1+1+1,1,none⟩ z1).setCell ⟨w.heap.size+1+1+1,2,none⟩ z2).setCell ⟨w.heap.size+1+1+1,3,none⟩ z3).setCell ⟨w.heap.size+1+1+1,4,none⟩ z4).ownsRow base 3 1 v n xs :=
 ownsRow_setCell_below (ownsRow_setCell_below (ownsRow_setCell_below (ownsRow_setCell_below (ownsRow_setCell_below (ownsRow_setCell_below (ownsRow_setCell_below (ownsRow_setCell_below h (by show w.heap.size+1+1<base;omega) _) (by show w.heap.size+1+1<base;omega) _) (by show w.heap.size+1+1<base;omega) _) (by show w.heap.size+1+1+1<base;omega) _) (by show w.heap.size+1+1+1<base;omega) _) (by show w.heap.size+1+1+1<base;omega) _) (by show w.heap.size+1+1+1<base;omega) _) (by show w.heap.size+1+1+1<base;omega) _
theorem closed_yes (base g n cap a b:Nat)(l:List Nat)(w:World)(h:OwnN w base g n cap l)(ha:a<n)(hb:b<n)(hn:n≤100000)(hl:∀k,k<n→l.getD k 0<n)(hy:l.getD a 0=b) :
 Calls Try.prog 81 #[.slice (some ⟨g,0,none⟩) n cap,.int .i64 (a:Int),.int .i64 (b:Int)] w fun e w'=>e = .returned (.int .i64 1)∧OwnN w' base g n cap l∧w.grownBy w' (some g):=by
 refine (closed_any base g n cap a b l w h ha hb hn hl).mono ?_
 rintro e w' ⟨h1,h2,h3⟩
 rw [if_pos hy] at h1 h2
 exact ⟨h1,h2,h3⟩
theorem closed_no (base g n cap a b:Nat)(l:List Nat)(w:World)(h:OwnN w base g n cap l)(ha:a<n)(hb:b<n)(hn:n≤100000)(hl:∀k,k<n→l.getD k 0<n)(hy:¬l.getD a 0=b) :
 Calls Try.prog 81 #[.slice (some ⟨g,0,none⟩) n cap,.int .i64 (a:Int),.int .i64 (b:Int)] w fun e w'=>e = .returned (.int .i64 0)∧OwnN w' base g n cap (jn l (l.getD a 0) (l.getD b 0))∧w.grownBy w' (some g):=by
 refine (closed_any base g n cap a b l w h ha hb hn hl).mono ?_
 rintro e w' ⟨h1,h2,h3⟩
 rw [if_neg hy] at h1 h2
 exact ⟨h1,h2,h3⟩
set_option maxRecDepth 100000 in
set_option maxHeartbeats 4000000 in
theorem uncurl_any (d:Pl.Dg)(hd:Pl.Wf d)(A B:Option Addr)(cp cq c:Nat)(k y sg:Int)(ov:Bool)(w:World)(hg:DgAt w A B d)(hc:c<d.n) :
 Calls Try.prog 48 #[.agg #[.slice A d.n cp,.slice B (4 * d.n) cq,.int .i64 d.lp],.agg #[.int .i64 k,.int .i64 (c:Int),.int .i64 y,.int .i64 sg,.bool ov]] w (UncPost d c w):=by
 have hn:=hd.few
 have hlp:=hd.lp
 obtain ⟨m,hm⟩:∃m,m=4 * d.n:=⟨_,rfl⟩
 have HG:=hide hg
 clear hg
 rw [←hm]
 have HM:=hide hm
 clear hm
 obtain ⟨x0,x1,x2,x3,b0,s0⟩:=boxes4 w (.slice A d.n cp) (.slice B m cq) (.int .i64 d.lp) (.int .i64 k) (.int .i64 (c:Int)) (.int .i64 y) (.int .i64 sg) (.bool ov)
 unfold W4 at x0 x1 x2 x3 b0 s0
 have X0:=hide x0
 have X1:=hide x1
 have X2:=hide x2
 have X3:=hide x3
 have B0:=hide b0
 have S0:=hide s0
 clear x0 x1 x2 x3 b0 s0
 go_enter Try.func48,Try.ntmps48
 go_wp2_with fail
 refine (kink_any d hd A B cp cq m c _ HM.out (HG.out.keep B0.out) hc).mono ?_
 rintro e w1 ⟨rfl,hb1⟩
 have Y0:=hide (X0.out.below hb1)
 have Y1:=hide (X1.out.below hb1)
 have Y2:=hide (X2.out.below hb1)
 have Y3:=hide (X3.out.below hb1)
 have B1:=hide (B0.out.trans (hb1.mono B0.out.size))
 have hsz:w.heap.size+4≤w1.heap.size:=by have:=hb1.size;have:=S0.out;omega
 clear X0 X1 X2 X3 B0 S0 hb1
 obtain ⟨f0,f1,f2,f3⟩:=box3 Y0.out
 obtain ⟨m0,m1,m2,m3,m4,m5⟩:=box5 Y1.out
 obtain ⟨p0,p1,p2,p3⟩:=box3 Y2.out
 obtain ⟨q0,q1,q2,q3,q4,q5⟩:=box5 Y3.out
 by_cases hK:d.m (kk d c) / 4=c
 ·rw [Pl.vb_true (show isK d c from hK)]
  unfold kinkE
  rw [if_pos rfl]
  have HK:=hide hK
  clear hK
  have ha1:=kA_lt (d:=d) hc
  have hb1:=kB_lt hd hc
  unfold kA at ha1
  unfold kB at hb1
  obtain ⟨a,ha⟩:∃a,a=Pl.tn (kk d c) 2:=⟨_,rfl⟩
  obtain ⟨b,hb⟩:∃b,b=Pl.tn (d.m (kk d c)) 2:=⟨_,rfl⟩
  rw [←ha,←hb]
  rw [←ha] at ha1
  rw [←hb] at hb1
  have HA:=hide (show a=kA d c from ha)
  have HB:=hide (show b=kB d c from hb)
  clear ha hb
  have hml:d.mt.length=m:=by have:=hd.len;have:=HM.out;omega
  have HML:=hide hml
  have ham:a<m:=by have:=HM.out;omega
  have hbm:b<m:=by have:=HM.out;omega
  have hm1:0<m:=by omega
  have hm2:m≤256:=by have:=HM.out;omega
  have HLT:=hide (show ∀k,k<m→d.mt.getD k 0<m from fun k hk=>by
   rw [getD_m (by rw [HML.out];exact hk)]
   have:=hd.lt k (by have:=HM.out;omega)
   have:=HM.out
   omega)
  have HGA:=hide (show d.mt.getD a 0=d.m a from getD_m (by rw [HML.out];exact ham))
  have HGM:=hide (show IntsAt w1 B m (nats d.mt) by rw [HM.out];exact (HG.out.keep B1.out).m)
  clear hml
  obtain ⟨i0,hi0,hz0,hz1,hz2⟩:=info_parts intInfo
  go_wp2_with (at_builtin;refine wpList_append_ints _ rfl _ _ 22 rfl w1.heap.size 3 i0 (.int .i64 0) 8 Try.underlying22 hi0 hz0 hz1 hz2 rfl (.slice none 0 0) 0 [] (by rfl) (World.ownsRow_nil _ _ _ _) B m cq (nats d.mt) (by rfl) HGM.out (by unfold maxLen;omega) (by omega) (Nat.le_refl _) ?_;intro v2 w2 own2 grow2)
  simp only [Nat.zero_add,List.nil_append] at own2
  obtain ⟨A2,c2,rfl⟩:=owns_slice own2
  obtain ⟨g2,rfl,lo2,hi2⟩:=owns_pos hm1 own2
  have OWN2:=hide (show OwnN w2 w1.heap.size g2 m c2 d.mt by unfold OwnN;rw [←map_nats];exact own2)
  have GR2:=hide grow2
  clear own2 grow2
  have Z0:=hide (Y0.out.grown GR2.out (by simp [Value.ownBlock]))
  have Z1:=hide (Y1.out.grown GR2.out (by simp [Value.ownBlock]))
  have Z2:=hide (Y2.out.grown GR2.out (by simp [Value.ownBlock]))
  have Z3:=hide (Y3.out.grown GR2.out (by simp [Value.ownBlock]))
  have B2:=hide (B1.out.grown GR2.out B1.out.size (fun k hk=>by simp [Value.ownBlock] at hk))
  have hs2:=GR2.out.size
  clear f0 f1 f2 f3 m0 m1 m2 m3 m4 m5 p0 p1 p2 p3 q0 q1 q2 q3 q4 q5 Y0 Y1 Y2 Y3
  have HG2:=hide (HG.out.keep B2.out)
  by_cases hcl:d.m a=b
  ·have HC:=hide (show d.mt.getD a 0=b by rw [HGA.out];exact hcl)
   have HCL:=hide hcl
   clear hcl
   obtain ⟨f0,f1,f2,f3⟩:=box3 Z0.out
   have hwr:IntKind.i64.wrap ((d.lp:Int)+1)=(d.lp:Int)+1:=IntWalk.i64_in _ (by omega)
   go_region_held3 (fun w'=>w'.cell? ⟨w.heap.size,2,none⟩=some (.int .i64 (d.lp:Int))) (first | go_keep | assumption)
    (first
      | (go_at_call 81
         refine Calls.mono (closed_yes w1.heap.size g2 m c2 a b d.mt _ ?_ ham hbm (by omega) HLT.out HC.out) ?_
         ·exact OwnN.drew' rfl OWN2.out
         rintro e w3 ⟨rfl,own3,gr3⟩
         obtain ⟨_,_,h2,_⟩:=box3 ((Z0.out.drew).grown gr3 (by intro h;injection h;omega))
         have OWN3:=hide own3
         have GR3:=hide gr3
         clear own3 gr3))
   clear hwr f0 f1 f2 f3 h2
   have V0:=hide ((Z0.out.drew).grown GR3.out (by intro h;injection h;omega))
   have V1:=hide ((Z1.out.drew).grown GR3.out (by intro h;injection h;omega))
   have V2:=hide ((Z2.out.drew).grown GR3.out (by intro h;injection h;omega))
   have V3:=hide ((Z3.out.drew).grown GR3.out (by intro h;injection h;omega))
   have B3:=hide ((B2.out.drew).grown GR3.out (B2.out.drew).size (fun k hk=>by injection hk with hk;omega))
   have hs3:w.heap.size+4≤w3.heap.size:=by have:=GR3.out.size;have:w2.drew.heap.size=w2.heap.size:=rfl;omega
   have l1:w.heap.size<w3.heap.size:=by omega
   have l2:w.heap.size+1<w3.heap.size:=by omega
   have l3:w.heap.size+1+1<w3.heap.size:=by omega
   have l4:w.heap.size+1+1+1<w3.heap.size:=by omega
   obtain ⟨f0,f1,f2,f3⟩:=box3 V0.out
   obtain ⟨m0,m1,m2,m3,m4,m5⟩:=box5 V1.out
   obtain ⟨p0,p1,p2,p3⟩:=box3 V2.out
   obtain ⟨q0,q1,q2,q3,q4,q5⟩:=box5 V3.out
   by_cases hfull:64<d.lp+1
   ·have hfu:(64:Int)<(d.lp:Int)+1:=by omega
    go_wp2
    refine bodyPost_ret (v := .tuple #[nilD,nilM,.int .i64 5]) ?_ rfl ?_
    ·obtain ⟨e0,e1,e2,e3,e4,e5,e6,e7⟩:=fin8 V2.out V3.out rfl rfl (by omega) (.slice none 0 0) (.slice none 0 0) (.int .i64 0) (.int .i64 0) (.int .i64 0) (.int .i64 0) (.int .i64 0) (.bool false)
     unfold nilD nilM
     simp [results,Try.results48,go_sem,e0,e1,e2,e3,e4,e5,e6,e7]
    ·have e6:uncC d c=5:=by unfold uncC;rw [if_pos HK.out,←HA.out,←HB.out,if_pos HCL.out,if_pos hfull]
     refine ⟨fun _=>by rw [e6];exact rfl,fun h=>absurd h (by rw [e6];decide),below8 B3.out _ _ _ _ _ _ _ _⟩
   ·have hfu:(d.lp:Int)+1≤64:=by omega
    have t3:((d.lp:Int)+1 == (d.lp:Int))=false:=by rw [beq_eq_false_iff_ne];omega
    have HG3:=hide (HG.out.keep B3.out)
    obtain ⟨ab,ao,rfl,hcs⟩:=sign_at HG3.out.s hc
    go_wp2_with fail
    obtain ⟨W5,hW5⟩:∃W5:World,W5=w3.alloc (.cells #[.int .i64 1,.int .i64 (-1),.int .i64 0,.int .i64 (d.s c),.bool ((a:Int) % 2 == 1)] 28):=⟨_,rfl⟩
    rw [←hW5]
    obtain ⟨bb,hbb⟩:∃bb,bb=((a:Int) % 2 == 1):=⟨_,rfl⟩
    have HBB:=hide hbb
    rw [←hbb] at hW5 ⊢
    clear hbb
    obtain ⟨gi,hgi⟩:∃gi,gi=w3.heap.size:=⟨_,rfl⟩
    rw [←hgi]
    have HU:=hide (show UC w gi (.slice (some ⟨ab,ao,none⟩) d.n cp) (.slice B m cq) (.int .i64 (d.lp:Int)) (.int .i64 1) (.int .i64 (-1)) (.int .i64 0) (.int .i64 (d.s c)) (.bool bb) W5 by
     rw [hW5]
     exact ⟨V0.out.alloc _,row_at (vs:=[.int .i64 1,.int .i64 (-1),.int .i64 0,.int .i64 (d.s c),.bool bb]) hgi,⟨_,V2.out.alloc _,rfl⟩,⟨_,V3.out.alloc _,rfl⟩,B3.out.alloc (by omega) _,by omega⟩)
    obtain ⟨LL,hLL⟩:∃LL,LL=d.mt:=⟨_,rfl⟩
    have HMo:=hide (show OwnN W5 w1.heap.size g2 m c2 LL by rw [hW5,hLL];exact OWN3.out.alloc _)
    have HLE:=hide (show ∀k,LL.getD k 0≤1000 from fun k=>by rw [hLL];exact Nat.le_trans (getD_le hd k) (by omega))
    have HG5:=hide (show DgAt W5 (some ⟨ab,ao,none⟩) B d from HG.out.keep HU.out.bel)
    have HLL:=hide (show LL=unM d c by unfold unM;rw [←HA.out,←HB.out,if_pos HCL.out,hLL])
    have HE0:=hide (show uncC d c=0 by unfold uncC;rw [if_pos HK.out,←HA.out,←HB.out,if_pos HCL.out,if_neg hfull])
    clear hW5 hgi hLL f0 f1 f2 f3 m0 m1 m2 m3 m4 m5 p0 p1 p2 p3 q0 q1 q2 q3 q4 q5 hcs t3 l1 l2 l3 l4
    have HCAP:=hide HMo.out.caps
    have KS:=hide (IntsAt.drew ((HG5.out.s).alloc (.cells #[.int .i64 (c:Int)] 3)))
    have KM:=hide (OwnN.ints (OwnN.drew' rfl (HMo.out.alloc (.cells #[.int .i64 (c:Int)] 3))))
    have KG:=hide (one_ints W5 c)
    go_region_held3 (fun w'=>w'.cell? ⟨w.heap.size,0,none⟩=some (.slice (some ⟨ab,ao,none⟩) d.n cp)∧w'.cell? ⟨gi,0,none⟩=some (.int .i64 1)∧w'.cell? ⟨gi,1,none⟩=some (.int .i64 (-1))∧w'.cell? ⟨gi,2,none⟩=some (.int .i64 0)∧w'.cell? ⟨gi,3,none⟩=some (.int .i64 (d.s c))∧w'.cell? ⟨gi,4,none⟩=some (.bool bb) ∧
     w'.cell? ⟨w.heap.size+1+1,0,none⟩=some (cv w' ⟨w.heap.size+1+1,0,none⟩)∧w'.cell? ⟨w.heap.size+1+1,1,none⟩=some (cv w' ⟨w.heap.size+1+1,1,none⟩)∧w'.cell? ⟨w.heap.size+1+1,2,none⟩=some (cv w' ⟨w.heap.size+1+1,2,none⟩) ∧
     w'.cell? ⟨w.heap.size+1+1+1,0,none⟩=some (cv w' ⟨w.heap.size+1+1+1,0,none⟩)∧w'.cell? ⟨w.heap.size+1+1+1,1,none⟩=some (cv w' ⟨w.heap.size+1+1+1,1,none⟩)∧w'.cell? ⟨w.heap.size+1+1+1,2,none⟩=some (cv w' ⟨w.heap.size+1+1+1,2,none⟩)∧w'.cell? ⟨w.heap.size+1+1+1,3,none⟩=some (cv w' ⟨w.heap.size+1+1+1,3,none⟩)∧w'.cell? ⟨w.heap.size+1+1+1,4,none⟩=some (cv w' ⟨w.heap.size+1+1+1,4,none⟩) ∧
     (∀o,w'.frozen? ⟨w.heap.size+1+1,o,none⟩=false)∧(∀o,w'.frozen? ⟨w.heap.size+1+1+1,o,none⟩=false)∧UC w gi (.slice (some ⟨ab,ao,none⟩) d.n cp) (.slice B m cq) (.int .i64 (d.lp:Int)) (.int .i64 1) (.int .i64 (-1)) (.int .i64 0) (.int .i64 (d.s c)) (.bool bb) w')
     ((go_split_ands;refine UC.all ?_;(repeat (first | (with_reducible assumption) | (with_reducible exact HU.out) | (with_reducible refine UC.setD ?_ _ _) | (with_reducible refine UC.setM ?_ _ _) | (with_reducible refine UC.alloc ?_ _) | (with_reducible refine UC.drew ?_) | (with_reducible refine UC.below ?_ hb6)))))
     (first
       | (go_at_call 83
          refine Calls.mono (shrunk_sl [c] d.sg LL ((d.lp:Int)+1) (some ⟨ab,ao,none⟩) (some ⟨g2,0,none⟩) (some ⟨W5.heap.size,0,none⟩) d.n m 1 cp c2 1 _ ?_ ?_ ?_ (Pl.few_one c) HM.out HCAP.out.1 HCAP.out.2 (by omega) (by omega) HLE.out) ?_
          ·exact KS.out
          ·exact KM.out
          ·exact KG.out
          rintro e w6 ⟨A7,A8,c7,c8,rfl,owS,owM,hb6⟩
          have OWS:=hide owS
          have OWM:=hide owM
          clear owS owM))
    all_goals
     have HU6:=hide (show UC w gi (.slice (some ⟨ab,ao,none⟩) d.n cp) (.slice B m cq) (.int .i64 (d.lp:Int)) (.int .i64 1) (.int .i64 (-1)) (.int .i64 0) (.int .i64 (d.s c)) (.bool bb) w6 from by
      repeat (first | (with_reducible assumption) | (with_reducible exact HU.out) | (with_reducible refine UC.alloc ?_ _) | (with_reducible refine UC.drew ?_) | (with_reducible refine UC.below ?_ hb6)))
     have hb6s:W5.heap.size+1+2≤w6.heap.size∨True:=.inr trivial
     go_wp2
     obtain ⟨vs6,r6,l6⟩:=HU6.out.rd
     obtain ⟨us6,t6,k6⟩:=HU6.out.rm
     refine bodyPost_ret (v := .tuple #[.agg #[.slice A7 (Pl.left d.sg.length [c]).length c7,.slice A8 (4 * (Pl.left d.sg.length [c]).length) c8,.int .i64 ((d.lp:Int)+1)],.agg #[.int .i64 1,.int .i64 (-1),.int .i64 0,.int .i64 (d.s c),.bool bb],.int .i64 0]) ?_ rfl ?_
     ·obtain ⟨e0,e1,e2,e3,e4,e5,e6,e7⟩:=fin8 r6 t6 l6 k6 (by omega) (.slice A7 (Pl.left d.sg.length [c]).length c7) (.slice A8 (4 * (Pl.left d.sg.length [c]).length) c8) (.int .i64 ((d.lp:Int)+1)) (.int .i64 1) (.int .i64 (-1)) (.int .i64 0) (.int .i64 (d.s c)) (.bool bb)
      simp [results,Try.results48,go_sem,e0,e1,e2,e3,e4,e5,e6,e7]
     ·have hn7:(unD d c).n=(Pl.left d.sg.length [c]).length:=by unfold unD Pl.Dg.n;exact Pl.shrS_len _ _
      refine ⟨fun h=>absurd HE0.out h,fun _=>⟨A7,A8,c7,c8,?_,?_,?_⟩,below8 HU6.out.bel _ _ _ _ _ _ _ _⟩
      ·rw [hn7]
       unfold unD unI Mv.v
       simp only [←HA.out,←HB.out,if_pos HCL.out]
       have e1:((d.lp+1:Nat):Int)=(d.lp:Int)+1:=by omega
       have e2:decide (a % 2=1)=bb:=by rw [HBB.out,Bool.eq_iff_iff];simp;omega
       rw [e1,e2]
      ·rw [hn7]
       refine own_intsT (base:=(W5.alloc (.cells #[.int .i64 (c:Int)] 3)).drew.heap.size+2) (e:=3) (c:=c7) (own8 ?_ ?_ _ _ _ _ _ _ _ _)
       ·exact OWS.out
       ·have:=HU.out.i.lt;have:=HU.out.lo;simp;omega
      ·rw [hn7]
       refine own_intsT (base:=(W5.alloc (.cells #[.int .i64 (c:Int)] 3)).drew.heap.size+2) (e:=3) (c:=c8) (own8 ?_ ?_ _ _ _ _ _ _ _ _)
       ·rw [map_nats]
        have:=OWM.out
        rw [HLL.out] at this
        exact this
       ·have:=HU.out.i.lt;have:=HU.out.lo;simp;omega
  ·have HC:=hide (show ¬d.mt.getD a 0=b by rw [HGA.out];exact hcl)
   have HCL:=hide hcl
   have HGB:=hide (show d.mt.getD b 0=d.m b from getD_m (by rw [HML.out];exact hbm))
   clear hcl
   obtain ⟨f0,f1,f2,f3⟩:=box3 Z0.out
   have hwr:IntKind.i64.wrap (d.lp:Int)=(d.lp:Int):=IntWalk.i64_in _ (by omega)
   have hwr0:IntKind.i64.wrap ((d.lp:Int)+0)=(d.lp:Int):=by rw [Int.add_zero];exact hwr
   go_region_held3 (fun w'=>w'.cell? ⟨w.heap.size,2,none⟩=some (.int .i64 (d.lp:Int))) (first | go_keep | assumption)
    (first
      | (go_at_call 81
         refine Calls.mono (closed_no w1.heap.size g2 m c2 a b d.mt _ ?_ ham hbm (by omega) HLT.out HC.out) ?_
         ·exact OwnN.drew' rfl OWN2.out
         rintro e w3 ⟨rfl,own3,gr3⟩
         obtain ⟨_,_,h2,_⟩:=box3 ((Z0.out.drew).grown gr3 (by intro h;injection h;omega))
         have OWN3:=hide own3
         have GR3:=hide gr3
         clear own3 gr3))
   clear hwr hwr0 f0 f1 f2 f3 h2
   have V0:=hide ((Z0.out.drew).grown GR3.out (by intro h;injection h;omega))
   have V1:=hide ((Z1.out.drew).grown GR3.out (by intro h;injection h;omega))
   have V2:=hide ((Z2.out.drew).grown GR3.out (by intro h;injection h;omega))
   have V3:=hide ((Z3.out.drew).grown GR3.out (by intro h;injection h;omega))
   have B3:=hide ((B2.out.drew).grown GR3.out (B2.out.drew).size (fun k hk=>by injection hk with hk;omega))
   have hs3:w.heap.size+4≤w3.heap.size:=by have:=GR3.out.size;have:w2.drew.heap.size=w2.heap.size:=rfl;omega
   have l1:w.heap.size<w3.heap.size:=by omega
   have l2:w.heap.size+1<w3.heap.size:=by omega
   have l3:w.heap.size+1+1<w3.heap.size:=by omega
   have l4:w.heap.size+1+1+1<w3.heap.size:=by omega
   obtain ⟨f0,f1,f2,f3⟩:=box3 V0.out
   obtain ⟨m0,m1,m2,m3,m4,m5⟩:=box5 V1.out
   obtain ⟨p0,p1,p2,p3⟩:=box3 V2.out
   obtain ⟨q0,q1,q2,q3,q4,q5⟩:=box5 V3.out
   have hfu:(d.lp:Int)≤64:=by omega
   have HG3:=hide (HG.out.keep B3.out)
   obtain ⟨ab,ao,rfl,hcs⟩:=sign_at HG3.out.s hc
   obtain ⟨mb,mo,rfl,hcm⟩:=mate_at HG3.out.m (k:=a) (by have:=HM.out;omega)
   have lmb:mb<w3.heap.size:=lt_of_cell hcm
   have ia:(0:Int)≤(a:Int):=by omega
   have ib:(a:Int)<(m:Int):=by omega
   have hma:d.m a≤256:=by have:=hd.lt a ha1;omega
   obtain ⟨u,hu⟩:∃u,u=d.m a:=⟨_,rfl⟩
   rw [←hu] at hcm hma
   have HUU:=hide hu
   clear hu
   go_wp2_with fail
   obtain ⟨bb,hbb⟩:∃bb,bb=((a:Int) % 2 == 1):=⟨_,rfl⟩
   have HBB:=hide hbb
   rw [←hbb]
   clear hbb
   refine (shifted_any [c] (some ⟨w3.heap.size+1,0,none⟩) 1 1 u _ ?_ (by omega) (by omega) (Pl.few_one c)).mono ?_
   ·exact one_ints' (w3.alloc (.cells #[.int .i64 1,.int .i64 (-1),.int .i64 0,.int .i64 (d.s c),.bool bb] 28)) c (by simp)
   rintro e w4 ⟨rfl,rfl⟩
   go_wp2_with fail
   obtain ⟨W5,hW5⟩:∃W5:World,W5=(w3.alloc (.cells #[.int .i64 1,.int .i64 (Pl.shf [c] u:Nat),.int .i64 0,.int .i64 (d.s c),.bool bb] 28)).alloc (.cells #[.int .i64 (c:Int)] 3):=⟨_,rfl⟩
   rw [←hW5]
   obtain ⟨gi,hgi⟩:∃gi,gi=w3.heap.size:=⟨_,rfl⟩
   rw [←hgi]
   have HU:=hide (show UC w gi (.slice (some ⟨ab,ao,none⟩) d.n cp) (.slice (some ⟨mb,mo,none⟩) m cq) (.int .i64 (d.lp:Int)) (.int .i64 1) (.int .i64 (Pl.shf [c] u:Nat)) (.int .i64 0) (.int .i64 (d.s c)) (.bool bb) W5 by
    rw [hW5]
    exact ⟨(V0.out.alloc _).alloc _,Row.alloc (row_at (vs:=[.int .i64 1,.int .i64 (Pl.shf [c] u:Nat),.int .i64 0,.int .i64 (d.s c),.bool bb]) hgi) _,⟨_,(V2.out.alloc _).alloc _,rfl⟩,⟨_,(V3.out.alloc _).alloc _,rfl⟩,(B3.out.alloc (by omega) _).alloc (by simp;omega) _,by omega⟩)
   obtain ⟨LL,hLL⟩:∃LL,LL=jn d.mt (d.mt.getD a 0) (d.mt.getD b 0):=⟨_,rfl⟩
   have HMo:=hide (show OwnN W5 w1.heap.size g2 m c2 LL by rw [hW5,hLL];exact (OWN3.out.alloc _).alloc _)
   have HLE:=hide (show ∀k,LL.getD k 0≤1000 from fun k=>by rw [hLL];exact Nat.le_trans (jn_le (getD_le hd) (getD_le hd a) (getD_le hd b) k) (by omega))
   have HG5:=hide (show DgAt W5 (some ⟨ab,ao,none⟩) (some ⟨mb,mo,none⟩) d from HG.out.keep HU.out.bel)
   have HLL:=hide (show LL=unM d c by unfold unM;rw [←HA.out,←HB.out,if_neg HCL.out,hLL,HGA.out,HGB.out])
   have HE0:=hide (show uncC d c=0 by unfold uncC;rw [if_pos HK.out,←HA.out,←HB.out,if_neg HCL.out])
   clear hW5 hgi hLL f0 f1 f2 f3 m0 m1 m2 m3 m4 m5 p0 p1 p2 p3 q0 q1 q2 q3 q4 q5 hcs hcm l1 l2 l3 l4
   have HCAP:=hide HMo.out.caps
   have KS:=hide (IntsAt.drew ((HG5.out.s).alloc (.cells #[.int .i64 (c:Int)] 3)))
   have KM:=hide (OwnN.ints (OwnN.drew' rfl (HMo.out.alloc (.cells #[.int .i64 (c:Int)] 3))))
   have KG:=hide (one_ints W5 c)
   go_region_held3 (fun w'=>w'.cell? ⟨w.heap.size,0,none⟩=some (.slice (some ⟨ab,ao,none⟩) d.n cp)∧w'.cell? ⟨gi,0,none⟩=some (.int .i64 1)∧w'.cell? ⟨gi,1,none⟩=some (.int .i64 (Pl.shf [c] u:Nat))∧w'.cell? ⟨gi,2,none⟩=some (.int .i64 0)∧w'.cell? ⟨gi,3,none⟩=some (.int .i64 (d.s c))∧w'.cell? ⟨gi,4,none⟩=some (.bool bb) ∧
    w'.cell? ⟨w.heap.size+1+1,0,none⟩=some (cv w' ⟨w.heap.size+1+1,0,none⟩)∧w'.cell? ⟨w.heap.size+1+1,1,none⟩=some (cv w' ⟨w.heap.size+1+1,1,none⟩)∧w'.cell? ⟨w.heap.size+1+1,2,none⟩=some (cv w' ⟨w.heap.size+1+1,2,none⟩) ∧
    w'.cell? ⟨w.heap.size+1+1+1,0,none⟩=some (cv w' ⟨w.heap.size+1+1+1,0,none⟩)∧w'.cell? ⟨w.heap.size+1+1+1,1,none⟩=some (cv w' ⟨w.heap.size+1+1+1,1,none⟩)∧w'.cell? ⟨w.heap.size+1+1+1,2,none⟩=some (cv w' ⟨w.heap.size+1+1+1,2,none⟩)∧w'.cell? ⟨w.heap.size+1+1+1,3,none⟩=some (cv w' ⟨w.heap.size+1+1+1,3,none⟩)∧w'.cell? ⟨w.heap.size+1+1+1,4,none⟩=some (cv w' ⟨w.heap.size+1+1+1,4,none⟩) ∧
    (∀o,w'.frozen? ⟨w.heap.size+1+1,o,none⟩=false)∧(∀o,w'.frozen? ⟨w.heap.size+1+1+1,o,none⟩=false)∧UC w gi (.slice (some ⟨ab,ao,none⟩) d.n cp) (.slice (some ⟨mb,mo,none⟩) m cq) (.int .i64 (d.lp:Int)) (.int .i64 1) (.int .i64 (Pl.shf [c] u:Nat)) (.int .i64 0) (.int .i64 (d.s c)) (.bool bb) w')
    ((go_split_ands;refine UC.all ?_;(repeat (first | (with_reducible assumption) | (with_reducible exact HU.out) | (with_reducible refine UC.setD ?_ _ _) | (with_reducible refine UC.setM ?_ _ _) | (with_reducible refine UC.alloc ?_ _) | (with_reducible refine UC.drew ?_) | (with_reducible refine UC.below ?_ hb6)))))
    (first
      | (go_at_call 83
         refine Calls.mono (shrunk_sl [c] d.sg LL (d.lp:Int) (some ⟨ab,ao,none⟩) (some ⟨g2,0,none⟩) (some ⟨W5.heap.size,0,none⟩) d.n m 1 cp c2 1 _ ?_ ?_ ?_ (Pl.few_one c) HM.out HCAP.out.1 HCAP.out.2 (by omega) (by omega) HLE.out) ?_
         ·exact KS.out
         ·exact KM.out
         ·exact KG.out
         rintro e w6 ⟨A7,A8,c7,c8,rfl,owS,owM,hb6⟩
         have OWS:=hide owS
         have OWM:=hide owM
         clear owS owM))
   all_goals
    have HU6:=hide (show UC w gi (.slice (some ⟨ab,ao,none⟩) d.n cp) (.slice (some ⟨mb,mo,none⟩) m cq) (.int .i64 (d.lp:Int)) (.int .i64 1) (.int .i64 (Pl.shf [c] u:Nat)) (.int .i64 0) (.int .i64 (d.s c)) (.bool bb) w6 from by
     repeat (first | (with_reducible assumption) | (with_reducible exact HU.out) | (with_reducible refine UC.alloc ?_ _) | (with_reducible refine UC.drew ?_) | (with_reducible refine UC.below ?_ hb6)))
    have hb6s:W5.heap.size+1+2≤w6.heap.size∨True:=.inr trivial
    go_wp2
    obtain ⟨vs6,r6,l6⟩:=HU6.out.rd
    obtain ⟨us6,t6,k6⟩:=HU6.out.rm
    refine bodyPost_ret (v := .tuple #[.agg #[.slice A7 (Pl.left d.sg.length [c]).length c7,.slice A8 (4 * (Pl.left d.sg.length [c]).length) c8,.int .i64 (d.lp:Int)],.agg #[.int .i64 1,.int .i64 (Pl.shf [c] u:Nat),.int .i64 0,.int .i64 (d.s c),.bool bb],.int .i64 0]) ?_ rfl ?_
    ·obtain ⟨e0,e1,e2,e3,e4,e5,e6,e7⟩:=fin8 r6 t6 l6 k6 (by omega) (.slice A7 (Pl.left d.sg.length [c]).length c7) (.slice A8 (4 * (Pl.left d.sg.length [c]).length) c8) (.int .i64 (d.lp:Int)) (.int .i64 1) (.int .i64 (Pl.shf [c] u:Nat)) (.int .i64 0) (.int .i64 (d.s c)) (.bool bb)
     simp [results,Try.results48,go_sem,e0,e1,e2,e3,e4,e5,e6,e7]
    ·have hn7:(unD d c).n=(Pl.left d.sg.length [c]).length:=by unfold unD Pl.Dg.n;exact Pl.shrS_len _ _
     refine ⟨fun h=>absurd HE0.out h,fun _=>⟨A7,A8,c7,c8,?_,?_,?_⟩,below8 HU6.out.bel _ _ _ _ _ _ _ _⟩
     ·rw [hn7]
      unfold unD unI Mv.v
      simp only [←HA.out,←HB.out,if_neg HCL.out]
      simp only [←HUU.out]
      have e2:decide (a % 2=1)=bb:=by rw [HBB.out,Bool.eq_iff_iff];simp;omega
      rw [e2]
     ·rw [hn7]
      refine own_intsT (base:=(W5.alloc (.cells #[.int .i64 (c:Int)] 3)).drew.heap.size+2) (e:=3) (c:=c7) (own8 ?_ ?_ _ _ _ _ _ _ _ _)
      ·exact OWS.out
      ·have:=HU.out.i.lt;have:=HU.out.lo;simp;omega
     ·rw [hn7]
      refine own_intsT (base:=(W5.alloc (.cells #[.int .i64 (c:Int)] 3)).drew.heap.size+2) (e:=3) (c:=c8) (own8 ?_ ?_ _ _ _ _ _ _ _ _)
      ·rw [map_nats]
       have:=OWM.out
       rw [HLL.out] at this
       exact this
      ·have:=HU.out.i.lt;have:=HU.out.lo;simp;omega
 ·rw [Pl.vb_false (show ¬isK d c from hK)]
  unfold kinkE
  rw [if_neg (by decide)]
  have HK:=hide hK
  clear hK
  go_wp2
  refine bodyPost_ret (v := .tuple #[nilD,nilM,.int .i64 6]) ?_ rfl ?_
  ·obtain ⟨e0,e1,e2,e3,e4,e5,e6,e7⟩:=fin8 Y2.out Y3.out rfl rfl (by omega) (.slice none 0 0) (.slice none 0 0) (.int .i64 0) (.int .i64 0) (.int .i64 0) (.int .i64 0) (.int .i64 0) (.bool false)
   unfold nilD nilM
   simp [results,Try.results48,go_sem,e0,e1,e2,e3,e4,e5,e6,e7]
  ·have e6:uncC d c=6:=by unfold uncC;rw [if_neg HK.out]
   refine ⟨fun _=>by rw [e6];exact rfl,fun h=>absurd h (by rw [e6];decide),below8 B1.out _ _ _ _ _ _ _ _⟩
end Go.Proofs.Ytobbepmlmbbamaa
end
section
namespace Go.Proofs.Ytobbepmlmbbamaa
open Go Go.RowKit
attribute [local go_sem ↓] Go.wp_at_zero Go.wp_at_succ
def sb (d:Pl.Dg)(h k:Nat):Nat:=Pl.tn (eo d (th d h k)) 2
def so (d:Pl.Dg)(h k:Nat):Nat:=eo d (th d h k)
def si (d:Pl.Dg)(h k:Nat):Nat:=ei d (th d h k)
def sf (d:Pl.Dg)(h k:Nat):Nat:=Pl.tn (ei d (th d h k)) 2
def sTo (d:Pl.Dg)(h:Nat):Nat→List Nat
 | 0=>List.range (4 * d.n)
 | k+1=>((sTo d h k).set (sb d h k) (si d h k)).set (sf d h k) (so d h k)
def sOu (d:Pl.Dg)(h:Nat):Nat→List Bool
 | 0=>List.replicate (4 * d.n) false
 | k+1=>((sOu d h k).set (sb d h k) true).set (sf d h k) true
def sM (d:Pl.Dg)(h:Nat):Nat→List Nat
 | 0=>d.mt
 | u+1=>if (sOu d h 3).getD u false=true then jn (sM d h u) ((sTo d h 3).getD u 0) ((sTo d h 3).getD (d.m u) 0) else sM d h u
def sF (d:Pl.Dg)(h:Nat):Nat→List Nat
 | 0=>sM d h (4 * d.n)
 | k+1=>jn (sF d h k) (sb d h k) (sf d h k)
def lnx (l:List Nat)(u:Nat):Nat:=Pl.tn (l.getD u 0) 3
def sC (d:Pl.Dg)(h u:Nat):Bool:=(sOu d h 3).getD u false && (sOu d h 3).getD (lnx (sF d h 3) u) false && (sOu d h 3).getD (lnx (sF d h 3) (lnx (sF d h 3) u)) false && lnx (sF d h 3) (lnx (sF d h 3) (lnx (sF d h 3) u)) == u
def sX (d:Pl.Dg)(h:Nat):Nat→Nat
 | 0=>0
 | g+1=>if sC d h (4 * d.n - (g+1)) then 4 * d.n - (g+1) else sX d h g
open Classical in
noncomputable def sldC (d:Pl.Dg)(h:Nat):Int:=if isT d h then 0 else 6
def sldD (d:Pl.Dg)(h:Nat):Pl.Dg:=⟨d.sg,sF d h 3,d.lp⟩
def sldI (d:Pl.Dg)(h:Nat):Mv:=⟨5,sX d h (4 * d.n),0,0,false⟩
theorem jn_len0 (l:List Nat)(a b:Nat):(jn l a b).length=l.length:=by unfold jn;simp
theorem sTo_len (d:Pl.Dg)(h:Nat):∀k,(sTo d h k).length=4 * d.n
 | 0=>by simp [sTo]
 | k+1=>by simp [sTo,sTo_len d h k]
theorem sOu_len (d:Pl.Dg)(h:Nat):∀k,(sOu d h k).length=4 * d.n
 | 0=>by simp [sOu]
 | k+1=>by simp [sOu,sOu_len d h k]
theorem sM_len {d:Pl.Dg}(hd:Pl.Wf d)(h:Nat):∀u,(sM d h u).length=4 * d.n
 | 0=>hd.len
 | u+1=>by unfold sM;split <;> simp [jn_len0,sM_len hd h u]
theorem sF_len {d:Pl.Dg}(hd:Pl.Wf d)(h:Nat):∀k,(sF d h k).length=4 * d.n
 | 0=>sM_len hd h _
 | k+1=>by unfold sF;simp [jn_len0,sF_len hd h k]
theorem tri_v (d:Pl.Dg)(hd:Pl.Wf d)(A B:Option Addr)(cp cq m h:Nat)(w:World)(hm:m=4 * d.n)(hg:DgAt w A B d)(hh:h<4 * d.n) :
 Calls Try.prog 94 #[.agg #[.slice A d.n cp,.slice B m cq,.int .i64 d.lp],.int .i64 (h:Int)] w fun e w'=>∃b0 o0 i0 f0 b1 o1 i1 f1 b2 o2 i2 f2:Nat,
  e = .returned (.tuple #[.agg #[.int .i64 (b0:Int),.int .i64 (o0:Int),.int .i64 (i0:Int),.int .i64 (f0:Int),.int .i64 (b1:Int),.int .i64 (o1:Int),.int .i64 (i1:Int),.int .i64 (f1:Int),.int .i64 (b2:Int),.int .i64 (o2:Int),.int .i64 (i2:Int),.int .i64 (f2:Int)],.bool (Pl.vb (isT d h))]) ∧
  (isT d h→b0=sb d h 0∧o0=so d h 0∧i0=si d h 0∧f0=sf d h 0∧b1=sb d h 1∧o1=so d h 1∧i1=si d h 1∧f1=sf d h 1∧b2=sb d h 2∧o2=so d h 2∧i2=si d h 2∧f2=sf d h 2)∧Below w.heap.size w w':=by
 refine (triangle_any d hd A B cp cq m h w hm hg hh).mono ?_
 rintro e w' ⟨h1,h2,hb⟩
 by_cases h3:is3 d h
 ·exact ⟨_,_,_,_,_,_,_,_,_,_,_,_,h1 h3,fun _=>⟨rfl,rfl,rfl,rfl,rfl,rfl,rfl,rfl,rfl,rfl,rfl,rfl⟩,hb⟩
 ·refine ⟨0,0,0,0,0,0,0,0,0,0,0,0,?_,fun h=>absurd h.1 h3,hb⟩
  rw [h2 h3,Pl.vb_false (fun h=>h3 h.1)]
  rfl
theorem s_lt {d:Pl.Dg}(hd:Pl.Wf d){h:Nat}(hh:h<4 * d.n)(k:Nat):sb d h k<4 * d.n∧so d h k<4 * d.n∧si d h k<4 * d.n∧sf d h k<4 * d.n:=by
 have h1:=eo_lt hd (th_lt hd hh k)
 have h2:=hd.lt _ h1
 exact ⟨Pl.tn_lt h1,h1,h2,Pl.tn_lt h2⟩
theorem sTo_lt {d:Pl.Dg}(hd:Pl.Wf d){h:Nat}(hh:h<4 * d.n):∀k u,u<4 * d.n→(sTo d h k).getD u 0<4 * d.n
 | 0,u,hu=>by simp [sTo,List.getD_eq_getElem?_getD,hu]
 | k + 1, u, hu => by
   obtain ⟨h1,h2,h3,h4⟩:=s_lt hd hh k
   have ih:=sTo_lt hd hh k u hu
   have key:∀(l:List Nat) (a b:Nat),l.getD u 0<4 * d.n→b<4 * d.n→(l.set a b).getD u 0<4 * d.n:=by
    intro l a b hl hb
    rw [List.getD_eq_getElem?_getD,List.getElem?_set] at *
    split
    ·split
     ·simpa using hb
     ·simp;omega
    ·exact hl
   exact key _ _ _ (key _ _ _ ih h3) h2
theorem jn_lt' {N:Nat}{l:List Nat}{a b:Nat}(h:∀k,k<N→l.getD k 0<N)(ha:a<N)(hb:b<N):∀k,k<N→(jn l a b).getD k 0<N:=by
 intro k hk
 have key:∀(l:List Nat) (a b:Nat),l.getD k 0<N→b<N→(l.set a b).getD k 0<N:=by
  intro l a b hl hb
  rw [List.getD_eq_getElem?_getD,List.getElem?_set] at *
  split
  ·split
   ·simpa using hb
   ·simp;omega
  ·exact hl
 exact key _ _ _ (key _ _ _ (h k hk) hb) ha
theorem sM_lt {d:Pl.Dg}(hd:Pl.Wf d){h:Nat}(hh:h<4 * d.n):∀u,u≤4 * d.n→∀k,k<4 * d.n→(sM d h u).getD k 0<4 * d.n
 | 0, _, k, hk => by
   have:=hd.lt k hk
   rw [←getD_m (by rw [hd.len];exact hk)] at this
   exact this
 | u + 1, hu, k, hk => by
   unfold sM
   split
   ·exact jn_lt' (sM_lt hd hh u (by omega)) (sTo_lt hd hh 3 u (by omega)) (sTo_lt hd hh 3 _ (hd.lt u (by omega))) k hk
   ·exact sM_lt hd hh u (by omega) k hk
theorem sF_lt {d:Pl.Dg}(hd:Pl.Wf d){h:Nat}(hh:h<4 * d.n):∀j k,k<4 * d.n→(sF d h j).getD k 0<4 * d.n
 | 0,k,hk=>sM_lt hd hh _ (Nat.le_refl _) k hk
 | j + 1, k, hk => by
   obtain ⟨h1,h2,h3,h4⟩:=s_lt hd hh j
   unfold sF
   exact jn_lt' (sF_lt hd hh j) h1 h4 k hk
theorem nats_set0 (F:List Nat)(y v:Nat):nats (F.set y v)=(nats F).set y (v:Int):=by unfold nats;rw [List.map_set]
theorem nats_len (F:List Nat):(nats F).length=F.length:=by unfold nats;simp
theorem s_ne {d:Pl.Dg}(hd:Pl.Wf d){h:Nat}(hh:h<4 * d.n)(hi:isT d h)(k:Nat)(hk:k<3):sb d h k≠sf d h k:=by
 have hl:=th_lt hd hh k
 obtain ⟨⟨e3,c01,c12,c02⟩,_⟩:=hi
 have key:d.m (th d h k) / 4≠th d h k / 4:=by
  have hk3:k=0∨k=1∨k=2:=by omega
  have nd:∀z,Pl.nx d z / 4=d.m z / 4:=fun z=>by unfold Pl.nx;rw [Pl.tn_div]
  rcases hk3 with rfl | rfl | rfl
  ·rw [←nd];show th d h 1 / 4≠h / 4;omega
  ·rw [←nd];show th d h 2 / 4≠th d h 1 / 4;omega
  ·rw [←nd,e3];omega
 intro e
 have:=congrArg (· / 4) e
 unfold sb sf ei eo at this
 simp only [Pl.tn_div] at this
 by_cases ho:Pl.out d (th d h k)=true
 ·rw [if_pos ho] at this;omega
 ·rw [if_neg ho,hd.inv _ hl] at this;omega
section
variable {w W W':World} {ge:Nat} {dv mv ev:List Value}
end
section
variable {w W W2:World} {ge gt gu gr g1 c1 g2 c2 base m n:Nat} {dv mv ev:List Value} {tl:List Int} {ou:List Bool} {ss:List Value} {lp:Int} {L L':List Nat}
end
theorem getD_natsS {l:List Nat}{i:Nat}:Pl.pv (nats l) i=((l.getD i 0:Nat):Int):=by
 unfold Pl.pv nats
 rw [List.getD_eq_getElem?_getD,List.getD_eq_getElem?_getD,List.getElem?_map]
 cases l[i]? <;> rfl
def tk (m k:Nat):List Nat:=(List.range m).map (fun j=>if j<k then j else 0)
theorem tk_len (m k:Nat):(tk m k).length=m:=by simp [tk]
theorem tk_zero (m:Nat):nats (tk m 0)=List.replicate m 0:=by
 apply List.ext_getElem (by simp [nats,tk])
 intro i h1 h2
 simp [nats,tk]
theorem tk_set {m k:Nat}(h:k<m):(nats (tk m k)).set k (k:Int)=nats (tk m (k+1)):=by
 apply List.ext_getElem (by simp [nats,tk])
 intro i h1 h2
 simp only [nats,tk,List.getElem_set,List.getElem_map,List.getElem_range]
 by_cases h3:k=i
 ·subst h3;simp
 ·rw [if_neg h3]
  by_cases h4:i<k
  ·rw [if_pos h4,if_pos (by omega)]
  ·rw [if_neg h4,if_neg (by omega)]
theorem tk_all (m:Nat):tk m m=List.range m:=by
 apply List.ext_getElem (by simp [tk])
 intro i h1 h2
 simp [tk] at h1 ⊢
 omega
end Go.Proofs.Ytobbepmlmbbamaa
end
section
namespace Go.Proofs.Ytobbepmlmbbamaa
open Go Go.RowKit
theorem tr_of {d:Pl.Dg}{h:Nat}(hh:h<4 * d.n)(hi:is3 d h):Pl.Tr d (th d h 0) (th d h 1) (th d h 2) :=
 ⟨hh,rfl,rfl,hi.1,hi.2.1,hi.2.2.1,hi.2.2.2⟩
def sT (d:Pl.Dg)(h x:Nat):Nat:=Pl.tu (th d h 0) (th d h 1) (th d h 2) x
def sO (d:Pl.Dg)(h x:Nat):Prop:=x=Pl.tn (th d h 0) 2∨x=Pl.tn (th d h 1) 2∨x=Pl.tn (th d h 2) 2∨x=Pl.tn (th d h 0) 3∨x=Pl.tn (th d h 1) 3∨x=Pl.tn (th d h 2) 3
def sI (d:Pl.Dg)(h x:Nat):Prop:=x=th d h 0∨x=th d h 1∨x=th d h 2∨x=Pl.tn (th d h 0) 1∨x=Pl.tn (th d h 1) 1∨x=Pl.tn (th d h 2) 1
abbrev TriAt (d:Pl.Dg) (h0 h1 h2:Nat) (m t:Nat→Nat):Prop :=
 Pl.Tri (Pl.dart d) Pl.rot m t h0 h1 h2 (Pl.tn h0 1) (Pl.tn h1 1) (Pl.tn h2 1) (Pl.tn h0 2) (Pl.tn h1 2) (Pl.tn h2 2) (Pl.tn h0 3) (Pl.tn h1 3) (Pl.tn h2 3)
theorem tri_at {d:Pl.Dg}(hd:Pl.Wf d){h:Nat}(hh:h<4 * d.n)(hi:is3 d h):TriAt d (th d h 0) (th d h 1) (th d h 2) d.m (sT d h):=(tr_of hh hi).tri hd
theorem sj_at {d:Pl.Dg}(hd:Pl.Wf d){h:Nat}(hh:h<4 * d.n)(hi:is3 d h):Pl.Sj (4 * d.n) d.m (sT d h) (sO d h) (sI d h):=by
 have T:=tri_at hd hh hi
 refine ⟨hd.lt,hd.inv,fun x hx=>?_,T.tt,?_,?_,?_,?_,?_⟩
 ·exact T.tS x hx
 ·rintro x (e | e | e | e | e | e) <;> rw [e]
  ·rw [T.tu0];simp [sI]
  ·rw [T.tu1];simp [sI]
  ·rw [T.tu2];simp [sI]
  ·rw [T.tv0];simp [sI]
  ·rw [T.tv1];simp [sI]
  ·rw [T.tv2];simp [sI]
 ·intro x h1 h2
  unfold sO at h1
  unfold sI at h2
  refine T.tx x ?_
  simp only [List.mem_cons,List.not_mem_nil,or_false]
  intro h3
  rcases h3 with e | e | e | e | e | e | e | e | e | e | e | e <;> first | (apply h1;simp [e];done) | (apply h2;simp [e];done)
 ·rintro x (e | e | e | e | e | e) <;> rw [e]
  ·rw [T.th0];simp [sO]
  ·rw [T.th1];simp [sO]
  ·rw [T.th2];simp [sO]
  ·rw [T.tp0];simp [sO]
  ·rw [T.tp1];simp [sO]
  ·rw [T.tp2];simp [sO]
 ·rintro x (e | e | e | e | e | e) <;> rw [e]
  ·rw [T.ah0];simp [sI]
  ·rw [T.ah1];simp [sI]
  ·rw [T.ah2];simp [sI]
  ·rw [T.ap0];simp [sI]
  ·rw [T.ap1];simp [sI]
  ·rw [T.ap2];simp [sI]
 ·obtain ⟨_,c1,c2,c3⟩:=hi
  intro x h1 h2
  unfold sO at h1
  unfold sI at h2
  have e0:th d h 0=h:=rfl
  rw [e0] at h1 h2
  unfold Pl.tn at h1 h2
  rcases h1 with e | e | e | e | e | e <;> rcases h2 with e' | e' | e' | e' | e' | e' <;> omega
theorem ends {d:Pl.Dg}(hd:Pl.Wf d){h k q:Nat}(hl:th d h k<4 * d.n)(hq:d.m (th d h k)=Pl.tn q 1) :
 (sb d h k=Pl.tn (th d h k) 2∧so d h k=th d h k∧si d h k=Pl.tn q 1∧sf d h k=Pl.tn q 3)∨(sb d h k=Pl.tn q 3∧so d h k=Pl.tn q 1∧si d h k=th d h k∧sf d h k=Pl.tn (th d h k) 2):=by
 have e3:Pl.tn (Pl.tn q 1) 2=Pl.tn q 3:=Pl.tn_tn _ _ _
 by_cases ho:Pl.out d (th d h k)=true
 ·left
  have e1:eo d (th d h k)=th d h k:=by unfold eo;rw [if_pos ho]
  have e2:ei d (th d h k)=Pl.tn q 1:=by unfold ei;rw [e1,hq]
  exact ⟨by unfold sb;rw [e1],e1,e2,by unfold sf;rw [e2,e3]⟩
 ·right
  have e1:eo d (th d h k)=Pl.tn q 1:=by unfold eo;rw [if_neg ho,hq]
  have e2:ei d (th d h k)=th d h k:=by unfold ei;rw [e1,←hq,hd.inv _ hl]
  exact ⟨by unfold sb;rw [e1,e3],e1,e2,by unfold sf;rw [e2]⟩
theorem sTo_s {d:Pl.Dg}(hd:Pl.Wf d){h k q:Nat}(hl:th d h k<4 * d.n)(hq:d.m (th d h k)=Pl.tn q 1)(hql:q<4 * d.n)(hne:Pl.tn (th d h k) 2≠Pl.tn q 3)(x:Nat) :
 (sTo d h (k+1)).getD x 0=if x=Pl.tn (th d h k) 2 then Pl.tn q 1 else if x=Pl.tn q 3 then th d h k else (sTo d h k).getD x 0:=by
 have l1:Pl.tn (th d h k) 2<(sTo d h k).length:=by rw [sTo_len];exact Pl.tn_lt hl
 have l2:Pl.tn q 3<(sTo d h k).length:=by rw [sTo_len];exact Pl.tn_lt hql
 show (((sTo d h k).set (sb d h k) (si d h k)).set (sf d h k) (so d h k)).getD x 0=_
 rcases ends hd hl hq with ⟨e1,e2,e3,e4⟩ | ⟨e1,e2,e3,e4⟩ <;> rw [e1,e2,e3,e4]
 ·rw [Pl.set_getD _ _ _ _ (by simpa using l2),Pl.set_getD _ _ _ _ l1]
  by_cases h1:x=Pl.tn q 3
  ·rw [if_pos h1,if_neg (fun h2=>hne (h2.symm.trans h1)),if_pos h1]
  ·rw [if_neg h1,if_neg h1]
 ·rw [Pl.set_getD _ _ _ _ (by simpa using l1),Pl.set_getD _ _ _ _ l2]
theorem setB (l:List Bool)(a x:Nat)(ha:a<l.length):(l.set a true).getD x false=if x=a then true else l.getD x false:=by
 rw [List.getD_eq_getElem?_getD,List.getElem?_set,List.getD_eq_getElem?_getD]
 by_cases h:a=x
 ·subst h;simp [ha]
 ·rw [if_neg h,if_neg (Ne.symm h)]
theorem sOu_s {d:Pl.Dg}(hd:Pl.Wf d){h k q:Nat}(hl:th d h k<4 * d.n)(hq:d.m (th d h k)=Pl.tn q 1)(hql:q<4 * d.n)(x:Nat) :
 (sOu d h (k+1)).getD x false=true↔x=Pl.tn (th d h k) 2∨x=Pl.tn q 3∨(sOu d h k).getD x false=true:=by
 have l1:Pl.tn (th d h k) 2<(sOu d h k).length:=by rw [sOu_len];exact Pl.tn_lt hl
 have l2:Pl.tn q 3<(sOu d h k).length:=by rw [sOu_len];exact Pl.tn_lt hql
 show (((sOu d h k).set (sb d h k) true).set (sf d h k) true).getD x false=true↔_
 rcases ends hd hl hq with ⟨e1,e2,e3,e4⟩ | ⟨e1,e2,e3,e4⟩ <;> rw [e1,e4]
 ·rw [setB _ _ _ (by simpa using l2),setB _ _ _ l1]
  by_cases h1:x=Pl.tn q 3
  ·simp [h1]
  ·by_cases h2:x=Pl.tn (th d h k) 2 <;> simp [h1,h2]
 ·rw [setB _ _ _ (by simpa using l1),setB _ _ _ l2]
  by_cases h1:x=Pl.tn q 3
  ·simp [h1]
  ·by_cases h2:x=Pl.tn (th d h k) 2 <;> simp [h1,h2]
section
variable {d:Pl.Dg} {h:Nat}
theorem sTo_v (hd:Pl.Wf d)(hh:h<4 * d.n)(hi:is3 d h){x:Nat}(hx:x<4 * d.n):(sO d h x→(sTo d h 3).getD x 0=sT d h x)∧(¬sO d h x→(sTo d h 3).getD x 0=x):=by
 have T:=tri_at hd hh hi
 have t0:=th_lt hd hh 0
 have t1:=th_lt hd hh 1
 have t2:=th_lt hd hh 2
 obtain ⟨_,c1,c2,c3⟩:=hi
 have c0:th d h 0=h:=rfl
 have s2:=sTo_s hd (h:=h) (k:=2) (q:=th d h 0) t2 T.ah2 t0 (by unfold Pl.tn;omega) x
 have s1:=sTo_s hd (h:=h) (k:=1) (q:=th d h 2) t1 T.ah1 t2 (by unfold Pl.tn;omega) x
 have s0:=sTo_s hd (h:=h) (k:=0) (q:=th d h 1) t0 T.ah0 t1 (by unfold Pl.tn;omega) x
 have sz:(sTo d h 0).getD x 0=x:=by simp [sTo,List.getD_eq_getElem?_getD,hx]
 rw [s2,s1,s0,sz]
 have n:=T.nd
 constructor
 ·rintro (e | e | e | e | e | e) <;> rw [e]
  ·rw [T.tu0,if_neg (by unfold Pl.tn;omega),if_neg (by unfold Pl.tn;omega),if_neg (by unfold Pl.tn;omega),if_neg (by unfold Pl.tn;omega),if_pos rfl]
  ·rw [T.tu1,if_neg (by unfold Pl.tn;omega),if_neg (by unfold Pl.tn;omega),if_pos rfl]
  ·rw [T.tu2,if_pos rfl]
  ·rw [T.tv0,if_neg (by unfold Pl.tn;omega),if_pos rfl]
  ·rw [T.tv1,if_neg (by unfold Pl.tn;omega),if_neg (by unfold Pl.tn;omega),if_neg (by unfold Pl.tn;omega),if_neg (by unfold Pl.tn;omega),if_neg (by unfold Pl.tn;omega),if_pos rfl]
  ·rw [T.tv2,if_neg (by unfold Pl.tn;omega),if_neg (by unfold Pl.tn;omega),if_neg (by unfold Pl.tn;omega),if_pos rfl]
 ·intro hn
  unfold sO at hn
  rw [if_neg (fun e=>hn (by simp [e])),if_neg (fun e=>hn (by simp [e])),if_neg (fun e=>hn (by simp [e])),if_neg (fun e=>hn (by simp [e])),if_neg (fun e=>hn (by simp [e])),if_neg (fun e=>hn (by simp [e]))]
theorem sOu_v (hd:Pl.Wf d)(hh:h<4 * d.n)(hi:is3 d h)(x:Nat):(sOu d h 3).getD x false=true↔sO d h x:=by
 have T:=tri_at hd hh hi
 have t0:=th_lt hd hh 0
 have t1:=th_lt hd hh 1
 have t2:=th_lt hd hh 2
 have s2:=sOu_s hd (h:=h) (k:=2) (q:=th d h 0) t2 T.ah2 t0 x
 have s1:=sOu_s hd (h:=h) (k:=1) (q:=th d h 2) t1 T.ah1 t2 x
 have s0:=sOu_s hd (h:=h) (k:=0) (q:=th d h 1) t0 T.ah0 t1 x
 have sz:(sOu d h 0).getD x false=false:=by
  unfold sOu
  rw [List.getD_eq_getElem?_getD,List.getElem?_replicate]
  split <;> rfl
 rw [s2,s1,s0,sz]
 unfold sO
 constructor
 ·rintro (h | h | h | h | h | h | h)
  ·exact .inr (.inr (.inl h))
  ·exact .inr (.inr (.inr (.inl h)))
  ·exact .inr (.inl h)
  ·exact .inr (.inr (.inr (.inr (.inr h))))
  ·exact .inl h
  ·exact .inr (.inr (.inr (.inr (.inl h))))
  ·cases h
 ·rintro (h | h | h | h | h | h) <;> simp [h]
theorem jn_eq (l:List Nat)(a b:Nat):jn l a b=(l.set a b).set b a:=rfl
theorem sM_half (hd:Pl.Wf d)(hh:h<4 * d.n)(hi:is3 d h):∀k,k≤4 * d.n→Pl.Half (4 * d.n) d.m (Pl.cj (sT d h) d.m) (fun x=>∃u,u<k∧sO d h u∧(x=sT d h u∨x=sT d h (d.m u))) (sM d h k)
 | 0,_=>⟨hd.len,fun x hx => .inr ⟨getD_m (by rw [hd.len];exact hx),fun ⟨u,h,_⟩=>absurd h (by omega)⟩⟩
 | k + 1, hk => by
   have ih:=sM_half hd hh hi k (by omega)
   have J:=sj_at hd hh hi
   have hk2:k<4 * d.n:=by omega
   show Pl.Half _ _ _ _ (if (sOu d h 3).getD k false=true then jn (sM d h k) ((sTo d h 3).getD k 0) ((sTo d h 3).getD (d.m k) 0) else sM d h k)
   by_cases ho:sO d h k
   ·rw [if_pos ((sOu_v hd hh hi k).2 ho),(sTo_v hd hh hi hk2).1 ho,jn_eq]
    have e:(sTo d h 3).getD (d.m k) 0=sT d h (d.m k):=by
     by_cases h2:sO d h (d.m k)
     ·exact (sTo_v hd hh hi (hd.lt k hk2)).1 h2
     ·rw [(sTo_v hd hh hi (hd.lt k hk2)).2 h2,J.far hk2 ho h2]
    rw [e]
    exact J.step ih hk2 ho
   ·rw [if_neg (fun h2=>ho ((sOu_v hd hh hi k).1 h2))]
    exact Pl.Sj.skip ih ho
theorem sF_half (hd:Pl.Wf d)(hh:h<4 * d.n)(hi:is3 d h){k q:Nat}{W:Nat→Prop}(hl:Pl.Half (4 * d.n) d.m (Pl.cj (sT d h) d.m) W (sF d h k))(hq:d.m (th d h k)=Pl.tn q 1)(hql:q<4 * d.n)(e:Pl.cj (sT d h) d.m (Pl.tn (th d h k) 2)=Pl.tn q 3) :
 Pl.Half (4 * d.n) d.m (Pl.cj (sT d h) d.m) (fun x=>W x∨x=Pl.tn (th d h k) 2∨x=Pl.tn q 3) (sF d h (k+1)):=by
 have J:=sj_at hd hh hi
 have lh:=th_lt hd hh k
 have l1:Pl.tn (th d h k) 2<4 * d.n:=Pl.tn_lt lh
 have l2:Pl.tn q 3<4 * d.n:=Pl.tn_lt hql
 have e':Pl.cj (sT d h) d.m (Pl.tn q 3)=Pl.tn (th d h k) 2:=by
  rw [←e]
  unfold Pl.cj
  rw [J.ff,J.inv _ (J.fl _ l1),J.ff]
 show Pl.Half _ _ _ _ (jn (sF d h k) (sb d h k) (sf d h k))
 rw [jn_eq]
 rcases ends hd lh hq with ⟨e1,_,_,e4⟩ | ⟨e1,_,_,e4⟩ <;> rw [e1,e4]
 ·exact hl.join l1 l2 e e'
 ·refine (hl.join l2 l1 e' e).mono ?_
  rintro x (h | h | h)
  ·exact .inl h
  ·exact .inr (.inr h)
  ·exact .inr (.inl h)
theorem sF_v (hd:Pl.Wf d)(hh:h<4 * d.n)(hi:is3 d h):∀x,x<4 * d.n→(sF d h 3).getD x 0=Pl.cj (sT d h) d.m x:=by
 have T:=tri_at hd hh hi
 have T':=T.flip
 have J:=sj_at hd hh hi
 have t0:=th_lt hd hh 0
 have t1:=th_lt hd hh 1
 have t2:=th_lt hd hh 2
 have a0:Pl.Half (4 * d.n) d.m (Pl.cj (sT d h) d.m) _ (sF d h 0):=sM_half hd hh hi (4 * d.n) (Nat.le_refl _)
 have a1:=sF_half hd hh hi (k:=0) (q:=th d h 1) a0 T.ah0 t1 T'.ah0
 have a2:=sF_half hd hh hi (k:=1) (q:=th d h 2) a1 T.ah1 t2 T'.ah1
 have a3:=sF_half hd hh hi (k:=2) (q:=th d h 0) a2 T.ah2 t0 T'.ah2
 refine J.all a3 (fun u hu ho=>⟨?_,?_,?_⟩)
 ·exact .inl (.inl (.inl ⟨u,hu,ho,.inl rfl⟩))
 ·exact .inl (.inl (.inl ⟨u,hu,ho,.inr rfl⟩))
 ·rcases ho with h | h | h | h | h | h <;> simp [h]
theorem sld_m (hd:Pl.Wf d)(hh:h<4 * d.n)(hi:is3 d h):∀x,x<4 * d.n→(sldD d h).m x=Pl.cj (sT d h) d.m x:=fun x hx=>by
 rw [←sF_v hd hh hi x hx,←getD_m (by show x<(sF d h 3).length;rw [sF_len hd];exact hx)]
 rfl
theorem sld_valid (hd:Pl.Valid d)(hh:h<4 * d.n)(hi:is3 d h):Pl.Valid (sldD d h) :=
 have hw:=(Pl.Valid.iff.1 hd).1
 (tr_of hh hi).valid hd rfl rfl (sF_len hw h 3) (sld_m hw hh hi)
theorem tri_new (hd:Pl.Wf d)(hh:h<4 * d.n)(hi:is3 d h):TriAt d (Pl.tn (th d h 0) 2) (Pl.tn (th d h 1) 2) (Pl.tn (th d h 2) 2) (Pl.cj (sT d h) d.m) (sT d h):=by
 have T:=(tri_at hd hh hi).flip
 have a1:∀z,Pl.tn (Pl.tn z 2) 1=Pl.tn z 3:=fun z=>Pl.tn_tn _ _ _
 have a2:∀z,Pl.tn (Pl.tn z 2) 2=z:=fun z=>by rw [Pl.tn_tn,Pl.tn_four]
 have a3:∀z,Pl.tn (Pl.tn z 2) 3=Pl.tn z 1:=fun z=>by rw [Pl.tn_tn];exact (Pl.tn_mod4 z 5).symm
 unfold TriAt
 rw [a1,a1,a1,a2,a2,a2,a3,a3,a3]
 exact T
theorem nx_of {f:Nat→Nat}{x y:Nat}(h:f x=Pl.tn y 1):Pl.tn (f x) 3=y:=by rw [h,Pl.tn_tn,Pl.tn_four]
theorem nx_new (hd:Pl.Wf d)(hh:h<4 * d.n)(hi:is3 d h):Pl.nx (sldD d h) (Pl.tn (th d h 0) 2)=Pl.tn (th d h 1) 2∧Pl.nx (sldD d h) (Pl.tn (th d h 1) 2)=Pl.tn (th d h 2) 2∧Pl.nx (sldD d h) (Pl.tn (th d h 2) 2)=Pl.tn (th d h 0) 2:=by
 have T:=tri_new hd hh hi
 have e:∀k,Pl.nx (sldD d h) (Pl.tn (th d h k) 2)=Pl.tn (Pl.cj (sT d h) d.m (Pl.tn (th d h k) 2)) 3:=fun k=>by
  unfold Pl.nx
  rw [sld_m hd hh hi _ (Pl.tn_lt (th_lt hd hh k))]
 rw [e,e,e]
 exact ⟨nx_of T.ah0,nx_of T.ah1,nx_of T.ah2⟩
theorem lnx_nx (hd:Pl.Wf d){u:Nat}(hu:u<4 * d.n):lnx (sF d h 3) u=Pl.nx (sldD d h) u:=by
 unfold lnx Pl.nx
 rw [←getD_m (by show u<(sF d h 3).length;rw [sF_len hd];exact hu)]
 rfl
theorem sC_iff (hd:Pl.Wf d)(hh:h<4 * d.n)(hi:is3 d h){u:Nat}(hu:u<4 * d.n):sC d h u=true↔u=Pl.tn (th d h 0) 2∨u=Pl.tn (th d h 1) 2∨u=Pl.tn (th d h 2) 2:=by
 have J:=sj_at hd hh hi
 obtain ⟨n0,n1,n2⟩:=nx_new hd hh hi
 have T:=tri_new hd hh hi
 have l:∀k,Pl.tn (th d h k) 2<4 * d.n:=fun k=>Pl.tn_lt (th_lt hd hh k)
 unfold sC
 simp only [Bool.and_eq_true,beq_iff_eq]
 rw [sOu_v hd hh hi,sOu_v hd hh hi,sOu_v hd hh hi]
 constructor
 ·rintro ⟨⟨⟨h1,h2⟩,_⟩,_⟩
  rcases h1 with e | e | e | e | e | e
  ·exact .inl e
  ·exact .inr (.inl e)
  ·exact .inr (.inr e)
  all_goals
   exfalso
   refine J.no _ h2 ?_
   rw [lnx_nx hd hu]
   unfold Pl.nx
   rw [sld_m hd hh hi _ hu,e]
  ·have:=T.ap0
   rw [Pl.tn_tn] at this
   rw [show Pl.tn (th d h 0) 3=Pl.tn (th d h 0) (2+1) from rfl,this,Pl.tn_tn,←Pl.tn_mod4]
   simp [sI]
  ·have:=T.ap1
   rw [Pl.tn_tn] at this
   rw [show Pl.tn (th d h 1) 3=Pl.tn (th d h 1) (2+1) from rfl,this,Pl.tn_tn,←Pl.tn_mod4]
   simp [sI]
  ·have:=T.ap2
   rw [Pl.tn_tn] at this
   rw [show Pl.tn (th d h 2) 3=Pl.tn (th d h 2) (2+1) from rfl,this,Pl.tn_tn,←Pl.tn_mod4]
   simp [sI]
 ·rintro (e | e | e) <;> rw [e]
  ·rw [lnx_nx hd (l 0),n0,lnx_nx hd (l 1),n1,lnx_nx hd (l 2),n2];simp [sO]
  ·rw [lnx_nx hd (l 1),n1,lnx_nx hd (l 2),n2,lnx_nx hd (l 0),n0];simp [sO]
  ·rw [lnx_nx hd (l 2),n2,lnx_nx hd (l 0),n0,lnx_nx hd (l 1),n1];simp [sO]
theorem sX_least (d:Pl.Dg)(h:Nat):∀g,g≤4 * d.n→(∃u,4 * d.n - g≤u∧u<4 * d.n∧sC d h u=true)→sC d h (sX d h g)=true∧sX d h g<4 * d.n∧∀u,4 * d.n - g≤u→u<4 * d.n→sC d h u=true→sX d h g≤u
 | 0,_,⟨u,h1,h2,_⟩=>absurd h1 (by omega)
 | g + 1, hg, ⟨u, h1, h2, h3⟩ => by
   unfold sX
   by_cases hc:sC d h (4 * d.n - (g+1))=true
   ·rw [if_pos hc]
    exact ⟨hc,by omega,fun u hu _ _=>hu⟩
   ·rw [if_neg hc]
    have key:∀u,4 * d.n - (g+1)≤u→sC d h u=true→4 * d.n - g≤u:=fun u hu hs=>by
     rcases Nat.lt_or_ge u (4 * d.n - g) with h4 | h4
     ·have:u=4 * d.n - (g+1):=by omega
      rw [this] at hs
      exact absurd hs hc
     ·exact h4
    obtain ⟨i1,i2,i3⟩:=sX_least d h g (by omega) ⟨u,key u h1 h3,h2,h3⟩
    exact ⟨i1,i2,fun u hu hl hs=>i3 u (key u hu hs) hl hs⟩
theorem sX_v (hd:Pl.Wf d)(hh:h<4 * d.n)(hi:is3 d h):sX d h (4 * d.n)<4 * d.n∧(sX d h (4 * d.n)=Pl.tn (th d h 0) 2∨sX d h (4 * d.n)=Pl.tn (th d h 1) 2∨sX d h (4 * d.n)=Pl.tn (th d h 2) 2) ∧
 sX d h (4 * d.n)≤Pl.tn (th d h 0) 2∧sX d h (4 * d.n)≤Pl.tn (th d h 1) 2∧sX d h (4 * d.n)≤Pl.tn (th d h 2) 2:=by
 have l:∀k,Pl.tn (th d h k) 2<4 * d.n:=fun k=>Pl.tn_lt (th_lt hd hh k)
 obtain ⟨i1,i2,i3⟩:=sX_least d h (4 * d.n) (Nat.le_refl _) ⟨_,by omega,l 0,(sC_iff hd hh hi (l 0)).2 (.inl rfl)⟩
 exact ⟨i2,(sC_iff hd hh hi i2).1 i1,i3 _ (by omega) (l 0) ((sC_iff hd hh hi (l 0)).2 (.inl rfl)),i3 _ (by omega) (l 1) ((sC_iff hd hh hi (l 1)).2 (.inr (.inl rfl))),i3 _ (by omega) (l 2) ((sC_iff hd hh hi (l 2)).2 (.inr (.inr rfl)))⟩
theorem getD_ext {l r:List Nat}(hl:l.length=r.length)(h:∀x,x<l.length→l.getD x 0=r.getD x 0):l=r:=by
 refine List.ext_getElem hl (fun i h1 h2=>?_)
 have:=h i h1
 rw [List.getD_eq_getElem?_getD,List.getD_eq_getElem?_getD,List.getElem?_eq_getElem h1,List.getElem?_eq_getElem h2] at this
 exact this
end
end Go.Proofs.Ytobbepmlmbbamaa
end
section
namespace Go.Proofs.Ytobbepmlmbbamaa
open Go Go.RowKit
attribute [local go_sem ↓] Go.wp_at_zero Go.wp_at_succ
theorem moveInfo:(Try.prog.info? 28).map (fun i=>(i.zero,i.size,i.bytes))=some (some (.agg #[.int .i64 0,.int .i64 0,.int .i64 0,.int .i64 0,.bool false]),5,40):=by kernel_rfl
def Mv.cells (m:Mv):List Value:=[.int .i64 m.kind,.int .i64 m.x,.int .i64 m.y,.int .i64 m.sign,.bool m.over]
def mvs (ms:List Mv):List Value:=ms.flatMap Mv.cells
theorem mvs_len:∀ms:List Mv,(mvs ms).length=ms.length * 5
 | []=>rfl
 | m :: ms => by
   have:=mvs_len ms
   unfold mvs at this ⊢
   rw [List.flatMap_cons,List.length_append,this,List.length_cons]
   simp [Mv.cells]
   omega
theorem mvs_app (ms:List Mv)(m:Mv):mvs (ms++[m])=mvs ms++m.cells:=by unfold mvs;simp
structure ML (w:World) (gd gl:Nat) (dv:List Value) (v:Value) (ms:List Mv) (W:World):Prop where
 d:Row W gd 24 dv
 l:Row W gl 31 [v]
 o:W.ownsRow (gl+1) 28 5 v ms.length (mvs ms)
 bel:Below w.heap.size w W
 lo:w.heap.size≤gd
 lt:gd<gl
section
variable {w W W' W2:World} {gd gl:Nat} {dv:List Value} {v v':Value} {ms:List Mv} {m:Mv}
theorem own_below {base:Nat}{e:TypeId}{size n:Nat}{xs:List Value}(h:W.ownsRow base e size v n xs)(hb:Below W.heap.size W W'):W'.ownsRow base e size v n xs:=by
 refine ⟨h.1,?_⟩
 rcases h.2 with hz | ⟨g,cap,cur,r1,r2,r3,r4⟩
 ·exact .inl hz
 ·exact .inr ⟨g,cap,cur,r1,r2,(hb.block g (lt_of_heap r3)).trans r3,r4⟩
theorem ML.below (h:ML w gd gl dv v ms W)(hb:Below W.heap.size W W'):ML w gd gl dv v ms W' :=
 ⟨h.d.below hb,h.l.below hb,own_below h.o hb,h.bel.trans (hb.mono h.bel.size),h.lo,h.lt⟩
theorem ML.alloc (h:ML w gd gl dv v ms W)(o:Obj):ML w gd gl dv v ms (W.alloc o):=h.below ((Below.refl _ _).alloc (Nat.le_refl _) o)
theorem ML.big (h:ML w gd gl dv v ms W):gl<W.heap.size:=h.l.lt
theorem ML.far (h:ML w gd gl dv v ms W){g:Nat}(hg:g≤gl):some g≠v.ownBlock:=fun e=>by have:=(h.o.lt g e.symm).1;omega
theorem ML.push (h:ML w gd gl dv v ms W)(own:W2.ownsRow (gl+1) 28 5 v' (ms.length+1) (mvs ms++m.cells))(gr:W.grownBy W2 v.ownBlock):ML w gd gl dv v' (ms++[m]) (W2.setCell ⟨gl,0,none⟩ v'):=by
 have a:=h.lo
 have b:=h.lt
 refine ⟨(h.d.grown gr (h.far (by omega))).other (by show gd≠gl;omega) _,(h.l.grown gr (h.far (Nat.le_refl _))).set 0 v',?_,?_,h.lo,h.lt⟩
 ·rw [mvs_app,List.length_append]
  exact ownsRow_setCell_below own (by show gl<gl+1;omega) _
 ·exact (h.bel.grown gr h.bel.size (fun k hk=>by have:=(h.o.lt k hk).1;omega)).setCell (by show _≤gl;omega) _
end
theorem five_news (W:World)(g:Nat)(hg:W.heap.size=g)(m:Mv):∀j u,m.cells[j]? = some u→(W.alloc (.cells m.cells.toArray 28)).cell? ((⟨g,0,none⟩:Addr).add j)=some u:=by
 subst hg
 intro j u hu
 rw [Addr.add_lit,Nat.zero_add]
 have hj:j<m.cells.length:=by
  rcases Nat.lt_or_ge j m.cells.length with h | h
  ·exact h
  ·rw [List.getElem?_eq_none h] at hu;cases hu
 have:=(Row.new W 28 m.cells).cell hj
 rw [this,←hu,List.getElem?_eq_getElem hj]
theorem box1 {W:World}{g:Nat}{t:TypeId}{a:Value}(h:Row W g t [a]):W.cell? ⟨g,0,none⟩=some a∧∀o,W.frozen? ⟨g,o,none⟩=false:=⟨h.cell (i:=0) (by simp),h.free⟩
def slP (d:Pl.Dg)(h:Nat):Prop:=h≤th d h 1∧h≤th d h 2∧isT d h
open Classical in
noncomputable def slOne (d:Pl.Dg)(h:Nat):List Mv:=if slP d h then [⟨5,h,0,0,false⟩] else []
set_option maxRecDepth 100000 in
set_option maxHeartbeats 4000000 in
theorem slTry_any (d:Pl.Dg)(hd:Pl.Wf d)(A B:Option Addr)(cp cq m h gd gl:Nat)(v:Value)(ms:List Mv)(w0 w:World)(hm:m=4 * d.n)(hg:DgAt w A B d)(hh:h<4 * d.n)(hms:ms.length≤1000)
 (hp:ML w0 gd gl [.slice A d.n cp,.slice B m cq,.int .i64 (d.lp:Int)] v ms w) :
 Calls Try.prog 110 #[.agg #[.int .i64 5,.int .i64 (h:Int),.int .i64 0,.int .i64 0,.bool false],.pointer (some ⟨gd,0,none⟩),.pointer (some ⟨gl,0,none⟩)] w fun e w'=>e = .returned (.tuple #[])∧∃v',ML w0 gd gl [.slice A d.n cp,.slice B m cq,.int .i64 (d.lp:Int)] v' (ms++slOne d h) w':=by
 have HM:=hide hm
 have HG:=hide hg
 have hn:=hd.few
 have hm2:m≤256:=by omega
 have hHM:h<m:=by omega
 obtain ⟨i,hi⟩:∃i,i=th d h 1:=⟨_,rfl⟩
 obtain ⟨j,hj⟩:∃j,j=th d h 2:=⟨_,rfl⟩
 have li:i<m:=by have:=th_lt hd hh 1;omega
 have lj:j<m:=by have:=th_lt hd hh 2;omega
 have HI:=hide (show Pl.nx d h=i from hi.symm)
 have HJ:=hide (show Pl.nx d i=j from by rw [hi,hj];rfl)
 have HT:=hide (show slP d h↔h≤i∧h≤j∧isT d h by unfold slP;rw [hi,hj])
 clear hi hj hm
 have ih0:(0:Int)≤(h:Int)∧(h:Int)<(m:Int):=by omega
 have ii0:(0:Int)≤(i:Int)∧(i:Int)<(m:Int):=by omega
 have hb0:Below w.heap.size w (w.alloc (.cells #[.int .i64 5,.int .i64 (h:Int),.int .i64 0,.int .i64 0,.bool false] 28)):=(Below.refl _ _).alloc (Nat.le_refl _) _
 have HB0:=hide hb0
 have P1:=hide (hp.below hb0)
 have M1:=hide (row_at (W:=w) (g:=w.heap.size) (t:=28) (vs:=[.int .i64 5,.int .i64 (h:Int),.int .i64 0,.int .i64 0,.bool false]) rfl)
 have hgl:gl<w.heap.size:=hp.big
 have hgd:gd<gl:=hp.lt
 clear hp hb0 hg
 obtain ⟨d0,d1,d2,d3⟩:=box3 P1.out.d
 obtain ⟨e0,e1,e2,e3,e4,e5⟩:=box5 M1.out
 go_enter Try.func110,Try.ntmps110
 go_wp2_with fail
 refine (next_i d hd B cq m (h:Int) _ HM.out ih0 (by rw [HM.out];exact (HG.out.keep HB0.out).m)).mono ?_
 rintro e w1 ⟨rfl,rfl⟩
 rw [Int.toNat_natCast,HI.out]
 go_wp2_with fail
 refine (next_i d hd B cq m (i:Int) _ HM.out ii0 (by rw [HM.out];exact (HG.out.keep HB0.out).m)).mono ?_
 rintro e w1 ⟨rfl,rfl⟩
 rw [Int.toNat_natCast,HJ.out]
 by_cases c1:(i:Int)<(h:Int)
 ·have E:=hide (show slOne d h=[] by unfold slOne;rw [if_neg (fun h=>by have:=HT.out.1 h;omega)])
  go_wp2
  refine bodyPost_ret (results_none rfl _ _ _) rfl ⟨rfl,v,?_⟩
  rw [E.out,List.append_nil]
  exact P1.out
 ·by_cases c2:(j:Int)<(h:Int)
  ·have E:=hide (show slOne d h=[] by unfold slOne;rw [if_neg (fun h=>by have:=HT.out.1 h;omega)])
   go_wp2
   refine bodyPost_ret (results_none rfl _ _ _) rfl ⟨rfl,v,?_⟩
   rw [E.out,List.append_nil]
   exact P1.out
  ·go_wp2_with fail
   refine (tri_v d hd A B cp cq m h _ HM.out (HG.out.keep HB0.out) hh).mono ?_
   rintro e w1 ⟨b0,o0,i0,f0,b1,o1,i1,f1,b2,o2,i2,f2,rfl,_,hb1⟩
   have P2:=hide (P1.out.below hb1)
   have M2:=hide (M1.out.below hb1)
   have hs1:=hb1.size
   have hs20:w.heap.size+1≤w1.heap.size:=by simpa using hs1
   have hs2:w.heap.size<w1.heap.size:=by omega
   clear hs20
   have hs3:gl<w1.heap.size:=by omega
   have hs4:gl<w1.heap.size+1:=by omega
   have hs5:w.heap.size<w1.heap.size+1:=by omega
   clear hb1 hs1 d0 d1 d2 d3 e0 e1 e2 e3 e4 e5
   obtain ⟨e0,e1,e2,e3,e4,e5⟩:=box5 M2.out
   by_cases hI:isT d h
   ·rw [Pl.vb_true hI]
    have E:=hide (show slOne d h=[⟨5,h,0,0,false⟩] by unfold slOne;rw [if_pos (HT.out.2 ⟨by omega,by omega,hI⟩)])
    clear hI
    obtain ⟨q0,q1⟩:=box1 P2.out.l
    obtain ⟨n0,hn0,hz0,hz1,hz2⟩:=info_parts moveInfo
    have P3:=hide (P2.out.alloc (.cells #[.int .i64 (b0:Int),.int .i64 (o0:Int),.int .i64 (i0:Int),.int .i64 (f0:Int),.int .i64 (b1:Int),.int .i64 (o1:Int),.int .i64 (i1:Int),.int .i64 (f1:Int),.int .i64 (b2:Int),.int .i64 (o2:Int),.int .i64 (i2:Int),.int .i64 (f2:Int)] 99))
    have A0:=hide (P3.out.alloc (.cells (Mv.cells ⟨5,h,0,0,false⟩).toArray 28)).o
    have A1:∀u ∈ Mv.cells ⟨5,h,0,0,false⟩,u.oneCell'=true:=by simp [Mv.cells,Value.oneCell']
    have A2:ms.length+1≤maxLen:=by unfold maxLen;omega
    have A3:(ms.length+1) * 40≤140737488355328:=by omega
    have A4:gl+1≤w1.heap.size+1+1:=by omega
    have A5:=five_news (w1.alloc (.cells #[.int .i64 (b0:Int),.int .i64 (o0:Int),.int .i64 (i0:Int),.int .i64 (f0:Int),.int .i64 (b1:Int),.int .i64 (o1:Int),.int .i64 (i1:Int),.int .i64 (f1:Int),.int .i64 (b2:Int),.int .i64 (o2:Int),.int .i64 (i2:Int),.int .i64 (f2:Int)] 99)) (w1.heap.size+1) (by simp) ⟨5,h,0,0,false⟩
    have A6:=hide A5
    clear A5
    go_wp2_with (at_builtin;refine wpList_append_lies _ (by rfl) _ _ 31 (by rfl) (gl+1) 28 n0 (.agg #[.int .i64 0,.int .i64 0,.int .i64 0,.int .i64 0,.bool false]) 5 40 Try.underlying31 hn0 hz0 hz1 hz2 rfl (by omega) v ms.length (mvs ms) (by rfl) A0.out ⟨w1.heap.size+1,0,none⟩ 1 1 (Mv.cells ⟨5,h,0,0,false⟩) (by rfl) (by rfl) A6.out A1 (by omega) A2 A3 (by simp;omega) (w1.heap.size+1+1) (by simp) ?_;intro g2 c2 w2 own2 grow2 at2 lt2;obtain ⟨q2,q3⟩:=box1 ((P3.out.alloc (.cells (Mv.cells ⟨5,h,0,0,false⟩).toArray 28)).l.grown grow2 ((P3.out.alloc (.cells (Mv.cells ⟨5,h,0,0,false⟩).toArray 28)).far (Nat.le_refl _)));have OWN2:=hide own2;have GR2:=hide grow2;clear own2 grow2 at2)
    refine bodyPost_end (results_none rfl _ _ _) rfl ⟨rfl,.slice (some ⟨g2,0,none⟩) (ms.length+1) c2,?_⟩
    rw [E.out]
    exact (P3.out.alloc _).push OWN2.out GR2.out
   ·rw [Pl.vb_false hI]
    have E:=hide (show slOne d h=[] by unfold slOne;rw [if_neg (fun h=>hI (HT.out.1 h).2.2)])
    clear hI
    go_wp2
    refine bodyPost_end (results_none rfl _ _ _) rfl ⟨rfl,v,?_⟩
    rw [E.out,List.append_nil]
    exact P2.out.alloc _
noncomputable def slL (d:Pl.Dg):Nat→List Mv
 | 0=>[]
 | k+1=>slL d k++slOne d k
theorem slL_len (d:Pl.Dg):∀k,(slL d k).length≤k
 | 0=>Nat.le_refl _
 | k + 1 => by
   have:=slL_len d k
   unfold slL slOne
   rw [List.length_append]
   split <;> simp <;> omega
def MovesAt (w:World)(v:Value)(ms:List Mv):Prop:=∃base,w.ownsRow base 28 5 v ms.length (mvs ms)
set_option maxRecDepth 100000 in
set_option maxHeartbeats 4000000 in
theorem slides_any (d:Pl.Dg)(hd:Pl.Wf d)(A B:Option Addr)(cp cq m:Nat)(w:World)(hm:m=4 * d.n)(hg:DgAt w A B d) :
 Calls Try.prog 61 #[.agg #[.slice A d.n cp,.slice B m cq,.int .i64 d.lp]] w fun e w'=>∃v,e = .returned v∧MovesAt w' v (slL d m)∧Below w.heap.size w w':=by
 have HM:=hide hm
 have HG:=hide hg
 have hn:=hd.few
 have hm2:m≤256:=by omega
 have P0:=hide (show ML w w.heap.size (w.heap.size+1) [.slice A d.n cp,.slice B m cq,.int .i64 (d.lp:Int)] (.slice none 0 0) [] ((w.alloc (.cells #[.slice A d.n cp,.slice B m cq,.int .i64 (d.lp:Int)] 24)).alloc (.cells #[.slice none 0 0] 31)) from
  ⟨(row_at (vs:=[_,_,_]) rfl).alloc _,row_at (vs:=[_]) (by simp),⟨rfl,.inl ⟨rfl,rfl⟩⟩,((Below.refl _ _).alloc (Nat.le_refl _) _).alloc (by simp) _,Nat.le_refl _,by omega⟩)
 clear hg hm
 go_enter Try.func61,Try.ntmps61
 go_wp2
 go_loopg [5,10] m (fun g s5 s10 wx=>∃(k:Nat) (v:Value),k+g=m∧s10 = .int .i64 (k:Int)∧ML w w.heap.size (w.heap.size+1) [.slice A d.n cp,.slice B m cq,.int .i64 (d.lp:Int)] v (slL d k) wx)
 case atStart=>exact ⟨0,_,by omega,rfl,P0.out⟩
 case round =>
  clear P0
  obtain ⟨k,v,hkg,rfl,hp⟩:=hrel
  have HKG:=hide hkg
  have PK:=hide hp
  have hlen:=slL_len d k
  clear hp
  by_cases hk:k<m
  ·have hki:(k:Int)<(m:Int):=by omega
   clear hkg
   go_wp2_with fail
   refine (slTry_any d hd A B cp cq m k w.heap.size (w.heap.size+1) v (slL d k) w wr HM.out (HG.out.keep PK.out.bel) (by have:=HM.out;omega) (by omega) PK.out).mono ?_
   rintro e w1 ⟨rfl,v',hp1⟩
   have P1:=hide hp1
   clear hp1
   go_wp2
   go_roundg (gk - 1)
   case measure=>have:=HKG.out;omega
   case rel=>exact ⟨k+1,v',by have:=HKG.out;omega,by go_num,P1.out⟩
  ·have hki:¬((k:Int)<(m:Int)):=by omega
   have e:k=m:=by omega
   subst e
   obtain ⟨q0,q1⟩:=box1 PK.out.l
   clear hkg
   go_wp2
   go_ret
   exact ⟨v,rfl,⟨_,PK.out.o⟩,PK.out.bel⟩
end Go.Proofs.Ytobbepmlmbbamaa
end
section
namespace Go.Proofs.Ytobbepmlmbbamaa
open Go Go.RowKit
attribute [local go_sem ↓] Go.wp_at_zero Go.wp_at_succ
structure PB (w:World) (s5 m5:List Value) (W:World):Prop where
 s:Row W w.heap.size 64 s5
 m:Row W (w.heap.size+1) 28 m5
 rd:∃vs,Row W (w.heap.size+1+1) 24 vs∧vs.length=3
 rm:∃us,Row W (w.heap.size+1+1+1) 28 us∧us.length=5
 bel:Below w.heap.size w W
section
variable {w W W':World} {s5 m5:List Value}
end
section
variable {w:World} {gd gn gr gf g1 c1 n1 g2 c2 n2 base n u0 u1:Nat} {s5 m5 dv ss:List Value} {lpr:Int} {mt:List Nat} {W W2:World}
end
def pP (d:Pl.Dg)(x y:Int)(ov:Bool)(t:Nat):Nat:=plc d.n (un0 d x y ov) t
def pQ (d:Pl.Dg)(x y:Int)(ov:Bool)(t:Nat):Nat:=plc (d.n+1) (un1 d x y ov) t
def pk0 (d:Pl.Dg)(x y:Int)(ov:Bool):List Nat:=jn (jn (d.mt++List.replicate 8 0) (pP d x y ov 1) (pQ d x y ov 1)) (pQ d x y ov 2) (pP d x y ov 0)
def pkM (d:Pl.Dg)(x y sg:Int)(ov:Bool):List Nat :=
 if sg≠0∧x<0 then jn (jn (pk0 d x y ov) (pQ d x y ov 3) (pQ d x y ov 0)) (pP d x y ov 2) (pP d x y ov 3)
 else if sg=1 then jn (jn (jn (pk0 d x y ov) x.toNat (pP d x y ov 3)) (pQ d x y ov 3) (pQ d x y ov 0)) (pP d x y ov 2) (d.m x.toNat)
 else if sg = -1 then jn (jn (jn (pk0 d x y ov) x.toNat (pQ d x y ov 0)) (pP d x y ov 2) (pP d x y ov 3)) (pQ d x y ov 3) (d.m x.toNat)
 else leadM d (leadM d (pk0 d x y ov) y (pQ d x y ov 0) (pP d x y ov 2)) x (pP d x y ov 3) (pQ d x y ov 3)
def pkL (d:Pl.Dg)(x y sg:Int):Int:=if sg≠0∧x<0 then (d.lp:Int) - 1 else if sg=0 then (if x<0 then (if y<0 then (d.lp:Int) - 1 else d.lp) - 1 else (if y<0 then (d.lp:Int) - 1 else d.lp)) else d.lp
def pkD (d:Pl.Dg)(x y sg:Int)(ov:Bool):Pl.Dg:=⟨d.sg++[sgn2 (un0 d x y ov) (ov0 d x y ov),sgn2 (un1 d x y ov) (ov1 d x y ov)],pkM d x y sg ov,(pkL d x y sg).toNat⟩
end Go.Proofs.Ytobbepmlmbbamaa
end
section
namespace Go.Proofs.Ytobbepmlmbbamaa
open Go Go.RowKit
attribute [local go_sem ↓] Go.wp_at_zero Go.wp_at_succ
structure Ln where
 p0:Nat
 p1:Nat
 p2:Nat
 p3:Nat
 q0:Nat
 q1:Nat
 q2:Nat
 q3:Nat
def Ln.cells (l:Ln):List Value:=[.int .i64 (l.p0:Int),.int .i64 (l.p1:Int),.int .i64 (l.p2:Int),.int .i64 (l.p3:Int),.int .i64 (l.q0:Int),.int .i64 (l.q1:Int),.int .i64 (l.q2:Int),.int .i64 (l.q3:Int)]
def lensOf (d:Pl.Dg)(h:Nat):Ln:=⟨h,d.m (Pl.nx d h),Pl.tn h 2,Pl.tn (d.m (Pl.nx d h)) 2,Pl.tn (d.m h) 2,Pl.nx d h,d.m h,Pl.tn (Pl.nx d h) 2⟩
theorem lensOf_v (d:Pl.Dg)(h:Nat):lensV d h = .agg (lensOf d h).cells.toArray:=rfl
def pusX (d:Pl.Dg)(l:Ln)(x y:Nat):Int :=
 if d.m l.q3=l.q0 then (if d.m l.p2=l.p3 then lpv d l.p3 else oldv d x y l.p3)
 else if d.m l.p2=l.p3 then oldv d x y l.q0 else if d.m l.p3=l.q3 then lpv d l.p3 else oldv d x y l.p3
def pusY (d:Pl.Dg)(l:Ln)(x y:Nat):Int :=
 if d.m l.q3=l.q0 then (if d.m l.p2=l.p3 then lpv d l.p3 else oldv d x y l.p3)
 else if d.m l.p2=l.p3 then oldv d x y l.q0 else if d.m l.q0=l.p2 then lpv d l.q0 else oldv d x y l.q0
def pusS (d:Pl.Dg)(l:Ln):Int:=if d.m l.q3=l.q0 then 1 else if d.m l.p2=l.p3 then -1 else 0
def pusI (d:Pl.Dg)(l:Ln)(x y:Nat):Mv:=⟨3,pusX d l x y,pusY d l x y,pusS d l,decide (l.q1 % 2=1)⟩
structure PV (w:World) (gi:Nat) (dv lv mv iv:List Value) (W:World):Prop where
 d:Row W w.heap.size 24 dv
 l:Row W (w.heap.size+1) 93 lv
 m:Row W (w.heap.size+1+1) 28 mv
 r:∃us,Row W (w.heap.size+1+1+1) 28 us∧us.length=5
 i:Row W gi 28 iv
 bel:Below w.heap.size w W
 lo:w.heap.size+1+1+1<gi
section
variable {w W W':World} {gi:Nat} {dv lv mv iv:List Value}
theorem PV.drew (h:PV w gi dv lv mv iv W):PV w gi dv lv mv iv W.drew:=⟨h.d,h.l,h.m,h.r,h.i,h.bel.drew,h.lo⟩
theorem PV.drewN (h:PV w gi dv lv mv iv W)(n:Nat):PV w gi dv lv mv iv (W.drewN n):=⟨h.d,h.l,h.m,h.r,h.i,below_drewN h.bel n,h.lo⟩
theorem PV.below (h:PV w gi dv lv mv iv W)(hb:Below W.heap.size W W'):PV w gi dv lv mv iv W' :=
 let ⟨us,r2,l2⟩:=h.r
 ⟨h.d.below hb,h.l.below hb,h.m.below hb,⟨us,r2.below hb,l2⟩,h.i.below hb,h.bel.trans (hb.mono h.bel.size),h.lo⟩
theorem PV.set (h:PV w gi dv lv mv iv W)(o:Nat)(v:Value):PV w gi dv lv mv (iv.set o v) (W.setCell ⟨gi,o,none⟩ v) :=
 have a:=h.lo
 let ⟨us,r2,l2⟩:=h.r
 ⟨h.d.other (by show _≠gi;omega) v,h.l.other (by show _≠gi;omega) v,h.m.other (by show _≠gi;omega) v,⟨us,r2.other (by show _≠gi;omega) v,l2⟩,h.i.set o v,h.bel.setCell (by show _≤gi;omega) v,h.lo⟩
end
def PW (w:World)(gi:Nat)(dv lv mv:List Value)(a s e:Value)(W:World):Prop:=∃b c,PV w gi dv lv mv [a,b,c,s,e] W
section
variable {w W W':World} {gi:Nat} {dv lv mv:List Value} {a s e:Value}
theorem PW.drew (h:PW w gi dv lv mv a s e W):PW w gi dv lv mv a s e W.drew:=let ⟨b,c,h⟩:=h;⟨b,c,h.drew⟩
theorem PW.below (h:PW w gi dv lv mv a s e W)(hb:Below W.heap.size W W'):PW w gi dv lv mv a s e W':=let ⟨b,c,h⟩:=h;⟨b,c,h.below hb⟩
theorem PW.set1 (h:PW w gi dv lv mv a s e W)(v:Value):PW w gi dv lv mv a s e (W.setCell ⟨gi,1,none⟩ v):=let ⟨_,c,h⟩:=h;⟨v,c,h.set 1 v⟩
theorem PW.set2 (h:PW w gi dv lv mv a s e W)(v:Value):PW w gi dv lv mv a s e (W.setCell ⟨gi,2,none⟩ v):=let ⟨b,_,h⟩:=h;⟨b,v,h.set 2 v⟩
theorem PW.fin (h:PW w gi dv lv mv a s e W)(v u:Value):PV w gi dv lv mv [a,v,u,s,e] ((W.setCell ⟨gi,1,none⟩ v).setCell ⟨gi,2,none⟩ u):=let ⟨_,_,h⟩:=h;(h.set 1 v).set 2 u
theorem PW.all {l0 l1 l2 l3 l4 l5 l6 l7:Value}(h:PW w gi dv [l0,l1,l2,l3,l4,l5,l6,l7] mv a s e W):W.cell? ⟨w.heap.size+1,3,none⟩=some l3∧W.cell? ⟨w.heap.size+1,4,none⟩=some l4∧W.cell? ⟨gi,1,none⟩=some (cv W ⟨gi,1,none⟩)∧W.cell? ⟨gi,2,none⟩=some (cv W ⟨gi,2,none⟩)∧(∀o,W.frozen? ⟨gi,o,none⟩=false)∧PW w gi dv [l0,l1,l2,l3,l4,l5,l6,l7] mv a s e W:=by
 have h':=h
 obtain ⟨b,c,h⟩:=h
 obtain ⟨_,_,_,e3,e4,_⟩:=box8 h.l
 obtain ⟨_,f1,f2,_,_,ff⟩:=box5 h.i
 exact ⟨e3,e4,cv_some f1,cv_some f2,ff,h'⟩
end
theorem row5 {W:World}{g:Nat}{t:TypeId}{vs:List Value}(h:Row W g t vs)(l:vs.length=5)(y0 y1 y2 y3 y4:Value) :
 Row (((((W.setCell ⟨g,0,none⟩ y0).setCell ⟨g,1,none⟩ y1).setCell ⟨g,2,none⟩ y2).setCell ⟨g,3,none⟩ y3).setCell ⟨g,4,none⟩ y4) g t [y0,y1,y2,y3,y4]:=by
 obtain ⟨a,b,c,d,e,rfl⟩:∃a b c d e,vs=[a,b,c,d,e]:=by
  match vs,l with
  | [a,b,c,d,e],_=>exact ⟨a,b,c,d,e,rfl⟩
 exact ((((h.set 0 y0).set 1 y1).set 2 y2).set 3 y3).set 4 y4
def PusPost (d:Pl.Dg)(l:Ln)(x y:Nat)(w:World)(e:Ending)(w':World):Prop:=e = .returned (pusI d l x y).v∧Below w.heap.size w w'
set_option maxRecDepth 100000 in
set_option maxHeartbeats 4000000 in
theorem pushed_any (d:Pl.Dg)(hd:Pl.Wf d)(A B:Option Addr)(cp cq m x y:Nat)(k sg:Int)(ov:Bool)(l:Ln)(w:World)(hm:m=4 * d.n)(hg:DgAt w A B d)(hxy:x<y)
 (h2:l.p2<4 * d.n) (h3:l.p3<4 * d.n) (k0:l.q0<4 * d.n) (k3:l.q3<4 * d.n) (k1:l.q1<4 * d.n) :
 Calls Try.prog 93 #[.agg #[.slice A d.n cp,.slice B m cq,.int .i64 d.lp],.agg l.cells.toArray,.agg #[.int .i64 k,.int .i64 (x:Int),.int .i64 (y:Int),.int .i64 sg,.bool ov]] w (PusPost d l x y w):=by
 obtain ⟨p0,p1,p2,p3,q0,q1,q2,q3⟩:=l
 simp only at h2 h3 k0 k3 k1
 have hn:=hd.few
 have HM:=hide hm
 have HG:=hide hg
 have hm2:m≤256:=by omega
 obtain ⟨g0,hg0⟩:∃g0,g0=w.heap.size+1+1+1+1:=⟨_,rfl⟩
 have V0:=hide (show PV w g0 [.slice A d.n cp,.slice B m cq,.int .i64 (d.lp:Int)] [.int .i64 (p0:Int),.int .i64 (p1:Int),.int .i64 (p2:Int),.int .i64 (p3:Int),.int .i64 (q0:Int),.int .i64 (q1:Int),.int .i64 (q2:Int),.int .i64 (q3:Int)] [.int .i64 k,.int .i64 (x:Int),.int .i64 (y:Int),.int .i64 sg,.bool ov] [.int .i64 3,.int .i64 0,.int .i64 0,.int .i64 0,.bool ((q1:Int) % 2 == 1)]
  (((((w.alloc (.cells #[.slice A d.n cp,.slice B m cq,.int .i64 (d.lp:Int)] 24)).alloc (.cells #[.int .i64 (p0:Int),.int .i64 (p1:Int),.int .i64 (p2:Int),.int .i64 (p3:Int),.int .i64 (q0:Int),.int .i64 (q1:Int),.int .i64 (q2:Int),.int .i64 (q3:Int)] 93)).alloc (.cells #[.int .i64 k,.int .i64 (x:Int),.int .i64 (y:Int),.int .i64 sg,.bool ov] 28)).alloc (.cells #[.int .i64 0,.int .i64 0,.int .i64 0,.int .i64 0,.bool false] 28)).alloc (.cells #[.int .i64 3,.int .i64 0,.int .i64 0,.int .i64 0,.bool ((q1:Int) % 2 == 1)] 28)) by
  refine ⟨((((row_at (vs:=[_,_,_]) rfl).alloc _).alloc _).alloc _).alloc _,(((row_at (vs:=[_,_,_,_,_,_,_,_]) (by simp)).alloc _).alloc _).alloc _,((row_at (vs:=[_,_,_,_,_]) (by simp)).alloc _).alloc _,⟨[_,_,_,_,_],(row_at (vs:=[_,_,_,_,_]) (by simp)).alloc _,rfl⟩,row_at (vs:=[_,_,_,_,_]) (by rw [hg0];simp),?_,by omega⟩
  exact (((((Below.refl _ _).alloc (Nat.le_refl _) _).alloc (by simp) _).alloc (by simp;omega) _).alloc (by simp;omega) _).alloc (by simp;omega) _)
 clear hm hg
 unfold Ln.cells
 go_enter Try.func93,Try.ntmps93
 go_wp2_with fail
 rw [←hg0]
 clear hg0
 obtain ⟨bb,hbb⟩:∃bb:Bool,bb=((q1:Int) % 2 == 1):=⟨_,rfl⟩
 rw [←hbb] at V0 ⊢
 have HBB:=hide (show bb=decide (q1 % 2=1) by rw [hbb,Bool.eq_iff_iff];simp;omega)
 clear hbb
 obtain ⟨mb,mo,rfl,_⟩:=mate_at (HG.out).m k3
 obtain ⟨W0,hW0⟩:∃W0:World,W0=(((((w.alloc (.cells #[.slice A d.n cp,.slice (some ⟨mb,mo,none⟩) m cq,.int .i64 (d.lp:Int)] 24)).alloc (.cells #[.int .i64 (p0:Int),.int .i64 (p1:Int),.int .i64 (p2:Int),.int .i64 (p3:Int),.int .i64 (q0:Int),.int .i64 (q1:Int),.int .i64 (q2:Int),.int .i64 (q3:Int)] 93)).alloc (.cells #[.int .i64 k,.int .i64 (x:Int),.int .i64 (y:Int),.int .i64 sg,.bool ov] 28)).alloc (.cells #[.int .i64 0,.int .i64 0,.int .i64 0,.int .i64 0,.bool false] 28)).alloc (.cells #[.int .i64 3,.int .i64 0,.int .i64 0,.int .i64 0,.bool bb] 28)):=⟨_,rfl⟩
 rw [←hW0] at V0 ⊢
 clear hW0
 have c3:∀W,Below w.heap.size w W→W.cell? ⟨mb,mo+q3,none⟩=some (.int .i64 (d.m q3:Nat)):=fun W hb=>by
  obtain ⟨b',o',e,c⟩:=mate_at (HG.out.keep hb).m k3
  injection e with e;injection e with e1 e2;subst e1;subst e2;exact c
 have c2:∀W,Below w.heap.size w W→W.cell? ⟨mb,mo+p2,none⟩=some (.int .i64 (d.m p2:Nat)):=fun W hb=>by
  obtain ⟨b',o',e,c⟩:=mate_at (HG.out.keep hb).m h2
  injection e with e;injection e with e1 e2;subst e1;subst e2;exact c
 have c5:∀W,Below w.heap.size w W→W.cell? ⟨mb,mo+p3,none⟩=some (.int .i64 (d.m p3:Nat)):=fun W hb=>by
  obtain ⟨b',o',e,c⟩:=mate_at (HG.out.keep hb).m h3
  injection e with e;injection e with e1 e2;subst e1;subst e2;exact c
 have c0:∀W,Below w.heap.size w W→W.cell? ⟨mb,mo+q0,none⟩=some (.int .i64 (d.m q0:Nat)):=fun W hb=>by
  obtain ⟨b',o',e,c⟩:=mate_at (HG.out.keep hb).m k0
  injection e with e;injection e with e1 e2;subst e1;subst e2;exact c
 have EX:=hide (show pusI d ⟨p0,p1,p2,p3,q0,q1,q2,q3⟩ x y=⟨3,(if d.m q3=q0 then (if d.m p2=p3 then lpv d p3 else oldv d x y p3) else if d.m p2=p3 then oldv d x y q0 else if d.m p3=q3 then lpv d p3 else oldv d x y p3),
  (if d.m q3=q0 then (if d.m p2=p3 then lpv d p3 else oldv d x y p3) else if d.m p2=p3 then oldv d x y q0 else if d.m q0=p2 then lpv d q0 else oldv d x y q0),(if d.m q3=q0 then 1 else if d.m p2=p3 then -1 else 0),bb⟩ by rw [HBB.out];rfl)
 obtain ⟨a3,ha3⟩:∃a,a=d.m q3:=⟨_,rfl⟩
 obtain ⟨a2,ha2⟩:∃a,a=d.m p2:=⟨_,rfl⟩
 obtain ⟨a5,ha5⟩:∃a,a=d.m p3:=⟨_,rfl⟩
 obtain ⟨a0,ha0⟩:∃a,a=d.m q0:=⟨_,rfl⟩
 rw [←ha3] at c3 EX
 rw [←ha2] at c2 EX
 rw [←ha5] at c5 EX
 rw [←ha0] at c0 EX
 clear ha3 ha2 ha5 ha0
 have C3:=hide c3
 have C2:=hide c2
 have C5:=hide c5
 have C0:=hide c0
 clear c3 c2 c5 c0
 obtain ⟨XX,hXX⟩:∃X,X=(if a3=q0 then (if a2=p3 then lpv d p3 else oldv d x y p3) else if a2=p3 then oldv d x y q0 else if a5=q3 then lpv d p3 else oldv d x y p3):=⟨_,rfl⟩
 obtain ⟨YY,hYY⟩:∃Y,Y=(if a3=q0 then (if a2=p3 then lpv d p3 else oldv d x y p3) else if a2=p3 then oldv d x y q0 else if a0=p2 then lpv d q0 else oldv d x y q0):=⟨_,rfl⟩
 obtain ⟨SS,hSS⟩:∃S:Int,S=(if a3=q0 then 1 else if a2=p3 then -1 else 0):=⟨_,rfl⟩
 rw [←hXX,←hYY,←hSS] at EX
 have HXX:=hide hXX
 have HYY:=hide hYY
 have HSS:=hide hSS
 clear hXX hYY hSS
 have i3:(0:Int)≤(p3:Int)∧(p3:Int)<(m:Int):=by have:=HM.out;omega
 have i2:(0:Int)≤(p2:Int)∧(p2:Int)<(m:Int):=by have:=HM.out;omega
 have j0:(0:Int)≤(q0:Int)∧(q0:Int)<(m:Int):=by have:=HM.out;omega
 have j3:(0:Int)≤(q3:Int)∧(q3:Int)<(m:Int):=by have:=HM.out;omega
 obtain ⟨i31,i32⟩:=i3
 obtain ⟨i21,i22⟩:=i2
 obtain ⟨j01,j02⟩:=j0
 obtain ⟨j31,j32⟩:=j3
 obtain ⟨d0,d1,d2,d3⟩:=box3 V0.out.d
 obtain ⟨l0,l1,l2,l3,l4,l5,l6,l7,l8⟩:=box8 V0.out.l
 have c3:=C3.out W0 V0.out.bel
 have c2:=C2.out W0 V0.out.bel
 go_quiet (fail)
 have V1:=hide (V0.out.drewN nq)
 obtain ⟨W1,hW1⟩:∃W1:World,W1=W0.drewN nq:=⟨_,rfl⟩
 rw [←hW1] at V1 ⊢
 clear hW1 d0 d1 d2 d3 l0 l1 l2 l3 l4 l5 l6 l7 l8 c3 c2
 obtain ⟨d0,d1,d2,d3⟩:=box3 V1.out.d
 obtain ⟨l0,l1,l2,l3,l4,l5,l6,l7,l8⟩:=box8 V1.out.l
 have c3:=C3.out W1 V1.out.bel
 have c2:=C2.out W1 V1.out.bel
 go_wp2_with fail
 go_quiet (fail)
 have V2:=hide (V1.out.drewN nq)
 obtain ⟨W2,hW2⟩:∃W2:World,W2=W1.drewN nq:=⟨_,rfl⟩
 rw [←hW2] at V2 ⊢
 clear hW2 d0 d1 d2 d3 l0 l1 l2 l3 l4 l5 l6 l7 l8 c3 c2
 go_upto_block 0 with fail
 go_cut [10,11] (fun _ _ wx=>PV w g0 [.slice A d.n cp,.slice (some ⟨mb,mo,none⟩) m cq,.int .i64 (d.lp:Int)] [.int .i64 (p0:Int),.int .i64 (p1:Int),.int .i64 (p2:Int),.int .i64 (p3:Int),.int .i64 (q0:Int),.int .i64 (q1:Int),.int .i64 (q2:Int),.int .i64 (q3:Int)] [.int .i64 k,.int .i64 (x:Int),.int .i64 (y:Int),.int .i64 sg,.bool ov] [.int .i64 3,.int .i64 XX,.int .i64 YY,.int .i64 SS,.bool bb] wx)
 case first =>
  by_cases e1:a3=q0
  ·have t1:((a3:Int) == (q0:Int))=true:=by rw [beq_iff_eq];omega
   by_cases e2:a2=p3
   ·have t2:((a2:Int) == (p3:Int))=true:=by rw [beq_iff_eq];omega
    have F:=hide (show XX=lpv d p3∧YY=lpv d p3∧SS=1 from ⟨by rw [HXX.out,if_pos e1,if_pos e2],by rw [HYY.out,if_pos e1,if_pos e2],by rw [HSS.out,if_pos e1]⟩)
    clear e1 e2
    obtain ⟨l0,l1,l2,l3,l4,l5,l6,l7,l8⟩:=box8 V2.out.l
    go_wp2_with fail
    refine (loopF_any d hd A (some ⟨mb,mo,none⟩) cp cq m w.heap.size p3 W2 V2.out.d (HG.out.keep V2.out.bel) h3).mono ?_
    rintro e W3 ⟨rfl,hb3⟩
    have V3:=hide (V2.out.below hb3)
    clear hb3 l0 l1 l2 l3 l4 l5 l6 l7 l8
    obtain ⟨v0,v1,v2,v3,v4,v5⟩:=box5 V3.out.i
    go_wp2_with fail
    go_meet
    rw [F.out.1,F.out.2.1,F.out.2.2]
    exact ((V3.out.set 1 _).set 3 _).set 2 _
   ·have t2:((a2:Int) == (p3:Int))=false:=by rw [beq_eq_false_iff_ne];omega
    have F:=hide (show XX=oldv d x y p3∧YY=oldv d x y p3∧SS=1 from ⟨by rw [HXX.out,if_pos e1,if_neg e2],by rw [HYY.out,if_pos e1,if_neg e2],by rw [HSS.out,if_pos e1]⟩)
    clear e1 e2
    obtain ⟨l0,l1,l2,l3,l4,l5,l6,l7,l8⟩:=box8 V2.out.l
    go_wp2_with fail
    refine (oldF_any d hd A (some ⟨mb,mo,none⟩) cp cq m w.heap.size (w.heap.size+1+1) x y p3 k sg ov W2 HM.out V2.out.d V2.out.m (HG.out.keep V2.out.bel) h3 hxy).mono ?_
    rintro e W3 ⟨rfl,hb3⟩
    have V3:=hide (V2.out.below hb3)
    clear hb3 l0 l1 l2 l3 l4 l5 l6 l7 l8
    obtain ⟨v0,v1,v2,v3,v4,v5⟩:=box5 V3.out.i
    go_wp2_with fail
    go_meet
    rw [F.out.1,F.out.2.1,F.out.2.2]
    exact ((V3.out.set 1 _).set 3 _).set 2 _
  ·have t1:((a3:Int) == (q0:Int))=false:=by rw [beq_eq_false_iff_ne];omega
   by_cases e2:a2=p3
   ·have t2:((a2:Int) == (p3:Int))=true:=by rw [beq_iff_eq];omega
    have F:=hide (show XX=oldv d x y q0∧YY=oldv d x y q0∧SS = -1 from ⟨by rw [HXX.out,if_neg e1,if_pos e2],by rw [HYY.out,if_neg e1,if_pos e2],by rw [HSS.out,if_neg e1,if_pos e2]⟩)
    clear e1 e2
    obtain ⟨l0,l1,l2,l3,l4,l5,l6,l7,l8⟩:=box8 V2.out.l
    go_wp2_with fail
    refine (oldF_any d hd A (some ⟨mb,mo,none⟩) cp cq m w.heap.size (w.heap.size+1+1) x y q0 k sg ov W2 HM.out V2.out.d V2.out.m (HG.out.keep V2.out.bel) k0 hxy).mono ?_
    rintro e W3 ⟨rfl,hb3⟩
    have V3:=hide (V2.out.below hb3)
    clear hb3 l0 l1 l2 l3 l4 l5 l6 l7 l8
    obtain ⟨v0,v1,v2,v3,v4,v5⟩:=box5 V3.out.i
    go_wp2_with fail
    go_meet
    rw [F.out.1,F.out.2.1,F.out.2.2]
    exact ((V3.out.set 1 _).set 3 _).set 2 _
   ·have t2:((a2:Int) == (p3:Int))=false:=by rw [beq_eq_false_iff_ne];omega
    have F:=hide (show XX=(if a5=q3 then lpv d p3 else oldv d x y p3)∧YY=(if a0=p2 then lpv d q0 else oldv d x y q0)∧SS=0 from ⟨by rw [HXX.out,if_neg e1,if_neg e2],by rw [HYY.out,if_neg e1,if_neg e2],by rw [HSS.out,if_neg e1,if_neg e2]⟩)
    clear e1 e2
    go_upto_region 6 with fail
    go_cut [] (fun wx=>PV w g0 [.slice A d.n cp,.slice (some ⟨mb,mo,none⟩) m cq,.int .i64 (d.lp:Int)] [.int .i64 (p0:Int),.int .i64 (p1:Int),.int .i64 (p2:Int),.int .i64 (p3:Int),.int .i64 (q0:Int),.int .i64 (q1:Int),.int .i64 (q2:Int),.int .i64 (q3:Int)] [.int .i64 k,.int .i64 (x:Int),.int .i64 (y:Int),.int .i64 sg,.bool ov] [.int .i64 3,.int .i64 (oldv d x y p3),.int .i64 (oldv d x y q0),.int .i64 0,.bool bb] wx)
    case first =>
     have HPW:=hide (show PW w g0 [.slice A d.n cp,.slice (some ⟨mb,mo,none⟩) m cq,.int .i64 (d.lp:Int)] [.int .i64 (p0:Int),.int .i64 (p1:Int),.int .i64 (p2:Int),.int .i64 (p3:Int),.int .i64 (q0:Int),.int .i64 (q1:Int),.int .i64 (q2:Int),.int .i64 (q3:Int)] [.int .i64 k,.int .i64 (x:Int),.int .i64 (y:Int),.int .i64 sg,.bool ov] (.int .i64 3) (.int .i64 0) (.bool bb) W2 from ⟨_,_,V2.out⟩)
     go_region_held3 (fun w'=>w'.cell? ⟨w.heap.size+1,3,none⟩=some (.int .i64 (p3:Int))∧w'.cell? ⟨w.heap.size+1,4,none⟩=some (.int .i64 (q0:Int))∧w'.cell? ⟨g0,1,none⟩=some (cv w' ⟨g0,1,none⟩)∧w'.cell? ⟨g0,2,none⟩=some (cv w' ⟨g0,2,none⟩)∧(∀o,w'.frozen? ⟨g0,o,none⟩=false)∧PW w g0 [.slice A d.n cp,.slice (some ⟨mb,mo,none⟩) m cq,.int .i64 (d.lp:Int)] [.int .i64 (p0:Int),.int .i64 (p1:Int),.int .i64 (p2:Int),.int .i64 (p3:Int),.int .i64 (q0:Int),.int .i64 (q1:Int),.int .i64 (q2:Int),.int .i64 (q3:Int)] [.int .i64 k,.int .i64 (x:Int),.int .i64 (y:Int),.int .i64 sg,.bool ov] (.int .i64 3) (.int .i64 0) (.bool bb) w')
      ((go_split_ands;refine PW.all ?_;(repeat (first | (with_reducible assumption) | (with_reducible exact HPW.out) | (with_reducible refine PW.set1 ?_ _) | (with_reducible refine PW.set2 ?_ _) | (with_reducible refine PW.drew ?_) | (with_reducible refine PW.below ?_ hb5) | (with_reducible refine PW.below ?_ hb4)))))
      (first
        | (have hx5 := hb4
           clear hx5
           go_at_call 128
           refine Calls.mono (oldF_any d hd A (some ⟨mb,mo,none⟩) cp cq m w.heap.size (w.heap.size+1+1) x y q0 k sg ov _ HM.out ?_ ?_ ?_ k0 hxy) ?_
           ·exact (V2.out.drew.below hb4).d
           ·exact (V2.out.drew.below hb4).m
           ·exact HG.out.keep (V2.out.drew.below hb4).bel
           rintro e w5 ⟨rfl,hb5⟩)
        | (go_at_call 128
           refine Calls.mono (oldF_any d hd A (some ⟨mb,mo,none⟩) cp cq m w.heap.size (w.heap.size+1+1) x y p3 k sg ov _ HM.out ?_ ?_ ?_ h3 hxy) ?_
           ·exact V2.out.drew.d
           ·exact V2.out.drew.m
           ·exact HG.out.keep V2.out.drew.bel
           rintro e w4 ⟨rfl,hb4⟩))
     all_goals
      have HP5:=hide (show PW w g0 [.slice A d.n cp,.slice (some ⟨mb,mo,none⟩) m cq,.int .i64 (d.lp:Int)] [.int .i64 (p0:Int),.int .i64 (p1:Int),.int .i64 (p2:Int),.int .i64 (p3:Int),.int .i64 (q0:Int),.int .i64 (q1:Int),.int .i64 (q2:Int),.int .i64 (q3:Int)] [.int .i64 k,.int .i64 (x:Int),.int .i64 (y:Int),.int .i64 sg,.bool ov] (.int .i64 3) (.int .i64 0) (.bool bb) w5 from (HPW.out.drew.below hb4).below hb5)
      go_wp2_with fail
      go_meet
      exact HP5.out.fin _ _
    case rest =>
     have VC:=hide hcut
     clear hcut V0 V1 V2
     obtain ⟨W3,hW⟩:∃W:World,W=wc:=⟨_,rfl⟩
     rw [←hW] at VC ⊢
     clear hW
     have V3:=VC
     clear VC
     obtain ⟨d0,d1,d2,d3⟩:=box3 V3.out.d
     obtain ⟨l0,l1,l2,l3,l4,l5,l6,l7,l8⟩:=box8 V3.out.l
     have c5:=C5.out W3 V3.out.bel
     go_upto_region 7 with fail
     go_quiet (fail)
     have V4:=hide (V3.out.drewN nq)
     obtain ⟨W4,hW⟩:∃W:World,W=W3.drewN nq:=⟨_,rfl⟩
     rw [←hW] at V4 ⊢
     clear hW d0 d1 d2 d3 l0 l1 l2 l3 l4 l5 l6 l7 l8 c5
     by_cases e5:a5=q3
     ·have t5:((a5:Int) == (q3:Int))=true:=by rw [beq_iff_eq];omega
      have G5:=hide (show (if a5=q3 then lpv d p3 else oldv d x y p3)=lpv d p3 from if_pos e5)
      clear e5
      obtain ⟨l0,l1,l2,l3,l4,l5,l6,l7,l8⟩:=box8 V4.out.l
      go_wp2_with fail
      refine (loopF_any d hd A (some ⟨mb,mo,none⟩) cp cq m w.heap.size p3 W4 V4.out.d (HG.out.keep V4.out.bel) h3).mono ?_
      rintro e W5 ⟨rfl,hb5⟩
      have V5:=hide (V4.out.below hb5)
      clear hb5 l0 l1 l2 l3 l4 l5 l6 l7 l8
      obtain ⟨v0,v1,v2,v3,v4,v5⟩:=box5 V5.out.i
      go_upto_region 9 with fail
      obtain ⟨W6,hW⟩:∃W:World,W=W5.setCell ⟨g0,1,none⟩ (.int .i64 (lpv d p3)):=⟨_,rfl⟩
      have V6:=hide (V5.out.set 1 (.int .i64 (lpv d p3)))
      rw [←hW] at V6 ⊢
      clear hW v0 v1 v2 v3 v4 v5
      obtain ⟨d0,d1,d2,d3⟩:=box3 V6.out.d
      obtain ⟨l0,l1,l2,l3,l4,l5,l6,l7,l8⟩:=box8 V6.out.l
      have c0:=C0.out W6 V6.out.bel
      go_upto_region 9 with fail
      go_quiet (fail)
      have V7:=hide (V6.out.drewN nq)
      obtain ⟨W7,hW⟩:∃W:World,W=W6.drewN nq:=⟨_,rfl⟩
      rw [←hW] at V7 ⊢
      clear hW d0 d1 d2 d3 l0 l1 l2 l3 l4 l5 l6 l7 l8 c0
      by_cases e0:a0=p2
      ·have t0:((a0:Int) == (p2:Int))=true:=by rw [beq_iff_eq];omega
       have G0:=hide (show (if a0=p2 then lpv d q0 else oldv d x y q0)=lpv d q0 from if_pos e0)
       clear e0
       obtain ⟨l0,l1,l2,l3,l4,l5,l6,l7,l8⟩:=box8 V7.out.l
       go_wp2_with fail
       refine (loopF_any d hd A (some ⟨mb,mo,none⟩) cp cq m w.heap.size q0 W7 V7.out.d (HG.out.keep V7.out.bel) k0).mono ?_
       rintro e W8 ⟨rfl,hb8⟩
       have V8:=hide (V7.out.below hb8)
       clear hb8 l0 l1 l2 l3 l4 l5 l6 l7 l8
       obtain ⟨v0,v1,v2,v3,v4,v5⟩:=box5 V8.out.i
       go_wp2_with fail
       go_meet
       rw [F.out.1,F.out.2.1,F.out.2.2,G5.out,G0.out]
       exact V8.out.set 2 _
      ·have t0:((a0:Int) == (p2:Int))=false:=by rw [beq_eq_false_iff_ne];omega
       have G0:=hide (show (if a0=p2 then lpv d q0 else oldv d x y q0)=oldv d x y q0 from if_neg e0)
       clear e0
       go_wp2_with fail
       go_meet
       rw [F.out.1,F.out.2.1,F.out.2.2,G5.out,G0.out]
       exact V7.out
     ·have t5:((a5:Int) == (q3:Int))=false:=by rw [beq_eq_false_iff_ne];omega
      have G5:=hide (show (if a5=q3 then lpv d p3 else oldv d x y p3)=oldv d x y p3 from if_neg e5)
      clear e5
      obtain ⟨d0,d1,d2,d3⟩:=box3 V4.out.d
      obtain ⟨l0,l1,l2,l3,l4,l5,l6,l7,l8⟩:=box8 V4.out.l
      have c0:=C0.out W4 V4.out.bel
      go_upto_region 9 with fail
      go_quiet (fail)
      have V5:=hide (V4.out.drewN nq)
      obtain ⟨W5,hW⟩:∃W:World,W=W4.drewN nq:=⟨_,rfl⟩
      rw [←hW] at V5 ⊢
      clear hW d0 d1 d2 d3 l0 l1 l2 l3 l4 l5 l6 l7 l8 c0
      by_cases e0:a0=p2
      ·have t0:((a0:Int) == (p2:Int))=true:=by rw [beq_iff_eq];omega
       have G0:=hide (show (if a0=p2 then lpv d q0 else oldv d x y q0)=lpv d q0 from if_pos e0)
       clear e0
       obtain ⟨l0,l1,l2,l3,l4,l5,l6,l7,l8⟩:=box8 V5.out.l
       go_wp2_with fail
       refine (loopF_any d hd A (some ⟨mb,mo,none⟩) cp cq m w.heap.size q0 W5 V5.out.d (HG.out.keep V5.out.bel) k0).mono ?_
       rintro e W6 ⟨rfl,hb6⟩
       have V6:=hide (V5.out.below hb6)
       clear hb6 l0 l1 l2 l3 l4 l5 l6 l7 l8
       obtain ⟨v0,v1,v2,v3,v4,v5⟩:=box5 V6.out.i
       go_wp2_with fail
       go_meet
       rw [F.out.1,F.out.2.1,F.out.2.2,G5.out,G0.out]
       exact V6.out.set 2 _
      ·have t0:((a0:Int) == (p2:Int))=false:=by rw [beq_eq_false_iff_ne];omega
       have G0:=hide (show (if a0=p2 then lpv d q0 else oldv d x y q0)=oldv d x y q0 from if_neg e0)
       clear e0
       go_wp2_with fail
       go_meet
       rw [F.out.1,F.out.2.1,F.out.2.2,G5.out,G0.out]
       exact V5.out
 case rest =>
  have V3:=hide hcut
  clear hcut V0 V1 V2
  obtain ⟨v0,v1,v2,v3,v4,v5⟩:=box5 V3.out.i
  obtain ⟨us,r2,l2⟩:=V3.out.r
  obtain ⟨b0,b1,b2,b3,b4,b5⟩:wc.cell? ⟨w.heap.size+1+1+1,0,none⟩=some (cv wc ⟨w.heap.size+1+1+1,0,none⟩)∧wc.cell? ⟨w.heap.size+1+1+1,1,none⟩=some (cv wc ⟨w.heap.size+1+1+1,1,none⟩)∧wc.cell? ⟨w.heap.size+1+1+1,2,none⟩=some (cv wc ⟨w.heap.size+1+1+1,2,none⟩)∧wc.cell? ⟨w.heap.size+1+1+1,3,none⟩=some (cv wc ⟨w.heap.size+1+1+1,3,none⟩)∧wc.cell? ⟨w.heap.size+1+1+1,4,none⟩=some (cv wc ⟨w.heap.size+1+1+1,4,none⟩)∧(∀o,wc.frozen? ⟨w.heap.size+1+1+1,o,none⟩=false):=⟨cv_some (r2.cell (i:=0) (by omega)),cv_some (r2.cell (i:=1) (by omega)),cv_some (r2.cell (i:=2) (by omega)),cv_some (r2.cell (i:=3) (by omega)),cv_some (r2.cell (i:=4) (by omega)),r2.free⟩
  go_wp2
  refine bodyPost_ret (v := .agg #[.int .i64 3,.int .i64 XX,.int .i64 YY,.int .i64 SS,.bool bb]) ?_ rfl ?_
  ·obtain ⟨f0,f1,f2,f3,f4,_⟩:=box5 (row5 r2 l2 (.int .i64 3) (.int .i64 XX) (.int .i64 YY) (.int .i64 SS) (.bool bb))
   clear b0 b1 b2 b3 b4 b5 v0 v1 v2 v3 v4 v5
   simp [results,Try.results93,go_sem,f0,f1,f2,f3,f4]
  ·refine ⟨?_,((((V3.out.bel.setCell (by show _≤w.heap.size+1+1+1;omega) _).setCell (by show _≤w.heap.size+1+1+1;omega) _).setCell (by show _≤w.heap.size+1+1+1;omega) _).setCell (by show _≤w.heap.size+1+1+1;omega) _).setCell (by show _≤w.heap.size+1+1+1;omega) _⟩
   rw [EX.out]
   rfl
end Go.Proofs.Ytobbepmlmbbamaa
end
section
namespace Go.Proofs.Ytobbepmlmbbamaa
open Go Go.RowKit
theorem OwnN.drew {w:World}{base g n cap:Nat}{l:List Nat}(h:OwnN w base g n cap l):OwnN w.drew base g n cap l:=h
theorem grownBy_alloc (w:World)(o:Obj)(r:Option Nat):w.grownBy (w.alloc o) r :=
 ⟨rfl,rfl,rfl,by simp,fun k hk _=>Below.heap_alloc w o k hk⟩
theorem grownBy_drew {w w':World}{r:Option Nat}(h:w.grownBy w' r):w.grownBy w'.drew r:=⟨h.os,h.tape,h.output,h.size,h.block⟩
theorem jn_comm (l:List Nat)(a b:Nat):(l.set b a).set a b=jn l a b:=by
 unfold jn
 by_cases e:a=b
 ·subst e;rfl
 ·exact List.set_comm _ _ (fun e2=>e e2.symm)
set_option maxHeartbeats 1000000 in
theorem rjoin_any (base g n cap a b na ca:Nat)(A:Option Addr)(lp:Value)(l:List Nat)(w:World)(h:OwnN w base g n cap l)(ha:a<n)(hb:b<n)(hn:n≤100000) :
 Calls Try.prog 97 #[.agg #[.slice A na ca,.slice (some ⟨g,0,none⟩) n cap,lp],.int .i64 (a:Int),.int .i64 (b:Int)] w fun e w'=>e = .returned (.tuple #[])∧OwnN w' base g n cap (jn l a b)∧w.grownBy w' (some g):=by
 have hgl:g<w.heap.size:=by
  have:=World.ownsRow.lt h g rfl
  exact this.2
 obtain ⟨h2,g2⟩:=h.set a b
 obtain ⟨h3,g3⟩:=h2.set b a
 obtain ⟨h4,g4⟩:=h.set b a
 obtain ⟨h5,g5⟩:=h4.set a b
 have H3:=hide (OwnN.alloc h3 (.cells #[.slice A na ca,.slice (some ⟨g,0,none⟩) n cap,lp] 24))
 have H5:=hide (show OwnN _ base g n cap (jn l a b) by rw [jn_comm] at h5;exact OwnN.alloc h5 (.cells #[.slice A na ca,.slice (some ⟨g,0,none⟩) n cap,lp] 24))
 have G3:=hide (grownBy_trans (grownBy_trans g2 g3) (grownBy_alloc _ (.cells #[.slice A na ca,.slice (some ⟨g,0,none⟩) n cap,lp] 24) (some g)))
 have G5:=hide (grownBy_trans (grownBy_trans g4 g5) (grownBy_alloc _ (.cells #[.slice A na ca,.slice (some ⟨g,0,none⟩) n cap,lp] 24) (some g)))
 have c1:=h.cell ha
 have f1:=h.free a
 have c2:=h2.cell hb
 have c3:=h.cell hb
 have f3:=h.free b
 have c4:=h4.cell ha
 have hne:w.heap.size≠g:=by omega
 clear h h2 h3 h4 h5 g2 g3 g4 g5
 go_enter Try.func97,Try.ntmps97
 go_upto_region 1 with fail
 go_region
 all_goals
  go_wp2
  go_end0
  first
   | exact ⟨rfl,H3.out.drew,grownBy_drew G3.out⟩
   | exact ⟨rfl,H5.out.drew,grownBy_drew G5.out⟩
def sh1 (h:Int)(c:Nat):Int:=if 0≤h∧(c:Int)<h / 4 then h - 4 else h
theorem rshift_any (h:Int)(c:Nat)(w:World)(hh:-1000000≤h∧h≤1000000) :
 Calls Try.prog 99 #[.int .i64 h,.int .i64 (c:Int)] w fun e w'=>e = .returned (.int .i64 (sh1 h c))∧w'=w:=by
 by_cases h0:0≤h
 ·obtain ⟨k,rfl⟩:=Int.eq_ofNat_of_zero_le h0
  by_cases h1:c<k / 4
  ·have E:=hide (show sh1 (k:Int) c=(k:Int) - 4 by unfold sh1;rw [if_pos (by omega)])
   have t1:decide ((0:Int)≤(k:Int))=true:=by simp
   have t2:decide ((c:Int)<(k:Int) / 4)=true:=by simp;omega
   go_enter Try.func99,Try.ntmps99
   go_wp2
   go_ret
   exact ⟨by rw [E.out];rfl,rfl⟩
  ·have E:=hide (show sh1 (k:Int) c=(k:Int) by unfold sh1;rw [if_neg (by omega)])
   have t1:decide ((0:Int)≤(k:Int))=true:=by simp
   have t2:decide ((c:Int)<(k:Int) / 4)=false:=by simp;omega
   go_enter Try.func99,Try.ntmps99
   go_wp2
   go_ret
   exact ⟨by rw [E.out];rfl,rfl⟩
 ·have E:=hide (show sh1 h c=h by unfold sh1;rw [if_neg (by omega)])
  have t1:decide ((0:Int)≤h)=false:=by simpa using h0
  clear h0
  go_enter Try.func99,Try.ntmps99
  go_wp2
  go_ret
  exact ⟨by rw [E.out];rfl,rfl⟩
end Go.Proofs.Ytobbepmlmbbamaa
end
