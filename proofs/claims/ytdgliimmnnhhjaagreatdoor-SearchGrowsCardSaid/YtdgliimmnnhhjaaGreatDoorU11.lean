/-
  The texts Wh, Wj, Wp.
-/
import Derived.Test.YtdgliimmnnhhjaaGreatDoorU09
set_option linter.unusedVariables false
set_option linter.unusedSimpArgs false
section
namespace Go.Proofs.YtdgliimmnnhhjaaGreatDoor
open Go.RowKit
def ClosedPost (l:List Nat)(base g n cap a b:Nat)(w:World)(e:Ending)(w':World):Prop :=
 e = .returned (.int .i64 (if l.getD a 0=b then 1 else 0))∧OwnN w' base g n cap (if l.getD a 0=b then l else jn l (l.getD a 0) (l.getD b 0))∧w.grownBy w' (some g)
theorem grown_refl (w:World)(r:Option Nat):w.grownBy w r:=⟨rfl,rfl,rfl,Nat.le_refl _,fun _ _ _=>rfl⟩
theorem grown_drew {w W w':World}{r:Option Nat}(e:W=w.drew)(h:W.grownBy w' r):w.grownBy w' r:=by subst e;exact ⟨h.os,h.tape,h.output,h.size,h.block⟩
set_option maxRecDepth 100000 in
set_option maxHeartbeats 1000000 in
theorem closed_any (base g n cap a b:Nat)(l:List Nat)(w:World)(h:OwnN w base g n cap l)(ha:a<n)(hb:b<n)(hn:n≤100000)(hl:∀k,k<n→l.getD k 0<n) :
 Calls Tryz.prog 73 #[.slice (some ⟨g,0,none⟩) n cap,.int .i64 (a:Int),.int .i64 (b:Int)] w (ClosedPost l base g n cap a b w):=by
 have c1:=h.cell ha
 have c2:=h.cell hb
 have la:=hl a ha
 have lb:=hl b hb
 obtain ⟨x,hx⟩:∃x,x=l.getD a 0:=⟨_,rfl⟩
 obtain ⟨y,hy⟩:∃y,y=l.getD b 0:=⟨_,rfl⟩
 rw [←hx] at c1 la
 rw [←hy] at c2 lb
 have HH:=hide h
 have HX:=hide hx
 have HY:=hide hy
 clear h hx hy
 go_enter Tryz.func73,Tryz.ntmps73
 by_cases hxb:x=b
 ·subst hxb
  go_wp2
  go_ret
  refine ⟨ret_int ?_,?_,grown_refl _ _⟩
  ·rw [if_pos HX.out.symm]
  ·rw [if_pos HX.out.symm];exact HH.out
 ·have t1:((x:Int) == (b:Int))=false:=by rw [beq_eq_false_iff_ne];omega
  have i1:(a:Int)<(n:Int):=by omega
  have i2:(b:Int)<(n:Int):=by omega
  have i3:(0:Int)≤(a:Int):=by omega
  have i4:(0:Int)≤(b:Int):=by omega
  go_wp2_with fail
  go_still_tail 9,(by kernel_rfl)
  change wpList _ _ _ _ _ w.drew
  obtain ⟨W6,hW6⟩:∃W6:World,W6=w.drew:=⟨_,rfl⟩
  rw [←hW6]
  have O6:=hide (OwnN.drew' hW6 HH.out)
  have HW:=hide hW6
  clear hW6 c1 c2
  go_wp2_with fail
  refine (join_any base g n cap x y l W6 O6.out la lb hn).mono ?_
  rintro e w5 ⟨rfl,own5,gr5⟩
  have OWN5:=hide own5
  have GR5:=hide gr5
  clear own5 gr5
  go_wp2_with fail
  go_ret
  have hne:¬l.getD a 0=b:=by rw [←HX.out];exact hxb
  refine ⟨ret_int ?_,?_,grown_drew HW.out GR5.out⟩
  ·rw [if_neg hne]
  ·rw [if_neg hne,←HX.out,←HY.out];exact OWN5.out
end Go.Proofs.YtdgliimmnnhhjaaGreatDoor
end
section
namespace Go.Proofs.YtdgliimmnnhhjaaGreatDoor
open Go.RowKit
theorem out2_i (d:Pl.Dg)(A B:Option Addr)(n cp q cq:Nat)(l:Value)(h:Int)(w:World)(e:n=d.n)(hh:0≤h∧h<4 * (n:Int))(hn:n≤1000)(hs:IntsAt w A n d.sg) :
 Calls Tryz.prog 99 #[.agg #[.slice A n cp,.slice B q cq,l],.int .i64 h] w fun e w'=>e = .returned (.bool (Pl.out d h.toNat))∧Below w.heap.size w w':=by
 obtain ⟨k,rfl⟩:=Int.eq_ofNat_of_zero_le hh.1
 exact out2_n d A B n cp q cq l k w e (by omega) hn hs
theorem opp_i (h:Int)(w:World)(hh:0≤h∧h≤1000000) :
 Calls Tryz.prog 101 #[.int .i64 h] w fun e w'=>e = .returned (.int .i64 (Pl.tn h.toNat 2:Nat))∧w'=w:=by
 obtain ⟨k,rfl⟩:=Int.eq_ofNat_of_zero_le hh.1
 refine (opposite_any k w (by omega)).mono ?_
 rintro e w' ⟨rfl,rfl⟩
 exact ⟨rfl,rfl⟩
theorem below_drewN {B:Nat}{a w:World}(h:Below B a w)(n:Nat):Below B a (w.drewN n):=⟨h.os,h.tape,h.output,h.size,h.block⟩
def kk (d:Pl.Dg)(c:Nat):Nat:=if d.m (4 * c+2) / 4=c then 4 * c+2 else if d.s c=1 then 4 * c+1 else 4 * c+3
def isK (d:Pl.Dg)(c:Nat):Prop:=d.m (kk d c) / 4=c
def kinkE (d:Pl.Dg)(c:Nat)(b:Bool):Ending:=if b then .returned (.tuple #[.int .i64 (Pl.tn (kk d c) 2:Nat),.int .i64 (Pl.tn (d.m (kk d c)) 2:Nat),.bool true]) else .returned (.tuple #[.int .i64 0,.int .i64 0,.bool false])
def KinkPost (d:Pl.Dg)(c:Nat)(w:World)(e:Ending)(w':World):Prop:=e=kinkE d c (Pl.vb (isK d c))∧Below w.heap.size w w'
theorem kink_at {d:Pl.Dg}{c o:Nat}{w:World}{e:Ending}{w':World}(h:kk d c=o)(hm:d.m o / 4=c)(he:e = .returned (.tuple #[.int .i64 (Pl.tn o 2:Nat),.int .i64 (Pl.tn (d.m o) 2:Nat),.bool true]))(hb:Below w.heap.size w w'):KinkPost d c w e w':=by
 refine ⟨?_,hb⟩
 rw [Pl.vb_true (show isK d c by unfold isK;rw [h];exact hm)]
 unfold kinkE
 rw [if_pos rfl,h,he]
theorem kink_no {d:Pl.Dg}{c:Nat}{w:World}{e:Ending}{w':World}(h:¬d.m (kk d c) / 4=c)(he:e = .returned (.tuple #[.int .i64 0,.int .i64 0,.bool false]))(hb:Below w.heap.size w w'):KinkPost d c w e w':=by
 refine ⟨?_,hb⟩
 rw [Pl.vb_false (show ¬isK d c from h)]
 exact he
set_option maxRecDepth 100000 in
set_option maxHeartbeats 2000000 in
theorem kink_any (d:Pl.Dg)(hd:Pl.Wf d)(A B:Option Addr)(cp cq m c:Nat)(w:World)(hm:m=4 * d.n)(hg:DgAt w A B d)(hc:c<d.n) :
 Calls Tryz.prog 72 #[.agg #[.slice A d.n cp,.slice B m cq,.int .i64 d.lp],.int .i64 (c:Int)] w (KinkPost d c w):=by
 have hn:=hd.few
 have HM:=hide hm
 clear hm
 have hmm:m≤256:=by have:=HM.out;omega
 have HG:=hide hg
 clear hg
 have x0:Row (w.alloc (.cells #[.slice A d.n cp,.slice B m cq,.int .i64 d.lp] 24)) w.heap.size 24 [.slice A d.n cp,.slice B m cq,.int .i64 d.lp]:=Row.new w _ _
 have X0:=hide x0
 have B0:=hide (show Below w.heap.size w (w.alloc (.cells #[.slice A d.n cp,.slice B m cq,.int .i64 d.lp] 24)) from (Below.refl _ _).alloc (Nat.le_refl _) _)
 clear x0
 go_enter Tryz.func72,Tryz.ntmps72
 go_wp2
 go_loopg [11] 3 (fun g i wx=>∃k:Nat,k+g=3∧i = .int .i64 k∧(0<k→¬d.m (4 * c+2) / 4=c)∧(1<k→d.s c=1→¬d.m (4 * c+1) / 4=c)∧(2<k→d.s c = -1→¬d.m (4 * c+3) / 4=c)∧Below w.heap.size w wx∧Row wx w.heap.size 24 [.slice A d.n cp,.slice B m cq,.int .i64 d.lp])
 case atStart=>exact ⟨0,rfl,rfl,fun h=>absurd h (by omega),fun h=>absurd h (by omega),fun h=>absurd h (by omega),B0.out,X0.out⟩
 case round =>
  clear B0 X0
  obtain ⟨k,hkg,rfl,q0,q1,q2,b1,x1⟩:=hrel
  have HG0:=hide hkg
  have Q0:=hide q0
  have Q1:=hide q1
  have Q2:=hide q2
  have B1:=hide b1
  have X1:=hide x1
  have hk4:k=0∨k=1∨k=2∨k=3:=by omega
  obtain ⟨e0,e1,e2,e3⟩:=box3 x1
  have i0:∀W,(Instr.index 146 (.agg #[.int .i64 2,.int .i64 1,.int .i64 3]) (.int .i64 0)).run Tryz.prog W = .ok (.int .i64 2) W:=fun _=>by kernel_rfl
  have i1:∀W,(Instr.index 146 (.agg #[.int .i64 2,.int .i64 1,.int .i64 3]) (.int .i64 1)).run Tryz.prog W = .ok (.int .i64 1) W:=fun _=>by kernel_rfl
  have i2:∀W,(Instr.index 146 (.agg #[.int .i64 2,.int .i64 1,.int .i64 3]) (.int .i64 2)).run Tryz.prog W = .ok (.int .i64 3) W:=fun _=>by kernel_rfl
  clear hkg q0 q1 q2 b1 x1
  rcases hk4 with rfl | rfl | rfl | rfl
  ·go_wp2_with fail
   refine (out2_i d A B d.n cp m cq (.int .i64 d.lp) _ _ rfl (by omega) (by omega) (HG.out.s.keep B1.out)).mono ?_
   rintro e w2 ⟨rfl,hb2⟩
   have B2:=hide (B1.out.trans (hb2.mono B1.out.size))
   have X2:=hide (X1.out.below hb2)
   have HG2:=hide (HG.out.keep B2.out)
   have et:(4 * (c:Int)+2).toNat=4 * c+2:=by omega
   rw [et]
   clear et hb2
   obtain ⟨b,o,rfl,cm⟩:=mate_at HG2.out.m (k:=4 * c+2) (by omega)
   obtain ⟨f0,f1,f2,f3⟩:=box3 X2.out
   have g1:(0:Int)≤4 * (c:Int)+2:=by omega
   have g2:4 * (c:Int)+2<(m:Int):=by have:=HM.out;omega
   have lt:=hd.lt (4 * c+2) (by omega)
   obtain ⟨x,hx⟩:∃x,x=d.m (4 * c+2):=⟨_,rfl⟩
   rw [←hx] at cm lt
   have HX:=hide hx
   clear hx
   have hO:Pl.out d (4 * c+2)=true:=out_two (by omega)
   rw [hO]
   clear hO
   by_cases hk:x / 4=c
   ·have t1:((x:Int) / 4 == (c:Int))=true:=by rw [beq_iff_eq];omega
    have HK:=hide hk
    clear hk
    go_wp2_with fail
    go_quiet ((go_at_call 101;exact Calls.quiet_of_same (opp_i _ _ (by omega))))
    go_wp2
    go_ret3
    have hkk:kk d c=4 * c+2:=by unfold kk;rw [if_pos (by rw [←HX.out];exact HK.out)]
    refine kink_at hkk (by rw [←HX.out];exact HK.out) ?_ (below_drewN B2.out _)
    rw [←HX.out,show (4 * (c:Int)+2).toNat=4 * c+2 by omega,Int.toNat_natCast]
    rfl
   ·have t1:((x:Int) / 4 == (c:Int))=false:=by rw [beq_eq_false_iff_ne];omega
    have HK:=hide hk
    clear hk
    go_wp2
    go_roundg 2
    case measure=>have:=HG0.out;omega
    case rel=>exact ⟨1,rfl,by go_num,fun _=>by rw [←HX.out];exact HK.out,fun h=>absurd h (by omega),fun h=>absurd h (by omega),B2.out,X2.out⟩
  ·go_wp2_with fail
   refine (out2_i d A B d.n cp m cq (.int .i64 d.lp) _ _ rfl (by omega) (by omega) (HG.out.s.keep B1.out)).mono ?_
   rintro e w2 ⟨rfl,hb2⟩
   have B2:=hide (B1.out.trans (hb2.mono B1.out.size))
   have X2:=hide (X1.out.below hb2)
   have HG2:=hide (HG.out.keep B2.out)
   have et:(4 * (c:Int)+1).toNat=4 * c+1:=by omega
   rw [et]
   clear et hb2
   obtain ⟨b,o,rfl,cm⟩:=mate_at HG2.out.m (k:=4 * c+1) (by omega)
   obtain ⟨f0,f1,f2,f3⟩:=box3 X2.out
   have g1:(0:Int)≤4 * (c:Int)+1:=by omega
   have g2:4 * (c:Int)+1<(m:Int):=by have:=HM.out;omega
   have lt:=hd.lt (4 * c+1) (by omega)
   obtain ⟨x,hx⟩:∃x,x=d.m (4 * c+1):=⟨_,rfl⟩
   rw [←hx] at cm lt
   have HX:=hide hx
   clear hx
   by_cases hs1:d.s c=1
   ·have S1:=hide hs1
    clear hs1
    have hO:Pl.out d (4 * c+1)=true:=by rw [out_one (by omega),show (4 * c+1) / 4=c by omega,S1.out];rfl
    rw [hO]
    clear hO
    by_cases hk:x / 4=c
    ·have t1:((x:Int) / 4 == (c:Int))=true:=by rw [beq_iff_eq];omega
     have HK:=hide hk
     clear hk
     go_wp2_with fail
     go_quiet ((go_at_call 101;exact Calls.quiet_of_same (opp_i _ _ (by omega))))
     go_wp2
     go_ret3
     have hkk:kk d c=4 * c+1:=by unfold kk;rw [if_neg (Q0.out (by omega)),if_pos S1.out]
     refine kink_at hkk (by rw [←HX.out];exact HK.out) ?_ (below_drewN B2.out _)
     rw [←HX.out,show (4 * (c:Int)+1).toNat=4 * c+1 by omega,Int.toNat_natCast]
     rfl
    ·have t1:((x:Int) / 4 == (c:Int))=false:=by rw [beq_eq_false_iff_ne];omega
     have HK:=hide hk
     clear hk
     go_wp2
     go_roundg 1
     case measure=>have:=HG0.out;omega
     case rel=>exact ⟨2,rfl,by go_num,fun _=>Q0.out (by omega),fun _ _=>by rw [←HX.out];exact HK.out,fun h=>absurd h (by omega),B2.out,X2.out⟩
   ·have S1:=hide hs1
    clear hs1
    have hO:Pl.out d (4 * c+1)=false:=by rw [out_one (by omega),show (4 * c+1) / 4=c by omega,beq_eq_false_iff_ne];exact S1.out
    rw [hO]
    clear hO
    go_wp2
    go_roundg 1
    case measure=>have:=HG0.out;omega
    case rel=>exact ⟨2,rfl,by go_num,fun _=>Q0.out (by omega),fun _ h=>absurd h S1.out,fun h=>absurd h (by omega),B2.out,X2.out⟩
  ·go_wp2_with fail
   refine (out2_i d A B d.n cp m cq (.int .i64 d.lp) _ _ rfl (by omega) (by omega) (HG.out.s.keep B1.out)).mono ?_
   rintro e w2 ⟨rfl,hb2⟩
   have B2:=hide (B1.out.trans (hb2.mono B1.out.size))
   have X2:=hide (X1.out.below hb2)
   have HG2:=hide (HG.out.keep B2.out)
   have et:(4 * (c:Int)+3).toNat=4 * c+3:=by omega
   rw [et]
   clear et hb2
   obtain ⟨b,o,rfl,cm⟩:=mate_at HG2.out.m (k:=4 * c+3) (by omega)
   obtain ⟨f0,f1,f2,f3⟩:=box3 X2.out
   have g1:(0:Int)≤4 * (c:Int)+3:=by omega
   have g2:4 * (c:Int)+3<(m:Int):=by have:=HM.out;omega
   have lt:=hd.lt (4 * c+3) (by omega)
   obtain ⟨x,hx⟩:∃x,x=d.m (4 * c+3):=⟨_,rfl⟩
   rw [←hx] at cm lt
   have HX:=hide hx
   clear hx
   by_cases hs1:d.s c = -1
   ·have S1:=hide hs1
    have S2:=hide (show ¬d.s c=1 by omega)
    clear hs1
    have hO:Pl.out d (4 * c+3)=true:=by rw [out_three (by omega),show (4 * c+3) / 4=c by omega,S1.out];rfl
    rw [hO]
    clear hO
    by_cases hk:x / 4=c
    ·have t1:((x:Int) / 4 == (c:Int))=true:=by rw [beq_iff_eq];omega
     have HK:=hide hk
     clear hk
     go_wp2_with fail
     go_quiet ((go_at_call 101;exact Calls.quiet_of_same (opp_i _ _ (by omega))))
     go_wp2
     go_ret3
     have hkk:kk d c=4 * c+3:=by unfold kk;rw [if_neg (Q0.out (by omega)),if_neg S2.out]
     refine kink_at hkk (by rw [←HX.out];exact HK.out) ?_ (below_drewN B2.out _)
     rw [←HX.out,show (4 * (c:Int)+3).toNat=4 * c+3 by omega,Int.toNat_natCast]
     rfl
    ·have t1:((x:Int) / 4 == (c:Int))=false:=by rw [beq_eq_false_iff_ne];omega
     have HK:=hide hk
     clear hk
     go_wp2
     go_roundg 0
     case measure=>have:=HG0.out;omega
     case rel=>exact ⟨3,rfl,by go_num,fun _=>Q0.out (by omega),fun _=>Q1.out (by omega),fun _ _=>by rw [←HX.out];exact HK.out,B2.out,X2.out⟩
   ·have S1:=hide hs1
    clear hs1
    have hO:Pl.out d (4 * c+3)=false:=by rw [out_three (by omega),show (4 * c+3) / 4=c by omega,beq_eq_false_iff_ne];exact S1.out
    rw [hO]
    clear hO
    go_wp2
    go_roundg 0
    case measure=>have:=HG0.out;omega
    case rel=>exact ⟨3,rfl,by go_num,fun _=>Q0.out (by omega),fun _=>Q1.out (by omega),fun _ h=>absurd h S1.out,B2.out,X2.out⟩
  ·go_wp2
   go_ret3
   refine kink_no ?_ rfl B1.out
   unfold kk
   have h0:=Q0.out (by omega)
   rw [if_neg h0]
   rcases hd.sign c hc with h | h
   ·rw [if_pos h];exact Q1.out (by omega) h
   ·rw [if_neg (by omega)];exact Q2.out (by omega) h
end Go.Proofs.YtdgliimmnnhhjaaGreatDoor
end
section
namespace Go.Proofs.YtdgliimmnnhhjaaGreatDoor
open Go Go.RowKit
def sheetV (A B L R:Option Addr)(n m:Nat)(lp:Int)(cp cq cl cr:Nat):Value := .agg #[.slice A n cp,.slice B m cq,.int .i64 lp,.slice L m cl,.slice R n cr]
def nearB (F R:List Nat)(d:Pl.Dg)(x y:Nat):Bool:=(F.getD x 0 == F.getD y 0 || R.getD (x / 4) 0 != R.getD (y / 4) 0) && d.m x != y
structure ShAt (w:World) (A B L R:Option Addr) (d:Pl.Dg) (F P:List Nat):Prop where
 dg:DgAt w A B d
 l:IntsAt w L (4 * d.n) (nats F)
 p:IntsAt w R d.n (nats P)
theorem ShAt.keep {w w':World}{A B L R:Option Addr}{d:Pl.Dg}{F P:List Nat}(h:ShAt w A B L R d F P)(hb:Below w.heap.size w w'):ShAt w' A B L R d F P:=⟨h.dg.keep hb,h.l.keep hb,h.p.keep hb⟩
set_option maxRecDepth 100000 in
set_option maxHeartbeats 2000000 in
theorem near_any (d:Pl.Dg)(F P:List Nat)(A B L R:Option Addr)(cp cq cl cr m x y:Nat)(w:World)(hm:m=4 * d.n)(hs:ShAt w A B L R d F P)(hn:d.n≤64)(hx:x<4 * d.n)(hy:y<4 * d.n) :
 Calls Tryz.prog 98 #[sheetV A B L R d.n m d.lp cp cq cl cr,.int .i64 (x:Int),.int .i64 (y:Int)] w fun e w'=>e = .returned (.bool (nearB F P d x y))∧Below w.heap.size w w':=by
 unfold sheetV
 have b0:Below w.heap.size w (w.alloc (.cells #[.slice A d.n cp,.slice B m cq,.int .i64 d.lp,.slice L m cl,.slice R d.n cr] 91)):=(Below.refl _ _).alloc (Nat.le_refl _) _
 obtain ⟨W,hW⟩:∃W,W=w.alloc (.cells #[.slice A d.n cp,.slice B m cq,.int .i64 d.lp,.slice L m cl,.slice R d.n cr] 91):=⟨_,rfl⟩
 have BX:=hide (show Row W w.heap.size 91 [.slice A d.n cp,.slice B m cq,.int .i64 d.lp,.slice L m cl,.slice R d.n cr] by rw [hW];exact Row.new w _ [_,_,_,_,_])
 rw [←hW] at b0
 have B0:=hide b0
 have HS:=hide (hs.keep b0)
 have HM:=hide hm
 have HW:=hide hW
 clear b0 hs hW
 obtain ⟨b1,o1,rfl,c1⟩:=nats_at HS.out.l (k:=x) hx
 obtain ⟨b1',o1',e1,c2⟩:=nats_at HS.out.l (k:=y) hy
 injection e1 with e1
 injection e1 with e11 e12
 subst e11
 subst e12
 obtain ⟨b2,o2,rfl,c3⟩:=nats_at HS.out.p (k:=x / 4) (by omega)
 obtain ⟨b2',o2',e2,c4⟩:=nats_at HS.out.p (k:=y / 4) (by omega)
 injection e2 with e2
 injection e2 with e21 e22
 subst e21
 subst e22
 obtain ⟨b3,o3,rfl,c5⟩:=mate_at HS.out.dg.m (k:=x) hx
 have ix:(0:Int)≤(x:Int):=by omega
 have iy:(0:Int)≤(y:Int):=by omega
 have jx:(x:Int)<(m:Int):=by omega
 have jy:(y:Int)<(m:Int):=by omega
 have kx:(0:Int)≤(x:Int) / 4:=by omega
 have ky:(0:Int)≤(y:Int) / 4:=by omega
 have lx:(x:Int) / 4<(d.n:Int):=by omega
 have ly:(y:Int) / 4<(d.n:Int):=by omega
 clear hm
 obtain ⟨p,hp⟩:∃p,p=F.getD x 0:=⟨_,rfl⟩
 obtain ⟨q,hq⟩:∃q,q=F.getD y 0:=⟨_,rfl⟩
 obtain ⟨r,hr⟩:∃r,r=P.getD (x / 4) 0:=⟨_,rfl⟩
 obtain ⟨s,hss⟩:∃s,s=P.getD (y / 4) 0:=⟨_,rfl⟩
 obtain ⟨u,hu⟩:∃u,u=d.m x:=⟨_,rfl⟩
 have E:=hide (show nearB F P d x y=((p == q || r != s) && u != y) by unfold nearB;rw [hp,hq,hr,hss,hu])
 rw [←hp] at c1
 rw [←hq] at c2
 rw [←hr] at c3
 rw [←hss] at c4
 rw [←hu] at c5
 clear hp hq hr hss hu
 go_enter Tryz.func98,Tryz.ntmps98
 go_wp2_with fail
 rw [←HW.out]
 obtain ⟨f0,f1,f2,f3,f4,f5⟩:=box5 BX.out
 by_cases h1:p=q
 ·have E2:=hide (show nearB F P d x y=(u != y) by rw [E.out,h1];simp)
  have t1:((p:Int) == (q:Int))=true:=by rw [beq_iff_eq];omega
  have E3:=hide (show (((u:Nat):Int) != ((y:Nat):Int))=(u != y) by rw [Bool.eq_iff_iff];simp;omega)
  clear h1
  go_wp2_with fail
  go_quiet (fail)
  go_wp2
  go_ret
  refine ⟨?_,below_drewN B0.out _⟩
  rw [E2.out]
  exact ret_bool E3.out
 ·have t1:((p:Int) == (q:Int))=false:=by rw [beq_eq_false_iff_ne];omega
  by_cases h2:r=s
  ·have E2:=hide (show nearB F P d x y=false by rw [E.out,h2];simp [h1])
   have t2:((r:Int) != (s:Int))=false:=by rw [bne_eq_false_iff_eq];omega
   clear h1 h2
   go_wp2_with fail
   go_quiet (fail)
   go_wp2
   go_ret
   refine ⟨?_,below_drewN B0.out _⟩
   rw [E2.out]
   rfl
  ·have E2:=hide (show nearB F P d x y=(u != y) by rw [E.out];simp [h1,h2])
   have t2:((r:Int) != (s:Int))=true:=by rw [bne_iff_ne];omega
   have E3:=hide (show (((u:Nat):Int) != ((y:Nat):Int))=(u != y) by rw [Bool.eq_iff_iff];simp;omega)
   clear h1 h2
   go_wp2_with fail
   go_quiet (fail)
   go_wp2
   go_ret
   refine ⟨?_,below_drewN B0.out _⟩
   rw [E2.out]
   exact ret_bool E3.out
end Go.Proofs.YtdgliimmnnhhjaaGreatDoor
end
