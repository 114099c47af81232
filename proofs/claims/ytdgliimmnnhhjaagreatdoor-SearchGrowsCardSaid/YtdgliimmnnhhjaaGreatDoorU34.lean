/-
  The texts Xs.
-/
import Derived.Test.YtdgliimmnnhhjaaGreatDoorU07
import Derived.Test.YtdgliimmnnhhjaaGreatDoorU18
import Derived.Test.YtdgliimmnnhhjaaGreatDoorU31
set_option linter.unusedVariables false
set_option linter.unusedSimpArgs false
section
namespace Go.Proofs.YtdgliimmnnhhjaaGreatDoor
open Go Go.RowKit
attribute [local go_sem ↓] Go.wp_at_zero Go.wp_at_succ
theorem near_i (d:Pl.Dg)(F P:List Nat)(A B L R:Option Addr)(cp cq cl cr m:Nat)(x y:Int)(w:World)(hm:m=4 * d.n)(hs:ShAt w A B L R d F P)(hn:d.n≤64)(hx:0≤x∧x<4 * (d.n:Int))(hy:0≤y∧y<4 * (d.n:Int)) :
 Calls Tryz.prog 98 #[.agg #[.slice A d.n cp,.slice B m cq,.int .i64 d.lp,.slice L m cl,.slice R d.n cr],.int .i64 x,.int .i64 y] w fun e w'=>e = .returned (.bool (nearB F P d x.toNat y.toNat))∧Below w.heap.size w w':=by
 obtain ⟨a,rfl⟩:=Int.eq_ofNat_of_zero_le hx.1
 obtain ⟨b,rfl⟩:=Int.eq_ofNat_of_zero_le hy.1
 exact near_any d F P A B L R cp cq cl cr m a b w hm hs hn (by omega) (by omega)
noncomputable def pkA (d:Pl.Dg)(F P:List Nat)(x y s:Int)(o:Bool):Int:=if Pl.vb (inR d.n ⟨3,x,y,s,o⟩)=true then pkC d F P x y s else 2
noncomputable def pkS (d:Pl.Dg)(F P:List Nat)(x y:Int):Nat→List Mv
 | 0=>[]
 | j+1=>pkS d F P x y j++(one (pkA d F P x y ((j:Int) - 1) false) ⟨3,x,y,(j:Int) - 1,false⟩++one (pkA d F P x y ((j:Int) - 1) true) ⟨3,x,y,(j:Int) - 1,true⟩)
noncomputable def pkY (d:Pl.Dg)(F P:List Nat)(x:Int):Nat→List Mv
 | 0=>[]
 | k+1=>pkY d F P x k++pkS d F P x ((k:Int) - 2) 3
noncomputable def pkX (d:Pl.Dg)(F P:List Nat):Nat→List Mv
 | 0=>[]
 | k+1=>pkX d F P k++pkY d F P ((k:Int) - 2) (4 * d.n+2)
theorem pkS_len (d:Pl.Dg)(F P:List Nat)(x y:Int):∀k,(pkS d F P x y k).length≤2 * k
 | 0=>Nat.le_refl _
 | j + 1 => by
   have a:=pkS_len d F P x y j
   have b:=one_len (pkA d F P x y ((j:Int) - 1) false) ⟨3,x,y,(j:Int) - 1,false⟩
   have c:=one_len (pkA d F P x y ((j:Int) - 1) true) ⟨3,x,y,(j:Int) - 1,true⟩
   show (pkS d F P x y j++(one (pkA d F P x y ((j:Int) - 1) false) ⟨3,x,y,(j:Int) - 1,false⟩++one (pkA d F P x y ((j:Int) - 1) true) ⟨3,x,y,(j:Int) - 1,true⟩)).length≤_
   rw [List.length_append,List.length_append]
   omega
theorem pkY_len (d:Pl.Dg)(F P:List Nat)(x:Int):∀k,(pkY d F P x k).length≤6 * k
 | 0=>Nat.le_refl _
 | k + 1 => by
   have a:=pkY_len d F P x k
   have b:=pkS_len d F P x ((k:Int) - 2) 3
   show (pkY d F P x k++pkS d F P x ((k:Int) - 2) 3).length≤_
   rw [List.length_append]
   omega
theorem pkX_len {d:Pl.Dg}(hn:d.n≤64)(F P:List Nat):∀k,(pkX d F P k).length≤1548 * k
 | 0=>Nat.le_refl _
 | k + 1 => by
   have a:=pkX_len hn F P k
   have b:=pkY_len d F P ((k:Int) - 2) (4 * d.n+2)
   show (pkX d F P k++pkY d F P ((k:Int) - 2) (4 * d.n+2)).length≤_
   rw [List.length_append]
   omega
theorem pkA_six {d:Pl.Dg}{F P:List Nat}{x y s:Int}{o:Bool}(h:0≤x∧0≤y∧x≠y∧nearB F P d x.toNat y.toNat=false):¬pkA d F P x y s o=0:=by
 unfold pkA
 split
 ·unfold pkC
  split
  ·decide
  ·first | decide | (rw [if_pos h];decide)
 ·decide
theorem pkS_none {d:Pl.Dg}{F P:List Nat}{x y:Int}(h:0≤x∧0≤y∧x≠y∧nearB F P d x.toNat y.toNat=false):∀k,pkS d F P x y k=[]
 | 0=>rfl
 | k + 1 => by
   show pkS d F P x y k++(one (pkA d F P x y ((k:Int) - 1) false) ⟨3,x,y,(k:Int) - 1,false⟩++one (pkA d F P x y ((k:Int) - 1) true) ⟨3,x,y,(k:Int) - 1,true⟩)=[]
   rw [pkS_none h k,one_no (pkA_six h),one_no (pkA_six h)]
   rfl
set_option maxRecDepth 100000 in
set_option maxHeartbeats 4000000 in
theorem pkTry_any (d:Pl.Dg)(hd:Pl.Wf d)(F P:List Nat)(A B L R:Option Addr)(cp cq cl cr m gd gl:Nat)(v:Value)(ms:List Mv)(x y s:Int)(o:Bool)(w0 w:World)(hm:m=4 * d.n)(hs:ShAt w A B L R d F P)(hms:ms.length≤1000000)
 (hp:MG w0 91 gd gl [.slice A d.n cp,.slice B m cq,.int .i64 (d.lp:Int),.slice L m cl,.slice R d.n cr] v ms w) :
 Calls Tryz.prog 97 #[.agg #[.int .i64 3,.int .i64 x,.int .i64 y,.int .i64 s,.bool o],.pointer (some ⟨gd,0,none⟩),.pointer (some ⟨gl,0,none⟩)] w fun e w'=>e = .returned (.tuple #[])∧∃v',MG w0 91 gd gl [.slice A d.n cp,.slice B m cq,.int .i64 (d.lp:Int),.slice L m cl,.slice R d.n cr] v' (ms++one (pkA d F P x y s o) ⟨3,x,y,s,o⟩) w':=by
 have HM:=hide hm
 have HG:=hide hs
 have hn:=hd.few
 have hlp:=hd.lp
 obtain ⟨cc,hcc⟩:∃c',c'=pkA d F P x y s o:=⟨_,rfl⟩
 have HC:=hide hcc
 have hb0:Below w.heap.size w (w.alloc (.cells #[.int .i64 3,.int .i64 x,.int .i64 y,.int .i64 s,.bool o] 43)):=(Below.refl _ _).alloc (Nat.le_refl _) _
 have HB0:=hide hb0
 have P1:=hide (hp.below hb0)
 have M1:=hide (row_at (W:=w) (g:=w.heap.size) (t:=43) (vs:=[.int .i64 3,.int .i64 x,.int .i64 y,.int .i64 s,.bool o]) rfl)
 have hgl:gl<w.heap.size:=hp.big
 have hgd:gd<gl:=hp.lt
 clear hp hb0 hs hm hcc
 obtain ⟨d0,d1,d2,d3,d4,d5⟩:=box5 P1.out.d
 obtain ⟨e0,e1,e2,e3,e4,e5⟩:=box5 M1.out
 go_enter Tryz.func97,Tryz.ntmps97
 go_wp2_with fail
 refine (inRange_3 d.n x y s o _ (by omega)).mono ?_
 rintro e w1 ⟨rfl,hb1⟩
 have P2:=hide (P1.out.below hb1)
 have M2:=hide (M1.out.below hb1)
 have HB1:=hide (HB0.out.trans (hb1.mono HB0.out.size))
 have hs2:w.heap.size<w1.heap.size:=M2.out.lt
 have hs3:gl<w1.heap.size:=by omega
 clear hb1 d0 d1 d2 d3 d4 d5 e0 e1 e2 e3 e4 e5 HB0 P1 M1
 obtain ⟨d0,d1,d2,d3,d4,d5⟩:=box5 P2.out.d
 obtain ⟨e0,e1,e2,e3,e4,e5⟩:=box5 M2.out
 by_cases hI:inR d.n ⟨3,x,y,s,o⟩
 ·rw [Pl.vb_true hI]
  have hxy:(-2≤x∧x<4 * (d.n:Int))∧(-2≤y∧y<4 * (d.n:Int)):=by unfold inR at hI;simp at hI;omega
  have EC:=hide (show pkC d F P x y s=cc by rw [HC.out];unfold pkA;rw [if_pos (Pl.vb_true hI)])
  clear hI
  go_wp2_with fail
  refine (pokeable_any d F P A B L R cp cq cl cr m 3 x y s o _ HM.out (HG.out.keep HB1.out) hn hlp hxy.1 hxy.2).mono ?_
  rintro e w3 ⟨rfl,hb3⟩
  have P3:=hide (P2.out.below hb3)
  have M3:=hide (M2.out.below hb3)
  have hs4:w.heap.size<w3.heap.size:=M3.out.lt
  have hs5:gl<w3.heap.size:=by omega
  rw [EC.out]
  clear hb3 d0 d1 d2 d3 d4 d5 e0 e1 e2 e3 e4 e5 HB1 P2 M2 hxy
  obtain ⟨e0,e1,e2,e3,e4,e5⟩:=box5 M3.out
  by_cases h0:cc=0
  ·have E:=hide (show one cc ⟨3,x,y,s,o⟩=[⟨3,x,y,s,o⟩] from one_yes h0)
   have t1:(cc == 0)=true:=by rw [beq_iff_eq];exact h0
   clear h0
   obtain ⟨q0,q1⟩:=box1 P3.out.l
   obtain ⟨n0,hn0,hz0,hz1,hz2⟩:=info_parts moveInfo
   have A0:=hide (P3.out.alloc (.cells (Mv.cells ⟨3,x,y,s,o⟩).toArray 43)).o
   have A1:∀u ∈ Mv.cells ⟨3,x,y,s,o⟩,u.oneCell'=true:=by simp [Mv.cells,Value.oneCell']
   have A2:ms.length+1≤maxLen:=by unfold maxLen;omega
   have A3:(ms.length+1) * 40≤140737488355328:=by omega
   have A6:=hide (five_news w3 w3.heap.size rfl ⟨3,x,y,s,o⟩)
   go_wp2_with (at_builtin;refine wpList_append_lies _ (by rfl) _ _ 39 (by rfl) (gl+1) 43 n0 (.agg #[.int .i64 0,.int .i64 0,.int .i64 0,.int .i64 0,.bool false]) 5 40 Tryz.underlying39 hn0 hz0 hz1 hz2 rfl (by omega) v ms.length (mvs ms) (by rfl) A0.out ⟨w3.heap.size,0,none⟩ 1 1 (Mv.cells ⟨3,x,y,s,o⟩) (by rfl) (by rfl) A6.out A1 (by omega) A2 A3 (by simp;omega) (w3.heap.size+1) (by simp) ?_;intro g2 c2 w2 own2 grow2 at2 lt2;obtain ⟨q2,q3⟩:=box1 ((P3.out.alloc (.cells (Mv.cells ⟨3,x,y,s,o⟩).toArray 43)).l.grown grow2 ((P3.out.alloc (.cells (Mv.cells ⟨3,x,y,s,o⟩).toArray 43)).far (Nat.le_refl _)));have OWN2:=hide own2;have GR2:=hide grow2;clear own2 grow2 at2)
   refine bodyPost_end (results_none rfl _ _ _) rfl ⟨rfl,.slice (some ⟨g2,0,none⟩) (ms.length+1) c2,?_⟩
   rw [←HC.out,E.out]
   exact (P3.out.alloc _).push OWN2.out GR2.out
  ·have E:=hide (show one cc ⟨3,x,y,s,o⟩=[] from one_no h0)
   have t1:(cc == 0)=false:=by rw [beq_eq_false_iff_ne];exact h0
   clear h0
   go_wp2
   refine bodyPost_end (results_none rfl _ _ _) rfl ⟨rfl,v,?_⟩
   rw [←HC.out,E.out,List.append_nil]
   exact P3.out
 ·rw [Pl.vb_false hI]
  have E:=hide (show one cc ⟨3,x,y,s,o⟩=[] from one_no (by
   rw [HC.out]
   unfold pkA
   rw [Pl.vb_false hI,if_neg (by decide)]
   decide))
  clear hI
  go_wp2
  refine bodyPost_end (results_none rfl _ _ _) rfl ⟨rfl,v,?_⟩
  rw [←HC.out,E.out,List.append_nil]
  exact P2.out
set_option maxRecDepth 100000 in
set_option maxHeartbeats 8000000 in
theorem pokes_any (d:Pl.Dg)(hd:Pl.Wf d)(F P:List Nat)(A B L R:Option Addr)(cp cq cl cr m:Nat)(w:World)(hm:m=4 * d.n)(hs:ShAt w A B L R d F P) :
 Calls Tryz.prog 68 #[.agg #[.slice A d.n cp,.slice B m cq,.int .i64 d.lp,.slice L m cl,.slice R d.n cr]] w fun e w'=>∃v,e = .returned v∧MovesIn w.heap.size w' v (if 64<d.n+2 then [] else pkX d F P (m+2))∧Below w.heap.size w w':=by
 have HM:=hide hm
 have HG:=hide hs
 have hn:=hd.few
 have hm2:m≤256:=by omega
 have D0:=hide (row_at (W:=w) (g:=w.heap.size) (t:=91) (vs:=[.slice A d.n cp,.slice B m cq,.int .i64 (d.lp:Int),.slice L m cl,.slice R d.n cr]) rfl)
 have BB0:=hide (show Below w.heap.size w (w.alloc (.cells #[.slice A d.n cp,.slice B m cq,.int .i64 (d.lp:Int),.slice L m cl,.slice R d.n cr] 91)) from (Below.refl _ _).alloc (Nat.le_refl _) _)
 have P0:=hide (show MG w 91 w.heap.size (w.heap.size+1) [.slice A d.n cp,.slice B m cq,.int .i64 (d.lp:Int),.slice L m cl,.slice R d.n cr] (.slice none 0 0) [] ((w.alloc (.cells #[.slice A d.n cp,.slice B m cq,.int .i64 (d.lp:Int),.slice L m cl,.slice R d.n cr] 91)).alloc (.cells #[.slice none 0 0] 39)) from
  ⟨(row_at (vs:=[_,_,_,_,_]) rfl).alloc _,row_at (vs:=[_]) (by simp),⟨rfl,.inl ⟨rfl,rfl⟩⟩,((Below.refl _ _).alloc (Nat.le_refl _) _).alloc (by simp) _,Nat.le_refl _,by omega⟩)
 clear hs hm
 by_cases hF:(64:Int)<(d.n:Int)+2
 ·have E:=hide (show (if 64<d.n+2 then [] else pkX d F P (m+2))=[] from if_pos (by omega))
  go_enter Tryz.func68,Tryz.ntmps68
  go_wp2
  go_ret
  exact ⟨_,rfl,⟨w.heap.size,Nat.le_refl _,by simp,by first | exact ⟨rfl,.inl ⟨rfl,rfl⟩⟩ | (rw [E.out];exact ⟨rfl,.inl ⟨rfl,rfl⟩⟩)⟩,BB0.out⟩
 ·have E:=hide (show (if 64<d.n+2 then [] else pkX d F P (m+2))=pkX d F P (m+2) from if_neg (by omega))
  clear D0 BB0
  go_enter Tryz.func68,Tryz.ntmps68
  go_wp2
  go_loopg [5,6,7] (m+2) (fun g s5 s6 s7 wx=>∃(k:Nat) (v:Value),k+g=m+2∧s5 = .int .i64 ((k:Int) - 2)∧MG w 91 w.heap.size (w.heap.size+1) [.slice A d.n cp,.slice B m cq,.int .i64 (d.lp:Int),.slice L m cl,.slice R d.n cr] v (pkX d F P k) wx)
  case atStart=>exact ⟨0,_,by omega,rfl,P0.out⟩
  case round =>
   clear P0
   obtain ⟨k,v,hkg,rfl,hp⟩:=hrel
   obtain ⟨go,rfl⟩:∃go,go=gk:=⟨_,rfl⟩
   have HKG:=hide hkg
   have PK:=hide hp
   have hlen:=pkX_len hn F P k
   obtain ⟨x,hx⟩:∃x:Int,x=(k:Int) - 2:=⟨_,rfl⟩
   have HX:=hide hx
   rw [←hx]
   obtain ⟨d0,d1,d2,d3,d4,d5⟩:=box5 hp.d
   clear hp hx
   by_cases hk:k<m+2
   ·have hki:x<(m:Int):=by have:=HX.out;omega
    have x0:-2≤x:=by have:=HX.out;omega
    have x1:x<4 * (d.n:Int):=by have:=HM.out;omega
    clear hkg
    go_wp2
    go_loopg [6,7] (m+2) (fun g s6 s7 wx=>∃(j:Nat) (u:Value),j+g=m+2∧s6 = .int .i64 ((j:Int) - 2)∧MG w 91 w.heap.size (w.heap.size+1) [.slice A d.n cp,.slice B m cq,.int .i64 (d.lp:Int),.slice L m cl,.slice R d.n cr] u (pkX d F P k++pkY d F P x j) wx)
    case atStart=>exact ⟨0,v,by omega,rfl,by rw [show pkY d F P x 0=[] from rfl,List.append_nil];exact PK.out⟩
    case round =>
     clear PK d0 d1 d2 d3 d4 d5
     obtain ⟨j,u,hjg,rfl,hq⟩:=hrel
     obtain ⟨g1,rfl⟩:∃g1,g1=gk:=⟨_,rfl⟩
     have HJG:=hide hjg
     have QJ:=hide hq
     have hlen2:=pkY_len d F P x j
     obtain ⟨y,hy⟩:∃y:Int,y=(j:Int) - 2:=⟨_,rfl⟩
     have HY:=hide hy
     rw [←hy]
     obtain ⟨d0,d1,d2,d3,d4,d5⟩:=box5 hq.d
     clear hq hy
     by_cases hj:j<m+2
     ·have hji:y<(m:Int):=by have:=HY.out;omega
      have y0:-2≤y:=by have:=HY.out;omega
      have y1:y<4 * (d.n:Int):=by have:=HM.out;omega
      clear hjg
      by_cases cx:0≤x
      ·by_cases cy:0≤y
       ·by_cases cxy:x=y
        ·subst cxy
         go_wp2
         go_loopg [7] 3 (fun g s7 wx=>∃(i:Nat) (u':Value),i+g=3∧s7 = .int .i64 ((i:Int) - 1)∧MG w 91 w.heap.size (w.heap.size+1) [.slice A d.n cp,.slice B m cq,.int .i64 (d.lp:Int),.slice L m cl,.slice R d.n cr] u' (pkX d F P k++pkY d F P x j++pkS d F P x x i) wx)
         case atStart=>exact ⟨0,u,by omega,rfl,by rw [show pkS d F P x x 0=[] from rfl,List.append_nil];exact QJ.out⟩
         case round =>
          clear QJ
          obtain ⟨i,u',hig,rfl,hq⟩:=hrel
          have HIG:=hide hig
          have QI:=hide hq
          have hlen3:=pkS_len d F P x x i
          obtain ⟨s,hs⟩:∃s:Int,s=(i:Int) - 1:=⟨_,rfl⟩
          have HS:=hide hs
          rw [←hs]
          clear hq hs
          by_cases hi:i<3
          ·have s0:-1≤s:=by have:=HS.out;omega
           have s1:s≤1:=by have:=HS.out;omega
           clear hig
           go_wp2_with fail
           refine (pkTry_any d hd F P A B L R cp cq cl cr m _ _ u' _ x x s false w _ HM.out (HG.out.keep QI.out.bel) (by simp only [List.length_append];omega) QI.out).mono ?_
           rintro e w1 ⟨rfl,u1,hp1⟩
           have Q1:=hide hp1
           clear hp1
           go_wp2_with fail
           refine (pkTry_any d hd F P A B L R cp cq cl cr m _ _ u1 _ x x s true w _ HM.out (HG.out.keep Q1.out.bel) (by have:=one_len (pkA d F P x x s false) ⟨3,x,x,s,false⟩;simp only [List.length_append];omega) Q1.out).mono ?_
           rintro e w2 ⟨rfl,u2,hp2⟩
           have Q2:=hide hp2
           clear hp2
           go_wp2
           go_roundg (gk - 1)
           case measure=>have:=HIG.out;omega
           case rel =>
            have e1:s+1=((i+1:Nat):Int) - 1:=by have:=HS.out;omega
            have e2:pkS d F P x x (i+1)=pkS d F P x x i++(one (pkA d F P x x s false) ⟨3,x,x,s,false⟩++one (pkA d F P x x s true) ⟨3,x,x,s,true⟩):=by rw [HS.out];rfl
            exact ⟨i+1,u2,by have:=HIG.out;omega,by rw [e1],by rw [e2];simpa using Q2.out⟩
          ·have s1:¬(s≤1):=by have:=HS.out;omega
           have ei:i=3:=by omega
           have E3:=hide (show pkY d F P x (j+1)=pkY d F P x j++pkS d F P x x i by rw [HY.out,ei];rfl)
           have EY:=hide (show x+1=((j+1:Nat):Int) - 2 by have:=HY.out;omega)
           clear hig ei
           go_wp2
           go_roundg (g1 - 1)
           case measure=>have:=HJG.out;omega
           case rel=>exact ⟨j+1,u',by have:=HJG.out;omega,by rw [EY.out],by rw [E3.out];simpa using QI.out⟩
        ·have t0:(x != y)=true:=by rw [bne_iff_ne];exact cxy
         have CXY:=hide cxy
         clear cxy
         go_wp2_with fail
         refine (near_i d F P A B L R cp cq cl cr m x y _ HM.out (HG.out.keep QJ.out.bel) hn ⟨cx,x1⟩ ⟨cy,y1⟩).mono ?_
         rintro e wn ⟨rfl,hbn⟩
         have QN:=hide (QJ.out.below hbn)
         clear hbn d0 d1 d2 d3 d4 d5 QJ
         obtain ⟨nb,hnb⟩:∃b,b=nearB F P d x.toNat y.toNat:=⟨_,rfl⟩
         rw [←hnb]
         have HNB:=hide hnb
         clear hnb
         cases nb with
         | true =>
           have QJ:=hide QN.out
           clear QN
           go_wp2
           go_loopg [7] 3 (fun g s7 wx=>∃(i:Nat) (u':Value),i+g=3∧s7 = .int .i64 ((i:Int) - 1)∧MG w 91 w.heap.size (w.heap.size+1) [.slice A d.n cp,.slice B m cq,.int .i64 (d.lp:Int),.slice L m cl,.slice R d.n cr] u' (pkX d F P k++pkY d F P x j++pkS d F P x y i) wx)
           case atStart=>exact ⟨0,u,by omega,rfl,by rw [show pkS d F P x y 0=[] from rfl,List.append_nil];exact QJ.out⟩
           case round =>
            clear QJ
            obtain ⟨i,u',hig,rfl,hq⟩:=hrel
            have HIG:=hide hig
            have QI:=hide hq
            have hlen3:=pkS_len d F P x y i
            obtain ⟨s,hs⟩:∃s:Int,s=(i:Int) - 1:=⟨_,rfl⟩
            have HS:=hide hs
            rw [←hs]
            clear hq hs
            by_cases hi:i<3
            ·have s0:-1≤s:=by have:=HS.out;omega
             have s1:s≤1:=by have:=HS.out;omega
             clear hig
             go_wp2_with fail
             refine (pkTry_any d hd F P A B L R cp cq cl cr m _ _ u' _ x y s false w _ HM.out (HG.out.keep QI.out.bel) (by simp only [List.length_append];omega) QI.out).mono ?_
             rintro e w1 ⟨rfl,u1,hp1⟩
             have Q1:=hide hp1
             clear hp1
             go_wp2_with fail
             refine (pkTry_any d hd F P A B L R cp cq cl cr m _ _ u1 _ x y s true w _ HM.out (HG.out.keep Q1.out.bel) (by have:=one_len (pkA d F P x y s false) ⟨3,x,y,s,false⟩;simp only [List.length_append];omega) Q1.out).mono ?_
             rintro e w2 ⟨rfl,u2,hp2⟩
             have Q2:=hide hp2
             clear hp2
             go_wp2
             go_roundg (gk - 1)
             case measure=>have:=HIG.out;omega
             case rel =>
              have e1:s+1=((i+1:Nat):Int) - 1:=by have:=HS.out;omega
              have e2:pkS d F P x y (i+1)=pkS d F P x y i++(one (pkA d F P x y s false) ⟨3,x,y,s,false⟩++one (pkA d F P x y s true) ⟨3,x,y,s,true⟩):=by rw [HS.out];rfl
              exact ⟨i+1,u2,by have:=HIG.out;omega,by rw [e1],by rw [e2];simpa using Q2.out⟩
            ·have s1:¬(s≤1):=by have:=HS.out;omega
             have ei:i=3:=by omega
             have E3:=hide (show pkY d F P x (j+1)=pkY d F P x j++pkS d F P x y i by rw [HY.out,ei];rfl)
             have EY:=hide (show y+1=((j+1:Nat):Int) - 2 by have:=HY.out;omega)
             clear hig ei
             go_wp2
             go_roundg (g1 - 1)
             case measure=>have:=HJG.out;omega
             case rel=>exact ⟨j+1,u',by have:=HJG.out;omega,by rw [EY.out],by rw [E3.out];simpa using QI.out⟩
         | false =>
           have E3:=hide (show pkY d F P x (j+1)=pkY d F P x j by
            show pkY d F P x j++pkS d F P x ((j:Int) - 2) 3=_
            rw [←HY.out,pkS_none ⟨cx,cy,CXY.out,HNB.out.symm⟩,List.append_nil])
           have EY:=hide (show y+1=((j+1:Nat):Int) - 2 by have:=HY.out;omega)
           go_wp2
           go_roundg (g1 - 1)
           case measure=>have:=HJG.out;omega
           case rel=>exact ⟨j+1,u,by have:=HJG.out;omega,by rw [EY.out],by rw [E3.out];exact QN.out⟩
       ·have cy1:y<0:=by omega
        go_wp2
        go_loopg [7] 3 (fun g s7 wx=>∃(i:Nat) (u':Value),i+g=3∧s7 = .int .i64 ((i:Int) - 1)∧MG w 91 w.heap.size (w.heap.size+1) [.slice A d.n cp,.slice B m cq,.int .i64 (d.lp:Int),.slice L m cl,.slice R d.n cr] u' (pkX d F P k++pkY d F P x j++pkS d F P x y i) wx)
        case atStart=>exact ⟨0,u,by omega,rfl,by rw [show pkS d F P x y 0=[] from rfl,List.append_nil];exact QJ.out⟩
        case round =>
         clear QJ
         obtain ⟨i,u',hig,rfl,hq⟩:=hrel
         have HIG:=hide hig
         have QI:=hide hq
         have hlen3:=pkS_len d F P x y i
         obtain ⟨s,hs⟩:∃s:Int,s=(i:Int) - 1:=⟨_,rfl⟩
         have HS:=hide hs
         rw [←hs]
         clear hq hs
         by_cases hi:i<3
         ·have s0:-1≤s:=by have:=HS.out;omega
          have s1:s≤1:=by have:=HS.out;omega
          clear hig
          go_wp2_with fail
          refine (pkTry_any d hd F P A B L R cp cq cl cr m _ _ u' _ x y s false w _ HM.out (HG.out.keep QI.out.bel) (by simp only [List.length_append];omega) QI.out).mono ?_
          rintro e w1 ⟨rfl,u1,hp1⟩
          have Q1:=hide hp1
          clear hp1
          go_wp2_with fail
          refine (pkTry_any d hd F P A B L R cp cq cl cr m _ _ u1 _ x y s true w _ HM.out (HG.out.keep Q1.out.bel) (by have:=one_len (pkA d F P x y s false) ⟨3,x,y,s,false⟩;simp only [List.length_append];omega) Q1.out).mono ?_
          rintro e w2 ⟨rfl,u2,hp2⟩
          have Q2:=hide hp2
          clear hp2
          go_wp2
          go_roundg (gk - 1)
          case measure=>have:=HIG.out;omega
          case rel =>
           have e1:s+1=((i+1:Nat):Int) - 1:=by have:=HS.out;omega
           have e2:pkS d F P x y (i+1)=pkS d F P x y i++(one (pkA d F P x y s false) ⟨3,x,y,s,false⟩++one (pkA d F P x y s true) ⟨3,x,y,s,true⟩):=by rw [HS.out];rfl
           exact ⟨i+1,u2,by have:=HIG.out;omega,by rw [e1],by rw [e2];simpa using Q2.out⟩
         ·have s1:¬(s≤1):=by have:=HS.out;omega
          have ei:i=3:=by omega
          have E3:=hide (show pkY d F P x (j+1)=pkY d F P x j++pkS d F P x y i by rw [HY.out,ei];rfl)
          have EY:=hide (show y+1=((j+1:Nat):Int) - 2 by have:=HY.out;omega)
          clear hig ei
          go_wp2
          go_roundg (g1 - 1)
          case measure=>have:=HJG.out;omega
          case rel=>exact ⟨j+1,u',by have:=HJG.out;omega,by rw [EY.out],by rw [E3.out];simpa using QI.out⟩
      ·have cx1:x<0:=by omega
       go_wp2
       go_loopg [7] 3 (fun g s7 wx=>∃(i:Nat) (u':Value),i+g=3∧s7 = .int .i64 ((i:Int) - 1)∧MG w 91 w.heap.size (w.heap.size+1) [.slice A d.n cp,.slice B m cq,.int .i64 (d.lp:Int),.slice L m cl,.slice R d.n cr] u' (pkX d F P k++pkY d F P x j++pkS d F P x y i) wx)
       case atStart=>exact ⟨0,u,by omega,rfl,by rw [show pkS d F P x y 0=[] from rfl,List.append_nil];exact QJ.out⟩
       case round =>
        clear QJ
        obtain ⟨i,u',hig,rfl,hq⟩:=hrel
        have HIG:=hide hig
        have QI:=hide hq
        have hlen3:=pkS_len d F P x y i
        obtain ⟨s,hs⟩:∃s:Int,s=(i:Int) - 1:=⟨_,rfl⟩
        have HS:=hide hs
        rw [←hs]
        clear hq hs
        by_cases hi:i<3
        ·have s0:-1≤s:=by have:=HS.out;omega
         have s1:s≤1:=by have:=HS.out;omega
         clear hig
         go_wp2_with fail
         refine (pkTry_any d hd F P A B L R cp cq cl cr m _ _ u' _ x y s false w _ HM.out (HG.out.keep QI.out.bel) (by simp only [List.length_append];omega) QI.out).mono ?_
         rintro e w1 ⟨rfl,u1,hp1⟩
         have Q1:=hide hp1
         clear hp1
         go_wp2_with fail
         refine (pkTry_any d hd F P A B L R cp cq cl cr m _ _ u1 _ x y s true w _ HM.out (HG.out.keep Q1.out.bel) (by have:=one_len (pkA d F P x y s false) ⟨3,x,y,s,false⟩;simp only [List.length_append];omega) Q1.out).mono ?_
         rintro e w2 ⟨rfl,u2,hp2⟩
         have Q2:=hide hp2
         clear hp2
         go_wp2
         go_roundg (gk - 1)
         case measure=>have:=HIG.out;omega
         case rel =>
          have e1:s+1=((i+1:Nat):Int) - 1:=by have:=HS.out;omega
          have e2:pkS d F P x y (i+1)=pkS d F P x y i++(one (pkA d F P x y s false) ⟨3,x,y,s,false⟩++one (pkA d F P x y s true) ⟨3,x,y,s,true⟩):=by rw [HS.out];rfl
          exact ⟨i+1,u2,by have:=HIG.out;omega,by rw [e1],by rw [e2];simpa using Q2.out⟩
        ·have s1:¬(s≤1):=by have:=HS.out;omega
         have ei:i=3:=by omega
         have E3:=hide (show pkY d F P x (j+1)=pkY d F P x j++pkS d F P x y i by rw [HY.out,ei];rfl)
         have EY:=hide (show y+1=((j+1:Nat):Int) - 2 by have:=HY.out;omega)
         clear hig ei
         go_wp2
         go_roundg (g1 - 1)
         case measure=>have:=HJG.out;omega
         case rel=>exact ⟨j+1,u',by have:=HJG.out;omega,by rw [EY.out],by rw [E3.out];simpa using QI.out⟩
     ·have hji:¬(y<(m:Int)):=by have:=HY.out;omega
      have ej:j=4 * d.n+2:=by have:=HM.out;omega
      have E2:=hide (show pkX d F P (k+1)=pkX d F P k++pkY d F P x j by rw [HX.out,ej];rfl)
      have EX:=hide (show x+1=((k+1:Nat):Int) - 2 by have:=HX.out;omega)
      clear hjg ej
      go_wp2
      go_roundg (go - 1)
      case measure=>have:=HKG.out;omega
      case rel=>exact ⟨k+1,u,by have:=HKG.out;omega,by rw [EX.out],by rw [E2.out];exact QJ.out⟩
   ·have hki:¬(x<(m:Int)):=by have:=HX.out;omega
    have e:k=m+2:=by omega
    have EE:=hide (show pkX d F P (m+2)=pkX d F P k by rw [e])
    obtain ⟨q0,q1⟩:=box1 PK.out.l
    clear hkg e
    go_wp2
    go_ret
    exact ⟨v,rfl,⟨w.heap.size+1+1,by omega,PK.out.big,by first | (rw [EE.out];exact PK.out.o) | (rw [E.out,EE.out];exact PK.out.o)⟩,PK.out.bel⟩
end Go.Proofs.YtdgliimmnnhhjaaGreatDoor
end
