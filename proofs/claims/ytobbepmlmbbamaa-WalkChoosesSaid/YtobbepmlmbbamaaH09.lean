/-
 The texts Xs, Xu, Xv, Xx, Xw, Xy, Ya, Yb, Yc, Ye, Yh, Open.
-/
import Derived.Test.YtobbepmlmbbamaaH08
set_option linter.unusedVariables false
set_option linter.unusedSimpArgs false
section
namespace Go.Proofs.Ytobbepmlmbbamaa
open Go Go.RowKit
attribute [local go_sem ↓] Go.wp_at_zero Go.wp_at_succ
theorem near_i (d:Pl.Dg)(F P:List Nat)(A B L R:Option Addr)(cp cq cl cr m:Nat)(x y:Int)(w:World)(hm:m=4 * d.n)(hs:ShAt w A B L R d F P)(hn:d.n≤64)(hx:0≤x∧x<4 * (d.n:Int))(hy:0≤y∧y<4 * (d.n:Int)) :
 Calls Try.prog 114 #[.agg #[.slice A d.n cp,.slice B m cq,.int .i64 d.lp,.slice L m cl,.slice R d.n cr],.int .i64 x,.int .i64 y] w fun e w'=>e = .returned (.bool (nearB F P d x.toNat y.toNat))∧Below w.heap.size w w':=by
 obtain ⟨a,rfl⟩:=Int.eq_ofNat_of_zero_le hx.1
 obtain ⟨b,rfl⟩:=Int.eq_ofNat_of_zero_le hy.1
 exact near_any d F P A B L R cp cq cl cr m a b w hm hs hn (by omega) (by omega)
noncomputable def pkA (d:Pl.Dg)(F P:List Nat)(x y s:Int)(o:Bool):Int:=if Pl.vb (inR d.n ⟨3,x,y,s,o⟩)=true then pkC d F P x y s else 2
noncomputable def pkS (d:Pl.Dg)(F P:List Nat)(x y:Int):Nat→List Mv
 | 0=>[]
 | j+1=>pkS d F P x y j++(one (pkA d F P x y ((j:Int) - 1) false) ⟨3,x,y,(j:Int) - 1,false⟩++one (pkA d F P x y ((j:Int) - 1) true) ⟨3,x,y,(j:Int) - 1,true⟩)
noncomputable def pkY (d:Pl.Dg)(F P:List Nat)(x:Int):Nat→List Mv
 | 0=>[]
 | k+1=>pkY d F P x k++pkS d F P x ((k:Int) - 2) 3
noncomputable def pkX (d:Pl.Dg)(F P:List Nat):Nat→List Mv
 | 0=>[]
 | k+1=>pkX d F P k++pkY d F P ((k:Int) - 2) (4 * d.n+2)
theorem pkS_len (d:Pl.Dg)(F P:List Nat)(x y:Int):∀k,(pkS d F P x y k).length≤2 * k
 | 0=>Nat.le_refl _
 | j + 1 => by
   have a:=pkS_len d F P x y j
   have b:=one_len (pkA d F P x y ((j:Int) - 1) false) ⟨3,x,y,(j:Int) - 1,false⟩
   have c:=one_len (pkA d F P x y ((j:Int) - 1) true) ⟨3,x,y,(j:Int) - 1,true⟩
   show (pkS d F P x y j++(one (pkA d F P x y ((j:Int) - 1) false) ⟨3,x,y,(j:Int) - 1,false⟩++one (pkA d F P x y ((j:Int) - 1) true) ⟨3,x,y,(j:Int) - 1,true⟩)).length≤_
   rw [List.length_append,List.length_append]
   omega
theorem pkY_len (d:Pl.Dg)(F P:List Nat)(x:Int):∀k,(pkY d F P x k).length≤6 * k
 | 0=>Nat.le_refl _
 | k + 1 => by
   have a:=pkY_len d F P x k
   have b:=pkS_len d F P x ((k:Int) - 2) 3
   show (pkY d F P x k++pkS d F P x ((k:Int) - 2) 3).length≤_
   rw [List.length_append]
   omega
theorem pkX_len {d:Pl.Dg}(hn:d.n≤64)(F P:List Nat):∀k,(pkX d F P k).length≤1548 * k
 | 0=>Nat.le_refl _
 | k + 1 => by
   have a:=pkX_len hn F P k
   have b:=pkY_len d F P ((k:Int) - 2) (4 * d.n+2)
   show (pkX d F P k++pkY d F P ((k:Int) - 2) (4 * d.n+2)).length≤_
   rw [List.length_append]
   omega
theorem pkA_six {d:Pl.Dg}{F P:List Nat}{x y s:Int}{o:Bool}(h:0≤x∧0≤y∧x≠y∧nearB F P d x.toNat y.toNat=false):¬pkA d F P x y s o=0:=by
 unfold pkA
 split
 ·unfold pkC
  split
  ·decide
  ·first | decide | (rw [if_pos h];decide)
 ·decide
theorem pkS_none {d:Pl.Dg}{F P:List Nat}{x y:Int}(h:0≤x∧0≤y∧x≠y∧nearB F P d x.toNat y.toNat=false):∀k,pkS d F P x y k=[]
 | 0=>rfl
 | k + 1 => by
   show pkS d F P x y k++(one (pkA d F P x y ((k:Int) - 1) false) ⟨3,x,y,(k:Int) - 1,false⟩++one (pkA d F P x y ((k:Int) - 1) true) ⟨3,x,y,(k:Int) - 1,true⟩)=[]
   rw [pkS_none h k,one_no (pkA_six h),one_no (pkA_six h)]
   rfl
set_option maxRecDepth 100000 in
set_option maxHeartbeats 4000000 in
theorem pkTry_any (d:Pl.Dg)(hd:Pl.Wf d)(F P:List Nat)(A B L R:Option Addr)(cp cq cl cr m gd gl:Nat)(v:Value)(ms:List Mv)(x y s:Int)(o:Bool)(w0 w:World)(hm:m=4 * d.n)(hs:ShAt w A B L R d F P)(hms:ms.length≤1000000)
 (hp:MG w0 64 gd gl [.slice A d.n cp,.slice B m cq,.int .i64 (d.lp:Int),.slice L m cl,.slice R d.n cr] v ms w) :
 Calls Try.prog 113 #[.agg #[.int .i64 3,.int .i64 x,.int .i64 y,.int .i64 s,.bool o],.pointer (some ⟨gd,0,none⟩),.pointer (some ⟨gl,0,none⟩)] w fun e w'=>e = .returned (.tuple #[])∧∃v',MG w0 64 gd gl [.slice A d.n cp,.slice B m cq,.int .i64 (d.lp:Int),.slice L m cl,.slice R d.n cr] v' (ms++one (pkA d F P x y s o) ⟨3,x,y,s,o⟩) w':=by
 have HM:=hide hm
 have HG:=hide hs
 have hn:=hd.few
 have hlp:=hd.lp
 obtain ⟨cc,hcc⟩:∃c',c'=pkA d F P x y s o:=⟨_,rfl⟩
 have HC:=hide hcc
 have hb0:Below w.heap.size w (w.alloc (.cells #[.int .i64 3,.int .i64 x,.int .i64 y,.int .i64 s,.bool o] 28)):=(Below.refl _ _).alloc (Nat.le_refl _) _
 have HB0:=hide hb0
 have P1:=hide (hp.below hb0)
 have M1:=hide (row_at (W:=w) (g:=w.heap.size) (t:=28) (vs:=[.int .i64 3,.int .i64 x,.int .i64 y,.int .i64 s,.bool o]) rfl)
 have hgl:gl<w.heap.size:=hp.big
 have hgd:gd<gl:=hp.lt
 clear hp hb0 hs hm hcc
 obtain ⟨d0,d1,d2,d3,d4,d5⟩:=box5 P1.out.d
 obtain ⟨e0,e1,e2,e3,e4,e5⟩:=box5 M1.out
 go_enter Try.func113,Try.ntmps113
 go_wp2_with fail
 refine (inRange_3 d.n x y s o _ (by omega)).mono ?_
 rintro e w1 ⟨rfl,hb1⟩
 have P2:=hide (P1.out.below hb1)
 have M2:=hide (M1.out.below hb1)
 have HB1:=hide (HB0.out.trans (hb1.mono HB0.out.size))
 have hs2:w.heap.size<w1.heap.size:=M2.out.lt
 have hs3:gl<w1.heap.size:=by omega
 clear hb1 d0 d1 d2 d3 d4 d5 e0 e1 e2 e3 e4 e5 HB0 P1 M1
 obtain ⟨d0,d1,d2,d3,d4,d5⟩:=box5 P2.out.d
 obtain ⟨e0,e1,e2,e3,e4,e5⟩:=box5 M2.out
 by_cases hI:inR d.n ⟨3,x,y,s,o⟩
 ·rw [Pl.vb_true hI]
  have hxy:(-2≤x∧x<4 * (d.n:Int))∧(-2≤y∧y<4 * (d.n:Int)):=by unfold inR at hI;simp at hI;omega
  have EC:=hide (show pkC d F P x y s=cc by rw [HC.out];unfold pkA;rw [if_pos (Pl.vb_true hI)])
  clear hI
  go_wp2_with fail
  refine (pokeable_any d F P A B L R cp cq cl cr m 3 x y s o _ HM.out (HG.out.keep HB1.out) hn hlp hxy.1 hxy.2).mono ?_
  rintro e w3 ⟨rfl,hb3⟩
  have P3:=hide (P2.out.below hb3)
  have M3:=hide (M2.out.below hb3)
  have hs4:w.heap.size<w3.heap.size:=M3.out.lt
  have hs5:gl<w3.heap.size:=by omega
  rw [EC.out]
  clear hb3 d0 d1 d2 d3 d4 d5 e0 e1 e2 e3 e4 e5 HB1 P2 M2 hxy
  obtain ⟨e0,e1,e2,e3,e4,e5⟩:=box5 M3.out
  by_cases h0:cc=0
  ·have E:=hide (show one cc ⟨3,x,y,s,o⟩=[⟨3,x,y,s,o⟩] from one_yes h0)
   have t1:(cc == 0)=true:=by rw [beq_iff_eq];exact h0
   clear h0
   obtain ⟨q0,q1⟩:=box1 P3.out.l
   obtain ⟨n0,hn0,hz0,hz1,hz2⟩:=info_parts moveInfo
   have A0:=hide (P3.out.alloc (.cells (Mv.cells ⟨3,x,y,s,o⟩).toArray 28)).o
   have A1:∀u ∈ Mv.cells ⟨3,x,y,s,o⟩,u.oneCell'=true:=by simp [Mv.cells,Value.oneCell']
   have A2:ms.length+1≤maxLen:=by unfold maxLen;omega
   have A3:(ms.length+1) * 40≤140737488355328:=by omega
   have A6:=hide (five_news w3 w3.heap.size rfl ⟨3,x,y,s,o⟩)
   go_wp2_with (at_builtin;refine wpList_append_lies _ (by rfl) _ _ 31 (by rfl) (gl+1) 28 n0 (.agg #[.int .i64 0,.int .i64 0,.int .i64 0,.int .i64 0,.bool false]) 5 40 Try.underlying31 hn0 hz0 hz1 hz2 rfl (by omega) v ms.length (mvs ms) (by rfl) A0.out ⟨w3.heap.size,0,none⟩ 1 1 (Mv.cells ⟨3,x,y,s,o⟩) (by rfl) (by rfl) A6.out A1 (by omega) A2 A3 (by simp;omega) (w3.heap.size+1) (by simp) ?_;intro g2 c2 w2 own2 grow2 at2 lt2;obtain ⟨q2,q3⟩:=box1 ((P3.out.alloc (.cells (Mv.cells ⟨3,x,y,s,o⟩).toArray 28)).l.grown grow2 ((P3.out.alloc (.cells (Mv.cells ⟨3,x,y,s,o⟩).toArray 28)).far (Nat.le_refl _)));have OWN2:=hide own2;have GR2:=hide grow2;clear own2 grow2 at2)
   refine bodyPost_end (results_none rfl _ _ _) rfl ⟨rfl,.slice (some ⟨g2,0,none⟩) (ms.length+1) c2,?_⟩
   rw [←HC.out,E.out]
   exact (P3.out.alloc _).push OWN2.out GR2.out
  ·have E:=hide (show one cc ⟨3,x,y,s,o⟩=[] from one_no h0)
   have t1:(cc == 0)=false:=by rw [beq_eq_false_iff_ne];exact h0
   clear h0
   go_wp2
   refine bodyPost_end (results_none rfl _ _ _) rfl ⟨rfl,v,?_⟩
   rw [←HC.out,E.out,List.append_nil]
   exact P3.out
 ·rw [Pl.vb_false hI]
  have E:=hide (show one cc ⟨3,x,y,s,o⟩=[] from one_no (by
   rw [HC.out]
   unfold pkA
   rw [Pl.vb_false hI,if_neg (by decide)]
   decide))
  clear hI
  go_wp2
  refine bodyPost_end (results_none rfl _ _ _) rfl ⟨rfl,v,?_⟩
  rw [←HC.out,E.out,List.append_nil]
  exact P2.out
set_option maxRecDepth 100000 in
set_option maxHeartbeats 8000000 in
theorem pokes_any (d:Pl.Dg)(hd:Pl.Wf d)(F P:List Nat)(A B L R:Option Addr)(cp cq cl cr m:Nat)(w:World)(hm:m=4 * d.n)(hs:ShAt w A B L R d F P) :
 Calls Try.prog 67 #[.agg #[.slice A d.n cp,.slice B m cq,.int .i64 d.lp,.slice L m cl,.slice R d.n cr]] w fun e w'=>∃v,e = .returned v∧MovesIn w.heap.size w' v (if 64<d.n+2 then [] else pkX d F P (m+2))∧Below w.heap.size w w':=by
 have HM:=hide hm
 have HG:=hide hs
 have hn:=hd.few
 have hm2:m≤256:=by omega
 have D0:=hide (row_at (W:=w) (g:=w.heap.size) (t:=64) (vs:=[.slice A d.n cp,.slice B m cq,.int .i64 (d.lp:Int),.slice L m cl,.slice R d.n cr]) rfl)
 have BB0:=hide (show Below w.heap.size w (w.alloc (.cells #[.slice A d.n cp,.slice B m cq,.int .i64 (d.lp:Int),.slice L m cl,.slice R d.n cr] 64)) from (Below.refl _ _).alloc (Nat.le_refl _) _)
 have P0:=hide (show MG w 64 w.heap.size (w.heap.size+1) [.slice A d.n cp,.slice B m cq,.int .i64 (d.lp:Int),.slice L m cl,.slice R d.n cr] (.slice none 0 0) [] ((w.alloc (.cells #[.slice A d.n cp,.slice B m cq,.int .i64 (d.lp:Int),.slice L m cl,.slice R d.n cr] 64)).alloc (.cells #[.slice none 0 0] 31)) from
  ⟨(row_at (vs:=[_,_,_,_,_]) rfl).alloc _,row_at (vs:=[_]) (by simp),⟨rfl,.inl ⟨rfl,rfl⟩⟩,((Below.refl _ _).alloc (Nat.le_refl _) _).alloc (by simp) _,Nat.le_refl _,by omega⟩)
 clear hs hm
 by_cases hF:(64:Int)<(d.n:Int)+2
 ·have E:=hide (show (if 64<d.n+2 then [] else pkX d F P (m+2))=[] from if_pos (by omega))
  go_enter Try.func67,Try.ntmps67
  go_wp2
  go_ret
  exact ⟨_,rfl,⟨w.heap.size,Nat.le_refl _,by simp,by first | exact ⟨rfl,.inl ⟨rfl,rfl⟩⟩ | (rw [E.out];exact ⟨rfl,.inl ⟨rfl,rfl⟩⟩)⟩,BB0.out⟩
 ·have E:=hide (show (if 64<d.n+2 then [] else pkX d F P (m+2))=pkX d F P (m+2) from if_neg (by omega))
  clear D0 BB0
  go_enter Try.func67,Try.ntmps67
  go_wp2
  go_loopg [5,6,7] (m+2) (fun g s5 s6 s7 wx=>∃(k:Nat) (v:Value),k+g=m+2∧s5 = .int .i64 ((k:Int) - 2)∧MG w 64 w.heap.size (w.heap.size+1) [.slice A d.n cp,.slice B m cq,.int .i64 (d.lp:Int),.slice L m cl,.slice R d.n cr] v (pkX d F P k) wx)
  case atStart=>exact ⟨0,_,by omega,rfl,P0.out⟩
  case round =>
   clear P0
   obtain ⟨k,v,hkg,rfl,hp⟩:=hrel
   obtain ⟨go,rfl⟩:∃go,go=gk:=⟨_,rfl⟩
   have HKG:=hide hkg
   have PK:=hide hp
   have hlen:=pkX_len hn F P k
   obtain ⟨x,hx⟩:∃x:Int,x=(k:Int) - 2:=⟨_,rfl⟩
   have HX:=hide hx
   rw [←hx]
   obtain ⟨d0,d1,d2,d3,d4,d5⟩:=box5 hp.d
   clear hp hx
   by_cases hk:k<m+2
   ·have hki:x<(m:Int):=by have:=HX.out;omega
    have x0:-2≤x:=by have:=HX.out;omega
    have x1:x<4 * (d.n:Int):=by have:=HM.out;omega
    clear hkg
    go_wp2
    go_loopg [6,7] (m+2) (fun g s6 s7 wx=>∃(j:Nat) (u:Value),j+g=m+2∧s6 = .int .i64 ((j:Int) - 2)∧MG w 64 w.heap.size (w.heap.size+1) [.slice A d.n cp,.slice B m cq,.int .i64 (d.lp:Int),.slice L m cl,.slice R d.n cr] u (pkX d F P k++pkY d F P x j) wx)
    case atStart=>exact ⟨0,v,by omega,rfl,by rw [show pkY d F P x 0=[] from rfl,List.append_nil];exact PK.out⟩
    case round =>
     clear PK d0 d1 d2 d3 d4 d5
     obtain ⟨j,u,hjg,rfl,hq⟩:=hrel
     obtain ⟨g1,rfl⟩:∃g1,g1=gk:=⟨_,rfl⟩
     have HJG:=hide hjg
     have QJ:=hide hq
     have hlen2:=pkY_len d F P x j
     obtain ⟨y,hy⟩:∃y:Int,y=(j:Int) - 2:=⟨_,rfl⟩
     have HY:=hide hy
     rw [←hy]
     obtain ⟨d0,d1,d2,d3,d4,d5⟩:=box5 hq.d
     clear hq hy
     by_cases hj:j<m+2
     ·have hji:y<(m:Int):=by have:=HY.out;omega
      have y0:-2≤y:=by have:=HY.out;omega
      have y1:y<4 * (d.n:Int):=by have:=HM.out;omega
      clear hjg
      by_cases cx:0≤x
      ·by_cases cy:0≤y
       ·by_cases cxy:x=y
        ·subst cxy
         go_wp2
         go_loopg [7] 3 (fun g s7 wx=>∃(i:Nat) (u':Value),i+g=3∧s7 = .int .i64 ((i:Int) - 1)∧MG w 64 w.heap.size (w.heap.size+1) [.slice A d.n cp,.slice B m cq,.int .i64 (d.lp:Int),.slice L m cl,.slice R d.n cr] u' (pkX d F P k++pkY d F P x j++pkS d F P x x i) wx)
         case atStart=>exact ⟨0,u,by omega,rfl,by rw [show pkS d F P x x 0=[] from rfl,List.append_nil];exact QJ.out⟩
         case round =>
          clear QJ
          obtain ⟨i,u',hig,rfl,hq⟩:=hrel
          have HIG:=hide hig
          have QI:=hide hq
          have hlen3:=pkS_len d F P x x i
          obtain ⟨s,hs⟩:∃s:Int,s=(i:Int) - 1:=⟨_,rfl⟩
          have HS:=hide hs
          rw [←hs]
          clear hq hs
          by_cases hi:i<3
          ·have s0:-1≤s:=by have:=HS.out;omega
           have s1:s≤1:=by have:=HS.out;omega
           clear hig
           go_wp2_with fail
           refine (pkTry_any d hd F P A B L R cp cq cl cr m _ _ u' _ x x s false w _ HM.out (HG.out.keep QI.out.bel) (by simp only [List.length_append];omega) QI.out).mono ?_
           rintro e w1 ⟨rfl,u1,hp1⟩
           have Q1:=hide hp1
           clear hp1
           go_wp2_with fail
           refine (pkTry_any d hd F P A B L R cp cq cl cr m _ _ u1 _ x x s true w _ HM.out (HG.out.keep Q1.out.bel) (by have:=one_len (pkA d F P x x s false) ⟨3,x,x,s,false⟩;simp only [List.length_append];omega) Q1.out).mono ?_
           rintro e w2 ⟨rfl,u2,hp2⟩
           have Q2:=hide hp2
           clear hp2
           go_wp2
           go_roundg (gk - 1)
           case measure=>have:=HIG.out;omega
           case rel =>
            have e1:s+1=((i+1:Nat):Int) - 1:=by have:=HS.out;omega
            have e2:pkS d F P x x (i+1)=pkS d F P x x i++(one (pkA d F P x x s false) ⟨3,x,x,s,false⟩++one (pkA d F P x x s true) ⟨3,x,x,s,true⟩):=by rw [HS.out];rfl
            exact ⟨i+1,u2,by have:=HIG.out;omega,by rw [e1],by rw [e2];simpa using Q2.out⟩
          ·have s1:¬(s≤1):=by have:=HS.out;omega
           have ei:i=3:=by omega
           have E3:=hide (show pkY d F P x (j+1)=pkY d F P x j++pkS d F P x x i by rw [HY.out,ei];rfl)
           have EY:=hide (show x+1=((j+1:Nat):Int) - 2 by have:=HY.out;omega)
           clear hig ei
           go_wp2
           go_roundg (g1 - 1)
           case measure=>have:=HJG.out;omega
           case rel=>exact ⟨j+1,u',by have:=HJG.out;omega,by rw [EY.out],by rw [E3.out];simpa using QI.out⟩
        ·have t0:(x != y)=true:=by rw [bne_iff_ne];exact cxy
         have CXY:=hide cxy
         clear cxy
         go_wp2_with fail
         refine (near_i d F P A B L R cp cq cl cr m x y _ HM.out (HG.out.keep QJ.out.bel) hn ⟨cx,x1⟩ ⟨cy,y1⟩).mono ?_
         rintro e wn ⟨rfl,hbn⟩
         have QN:=hide (QJ.out.below hbn)
         clear hbn d0 d1 d2 d3 d4 d5 QJ
         obtain ⟨nb,hnb⟩:∃b,b=nearB F P d x.toNat y.toNat:=⟨_,rfl⟩
         rw [←hnb]
         have HNB:=hide hnb
         clear hnb
         cases nb with
         | true =>
           have QJ:=hide QN.out
           clear QN
           go_wp2
           go_loopg [7] 3 (fun g s7 wx=>∃(i:Nat) (u':Value),i+g=3∧s7 = .int .i64 ((i:Int) - 1)∧MG w 64 w.heap.size (w.heap.size+1) [.slice A d.n cp,.slice B m cq,.int .i64 (d.lp:Int),.slice L m cl,.slice R d.n cr] u' (pkX d F P k++pkY d F P x j++pkS d F P x y i) wx)
           case atStart=>exact ⟨0,u,by omega,rfl,by rw [show pkS d F P x y 0=[] from rfl,List.append_nil];exact QJ.out⟩
           case round =>
            clear QJ
            obtain ⟨i,u',hig,rfl,hq⟩:=hrel
            have HIG:=hide hig
            have QI:=hide hq
            have hlen3:=pkS_len d F P x y i
            obtain ⟨s,hs⟩:∃s:Int,s=(i:Int) - 1:=⟨_,rfl⟩
            have HS:=hide hs
            rw [←hs]
            clear hq hs
            by_cases hi:i<3
            ·have s0:-1≤s:=by have:=HS.out;omega
             have s1:s≤1:=by have:=HS.out;omega
             clear hig
             go_wp2_with fail
             refine (pkTry_any d hd F P A B L R cp cq cl cr m _ _ u' _ x y s false w _ HM.out (HG.out.keep QI.out.bel) (by simp only [List.length_append];omega) QI.out).mono ?_
             rintro e w1 ⟨rfl,u1,hp1⟩
             have Q1:=hide hp1
             clear hp1
             go_wp2_with fail
             refine (pkTry_any d hd F P A B L R cp cq cl cr m _ _ u1 _ x y s true w _ HM.out (HG.out.keep Q1.out.bel) (by have:=one_len (pkA d F P x y s false) ⟨3,x,y,s,false⟩;simp only [List.length_append];omega) Q1.out).mono ?_
             rintro e w2 ⟨rfl,u2,hp2⟩
             have Q2:=hide hp2
             clear hp2
             go_wp2
             go_roundg (gk - 1)
             case measure=>have:=HIG.out;omega
             case rel =>
              have e1:s+1=((i+1:Nat):Int) - 1:=by have:=HS.out;omega
              have e2:pkS d F P x y (i+1)=pkS d F P x y i++(one (pkA d F P x y s false) ⟨3,x,y,s,false⟩++one (pkA d F P x y s true) ⟨3,x,y,s,true⟩):=by rw [HS.out];rfl
              exact ⟨i+1,u2,by have:=HIG.out;omega,by rw [e1],by rw [e2];simpa using Q2.out⟩
            ·have s1:¬(s≤1):=by have:=HS.out;omega
             have ei:i=3:=by omega
             have E3:=hide (show pkY d F P x (j+1)=pkY d F P x j++pkS d F P x y i by rw [HY.out,ei];rfl)
             have EY:=hide (show y+1=((j+1:Nat):Int) - 2 by have:=HY.out;omega)
             clear hig ei
             go_wp2
             go_roundg (g1 - 1)
             case measure=>have:=HJG.out;omega
             case rel=>exact ⟨j+1,u',by have:=HJG.out;omega,by rw [EY.out],by rw [E3.out];simpa using QI.out⟩
         | false =>
           have E3:=hide (show pkY d F P x (j+1)=pkY d F P x j by
            show pkY d F P x j++pkS d F P x ((j:Int) - 2) 3=_
            rw [←HY.out,pkS_none ⟨cx,cy,CXY.out,HNB.out.symm⟩,List.append_nil])
           have EY:=hide (show y+1=((j+1:Nat):Int) - 2 by have:=HY.out;omega)
           go_wp2
           go_roundg (g1 - 1)
           case measure=>have:=HJG.out;omega
           case rel=>exact ⟨j+1,u,by have:=HJG.out;omega,by rw [EY.out],by rw [E3.out];exact QN.out⟩
       ·have cy1:y<0:=by omega
        go_wp2
        go_loopg [7] 3 (fun g s7 wx=>∃(i:Nat) (u':Value),i+g=3∧s7 = .int .i64 ((i:Int) - 1)∧MG w 64 w.heap.size (w.heap.size+1) [.slice A d.n cp,.slice B m cq,.int .i64 (d.lp:Int),.slice L m cl,.slice R d.n cr] u' (pkX d F P k++pkY d F P x j++pkS d F P x y i) wx)
        case atStart=>exact ⟨0,u,by omega,rfl,by rw [show pkS d F P x y 0=[] from rfl,List.append_nil];exact QJ.out⟩
        case round =>
         clear QJ
         obtain ⟨i,u',hig,rfl,hq⟩:=hrel
         have HIG:=hide hig
         have QI:=hide hq
         have hlen3:=pkS_len d F P x y i
         obtain ⟨s,hs⟩:∃s:Int,s=(i:Int) - 1:=⟨_,rfl⟩
         have HS:=hide hs
         rw [←hs]
         clear hq hs
         by_cases hi:i<3
         ·have s0:-1≤s:=by have:=HS.out;omega
          have s1:s≤1:=by have:=HS.out;omega
          clear hig
          go_wp2_with fail
          refine (pkTry_any d hd F P A B L R cp cq cl cr m _ _ u' _ x y s false w _ HM.out (HG.out.keep QI.out.bel) (by simp only [List.length_append];omega) QI.out).mono ?_
          rintro e w1 ⟨rfl,u1,hp1⟩
          have Q1:=hide hp1
          clear hp1
          go_wp2_with fail
          refine (pkTry_any d hd F P A B L R cp cq cl cr m _ _ u1 _ x y s true w _ HM.out (HG.out.keep Q1.out.bel) (by have:=one_len (pkA d F P x y s false) ⟨3,x,y,s,false⟩;simp only [List.length_append];omega) Q1.out).mono ?_
          rintro e w2 ⟨rfl,u2,hp2⟩
          have Q2:=hide hp2
          clear hp2
          go_wp2
          go_roundg (gk - 1)
          case measure=>have:=HIG.out;omega
          case rel =>
           have e1:s+1=((i+1:Nat):Int) - 1:=by have:=HS.out;omega
           have e2:pkS d F P x y (i+1)=pkS d F P x y i++(one (pkA d F P x y s false) ⟨3,x,y,s,false⟩++one (pkA d F P x y s true) ⟨3,x,y,s,true⟩):=by rw [HS.out];rfl
           exact ⟨i+1,u2,by have:=HIG.out;omega,by rw [e1],by rw [e2];simpa using Q2.out⟩
         ·have s1:¬(s≤1):=by have:=HS.out;omega
          have ei:i=3:=by omega
          have E3:=hide (show pkY d F P x (j+1)=pkY d F P x j++pkS d F P x y i by rw [HY.out,ei];rfl)
          have EY:=hide (show y+1=((j+1:Nat):Int) - 2 by have:=HY.out;omega)
          clear hig ei
          go_wp2
          go_roundg (g1 - 1)
          case measure=>have:=HJG.out;omega
          case rel=>exact ⟨j+1,u',by have:=HJG.out;omega,by rw [EY.out],by rw [E3.out];simpa using QI.out⟩
      ·have cx1:x<0:=by omega
       go_wp2
       go_loopg [7] 3 (fun g s7 wx=>∃(i:Nat) (u':Value),i+g=3∧s7 = .int .i64 ((i:Int) - 1)∧MG w 64 w.heap.size (w.heap.size+1) [.slice A d.n cp,.slice B m cq,.int .i64 (d.lp:Int),.slice L m cl,.slice R d.n cr] u' (pkX d F P k++pkY d F P x j++pkS d F P x y i) wx)
       case atStart=>exact ⟨0,u,by omega,rfl,by rw [show pkS d F P x y 0=[] from rfl,List.append_nil];exact QJ.out⟩
       case round =>
        clear QJ
        obtain ⟨i,u',hig,rfl,hq⟩:=hrel
        have HIG:=hide hig
        have QI:=hide hq
        have hlen3:=pkS_len d F P x y i
        obtain ⟨s,hs⟩:∃s:Int,s=(i:Int) - 1:=⟨_,rfl⟩
        have HS:=hide hs
        rw [←hs]
        clear hq hs
        by_cases hi:i<3
        ·have s0:-1≤s:=by have:=HS.out;omega
         have s1:s≤1:=by have:=HS.out;omega
         clear hig
         go_wp2_with fail
         refine (pkTry_any d hd F P A B L R cp cq cl cr m _ _ u' _ x y s false w _ HM.out (HG.out.keep QI.out.bel) (by simp only [List.length_append];omega) QI.out).mono ?_
         rintro e w1 ⟨rfl,u1,hp1⟩
         have Q1:=hide hp1
         clear hp1
         go_wp2_with fail
         refine (pkTry_any d hd F P A B L R cp cq cl cr m _ _ u1 _ x y s true w _ HM.out (HG.out.keep Q1.out.bel) (by have:=one_len (pkA d F P x y s false) ⟨3,x,y,s,false⟩;simp only [List.length_append];omega) Q1.out).mono ?_
         rintro e w2 ⟨rfl,u2,hp2⟩
         have Q2:=hide hp2
         clear hp2
         go_wp2
         go_roundg (gk - 1)
         case measure=>have:=HIG.out;omega
         case rel =>
          have e1:s+1=((i+1:Nat):Int) - 1:=by have:=HS.out;omega
          have e2:pkS d F P x y (i+1)=pkS d F P x y i++(one (pkA d F P x y s false) ⟨3,x,y,s,false⟩++one (pkA d F P x y s true) ⟨3,x,y,s,true⟩):=by rw [HS.out];rfl
          exact ⟨i+1,u2,by have:=HIG.out;omega,by rw [e1],by rw [e2];simpa using Q2.out⟩
        ·have s1:¬(s≤1):=by have:=HS.out;omega
         have ei:i=3:=by omega
         have E3:=hide (show pkY d F P x (j+1)=pkY d F P x j++pkS d F P x y i by rw [HY.out,ei];rfl)
         have EY:=hide (show y+1=((j+1:Nat):Int) - 2 by have:=HY.out;omega)
         clear hig ei
         go_wp2
         go_roundg (g1 - 1)
         case measure=>have:=HJG.out;omega
         case rel=>exact ⟨j+1,u',by have:=HJG.out;omega,by rw [EY.out],by rw [E3.out];simpa using QI.out⟩
     ·have hji:¬(y<(m:Int)):=by have:=HY.out;omega
      have ej:j=4 * d.n+2:=by have:=HM.out;omega
      have E2:=hide (show pkX d F P (k+1)=pkX d F P k++pkY d F P x j by rw [HX.out,ej];rfl)
      have EX:=hide (show x+1=((k+1:Nat):Int) - 2 by have:=HX.out;omega)
      clear hjg ej
      go_wp2
      go_roundg (go - 1)
      case measure=>have:=HKG.out;omega
      case rel=>exact ⟨k+1,u,by have:=HKG.out;omega,by rw [EX.out],by rw [E2.out];exact QJ.out⟩
   ·have hki:¬(x<(m:Int)):=by have:=HX.out;omega
    have e:k=m+2:=by omega
    have EE:=hide (show pkX d F P (m+2)=pkX d F P k by rw [e])
    obtain ⟨q0,q1⟩:=box1 PK.out.l
    clear hkg e
    go_wp2
    go_ret
    exact ⟨v,rfl,⟨w.heap.size+1+1,by omega,PK.out.big,by first | (rw [EE.out];exact PK.out.o) | (rw [E.out,EE.out];exact PK.out.o)⟩,PK.out.bel⟩
end Go.Proofs.Ytobbepmlmbbamaa
end
section
namespace Go.Proofs.Ytobbepmlmbbamaa
open Go Go.RowKit
attribute [local go_sem ↓] Go.wp_at_zero Go.wp_at_succ
section
variable {P:Program} (w:World)
def SrcAt (w:World)(A:Option Addr)(m:Nat)(xs:List Value):Prop:=xs.length=m * 5∧(0<m→∃b o,A=some ⟨b,o,none⟩∧∀(j:Nat) u,xs[j]? = some u→w.cell? ⟨b,o+j,none⟩=some u)∧∀u ∈ xs,u.oneCell'=true
theorem mvs_one (ms:List Mv):∀u ∈ mvs ms,u.oneCell'=true:=by
 intro u hu
 unfold mvs at hu
 obtain ⟨m,_,hm⟩:=List.mem_flatMap.1 hu
 simp only [Mv.cells,List.mem_cons,List.not_mem_nil,or_false] at hm
 rcases hm with rfl | rfl | rfl | rfl | rfl <;> rfl
theorem MovesAt.src {w:World}{v:Value}{ms:List Mv}(h:MovesAt w v ms):∃(A:Option Addr) (c:Nat),v = .slice A ms.length c∧SrcAt w A ms.length (mvs ms):=by
 obtain ⟨base,h⟩:=h
 obtain ⟨A,c,rfl⟩:=owns_slice h
 refine ⟨A,c,rfl,h.1,fun hp=>?_,mvs_one ms⟩
 obtain ⟨g,cap,e,_,hg⟩:=World.ownsRow.form h hp
 injection e with e1 _ _
 subst e1
 refine ⟨g,0,rfl,fun j u hu=>?_⟩
 have hj:j<ms.length * 5:=by
  have:=(List.getElem?_eq_some_iff.1 hu).1
  rw [mvs_len] at this
  exact this
 rw [Nat.zero_add,World.ownsRow.cellAt h j hj]
 exact hu
theorem run_append_src (base:Nat)(t ty e:TypeId)(i:TypeInfo)(z:Value)(bytes:Nat)(ht:P.underlying t=some (.slice e))(hi:P.info? e=some i)(hz:i.zero=some z)
 (hsize:i.size=5) (hby:i.bytes=bytes) (hzs:z.cells.size=5)
 (v:Value) (n:Nat) (xs:List Value) (hown:w.ownsRow base e 5 v n xs)
 (A:Option Addr) (m c:Nat) (ys:List Value) (hin:SrcAt w A m ys)
 (h63:n+m≤maxLen) (hbytes:(n+m) * bytes≤140737488355328) (hbase:base≤w.heap.size) :
 ∃v' w',(Builtin.append_ #[t,t] ty #[v,.slice A m c]).run P w = .ok v' w'∧w'.ownsRow base e 5 v' (n+m) (xs++ys)∧w.grownBy w' v.ownBlock:=by
 have hl:=hin.1
 rcases Nat.eq_zero_or_pos m with h0 | h0
 ·subst h0
  obtain rfl:ys=[]:=List.eq_nil_of_length_eq_zero (by omega)
  have hr:(Builtin.append_ #[t,t] ty #[v,.slice A 0 c]).run P w = .ok v w:=by
   rcases hown.2 with ⟨rfl,rfl⟩ | ⟨g,cap,cur,rfl,_,_,hnc,_⟩
   ·cases A <;> simp [Builtin.append_,run_underlying ht,sizeOf,typeInfo,hi,Builtin.lenOf,Builtin.firstCells,loadCells,loadCellsFrom]
   ·cases A <;> simp [Builtin.append_,run_underlying ht,sizeOf,typeInfo,hi,Builtin.lenOf,Builtin.firstCells,hnc,storeCells,loadCells,loadCellsFrom]
  refine ⟨v,w,hr,by simpa using hown,⟨rfl,rfl,rfl,Nat.le_refl _,fun _ _ _=>rfl⟩⟩
 ·obtain ⟨b,o,rfl,hc⟩:=hin.2.1 h0
  obtain ⟨v',w',hr,h2,h3,_⟩:=run_append_own (P:=P) w base t ty e i z 5 bytes ht hi hz hsize hby hzs (by omega) v n xs hown ⟨b,o,none⟩ m c ys hl (fun j u hu=>by
   have:(⟨b,o,none⟩:Addr).add j=⟨b,o+j,none⟩:=by unfold Addr.add;split <;> simp_all
   rw [this];exact hc j u hu) hin.2.2 h63 hbytes hbase
  exact ⟨v',w',hr,h2,h3⟩
theorem wp_append_src {o:Oper}{a:Act}{K:Act→World→Prop}{Q:Exit→Act→World→Prop}(s x:Operand)(t:TypeId)
 (ho:o.op = .call { callee := .builtin .append,args:=#[s,x],argTypes:=#[t,t] })
 (base:Nat) (e:TypeId) (i:TypeInfo) (z:Value) (bytes:Nat) (ht:P.underlying t=some (.slice e)) (hi:P.info? e=some i) (hz:i.zero=some z)
 (hsize:i.size=5) (hby:i.bytes=bytes) (hzs:z.cells.size=5)
 (v:Value) (n:Nat) (xs:List Value) (hs:a.eval s=v) (hown:w.ownsRow base e 5 v n xs)
 (A:Option Addr) (m c:Nat) (ys:List Value) (hx:a.eval x = .slice A m c) (hin:SrcAt w A m ys)
 (h63:n+m≤maxLen) (hbytes:(n+m) * bytes≤140737488355328) (hbase:base≤w.heap.size)
 (h:∀v' w',w'.ownsRow base e 5 v' (n+m) (xs++ys)→w.grownBy w' v.ownBlock→K (a.put o.dst v') w'):o.wp P a w K Q:=by
 obtain ⟨v',w',hr,h2,h3⟩:=run_append_src (P:=P) w base t o.type e i z bytes ht hi hz hsize hby hzs v n xs hown A m c ys hin h63 hbytes hbase
 unfold Oper.wp execOp
 simp only [ho,resolve,invoke,builtin,Sem.run_bind,Sem.run_pure,Result.andThen_ok,List.map_toArray,List.map_cons,List.map_nil,hs,hx,hr]
 exact h v' w' h2 h3
theorem wpList_append_src {ops:Array Oper}{rest:List Oper}{o:Oper}{a:Act}{Q:Exit→Act→World→Prop}(hgd:o.guard=none)(s x:Operand)(t:TypeId)
 (ho:o.op = .call { callee := .builtin .append,args:=#[s,x],argTypes:=#[t,t] })
 (base:Nat) (e:TypeId) (i:TypeInfo) (z:Value) (bytes:Nat) (ht:P.underlying t=some (.slice e)) (hi:P.info? e=some i) (hz:i.zero=some z)
 (hsize:i.size=5) (hby:i.bytes=bytes) (hzs:z.cells.size=5)
 (v:Value) (n:Nat) (xs:List Value) (hs:a.eval s=v) (hown:w.ownsRow base e 5 v n xs)
 (A:Option Addr) (m c:Nat) (ys:List Value) (hx:a.eval x = .slice A m c) (hin:SrcAt w A m ys)
 (h63:n+m≤maxLen) (hbytes:(n+m) * bytes≤140737488355328) (hbase:base≤w.heap.size)
 (h:∀v' w',w'.ownsRow base e 5 v' (n+m) (xs++ys)→w.grownBy w' v.ownBlock→wpList P ops Q rest (a.put o.dst v') w'):wpList P ops Q (o :: rest) a w :=
 wpList_plain hgd fun _ hK=>wp_append_src w s x t ho base e i z bytes ht hi hz hsize hby hzs v n xs hs hown A m c ys hx hin h63 hbytes hbase fun v' w' h2 h3=>hK _ _ (h v' w' h2 h3)
end
def cuN (x:Int):List Mv:=[⟨1,x,0,-1,false⟩,⟨1,x,0,-1,true⟩,⟨1,x,0,1,false⟩,⟨1,x,0,1,true⟩]
def cuC:Nat→List Mv
 | 0=>[]
 | k+1=>cuC k++cuN ((k:Int) - 1)
def unC:Nat→List Mv
 | 0=>[]
 | k+1=>unC k++[⟨2,k,0,0,false⟩]
def pkN (x y:Int):Nat→List Mv
 | 0=>[]
 | j+1=>pkN x y j++[⟨3,x,y,(j:Int) - 1,false⟩,⟨3,x,y,(j:Int) - 1,true⟩]
def pkNY (x:Int):Nat→List Mv
 | 0=>[]
 | k+1=>pkNY x k++pkN x ((k:Int) - 2) 3
def pkNX (n:Nat):Nat→List Mv
 | 0=>[]
 | k+1=>pkNX n k++pkNY ((k:Int) - 2) (4 * n+2)
def upN (x:Nat):Nat→List Mv
 | 0=>[]
 | k+1=>upN x k++(if x<k then [⟨4,x,k,0,false⟩] else [])
def upNX (n:Nat):Nat→List Mv
 | 0=>[]
 | k+1=>upNX n k++upN k n
noncomputable def sel (d:Pl.Dg)(l:List Mv):List Mv:=l.flatMap (fun m=>one (apC d m) m)
theorem sel_nil (d:Pl.Dg):sel d []=[]:=rfl
theorem sel_app (d:Pl.Dg)(l r:List Mv):sel d (l++r)=sel d l++sel d r:=by unfold sel;rw [List.flatMap_append]
theorem sel_cons (d:Pl.Dg)(m:Mv)(l:List Mv):sel d (m :: l)=one (apC d m) m++sel d l:=by unfold sel;rw [List.flatMap_cons]
theorem mem_one {c:Int}{m z:Mv}:z ∈ one c m↔z=m∧c=0:=by
 unfold one
 split
 ·rename_i h;simp [h]
 ·rename_i h;simp [h]
theorem mem_sel {d:Pl.Dg}{l:List Mv}{z:Mv}:z ∈ sel d l↔z ∈ l∧apC d z=0:=by
 unfold sel
 rw [List.mem_flatMap]
 constructor
 ·rintro ⟨m,h1,h2⟩
  obtain ⟨rfl,h3⟩:=mem_one.1 h2
  exact ⟨h1,h3⟩
 ·rintro ⟨h1,h2⟩
  exact ⟨z,h1,mem_one.2 ⟨rfl,h2⟩⟩
theorem sel_len (d:Pl.Dg):∀l,(sel d l).length≤l.length
 | []=>Nat.le_refl _
 | m :: l => by
   have a:=sel_len d l
   have b:=one_len (apC d m) m
   rw [sel_cons,List.length_append,List.length_cons]
   omega
theorem apC_in {d:Pl.Dg}{m:Mv}(hk:1≤m.kind∧m.kind≤5)(hin:inR d.n m):apC d m=if m.kind=1 then curlableC d m.x else if m.kind=2 then uncC d m.x.toNat else if m.kind=3 then pkQ d m.x m.y m.sign else if m.kind=4 then unpC d m.x.toNat m.y.toNat else sldC d m.x.toNat:=by
 unfold apC
 rw [if_neg (by omega),if_neg (by rw [Pl.vb_true hin];decide)]
theorem apC_out {d:Pl.Dg}{m:Mv}(hk:1≤m.kind∧m.kind≤5)(hin:¬inR d.n m):apC d m=2:=by
 unfold apC
 rw [if_neg (by omega),if_pos (Pl.vb_false hin)]
theorem cu_code {d:Pl.Dg}{x s:Int}{o:Bool}(hx:-1≤x∧x<4 * (d.n:Int))(hs:s=1∨s = -1):apC d ⟨1,x,0,s,o⟩=curlableC d x:=by
 rw [apC_in (by simp) (by unfold inR;simp;omega)]
 simp
theorem un_code {d:Pl.Dg}{c:Nat}(hc:c<d.n):apC d ⟨2,c,0,0,false⟩=uncC d c:=by
 rw [apC_in (by simp) (by unfold inR;simp;omega)]
 simp
theorem up_code {d:Pl.Dg}{x y:Nat}(hx:x<y)(hy:y<d.n):apC d ⟨4,x,y,0,false⟩=unpC d x y:=by
 rw [apC_in (by simp) (by unfold inR;simp;omega)]
 simp
theorem pk_code {d:Pl.Dg}{F P:List Nat}(hF:∀x y,x<4 * d.n→y<4 * d.n→(F.getD x 0=F.getD y 0↔Pl.Orb (Pl.nx d) x y))(hP:∀x y,x<d.n→y<d.n→(P.getD x 0=P.getD y 0↔Pl.Comp d x y)){x y s:Int}{o:Bool}(hx:x<4 * d.n)(hy:y<4 * d.n):apC d ⟨3,x,y,s,o⟩=pkA d F P x y s o:=by
 unfold pkA
 by_cases hin:inR d.n ⟨3,x,y,s,o⟩
 ·rw [apC_in (by simp) hin,if_pos (Pl.vb_true hin),pkC_eq hF hP hx hy]
  simp
 ·rw [apC_out (by simp) hin,if_neg (by rw [Pl.vb_false hin];decide)]
theorem cu_sel (d:Pl.Dg):∀k,k≤4 * d.n+1→cuL d k=sel d (cuC k)
 | 0,_=>rfl
 | k + 1, h => by
   show cuL d k++cuX d ((k:Int) - 1)=sel d (cuC k++cuN ((k:Int) - 1))
   rw [sel_app,cu_sel d k (by omega)]
   congr 1
   unfold cuX cuN
   simp only [sel_cons,sel_nil]
   rw [cu_code (by omega) (.inr rfl),cu_code (by omega) (.inr rfl),cu_code (by omega) (.inl rfl),cu_code (by omega) (.inl rfl)]
   simp
theorem un_sel (d:Pl.Dg):∀k,k≤d.n→unL d k=sel d (unC k)
 | 0,_=>rfl
 | k + 1, h => by
   show unL d k++one (uncC d k) ⟨2,k,0,0,false⟩=sel d (unC k++[⟨2,k,0,0,false⟩])
   rw [sel_app,un_sel d k (by omega),sel_cons,sel_nil,un_code (by omega),List.append_nil]
theorem upY_sel (d:Pl.Dg)(x:Nat):∀k,k≤d.n→upY d x k=sel d (upN x k)
 | 0,_=>rfl
 | k + 1, h => by
   show upY d x k++(if x<k then one (unpC d x k) ⟨4,x,k,0,false⟩ else [])=sel d (upN x k++(if x<k then [⟨4,x,k,0,false⟩] else []))
   rw [sel_app,upY_sel d x k (by omega)]
   congr 1
   split
   ·rename_i hx;rw [sel_cons,sel_nil,up_code hx (by omega),List.append_nil]
   ·rfl
theorem up_sel (d:Pl.Dg):∀k,upX d k=sel d (upNX d.n k)
 | 0=>rfl
 | k + 1 => by
   show upX d k++upY d k d.n=sel d (upNX d.n k++upN k d.n)
   rw [sel_app,up_sel d k,upY_sel d k d.n (Nat.le_refl _)]
section
variable {d:Pl.Dg} {F P:List Nat}
theorem pkS_sel (hF:∀x y,x<4 * d.n→y<4 * d.n→(F.getD x 0=F.getD y 0↔Pl.Orb (Pl.nx d) x y))(hP:∀x y,x<d.n→y<d.n→(P.getD x 0=P.getD y 0↔Pl.Comp d x y)){x y:Int}(hx:x<4 * d.n)(hy:y<4 * d.n):∀k,pkS d F P x y k=sel d (pkN x y k)
 | 0=>rfl
 | k + 1 => by
   show pkS d F P x y k++(one (pkA d F P x y ((k:Int) - 1) false) ⟨3,x,y,(k:Int) - 1,false⟩++one (pkA d F P x y ((k:Int) - 1) true) ⟨3,x,y,(k:Int) - 1,true⟩)=sel d (pkN x y k++[⟨3,x,y,(k:Int) - 1,false⟩,⟨3,x,y,(k:Int) - 1,true⟩])
   rw [sel_app,pkS_sel hF hP hx hy k,sel_cons,sel_cons,sel_nil,pk_code hF hP hx hy,pk_code hF hP hx hy,List.append_nil]
theorem pkY_sel (hF:∀x y,x<4 * d.n→y<4 * d.n→(F.getD x 0=F.getD y 0↔Pl.Orb (Pl.nx d) x y))(hP:∀x y,x<d.n→y<d.n→(P.getD x 0=P.getD y 0↔Pl.Comp d x y)){x:Int}(hx:x<4 * d.n):∀k,k≤4 * d.n+2→pkY d F P x k=sel d (pkNY x k)
 | 0,_=>rfl
 | k + 1, h => by
   show pkY d F P x k++pkS d F P x ((k:Int) - 2) 3=sel d (pkNY x k++pkN x ((k:Int) - 2) 3)
   rw [sel_app,pkY_sel hF hP hx k (by omega),pkS_sel hF hP hx (by omega)]
theorem pkX_sel (hF:∀x y,x<4 * d.n→y<4 * d.n→(F.getD x 0=F.getD y 0↔Pl.Orb (Pl.nx d) x y))(hP:∀x y,x<d.n→y<d.n→(P.getD x 0=P.getD y 0↔Pl.Comp d x y)):∀k,k≤4 * d.n+2→pkX d F P k=sel d (pkNX d.n k)
 | 0,_=>rfl
 | k + 1, h => by
   show pkX d F P k++pkY d F P ((k:Int) - 2) (4 * d.n+2)=sel d (pkNX d.n k++pkNY ((k:Int) - 2) (4 * d.n+2))
   rw [sel_app,pkX_sel hF hP k (by omega),pkY_sel hF hP (by omega) _ (Nat.le_refl _)]
end
theorem pkNY_kind {x:Int}:∀{k:Nat} {z:Mv},z ∈ pkNY x k→z.kind=3
 | 0,z,h=>by cases h
 | k + 1, z, h => by
   have h:z ∈ pkNY x k++pkN x ((k:Int) - 2) 3:=h
   rw [List.mem_append] at h
   rcases h with h | h
   ·exact pkNY_kind h
   ·simp only [pkN,List.mem_append,List.mem_cons,List.not_mem_nil,or_false,false_or] at h
    rcases h with ((rfl | rfl) | rfl | rfl) | rfl | rfl <;> rfl
theorem pkNX_kind {n:Nat}:∀{k:Nat} {z:Mv},z ∈ pkNX n k→z.kind=3
 | 0,z,h=>by cases h
 | k + 1, z, h => by
   have h:z ∈ pkNX n k++pkNY ((k:Int) - 2) (4 * n+2):=h
   rw [List.mem_append] at h
   rcases h with h | h
   ·exact pkNX_kind h
   ·exact pkNY_kind h
theorem pk_full {d:Pl.Dg}(h:64<d.n+2)(k:Nat):sel d (pkNX d.n k)=[]:=by
 refine List.eq_nil_iff_forall_not_mem.2 fun z hz=>?_
 obtain ⟨h1,h2⟩:=mem_sel.1 hz
 have hk:=pkNX_kind h1
 by_cases hin:inR d.n z
 ·rw [apC_in (by omega) hin,if_neg (by omega),if_neg (by omega),if_pos hk] at h2
  unfold pkQ at h2
  rw [if_pos h] at h2
  split at h2
  ·cases h2
  ·split at h2 <;> cases h2
 ·rw [apC_out (by omega) hin] at h2
  cases h2
noncomputable def remL (d:Pl.Dg):List Mv:=sel d (unC d.n)++sel d (upNX d.n d.n)
noncomputable def allL (d:Pl.Dg):List Mv:=sel d (cuC (4 * d.n+1))++sel d (unC d.n)++sel d (pkNX d.n (4 * d.n+2))++sel d (upNX d.n d.n)++slL d (4 * d.n)
end Go.Proofs.Ytobbepmlmbbamaa
end
section
namespace Go.Proofs.Ytobbepmlmbbamaa
open Go Go.RowKit
attribute [local go_sem ↓] Go.wp_at_zero Go.wp_at_succ
theorem mvs_apps (ms r:List Mv):mvs (ms++r)=mvs ms++mvs r:=by unfold mvs;rw [List.flatMap_append]
structure AL (w:World) (dv:List Value) (b:Nat) (v:Value) (ms:List Mv) (W:World):Prop where
 d:Row W w.heap.size 24 dv
 o:W.ownsRow b 28 5 v ms.length (mvs ms)
 bel:Below w.heap.size w W
 lo:w.heap.size<b
 lo2:b≤W.heap.size
section
variable {w W W' W2:World} {dv:List Value} {b:Nat} {v v':Value} {ms r:List Mv}
theorem AL.below (h:AL w dv b v ms W)(hb:Below W.heap.size W W'):AL w dv b v ms W' :=
 ⟨h.d.below hb,own_below h.o hb,h.bel.trans (hb.mono h.bel.size),h.lo,Nat.le_trans h.lo2 hb.size⟩
theorem AL.far (h:AL w dv b v ms W):some w.heap.size≠v.ownBlock:=fun e=>by have:=(h.o.lt _ e.symm).1;have:=h.lo;omega
theorem AL.app (h:AL w dv b v ms W)(own:W2.ownsRow b 28 5 v' (ms.length+r.length) (mvs ms++mvs r))(gr:W.grownBy W2 v.ownBlock):AL w dv b v' (ms++r) W2:=by
 refine ⟨h.d.grown gr h.far,?_,h.bel.grown gr h.bel.size (fun k hk=>by have:=(h.o.lt k hk).1;have:=h.lo;omega),h.lo,Nat.le_trans h.lo2 gr.size⟩
 rw [mvs_apps,List.length_append]
 exact own
end
theorem cu_le {d:Pl.Dg}(hn:d.n≤64):(sel d (cuC (4 * d.n+1))).length≤1028:=by
 have a:=cuL_len d (4 * d.n+1)
 rw [cu_sel d _ (Nat.le_refl _)] at a
 omega
theorem un_le {d:Pl.Dg}(hn:d.n≤64):(sel d (unC d.n)).length≤64:=by
 have a:=unL_len d d.n
 rw [un_sel d _ (Nat.le_refl _)] at a
 omega
theorem up_le {d:Pl.Dg}(hn:d.n≤64):(sel d (upNX d.n d.n)).length≤4096:=by
 have a:=upX_len hn d.n
 rw [up_sel d _] at a
 omega
theorem pk_all {d:Pl.Dg}(hn:d.n≤64){F P:List Nat}(hF:∀x y,x<4 * d.n→y<4 * d.n→(F.getD x 0=F.getD y 0↔Pl.Orb (Pl.nx d) x y))(hP:∀x y,x<d.n→y<d.n→(P.getD x 0=P.getD y 0↔Pl.Comp d x y)) :
 (if 64<d.n+2 then [] else pkX d F P (4 * d.n+2))=sel d (pkNX d.n (4 * d.n+2))∧(sel d (pkNX d.n (4 * d.n+2))).length≤399384:=by
 have a:=pkX_len hn F P (4 * d.n+2)
 rw [pkX_sel hF hP _ (Nat.le_refl _)] at a
 refine ⟨?_,by omega⟩
 split
 ·rename_i h
  rw [pk_full h]
 ·exact pkX_sel hF hP _ (Nat.le_refl _)
set_option maxRecDepth 100000 in
set_option maxHeartbeats 8000000 in
theorem All_any (d:Pl.Dg)(hd:Pl.Valid d)(A B:Option Addr)(cp cq m:Nat)(w:World)(hm:m=4 * d.n)(hg:DgAt w A B d) :
 Calls Try.prog 30 #[.agg #[.slice A d.n cp,.slice B m cq,.int .i64 d.lp]] w fun e w'=>∃v,e = .returned v∧MovesIn w.heap.size w' v (allL d)∧Below w.heap.size w w':=by
 have HM:=hide hm
 have HG:=hide hg
 have HW:=hide (Pl.Valid.iff.1 hd).1
 have hn:=hd.wf.few
 clear hg hm
 have R0:=hide (row_at (W:=w) (g:=w.heap.size) (t:=24) (vs:=[.slice A d.n cp,.slice B m cq,.int .i64 (d.lp:Int)]) rfl)
 have B0:=hide (show Below w.heap.size w (w.alloc (.cells #[.slice A d.n cp,.slice B m cq,.int .i64 (d.lp:Int)] 24)) from (Below.refl _ _).alloc (Nat.le_refl _) _)
 go_enter Try.func30,Try.ntmps30
 go_wp2_with fail
 refine (valid_yes d hd A B cp cq m _ HM.out (HG.out.keep B0.out)).mono ?_
 rintro e w1 ⟨rfl,hb1⟩
 have R1:=hide (R0.out.below hb1)
 have B1:=hide (B0.out.trans (hb1.mono B0.out.size))
 clear hb1
 obtain ⟨d0,d1,d2,d3⟩:=box3 R1.out
 go_wp2_with fail
 refine (curls_any d HW.out A B cp cq m _ HM.out (HG.out.keep B1.out)).mono ?_
 rintro e w2 ⟨v2,rfl,⟨b,hlb,hlb2,own2⟩,hb2⟩
 have hw1:w.heap.size<w1.heap.size:=R1.out.lt
 have Q2:=hide (show AL w [.slice A d.n cp,.slice B m cq,.int .i64 (d.lp:Int)] b v2 (sel d (cuC (4 * d.n+1))) w2 from
  ⟨R1.out.below hb2,by rw [HM.out] at own2;rw [cu_sel d _ (Nat.le_refl _)] at own2;exact own2,B1.out.trans (hb2.mono B1.out.size),by omega,hlb2⟩)
 clear hb2 own2 R1 B1 R0 B0 d0 d1 d2 d3
 obtain ⟨d0,d1,d2,d3⟩:=box3 Q2.out.d
 go_wp2_with fail
 refine (uncurls_any d HW.out A B cp cq m _ HM.out (HG.out.keep Q2.out.bel)).mono ?_
 rintro e w3 ⟨v3,rfl,hv3,hb3⟩
 rw [un_sel d _ (Nat.le_refl _)] at hv3
 obtain ⟨A3,c3,rfl,src3⟩:=hv3.at.src
 have Q3:=hide (Q2.out.below hb3)
 have S3:=hide src3
 have lcu:=cu_le (d:=d) hn
 have lun:=un_le (d:=d) hn
 have lup:=up_le (d:=d) hn
 have B3:(sel d (cuC (4 * d.n+1))).length+(sel d (unC d.n)).length≤maxLen:=by unfold maxLen;omega
 have C3:((sel d (cuC (4 * d.n+1))).length+(sel d (unC d.n)).length) * 40≤140737488355328:=by omega
 have D3:b≤w3.heap.size:=Q3.out.lo2
 obtain ⟨n0,hn0,hz0,hz1,hz2⟩:=info_parts moveInfo
 clear hb3 hv3 src3 d0 d1 d2 d3 Q2
 go_wp2_with (at_builtin;refine wpList_append_src _ (by rfl) _ _ 31 (by rfl) b 28 n0 (.agg #[.int .i64 0,.int .i64 0,.int .i64 0,.int .i64 0,.bool false]) 40 Try.underlying31 hn0 hz0 hz1 hz2 rfl v2 _ _ (by rfl) Q3.out.o A3 _ c3 _ (by rfl) S3.out B3 C3 D3 ?_;intro v4 w4 own4 grow4;obtain ⟨d0,d1,d2,d3⟩:=box3 (Q3.out.app own4 grow4).d;have Q4:=hide (Q3.out.app own4 grow4);clear own4 grow4)
 clear Q3 S3 B3 C3 D3
 refine (survey_any d hd A B cp cq m _ HM.out (HG.out.keep Q4.out.bel)).mono ?_
 rintro e w5 ⟨L,R,cl,cr,F,P,he,hsh,hF,hP,hb5⟩
 have Q5:=hide (Q4.out.below hb5)
 have HSH:=hide hsh
 obtain ⟨pe,pl⟩:=pk_all hn hF hP
 have PE:=hide pe
 rw [←HM.out] at he
 unfold sheetV at he
 subst he
 have hb5s:=hb5.size
 clear hb5 hsh hF hP pe d0 d1 d2 d3 Q4
 obtain ⟨d0,d1,d2,d3⟩:=box3 Q5.out.d
 go_wp2_with fail
 refine (pokes_any d HW.out F P A B L R cp cq cl cr m _ HM.out HSH.out).mono ?_
 rintro e w6 ⟨v6,rfl,hv6,hb6⟩
 rw [HM.out,PE.out] at hv6
 obtain ⟨A6,c6,rfl,src6⟩:=hv6.at.src
 have Q6:=hide (Q5.out.below hb6)
 have S6:=hide src6
 have B6:(sel d (cuC (4 * d.n+1))++sel d (unC d.n)).length+(sel d (pkNX d.n (4 * d.n+2))).length≤maxLen:=by unfold maxLen;rw [List.length_append];omega
 have C6:((sel d (cuC (4 * d.n+1))++sel d (unC d.n)).length+(sel d (pkNX d.n (4 * d.n+2))).length) * 40≤140737488355328:=by rw [List.length_append];omega
 have D6:b≤w6.heap.size:=Q6.out.lo2
 clear hb6 hv6 src6 d0 d1 d2 d3 Q5 HSH PE
 go_wp2_with (at_builtin;refine wpList_append_src _ (by rfl) _ _ 31 (by rfl) b 28 n0 (.agg #[.int .i64 0,.int .i64 0,.int .i64 0,.int .i64 0,.bool false]) 40 Try.underlying31 hn0 hz0 hz1 hz2 rfl v4 _ _ (by rfl) Q6.out.o A6 _ c6 _ (by rfl) S6.out B6 C6 D6 ?_;intro v7 w7 own7 grow7;obtain ⟨d0,d1,d2,d3⟩:=box3 (Q6.out.app own7 grow7).d;have Q7:=hide (Q6.out.app own7 grow7);clear own7 grow7)
 clear Q6 S6 B6 C6 D6
 refine (unpokes_any d HW.out A B cp cq m _ HM.out (HG.out.keep Q7.out.bel)).mono ?_
 rintro e w8 ⟨v8,rfl,hv8,hb8⟩
 rw [up_sel] at hv8
 obtain ⟨A8,c8,rfl,src8⟩:=hv8.at.src
 have Q8:=hide (Q7.out.below hb8)
 have S8:=hide src8
 have B8:(sel d (cuC (4 * d.n+1))++sel d (unC d.n)++sel d (pkNX d.n (4 * d.n+2))).length+(sel d (upNX d.n d.n)).length≤maxLen:=by unfold maxLen;simp only [List.length_append];omega
 have C8:((sel d (cuC (4 * d.n+1))++sel d (unC d.n)++sel d (pkNX d.n (4 * d.n+2))).length+(sel d (upNX d.n d.n)).length) * 40≤140737488355328:=by simp only [List.length_append];omega
 have D8:b≤w8.heap.size:=Q8.out.lo2
 clear hb8 hv8 src8 d0 d1 d2 d3 Q7
 go_wp2_with (at_builtin;refine wpList_append_src _ (by rfl) _ _ 31 (by rfl) b 28 n0 (.agg #[.int .i64 0,.int .i64 0,.int .i64 0,.int .i64 0,.bool false]) 40 Try.underlying31 hn0 hz0 hz1 hz2 rfl v7 _ _ (by rfl) Q8.out.o A8 _ c8 _ (by rfl) S8.out B8 C8 D8 ?_;intro v9 w9 own9 grow9;obtain ⟨d0,d1,d2,d3⟩:=box3 (Q8.out.app own9 grow9).d;have Q9:=hide (Q8.out.app own9 grow9);clear own9 grow9)
 clear Q8 S8 B8 C8 D8
 refine (slides_any d HW.out A B cp cq m _ HM.out (HG.out.keep Q9.out.bel)).mono ?_
 rintro e w10 ⟨v10,rfl,hv10,hb10⟩
 rw [HM.out] at hv10
 have lsl:=slL_len d (4 * d.n)
 obtain ⟨A10,c10,rfl,src10⟩:=hv10.src
 have Q10:=hide (Q9.out.below hb10)
 have S10:=hide src10
 have B10:(sel d (cuC (4 * d.n+1))++sel d (unC d.n)++sel d (pkNX d.n (4 * d.n+2))++sel d (upNX d.n d.n)).length+(slL d (4 * d.n)).length≤maxLen:=by unfold maxLen;simp only [List.length_append];omega
 have C10:((sel d (cuC (4 * d.n+1))++sel d (unC d.n)++sel d (pkNX d.n (4 * d.n+2))++sel d (upNX d.n d.n)).length+(slL d (4 * d.n)).length) * 40≤140737488355328:=by simp only [List.length_append];omega
 have D10:b≤w10.heap.size:=Q10.out.lo2
 clear hb10 hv10 src10 d0 d1 d2 d3 Q9
 go_wp2_with (at_builtin;refine wpList_append_src _ (by rfl) _ _ 31 (by rfl) b 28 n0 (.agg #[.int .i64 0,.int .i64 0,.int .i64 0,.int .i64 0,.bool false]) 40 Try.underlying31 hn0 hz0 hz1 hz2 rfl v9 _ _ (by rfl) Q10.out.o A10 _ c10 _ (by rfl) S10.out B10 C10 D10 ?_;intro v11 w11 own11 grow11;obtain ⟨d0,d1,d2,d3⟩:=box3 (Q10.out.app own11 grow11).d;have Q11:=hide (Q10.out.app own11 grow11);clear own11 grow11)
 go_ret
 exact ⟨v11,rfl,⟨b,by have:=Q11.out.lo;omega,Q11.out.lo2,Q11.out.o⟩,Q11.out.bel⟩
end Go.Proofs.Ytobbepmlmbbamaa
end
section
namespace Go.Proofs.Ytobbepmlmbbamaa
open Go Go.RowKit
attribute [local go_sem ↓] Go.wp_at_zero Go.wp_at_succ
theorem mv_get:∀(ms:List Mv) (j:Nat) (z:Mv),ms[j]? = some z→∀(i:Nat) (u:Value),z.cells[i]? = some u→(mvs ms)[j * 5+i]? = some u
 | [],j,z,h,_,_,_=>by cases h
 | m :: ms, 0, z, h, i, u, hu => by
   obtain rfl:m=z:=by simpa using h
   have hi:i<m.cells.length:=(List.getElem?_eq_some_iff.1 hu).1
   show (m.cells++mvs ms)[0 * 5+i]? = some u
   rw [Nat.zero_mul,Nat.zero_add,List.getElem?_append_left hi,hu]
 | m :: ms, j + 1, z, h, i, u, hu => by
   have ih:=mv_get ms j z (by simpa using h) i u hu
   show (m.cells++mvs ms)[(j+1) * 5+i]? = some u
   have e:m.cells.length=5:=rfl
   rw [List.getElem?_append_right (by rw [e];omega),e,←ih]
   congr 1
   omega
theorem mv_val {w:World}{v:Value}{ms:List Mv}(h:MovesAt w v ms):∃(A:Option Addr) (c:Nat),v = .slice A ms.length c∧(0<ms.length→∃g,A=some ⟨g,0,none⟩∧g<w.heap.size∧∀(j:Nat) (z:Mv),ms[j]? = some z→∀(i:Nat) (u:Value),z.cells[i]? = some u→w.cell? ⟨g,j * 5+i,none⟩=some u):=by
 obtain ⟨base,h⟩:=h
 obtain ⟨A,c,rfl⟩:=owns_slice h
 refine ⟨A,c,rfl,fun hp=>?_⟩
 obtain ⟨g,cap,e,_,hg⟩:=World.ownsRow.form h hp
 injection e with e1 _ _
 subst e1
 refine ⟨g,rfl,hg,fun j z hz i u hu=>?_⟩
 have hj:j<ms.length:=(List.getElem?_eq_some_iff.1 hz).1
 have hi:i<5:=(List.getElem?_eq_some_iff.1 hu).1
 rw [World.ownsRow.cellAt h (j * 5+i) (by omega)]
 exact mv_get ms j z hz i u hu
def MovesV (w:World)(A:Option Addr)(n:Nat)(ms:List Mv):Prop:=n=ms.length∧(0<n→∃g,A=some ⟨g,0,none⟩∧g<w.heap.size∧∀(j:Nat) (z:Mv),ms[j]? = some z→∀(i:Nat) (u:Value),z.cells[i]? = some u→w.cell? ⟨g,j * 5+i,none⟩=some u)
theorem MovesV.keep {w w':World}{A:Option Addr}{n:Nat}{ms:List Mv}(h:MovesV w A n ms)(hb:Below w.heap.size w w'):MovesV w' A n ms :=
 ⟨h.1,fun hp=>let ⟨g,e,hl,hc⟩:=h.2 hp;⟨g,e,Nat.lt_of_lt_of_le hl hb.size,fun j z hz i u hu=>cell_below (hc j z hz i u hu) hb⟩⟩
theorem MovesAt.mv {w:World}{v:Value}{ms:List Mv}(h:MovesAt w v ms):∃(A:Option Addr) (c:Nat),v = .slice A ms.length c∧MovesV w A ms.length ms:=by
 obtain ⟨A,c,e,h2⟩:=mv_val h
 exact ⟨A,c,e,rfl,h2⟩
theorem MovesV.at_ {w:World}{A:Option Addr}{n j:Nat}{ms:List Mv}(h:MovesV w A n ms)(hj:j<n):∃g k x y s o,A=some ⟨g,0,none⟩∧g<w.heap.size∧ms[j]? = some ⟨k,x,y,s,o⟩∧w.cell? ⟨g,j * 5,none⟩=some (.int .i64 k)∧w.cell? ⟨g,j * 5+1,none⟩=some (.int .i64 x)∧w.cell? ⟨g,j * 5+2,none⟩=some (.int .i64 y)∧w.cell? ⟨g,j * 5+3,none⟩=some (.int .i64 s)∧w.cell? ⟨g,j * 5+4,none⟩=some (.bool o):=by
 obtain ⟨g,e,hl,hc⟩:=h.2 (by omega)
 obtain ⟨z,hz⟩:∃z,ms[j]? = some z:=⟨_,List.getElem?_eq_getElem (by rw [←h.1];exact hj)⟩
 obtain ⟨k,x,y,s,o⟩:=z
 exact ⟨g,k,x,y,s,o,e,hl,hz,hc j _ hz 0 _ rfl,hc j _ hz 1 _ rfl,hc j _ hz 2 _ rfl,hc j _ hz 3 _ rfl,hc j _ hz 4 _ rfl⟩
end Go.Proofs.Ytobbepmlmbbamaa
end
section
namespace Go.Proofs.Ytobbepmlmbbamaa
open Go Go.RowKit
theorem mem_unC {n:Nat}{z:Mv}:∀k,k≤n→(z ∈ unC k↔z.kind=2∧inR n z∧z.x<(k:Int))
 | 0, _ => by
   constructor
   ·intro h;cases h
   ·rintro ⟨h1,h2,h3⟩
    unfold inR at h2
    rw [if_neg (by omega),if_pos h1] at h2
    omega
 | k + 1, h => by
   show z ∈ unC k++[⟨2,k,0,0,false⟩]↔_
   rw [List.mem_append,mem_unC (n:=n) k (by omega)]
   obtain ⟨zk,zx,zy,zs,zo⟩:=z
   constructor
   ·rintro (⟨h1,h2,h3⟩ | h1)
    ·exact ⟨h1,h2,by simp only at h3 ⊢;omega⟩
    ·simp only [List.mem_cons,List.not_mem_nil,or_false,Mv.mk.injEq] at h1
     obtain ⟨rfl,rfl,rfl,rfl,rfl⟩:=h1
     refine ⟨rfl,?_,by simp only;omega⟩
     unfold inR
     simp
     omega
   ·rintro ⟨h1,h2,h3⟩
    by_cases hx:zx<(k:Int)
    ·exact .inl ⟨h1,h2,hx⟩
    ·right
     unfold inR at h2
     rw [if_neg (by omega),if_pos h1] at h2
     simp only at h1 h2 h3
     simp only [List.mem_cons,List.not_mem_nil,or_false,Mv.mk.injEq]
     exact ⟨h1,by omega,h2.2.2.1,h2.2.2.2.1,h2.2.2.2.2⟩
theorem mem_upN {n x:Nat}{z:Mv}:∀k,k≤n→(z ∈ upN x k↔z.kind=4∧inR n z∧z.x=(x:Int)∧z.y<(k:Int))
 | 0, _ => by
   constructor
   ·intro h;cases h
   ·rintro ⟨h1,h2,h3,h4⟩
    unfold inR at h2
    rw [if_neg (by omega),if_neg (by omega),if_pos h1] at h2
    omega
 | k + 1, h => by
   show z ∈ upN x k++(if x<k then [⟨4,x,k,0,false⟩] else [])↔_
   rw [List.mem_append,mem_upN (n:=n) k (by omega)]
   obtain ⟨zk,zx,zy,zs,zo⟩:=z
   constructor
   ·rintro (⟨h1,h2,h3,h4⟩ | h1)
    ·exact ⟨h1,h2,h3,by simp only at h4 ⊢;omega⟩
    ·split at h1
     ·simp only [List.mem_cons,List.not_mem_nil,or_false,Mv.mk.injEq] at h1
      obtain ⟨rfl,rfl,rfl,rfl,rfl⟩:=h1
      refine ⟨rfl,?_,rfl,by simp only;omega⟩
      unfold inR
      simp
      omega
     ·cases h1
   ·rintro ⟨h1,h2,h3,h4⟩
    by_cases hx:zy<(k:Int)
    ·exact .inl ⟨h1,h2,h3,hx⟩
    ·right
     unfold inR at h2
     rw [if_neg (by omega),if_neg (by omega),if_pos h1] at h2
     simp only at h1 h2 h3 h4
     rw [if_pos (by omega)]
     simp only [List.mem_cons,List.not_mem_nil,or_false,Mv.mk.injEq]
     exact ⟨h1,h3,by omega,h2.2.2.2.1,h2.2.2.2.2⟩
theorem mem_upNX {n:Nat}{z:Mv}:∀k,k≤n→(z ∈ upNX n k↔z.kind=4∧inR n z∧z.x<(k:Int))
 | 0, _ => by
   constructor
   ·intro h;cases h
   ·rintro ⟨h1,h2,h3⟩
    unfold inR at h2
    rw [if_neg (by omega),if_neg (by omega),if_pos h1] at h2
    omega
 | k + 1, h => by
   show z ∈ upNX n k++upN k n↔_
   rw [List.mem_append,mem_upNX (n:=n) k (by omega),mem_upN (n:=n) n (Nat.le_refl _)]
   constructor
   ·rintro (⟨h1,h2,h3⟩ | ⟨h1,h2,h3,h4⟩)
    ·exact ⟨h1,h2,by omega⟩
    ·exact ⟨h1,h2,by omega⟩
   ·rintro ⟨h1,h2,h3⟩
    by_cases hx:z.x<(k:Int)
    ·exact .inl ⟨h1,h2,hx⟩
    ·right
     refine ⟨h1,h2,by omega,?_⟩
     unfold inR at h2
     rw [if_neg (by omega),if_neg (by omega),if_pos h1] at h2
     omega
theorem filter_none {p:Mv→Bool}{l:List Mv}(h:∀z,z ∈ l→p z=false):l.filter p=[]:=by
 rw [List.filter_eq_nil_iff]
 intro z hz
 rw [h z hz]
 decide
theorem filter_every {p:Mv→Bool}{l:List Mv}(h:∀z,z ∈ l→p z=true):l.filter p=l:=List.filter_eq_self.2 h
theorem un_kind {d:Pl.Dg}{z:Mv}(h:z ∈ sel d (unC d.n)):z.kind=2:=((mem_unC _ (Nat.le_refl _)).1 (mem_sel.1 h).1).1
theorem up_kind {d:Pl.Dg}{z:Mv}(h:z ∈ sel d (upNX d.n d.n)):z.kind=4:=((mem_upNX _ (Nat.le_refl _)).1 (mem_sel.1 h).1).1
end Go.Proofs.Ytobbepmlmbbamaa
end
section
namespace Go.Proofs.Ytobbepmlmbbamaa
open Go Go.RowKit
attribute [local go_sem ↓] Go.wp_at_zero Go.wp_at_succ
section
variable {w W W' W2:World} {vR vS:Value} {rs ss:List Mv} {m:Mv} {g n c:Nat}
theorem apart {v u:Value}(ne:∀g,v.ownBlock=some g→u.ownBlock=some g→False):u.ownBlock=none∨u.ownBlock≠v.ownBlock:=by
 cases hu:u.ownBlock with
 | none=>exact .inl rfl
 | some g=>exact .inr (fun e=>ne g e.symm hu)
end
theorem filt_s {L:List Mv}{y:Mv}{q:Nat}(p:Mv→Bool)(h:L[q]? = some y):(L.take (q+1)).filter p=(L.take q).filter p++if p y then [y] else []:=by
 obtain ⟨hq,e⟩:=List.getElem?_eq_some_iff.1 h
 rw [List.take_succ_eq_append_getElem hq,List.filter_append,e]
 simp [List.filter_cons]
theorem filt_len {L:List Mv}(p:Mv→Bool)(q:Nat):((L.take q).filter p).length≤L.length:=by
 have a:=List.length_filter_le p (L.take q)
 have b:(L.take q).length≤L.length:=by rw [List.length_take];omega
 omega
theorem pkN_len (x y:Int):∀k,(pkN x y k).length≤2 * k
 | 0=>Nat.le_refl _
 | k + 1 => by
   have a:=pkN_len x y k
   show (pkN x y k++[_,_]).length≤_
   rw [List.length_append]
   simp only [List.length_cons,List.length_nil]
   omega
theorem pkNY_len (x:Int):∀k,(pkNY x k).length≤6 * k
 | 0=>Nat.le_refl _
 | k + 1 => by
   have a:=pkNY_len x k
   have b:=pkN_len x ((k:Int) - 2) 3
   show (pkNY x k++pkN x ((k:Int) - 2) 3).length≤_
   rw [List.length_append]
   omega
theorem pkNX_len {n:Nat}(hn:n≤64):∀k,(pkNX n k).length≤1548 * k
 | 0=>Nat.le_refl _
 | k + 1 => by
   have a:=pkNX_len hn k
   have b:=pkNY_len ((k:Int) - 2) (4 * n+2)
   show (pkNX n k++pkNY ((k:Int) - 2) (4 * n+2)).length≤_
   rw [List.length_append]
   omega
theorem allL_le {d:Pl.Dg}(hn:d.n≤64):(allL d).length≤500000:=by
 have a:=cu_le (d:=d) hn
 have b:=un_le (d:=d) hn
 have c:=sel_len d (pkNX d.n (4 * d.n+2))
 have c2:=pkNX_len hn (4 * d.n+2)
 have e:=up_le (d:=d) hn
 have f:=slL_len d (4 * d.n)
 unfold allL
 simp only [List.length_append]
 omega
theorem remL_le {d:Pl.Dg}(hn:d.n≤64):(remL d).length≤5000:=by
 have b:=un_le (d:=d) hn
 have e:=up_le (d:=d) hn
 unfold remL
 rw [List.length_append]
 omega
end Go.Proofs.Ytobbepmlmbbamaa
end
section
namespace Go.Proofs.Ytobbepmlmbbamaa
open Go Go.RowKit
attribute [local go_sem ↓] Go.wp_at_zero Go.wp_at_succ
def gro (k:Int):Int:=if k=1 then 1 else if k=2 then -1 else if k=3 then 2 else if k=4 then -2 else 0
def dels (n:Nat)(most:Int)(z:Mv):Bool:=decide (most<n+gro z.kind)
theorem gro_bd (k:Int):-2≤gro k∧gro k≤2:=by unfold gro;(repeat' split) <;> omega
structure CB (W:World) (g1 g2:Nat) (n:Nat) (most:Int):Prop where
 n:Row W g1 3 [.int .i64 (n:Int)]
 m:Row W g2 3 [.int .i64 most]
theorem CB.below {W W':World}{g1 g2 n:Nat}{most:Int}(h:CB W g1 g2 n most)(hb:Below W.heap.size W W'):CB W' g1 g2 n most:=⟨h.n.below hb,h.m.below hb⟩
set_option maxRecDepth 100000 in
set_option maxHeartbeats 4000000 in
theorem del_any (g1 g2 n:Nat)(most k x y s:Int)(o:Bool)(w:World)(h:CB w g1 g2 n most)(hn:n≤64) :
 Calls Try.prog 75 #[.agg #[.int .i64 k,.int .i64 x,.int .i64 y,.int .i64 s,.bool o],.pointer (some ⟨g1,0,none⟩),.pointer (some ⟨g2,0,none⟩)] w fun e w'=>e = .returned (.bool (dels n most ⟨k,x,y,s,o⟩))∧Below w.heap.size w w':=by
 have M1:=hide (row_at (W:=w) (g:=w.heap.size) (t:=28) (vs:=[.int .i64 k,.int .i64 x,.int .i64 y,.int .i64 s,.bool o]) rfl)
 have B1:=hide (show Below w.heap.size w (w.alloc (.cells #[.int .i64 k,.int .i64 x,.int .i64 y,.int .i64 s,.bool o] 28)) from (Below.refl _ _).alloc (Nat.le_refl _) _)
 have H1:=hide (h.below B1.out)
 have hg1:g1<w.heap.size:=h.n.lt
 have hg2:g2<w.heap.size:=h.m.lt
 obtain ⟨n0,n1⟩:=box1 H1.out.n
 obtain ⟨m0,m1⟩:=box1 H1.out.m
 obtain ⟨e0,e1,e2,e3,e4,e5⟩:=box5 M1.out
 clear h
 by_cases k1:k=1
 ·subst k1
  have E:=hide (show dels n most ⟨1,x,y,s,o⟩=decide (most<(n:Int)+1) from rfl)
  go_enter Try.func75,Try.ntmps75
  go_wp2
  go_ret
  exact ⟨by rw [E.out];rfl,B1.out⟩
 ·by_cases k2:k=2
  ·subst k2
   have E:=hide (show dels n most ⟨2,x,y,s,o⟩=decide (most<(n:Int) - 1) from rfl)
   clear k1
   go_enter Try.func75,Try.ntmps75
   go_wp2
   go_ret
   exact ⟨by rw [E.out];rfl,B1.out⟩
  ·by_cases k3:k=3
   ·subst k3
    have E:=hide (show dels n most ⟨3,x,y,s,o⟩=decide (most<(n:Int)+2) from rfl)
    clear k1 k2
    go_enter Try.func75,Try.ntmps75
    go_wp2
    go_ret
    exact ⟨by rw [E.out];rfl,B1.out⟩
   ·by_cases k4:k=4
    ·subst k4
     have E:=hide (show dels n most ⟨4,x,y,s,o⟩=decide (most<(n:Int) - 2) from rfl)
     clear k1 k2 k3
     go_enter Try.func75,Try.ntmps75
     go_wp2
     go_ret
     exact ⟨by rw [E.out];rfl,B1.out⟩
    ·have E := hide (show dels n most ⟨k, x, y, s, o⟩ = decide (most < (n : Int)) by
      unfold dels gro
      simp only [if_neg k1,if_neg k2,if_neg k3,if_neg k4,Int.add_zero])
     have t1:(k == 1)=false:=by rw [beq_eq_false_iff_ne];exact k1
     have t2:(k == 2)=false:=by rw [beq_eq_false_iff_ne];exact k2
     have t3:(k == 3)=false:=by rw [beq_eq_false_iff_ne];exact k3
     have t4:(k == 4)=false:=by rw [beq_eq_false_iff_ne];exact k4
     clear k1 k2 k3 k4
     go_enter Try.func75,Try.ntmps75
     go_wp2
     go_ret
     exact ⟨by rw [E.out];rfl,B1.out⟩
def idxD (p:Mv→Bool):List Mv→Option Nat
 | []=>none
 | z :: l=>if p z then some 0 else (idxD p l).map (·+1)
theorem idxD_none {p:Mv→Bool}:∀{l:List Mv},(∀(j:Nat) (z:Mv),l[j]? = some z→p z=false)→idxD p l=none
 | [],_=>rfl
 | z :: l, h => by
   unfold idxD
   rw [if_neg (by rw [h 0 z rfl];decide),idxD_none (l:=l) (fun j y hy=>h (j+1) y hy)]
   rfl
theorem idxD_some {p:Mv→Bool}:∀{l:List Mv} {q:Nat} {z:Mv},l[q]? = some z→p z=true→(∀(j:Nat) (y:Mv),j<q→l[j]? = some y→p y=false)→idxD p l=some q
 | [],q,z,hz,_,_=>by cases hz
 | y :: l, 0, z, hz, hp, _ => by
   obtain rfl:y=z:=by simpa using hz
   unfold idxD
   rw [if_pos hp]
 | y :: l, q + 1, z, hz, hp, h => by
   unfold idxD
   rw [if_neg (by rw [h 0 y (by omega) rfl];decide),idxD_some (l:=l) (q:=q) (z:=z) hz hp (fun j u hj hu=>h (j+1) u (by omega) hu)]
   rfl
def IdxPost (p:Mv→Bool)(ms:List Mv)(w:World)(e:Ending)(w':World):Prop:=((idxD p ms=none∧e = .returned (.int .i64 (-1)))∨∃i,idxD p ms=some i∧i<ms.length∧e = .returned (.int .i64 (i:Int)))∧Below w.heap.size w w'
set_option maxRecDepth 100000 in
set_option maxHeartbeats 4000000 in
theorem index_any (ms:List Mv)(A:Option Addr)(c g1 g2 n N:Nat)(most:Int)(w:World)(hA:MovesV w A N ms)(h:CB w g1 g2 n most)(hn:n≤64)(hN:N≤1000000) :
 Calls Try.prog 117 #[.slice A N c,.func (.func 75) #[] #[.pointer (some ⟨g1,0,none⟩),.pointer (some ⟨g2,0,none⟩)]] w (IdxPost (dels n most) ms w):=by
 have HA:=hide hA
 have HC:=hide h
 clear hA h
 go_enter Try.func117,Try.ntmps117
 go_wp2
 go_loopg [5,8] N (fun g s5 s8 wx=>∃q:Nat,q+g=N∧s8 = .int .i64 (q:Int)∧(∀(j:Nat) (y:Mv),j<q→ms[j]? = some y→dels n most y=false)∧Below w.heap.size w wx)
 case atStart=>exact ⟨0,by omega,rfl,(fun j y h=>absurd h (by omega)),Below.refl _ _⟩
 case round =>
  obtain ⟨q,hkg,rfl,hno,hb⟩:=hrel
  have HNO:=hide hno
  have HB:=hide hb
  have HKG:=hide hkg
  clear hno hb
  by_cases hq:q<N
  ·have hqi:(q:Int)<(N:Int):=by omega
   have q0:(0:Int)≤(q:Int):=by omega
   obtain ⟨g5,zk,zx,zy,zs,zo,rfl,hgl,hz,c0,c1,c2,c3,c4⟩:=(HA.out.keep HB.out).at_ hq
   have HZ:=hide hz
   clear hz hkg
   go_wp2_with fail
   refine (del_any g1 g2 n most zk zx zy zs zo _ (HC.out.below HB.out) hn).mono ?_
   rintro e w1 ⟨rfl,hb1⟩
   obtain ⟨db,hdb⟩:∃b,b=dels n most ⟨zk,zx,zy,zs,zo⟩:=⟨_,rfl⟩
   rw [←hdb]
   have HD:=hide hdb
   have HB1:=hide (HB.out.trans (hb1.mono HB.out.size))
   clear hdb hb1
   cases db with
   | true =>
     go_wp2
     go_ret
     exact ⟨.inr ⟨q,idxD_some HZ.out HD.out.symm HNO.out,by have:=HA.out.1;omega,rfl⟩,HB1.out⟩
   | false =>
     go_wp2
     go_roundg (gk - 1)
     case measure=>have:=HKG.out;omega
     case rel =>
      refine ⟨q+1,by have:=HKG.out;omega,by go_num,fun j y hj hy=>?_,HB1.out⟩
      rcases Nat.lt_succ_iff_lt_or_eq.1 hj with h | rfl
      ·exact HNO.out j y h hy
      ·rw [HZ.out] at hy
       obtain rfl:=Option.some.inj hy
       exact HD.out.symm
  ·have hqi:¬((q:Int)<(N:Int)):=by omega
   clear hkg
   go_wp2
   go_ret
   refine ⟨.inl ⟨idxD_none fun j z hz=>HNO.out j z ?_ hz,rfl⟩,HB.out⟩
   have:=(List.getElem?_eq_some_iff.1 hz).1
   have:=HA.out.1
   omega
theorem set5 (m:Mv)(r:List Value)(j:Nat)(v:Value):(m.cells++r).set (j+5) v=m.cells++r.set j v:=rfl
theorem mvs_set:∀(R:List Mv) (i:Nat) (z:Mv),i<R.length→(((((mvs R).set (i * 5) (.int .i64 z.kind)).set (i * 5+1) (.int .i64 z.x)).set (i * 5+2) (.int .i64 z.y)).set (i * 5+3) (.int .i64 z.sign)).set (i * 5+4) (.bool z.over)=mvs (R.set i z)
 | [],i,z,h=>absurd h (by simp)
 | m :: R,0,z,_=>rfl
 | m :: R, i + 1, z, h => by
   have ih:=mvs_set R i z (by simpa using h)
   show (((((m.cells++mvs R).set ((i+1) * 5) (.int .i64 z.kind)).set ((i+1) * 5+1) (.int .i64 z.x)).set ((i+1) * 5+2) (.int .i64 z.y)).set ((i+1) * 5+3) (.int .i64 z.sign)).set ((i+1) * 5+4) (.bool z.over)=m.cells++mvs (R.set i z)
   rw [←ih]
   have a0:(i+1) * 5=i * 5+5:=by omega
   have a1:i * 5+5+1=(i * 5+1)+5:=by omega
   have a2:i * 5+5+2=(i * 5+2)+5:=by omega
   have a3:i * 5+5+3=(i * 5+3)+5:=by omega
   have a4:i * 5+5+4=(i * 5+4)+5:=by omega
   rw [a0,a1,a2,a3,a4,set5,set5,set5,set5,set5]
theorem own_moves_set {W:World}{b g n c:Nat}{R:List Mv}(h:W.ownsRow b 28 5 (.slice (some ⟨g,0,none⟩) n c) n (mvs R))(i:Nat)(z:Mv)(hi:i<R.length) :
 (((((W.setCell ⟨g,i * 5,none⟩ (.int .i64 z.kind)).setCell ⟨g,i * 5+1,none⟩ (.int .i64 z.x)).setCell ⟨g,i * 5+2,none⟩ (.int .i64 z.y)).setCell ⟨g,i * 5+3,none⟩ (.int .i64 z.sign)).setCell ⟨g,i * 5+4,none⟩ (.bool z.over)).ownsRow b 28 5 (.slice (some ⟨g,0,none⟩) n c) n (mvs (R.set i z)):=by
 rw [←mvs_set R i z hi]
 exact ((((h.stored _ _).1.stored _ _).1.stored _ _).1.stored _ _).1.stored _ _ |>.1
theorem own_setCells {b g n c:Nat}:∀(vs:List Value) (o:Nat) (W:World) (xs:List Value),W.ownsRow b 28 5 (.slice (some ⟨g,0,none⟩) n c) n xs→∃ys,(W.setCells g o vs).ownsRow b 28 5 (.slice (some ⟨g,0,none⟩) n c) n ys∧ys.take o=xs.take o
 | [],o,W,xs,h=>⟨xs,h,rfl⟩
 | v :: r, o, W, xs, h => by
   obtain ⟨ys,h1,h2⟩:=own_setCells r (o+1) (W.setCell ⟨g,o,none⟩ v) (xs.set o v) (h.stored o v).1
   refine ⟨ys,h1,?_⟩
   have e:(ys.take (o+1)).take o=((xs.set o v).take (o+1)).take o:=by rw [h2]
   rw [List.take_take,List.take_take,Nat.min_eq_left (by omega)] at e
   rw [e,List.take_set_of_le (Nat.le_refl _)]
theorem own_prefix {W:World}{b g n c i:Nat}{xs:List Value}(h:W.ownsRow b 28 5 (.slice (some ⟨g,0,none⟩) n c) n xs)(hi:i≤n):W.ownsRow b 28 5 (.slice (some ⟨g,0,none⟩) i c) i (xs.take (i * 5)):=by
 have hl:=h.1
 rcases h.2 with ⟨h1,_⟩ | ⟨g',cap,cur,h1,h2,h3,h4,h5,h6,h7⟩
 ·cases h1
 ·injection h1 with e1 e2 e3
  injection e1 with e1
  injection e1 with e1
  subst e1 e3
  refine ⟨by rw [List.length_take];omega,.inr ⟨g,c,cur,rfl,h2,h3,by omega,h5,h6,?_⟩⟩
  rw [←h7,List.take_take,Nat.min_eq_left (by omega)]
theorem mvs_take:∀(R:List Mv) (i:Nat),(mvs R).take (i * 5)=mvs (R.take i)
 | [],i=>by simp [mvs]
 | m :: R,0=>by simp [mvs]
 | m :: R, i + 1 => by
   have ih:=mvs_take R i
   show (m.cells++mvs R).take ((i+1) * 5)=m.cells++mvs (R.take i)
   have e:m.cells.length=5:=rfl
   rw [List.take_append,e,show (i+1) * 5 - 5=i * 5 by omega,ih,List.take_of_length_le (by omega)]
theorem below_cells {B g:Nat}{a:World}(hg:B≤g):∀(vs:List Value) (o:Nat) (W:World),Below B a W→Below B a (W.setCells g o vs)
 | [],_,_,h=>h
 | v :: r,o,W,h=>below_cells hg r (o+1) _ (h.setCell (by show B≤g;exact hg) v)
theorem run_clear_moves (w:World)(ty:TypeId)(g o n c:Nat)(hn:0<n)(hc:∀j,j<n * 5→(w.cell? ⟨g,o+j,none⟩).isSome=true)(hf:∀j,j<n * 5→w.frozen? ⟨g,o+j,none⟩=false) :
 ∃vs:List Value,(Builtin.clear_ #[31] ty #[.slice (some ⟨g,o,none⟩) n c]).run Try.prog w = .ok (.tuple #[]) (w.setCells g o vs):=by
 have hzv:(zeroValue 28).run Try.prog w = .ok (.agg #[.int .i64 0,.int .i64 0,.int .i64 0,.int .i64 0,.bool false]) w:=by kernel_rfl
 have hz5:∀i,(#[Value.int .i64 0,.int .i64 0,.int .i64 0,.int .i64 0,.bool false][i % 5]!).oneCell'=true:=by
  intro i
  have:i % 5=0∨i % 5=1∨i % 5=2∨i % 5=3∨i % 5=4:=by omega
  rcases this with h | h | h | h | h <;> rw [h] <;> rfl
 have hst:=run_storeCells_cells (P:=Try.prog) g o (Builtin.zeroCells #[.int .i64 0,.int .i64 0,.int .i64 0,.int .i64 0,.bool false] n).toList 0 w (by simpa [Builtin.zeroCells] using hc) (by simpa [Builtin.zeroCells] using hf) (by
  intro v hv
  simp only [Builtin.zeroCells,Array.toList_map,List.mem_map] at hv
  obtain ⟨i,_,rfl⟩:=hv
  exact hz5 i)
 simp only [Nat.add_zero] at hst
 refine ⟨(Builtin.zeroCells #[.int .i64 0,.int .i64 0,.int .i64 0,.int .i64 0,.bool false] n).toList,?_⟩
 obtain ⟨m,rfl⟩:∃m,n=m+1:=⟨n - 1,by omega⟩
 unfold Builtin.clear_
 simp [run_underlying Try.underlying31,hzv,Value.cells,hst,Result.andThen]
end Go.Proofs.Ytobbepmlmbbamaa
end
section
namespace Go.Proofs.Ytobbepmlmbbamaa
open Go Go.RowKit
attribute [local go_sem ↓] Go.wp_at_zero Go.wp_at_succ
def keepM (n:Nat)(most:Int)(l:List Mv):List Mv:=l.filter (fun z => !dels n most z)
theorem keepM_s {n:Nat}{most:Int}{l:List Mv}{j:Nat}{z:Mv}(h:l[j]? = some z):keepM n most (l.take (j+1))=keepM n most (l.take j)++if dels n most z then [] else [z]:=by
 unfold keepM
 obtain ⟨hq,e⟩:=List.getElem?_eq_some_iff.1 h
 rw [List.take_succ_eq_append_getElem hq,List.filter_append,e]
 cases hd:dels n most z <;> simp [List.filter_cons,hd]
theorem idxD_no {p:Mv→Bool}:∀{l:List Mv},idxD p l=none→∀z,z ∈ l→p z=false
 | [],_,z,h=>by cases h
 | y :: l, h, z, hz => by
   unfold idxD at h
   cases hp:p y with
   | true=>rw [if_pos hp] at h;cases h
   | false =>
     rw [if_neg (by rw [hp];decide)] at h
     have h2:idxD p l=none:=by simpa using h
     rcases List.mem_cons.1 hz with rfl | hz
     ·exact hp
     ·exact idxD_no h2 z hz
theorem idxD_at {p:Mv→Bool}:∀{l:List Mv} {i:Nat},idxD p l=some i→(l.take (i+1)).filter (fun z => !p z)=l.take i
 | [],i,h=>by cases h
 | y :: l, i, h => by
   unfold idxD at h
   cases hp:p y with
   | true =>
     rw [if_pos hp] at h
     obtain rfl:0=i:=by simpa using h
     simp [List.filter_cons,hp]
   | false =>
     rw [if_neg (by rw [hp];decide)] at h
     obtain ⟨k,hk,rfl⟩:=Option.map_eq_some_iff.1 h
     have ih:=idxD_at hk
     rw [List.take_succ_cons,List.filter_cons,if_pos (by rw [hp];rfl),ih,List.take_succ_cons]
theorem keepM_all {n:Nat}{most:Int}{l:List Mv}(h:idxD (dels n most) l=none):keepM n most l=l:=by
 unfold keepM
 refine List.filter_eq_self.2 fun z hz=>?_
 rw [idxD_no h z hz]
 rfl
structure DF (w:World) (B b g N c g1 g2 n:Nat) (most:Int) (ms:List Mv) (j i:Nat) (R:List Mv) (W:World):Prop where
 len:R.length=N
 ij:i<j
 tk:R.take i=keepM n most (ms.take j)
 dr:R.drop j=ms.drop j
 own:W.ownsRow b 28 5 (.slice (some ⟨g,0,none⟩) N c) N (mvs R)
 cb:CB W g1 g2 n most
 bel:Below B w W
 lo:B≤b∧B≤W.heap.size∧g1<b∧g2<b∧b≤g
section
variable {w W W':World} {B b g N c g1 g2 n j i:Nat} {most:Int} {ms R:List Mv}
theorem DF.below (h:DF w B b g N c g1 g2 n most ms j i R W)(hb:Below W.heap.size W W'):DF w B b g N c g1 g2 n most ms j i R W' :=
 ⟨h.len,h.ij,h.tk,h.dr,own_below h.own hb,h.cb.below hb,h.bel.trans (hb.mono h.lo.2.1),h.lo.1,Nat.le_trans h.lo.2.1 hb.size,h.lo.2.2⟩
theorem DF.gone (h:DF w B b g N c g1 g2 n most ms j i R W){z:Mv}(hz:ms[j]? = some z)(hd:dels n most z=true):DF w B b g N c g1 g2 n most ms (j+1) i R W:=by
 refine ⟨h.len,by have:=h.ij;omega,?_,?_,h.own,h.cb,h.bel,h.lo⟩
 ·rw [keepM_s hz,hd,if_pos rfl,List.append_nil];exact h.tk
 ·have e:=congrArg (fun l=>l.drop 1) h.dr
  simpa [List.drop_drop] using e
theorem DF.at_ (h:DF w B b g N c g1 g2 n most ms j i R W){z:Mv}(hz:ms[j]? = some z):R[j]? = some z:=by
 have e:=congrArg (fun l=>l[0]?) h.dr
 simp only [List.getElem?_drop,Nat.add_zero] at e
 rw [e,hz]
theorem row_sets {W:World}{g g':Nat}{t:TypeId}{vs:List Value}(h:Row W g t vs)(hne:g≠g')(a0 a1 a2 a3 a4:Nat)(v0 v1 v2 v3 v4:Value):Row (((((W.setCell ⟨g',a0,none⟩ v0).setCell ⟨g',a1,none⟩ v1).setCell ⟨g',a2,none⟩ v2).setCell ⟨g',a3,none⟩ v3).setCell ⟨g',a4,none⟩ v4) g t vs :=
 ((((h.other hne _).other hne _).other hne _).other hne _).other hne _
theorem DF.kept (h:DF w B b g N c g1 g2 n most ms j i R W){z:Mv}(hz:ms[j]? = some z)(hd:dels n most z=false)(hj:j<N) :
 DF w B b g N c g1 g2 n most ms (j+1) (i+1) (R.set i z) (((((W.setCell ⟨g,i * 5,none⟩ (.int .i64 z.kind)).setCell ⟨g,i * 5+1,none⟩ (.int .i64 z.x)).setCell ⟨g,i * 5+2,none⟩ (.int .i64 z.y)).setCell ⟨g,i * 5+3,none⟩ (.int .i64 z.sign)).setCell ⟨g,i * 5+4,none⟩ (.bool z.over)):=by
 have hij:=h.ij
 have hl:=h.len
 obtain ⟨l1,l2,l3,l4,l5⟩:=h.lo
 refine ⟨by rw [List.length_set];exact hl,by omega,?_,?_,own_moves_set h.own i z (by omega),⟨row_sets h.cb.n (by omega) _ _ _ _ _ _ _ _ _ _,row_sets h.cb.m (by omega) _ _ _ _ _ _ _ _ _ _⟩,?_,l1,by simpa using l2,l3,l4,l5⟩
 ·rw [keepM_s hz,hd,if_neg (by decide),←h.tk,List.take_succ_eq_append_getElem (by rw [List.length_set];omega),List.getElem_set_self,List.take_set_of_le (Nat.le_refl _)]
 ·rw [List.drop_set_of_lt (by omega)]
  have e:=congrArg (fun l=>l.drop 1) h.dr
  simpa [List.drop_drop] using e
 ·exact ((((h.bel.setCell (by show B≤g;omega) _).setCell (by show B≤g;omega) _).setCell (by show B≤g;omega) _).setCell (by show B≤g;omega) _).setCell (by show B≤g;omega) _
end
def DelPost (B b:Nat)(l:List Mv)(w:World)(e:Ending)(w':World):Prop:=∃v,e = .returned v∧w'.ownsRow b 28 5 v l.length (mvs l)∧Below B w w'
theorem own_caps {W:World}{b g n c:Nat}{xs:List Value}(h:W.ownsRow b 28 5 (.slice (some ⟨g,0,none⟩) n c) n xs):n≤c∧c≤maxLen∧b≤g∧g<W.heap.size:=by
 rcases h.2 with ⟨h1,_⟩ | ⟨g',cap,cur,h1,h2,h3,h4,h5,h6,h7⟩
 ·cases h1
 ·injection h1 with e1 e2 e3
  injection e1 with e1
  injection e1 with e1
  subst e1 e3
  exact ⟨h4,h5,h2,lt_of_heap h3⟩
set_option maxRecDepth 100000 in
set_option maxHeartbeats 8000000 in
theorem delete_any (ms:List Mv)(A:Option Addr)(c g1 g2 n N B b:Nat)(most:Int)(w:World)(hA:w.ownsRow b 28 5 (.slice A N c) N (mvs ms))(hlen:N=ms.length)(h:CB w g1 g2 n most)(hn:n≤64)(hN:N≤1000000)(hB:B≤b)(hB2:B≤w.heap.size)(hg1:g1<b)(hg2:g2<b) :
 Calls Try.prog 74 #[.slice A N c,.func (.func 75) #[] #[.pointer (some ⟨g1,0,none⟩),.pointer (some ⟨g2,0,none⟩)]] w (DelPost B b (keepM n most ms) w):=by
 obtain ⟨A',c',e,hMV⟩:=(show MovesAt w (.slice A N c) ms from ⟨b,by rw [hlen] at hA;rw [hlen];exact hA⟩).mv
 injection e with e1 e2 e3
 subst e1 e3
 rw [←hlen] at hMV
 have HMV:=hide hMV
 have HA:=hide hA
 have HC:=hide h
 have HL:=hide hlen
 clear hMV hA h e2 hlen
 go_enter Try.func74,Try.ntmps74
 go_wp2_with fail
 refine (index_any ms A c g1 g2 n N most _ HMV.out HC.out hn hN).mono ?_
 rintro e w1 ⟨hi,hb1⟩
 have O1:=hide (own_below HA.out hb1)
 have C1:=hide (HC.out.below hb1)
 have B1:=hide (hb1.mono hB2)
 have hB3:B≤w1.heap.size:=Nat.le_trans hB2 hb1.size
 clear hb1
 rcases hi with ⟨h0,rfl⟩ | ⟨i0,h0,hi0,rfl⟩
 ·have E:=hide (keepM_all h0)
  clear h0
  go_wp2
  go_ret
  exact ⟨_,rfl,by rw [E.out,←HL.out];exact O1.out,B1.out⟩
 ·have HI0:=hide (idxD_at h0)
  clear h0
  have hNi:i0<N:=by rw [HL.out];exact hi0
  obtain ⟨g,cap,e,_,hgl⟩:=World.ownsRow.form O1.out (by omega)
  injection e with e1 _ e3
  subst e1 e3
  obtain ⟨q1,q2,q3,q4⟩:=own_caps O1.out
  have t1:((i0:Int) == -1)=false:=by rw [beq_eq_false_iff_ne];omega
  clear hi0 hgl
  have D0:=hide (show DF w B b g N c g1 g2 n most ms (i0+1) i0 ms w1 from ⟨HL.out.symm,by omega,HI0.out.symm,rfl,O1.out,C1.out,B1.out,hB,hB3,hg1,hg2,q3⟩)
  clear HMV HA HC HI0 O1 C1 B1
  unfold maxLen at q2
  go_wp2
  go_loopg [5,6,7] (N - (i0+1)) (fun gg s5 s6 s7 wx=>∃(j i:Nat) (R:List Mv),j+gg=N∧s6 = .int .i64 (j:Int)∧s5 = .int .i64 (i:Int)∧DF w B b g N c g1 g2 n most ms j i R wx)
  case atStart=>exact ⟨i0+1,i0,ms,by omega,by go_num,rfl,D0.out⟩
  case round =>
   clear D0 t1
   obtain ⟨j,i,R,hkg,rfl,rfl,hd⟩:=hrel
   have HKG:=hide hkg
   have D1:=hide hd
   have hij:=hd.ij
   have hRl:=hd.len
   clear hkg hd
   by_cases hj:j<N
   ·have hji:(j:Int)<(N:Int):=by omega
    have j0:(0:Int)≤(j:Int):=by omega
    have i00:(0:Int)≤(i:Int):=by omega
    have i01:(i:Int)<(N:Int):=by omega
    obtain ⟨z,hz⟩:∃z,ms[j]? = some z:=⟨_,List.getElem?_eq_getElem (by rw [←HL.out];exact hj)⟩
    obtain ⟨zk,zx,zy,zs,zo⟩:=z
    have HZ:=hide hz
    have hzR:=D1.out.at_ hz
    have cj:∀t u,(Mv.cells ⟨zk,zx,zy,zs,zo⟩)[t]? = some u→wr.cell? ⟨g,j * 5+t,none⟩=some u:=fun t u hu=>by
     have ht:t<5:=(List.getElem?_eq_some_iff.1 hu).1
     rw [World.ownsRow.cellAt D1.out.own (j * 5+t) (by omega)]
     exact mv_get R j _ hzR t u hu
    have c0:=cj 0 _ rfl
    have c1:=cj 1 _ rfl
    have c2:=cj 2 _ rfl
    have c3:=cj 3 _ rfl
    have c4:=cj 4 _ rfl
    simp only [Nat.add_zero] at c0
    have hgl:g<wr.heap.size:=lt_of_cell c0
    have MB:=hide (row_at (W:=wr) (g:=wr.heap.size) (t:=28) (vs:=[.int .i64 zk,.int .i64 zx,.int .i64 zy,.int .i64 zs,.bool zo]) rfl)
    have D2:=hide (D1.out.below ((Below.refl wr.heap.size wr).alloc (Nat.le_refl _) (.cells #[.int .i64 zk,.int .i64 zx,.int .i64 zy,.int .i64 zs,.bool zo] 28)))
    clear hz hzR cj D1
    go_wp2_with fail
    refine (del_any g1 g2 n most zk zx zy zs zo _ D2.out.cb hn).mono ?_
    rintro e w2 ⟨rfl,hb2⟩
    have D3:=hide (D2.out.below hb2)
    have MB2:=hide (MB.out.below hb2)
    obtain ⟨db,hdb⟩:∃d,d=dels n most ⟨zk,zx,zy,zs,zo⟩:=⟨_,rfl⟩
    rw [←hdb]
    have HD:=hide hdb
    have hgl2:wr.heap.size<w2.heap.size:=MB2.out.lt
    have hgl3:g<w2.heap.size:=by omega
    have hne:g≠wr.heap.size:=by omega
    clear hdb hb2 D2 MB c0 c1 c2 c3 c4
    obtain ⟨e0,e1,e2,e3,e4,e5⟩:=box5 MB2.out
    cases db with
    | true =>
      go_wp2
      go_roundg (gk - 1)
      case measure=>have:=HKG.out;omega
      case rel=>exact ⟨j+1,i,R,by have:=HKG.out;omega,by go_num,rfl,D3.out.gone HZ.out HD.out.symm⟩
    | false =>
      obtain ⟨y,hy⟩:∃y,R[i]? = some y:=⟨_,List.getElem?_eq_getElem (by omega)⟩
      obtain ⟨yk,yx,yy,ys,yo⟩:=y
      have ci:∀t u,(Mv.cells ⟨yk,yx,yy,ys,yo⟩)[t]? = some u→w2.cell? ⟨g,i * 5+t,none⟩=some u:=fun t u hu=>by
       have ht:t<5:=(List.getElem?_eq_some_iff.1 hu).1
       rw [World.ownsRow.cellAt D3.out.own (i * 5+t) (by omega)]
       exact mv_get R i _ hy t u hu
      have c0:=ci 0 _ rfl
      have c1:=ci 1 _ rfl
      have c2:=ci 2 _ rfl
      have c3:=ci 3 _ rfl
      have c4:=ci 4 _ rfl
      simp only [Nat.add_zero] at c0
      have hfz:∀o,w2.frozen? ⟨g,o,none⟩=false:=fun o=>World.ownsRow.frozenAt D3.out.own o
      clear ci hy
      go_wp2
      go_roundg (gk - 1)
      case measure=>have:=HKG.out;omega
      case rel =>
       refine ⟨j+1,i+1,R.set i ⟨zk,zx,zy,zs,zo⟩,by have:=HKG.out;omega,by go_num,by go_num,?_⟩
       exact D3.out.kept HZ.out HD.out.symm hj
   ·have hji:¬((j:Int)<(N:Int)):=by omega
    have ej:j=N:=by have:=HKG.out;omega
    have hiN:i<N:=by omega
    obtain ⟨vs,hcl⟩:=run_clear_moves wr 0 g (i * 5) (N - i) (c - i) (by omega) (fun t ht=>by
     rw [World.ownsRow.cellAt D1.out.own (i * 5+t) (by omega)]
     rw [List.getElem?_eq_getElem (by rw [mvs_len];omega)]
     rfl) (fun t ht=>World.ownsRow.frozenAt D1.out.own _)
    have q5:c≤9223372036854775807:=by omega
    have i00:(0:Int)≤(i:Int):=by omega
    have i01:(i:Int)≤(N:Int):=by omega
    have i02:(i:Int)≤(c:Int):=by omega
    have i03:¬(c=i):=by omega
    have i04:(N:Int)≤(c:Int):=by omega
    have HEJ:=hide ej
    clear q2 ej
    go_wp2
    go_ret
    obtain ⟨ys,h1,h2⟩:=own_setCells vs (i * 5) wr (mvs R) D1.out.own
    have h3:=own_prefix h1 (show i≤N by omega)
    have e1:R.take i=keepM n most ms:=by rw [D1.out.tk,HEJ.out,HL.out,List.take_length]
    rw [h2,mvs_take,e1] at h3
    have e2:(keepM n most ms).length=i:=by rw [←e1,List.length_take];omega
    exact ⟨_,rfl,by rw [e2];exact h3,below_cells (by omega) vs _ _ D1.out.bel⟩
end Go.Proofs.Ytobbepmlmbbamaa
end
section
namespace Go.Proofs.Ytobbepmlmbbamaa
open Go Go.RowKit
attribute [local go_sem ↓] Go.wp_at_zero Go.wp_at_succ
noncomputable def chL (d:Pl.Dg)(most:Int):List Mv:=keepM d.n most (allL d)
theorem chL_le {d:Pl.Dg}(hn:d.n≤64)(most:Int):(chL d most).length≤500000:=by
 have a:=allL_le hn
 have b:=List.length_filter_le (fun z => !dels d.n most z) (allL d)
 unfold chL keepM
 omega
set_option maxRecDepth 100000 in
set_option maxHeartbeats 4000000 in
theorem choices_any (d:Pl.Dg)(hd:Pl.Valid d)(A B:Option Addr)(cp cq m:Nat)(most:Int)(w:World)(hm:m=4 * d.n)(hg:DgAt w A B d) :
 Calls Try.prog 40 #[.agg #[.slice A d.n cp,.slice B m cq,.int .i64 d.lp],.int .i64 most] w fun e w'=>∃v,e = .returned v∧MovesIn w.heap.size w' v (chL d most)∧Below w.heap.size w w':=by
 have HM:=hide hm
 have HG:=hide hg
 have hn:=hd.wf.few
 clear hm hg
 have b3:Below w.heap.size w (((w.alloc (.cells #[.slice A d.n cp,.slice B m cq,.int .i64 (d.lp:Int)] 24)).alloc (.cells #[.int .i64 most] 3)).alloc (.cells #[.int .i64 (d.n:Int)] 3)):=(((Below.refl _ _).alloc (Nat.le_refl _) _).alloc (by simp) _).alloc (by simp;omega) _
 have R0:=hide (((row_at (W:=w) (g:=w.heap.size) (t:=24) (vs:=[.slice A d.n cp,.slice B m cq,.int .i64 (d.lp:Int)]) rfl).alloc (.cells #[.int .i64 most] 3)).alloc (.cells #[.int .i64 (d.n:Int)] 3))
 have C0:=hide (show CB (((w.alloc (.cells #[.slice A d.n cp,.slice B m cq,.int .i64 (d.lp:Int)] 24)).alloc (.cells #[.int .i64 most] 3)).alloc (.cells #[.int .i64 (d.n:Int)] 3)) (w.heap.size+1+1) (w.heap.size+1) d.n most from
  ⟨row_at (vs:=[_]) (by simp),(row_at (vs:=[_]) (by simp)).alloc _⟩)
 have B0:=hide b3
 clear b3
 go_enter Try.func40,Try.ntmps40
 go_wp2_with fail
 refine (All_any d hd A B cp cq m _ HM.out (HG.out.keep B0.out)).mono ?_
 rintro e w1 ⟨v,rfl,⟨b,hb,hb2,own⟩,hb1⟩
 have C1:=hide (C0.out.below hb1)
 have B1:=hide (B0.out.trans (hb1.mono B0.out.size))
 have hbig:w.heap.size+1+1<(((w.alloc (.cells #[.slice A d.n cp,.slice B m cq,.int .i64 (d.lp:Int)] 24)).alloc (.cells #[.int .i64 most] 3)).alloc (.cells #[.int .i64 (d.n:Int)] 3)).heap.size:=C0.out.n.lt
 have hs:=hb1.size
 have k1:w.heap.size≤b:=by omega
 have k2:w.heap.size≤w1.heap.size:=by omega
 have k3:w.heap.size+1+1<b:=by omega
 have k4:w.heap.size+1<b:=by omega
 obtain ⟨A5,c5,rfl⟩:=owns_slice own
 have OWN:=hide own
 have lal:=allL_le hn
 obtain ⟨N5,hN5⟩:∃n,n=(allL d).length:=⟨_,rfl⟩
 have O1:=OWN.out
 rw [←hN5] at O1 lal ⊢
 have OWN1:=hide O1
 have HN5:=hide hN5
 clear hb1 hbig hs R0 C0 B0 O1 OWN own hN5 hb
 go_wp2_with fail
 refine (delete_any (allL d) A5 c5 (w.heap.size+1+1) (w.heap.size+1) d.n N5 w.heap.size b most w1 OWN1.out HN5.out C1.out hn (by omega) k1 k2 k3 k4).mono ?_
 rintro e w2 ⟨v,rfl,own2,hb2'⟩
 have O2:=hide own2
 have B2:=hide (B1.out.trans hb2')
 have S2:=hide (show b≤w2.heap.size from by have:=hb2'.size;have:=HN5.out;exact Nat.le_trans hb2 (by have:=hb2'.size;omega))
 clear own2 hb2'
 go_wp2
 go_ret
 exact ⟨_,rfl,⟨b,k1,S2.out,O2.out⟩,B2.out⟩
def chI (c:Int)(n:Nat):Nat:=((c.tmod n+n).tmod n).toNat
theorem chI_v {c:Int}{n:Nat}(hn:0<n):-(n:Int)<c.tmod n∧c.tmod n<n∧(c.tmod n+n).tmod n=(chI c n:Int)∧chI c n<n:=by
 have h1:-(n:Int)<c.tmod n:=by
  have e:=Int.neg_tmod c (n:Int)
  have:=Int.tmod_lt_of_pos (-c) (show (0:Int)<n by omega)
  omega
 have h2:c.tmod n<n:=Int.tmod_lt_of_pos c (by omega)
 have h3:0≤(c.tmod n+n).tmod n:=Int.tmod_nonneg _ (by omega)
 have h4:(c.tmod n+n).tmod n<n:=Int.tmod_lt_of_pos _ (by omega)
 unfold chI
 omega
def ChPost (L:List Mv)(c:Int)(w:World)(e:Ending)(w':World):Prop :=
 (L=[]→e = .returned (.tuple #[nilM,.bool false]))∧(∀z,L[chI c L.length]? = some z→e = .returned (.tuple #[z.v,.bool true]))∧Below w.heap.size w w'
theorem ChPost.split {L:List Mv}{c:Int}{w w':World}{e:Ending}(h:ChPost L c w e w'):(L=[]∧e = .returned (.tuple #[.agg #[.int .i64 0,.int .i64 0,.int .i64 0,.int .i64 0,.bool false],.bool false])∧Below w.heap.size w w')∨∃k x y s o,L[chI c L.length]? = some ⟨k,x,y,s,o⟩∧e = .returned (.tuple #[.agg #[.int .i64 k,.int .i64 x,.int .i64 y,.int .i64 s,.bool o],.bool true])∧Below w.heap.size w w':=by
 rcases Nat.eq_zero_or_pos L.length with h0 | h0
 ·have:=List.eq_nil_of_length_eq_zero h0
  exact .inl ⟨this,h.1 this,h.2.2⟩
 ·obtain ⟨z,hz⟩:∃z,L[chI c L.length]? = some z:=⟨_,List.getElem?_eq_getElem (chI_v h0).2.2.2⟩
  obtain ⟨k,x,y,s,o⟩:=z
  exact .inr ⟨k,x,y,s,o,hz,h.2.1 _ hz,h.2.2⟩
set_option maxRecDepth 100000 in
set_option maxHeartbeats 4000000 in
theorem Choose_any (d:Pl.Dg)(hd:Pl.Valid d)(A B:Option Addr)(cp cq m:Nat)(c most:Int)(w:World)(hm:m=4 * d.n)(hg:DgAt w A B d) :
 Calls Try.prog 16 #[.agg #[.slice A d.n cp,.slice B m cq,.int .i64 d.lp],.int .i64 c,.int .i64 most] w (ChPost (chL d most) c w):=by
 have HM:=hide hm
 have HG:=hide hg
 have hn:=hd.wf.few
 clear hm hg
 have R0:=hide ((row_at (W:=w) (g:=w.heap.size) (t:=24) (vs:=[.slice A d.n cp,.slice B m cq,.int .i64 (d.lp:Int)]) rfl).alloc (.cells #[.int .i64 0,.int .i64 0,.int .i64 0,.int .i64 0,.bool false] 28))
 have M0:=hide (row_at (W:=w.alloc (.cells #[.slice A d.n cp,.slice B m cq,.int .i64 (d.lp:Int)] 24)) (g:=w.heap.size+1) (t:=28) (vs:=[.int .i64 0,.int .i64 0,.int .i64 0,.int .i64 0,.bool false]) (by simp))
 have B0:=hide (show Below w.heap.size w ((w.alloc (.cells #[.slice A d.n cp,.slice B m cq,.int .i64 (d.lp:Int)] 24)).alloc (.cells #[.int .i64 0,.int .i64 0,.int .i64 0,.int .i64 0,.bool false] 28)) from ((Below.refl _ _).alloc (Nat.le_refl _) _).alloc (by simp) _)
 go_enter Try.func16,Try.ntmps16
 go_wp2_with fail
 refine (choices_any d hd A B cp cq m most _ HM.out (HG.out.keep B0.out)).mono ?_
 rintro e w1 ⟨v,rfl,hv,hb1⟩
 have M1:=hide (M0.out.below hb1)
 have B1:=hide (B0.out.trans (hb1.mono B0.out.size))
 obtain ⟨A5,c5,rfl,hV⟩:=hv.at.mv
 have lch:=chL_le hn most
 obtain ⟨L,hL⟩:∃L,L=chL d most:=⟨_,rfl⟩
 rw [←hL] at hV lch ⊢
 obtain ⟨N5,hN5⟩:∃n,n=L.length:=⟨_,rfl⟩
 rw [←hN5] at hV lch ⊢
 have HL:=hide hL
 have HN5:=hide hN5
 have HV:=hide hV
 obtain ⟨m0,m1,m2,m3,m4,m5⟩:=box5 M1.out
 clear hV hv hL hN5 hb1 R0 M0 B0
 by_cases h0:N5=0
 ·subst h0
  have E:=hide (show L=[] from List.eq_nil_of_length_eq_zero HN5.out.symm)
  go_wp2
  refine bodyPost_ret (v := .tuple #[nilM,.bool false]) ?_ rfl ?_
  ·obtain ⟨e0,e1,e2,e3,e4,e5⟩:=box5 (row5 M1.out rfl (.int .i64 0) (.int .i64 0) (.int .i64 0) (.int .i64 0) (.bool false))
   unfold nilM
   simp [results,Try.results16,go_sem,e0,e1,e2,e3,e4]
  ·rw [←HL.out]
   refine ⟨fun _=>rfl,fun z hz=>?_,?_⟩
   ·rw [E.out] at hz;cases hz
   ·exact ((((B1.out.setCell (by show w.heap.size≤w.heap.size+1;omega) _).setCell (by show w.heap.size≤w.heap.size+1;omega) _).setCell (by show w.heap.size≤w.heap.size+1;omega) _).setCell (by show w.heap.size≤w.heap.size+1;omega) _).setCell (by show w.heap.size≤w.heap.size+1;omega) _
 ·obtain ⟨i1,i2,i3,i4⟩:=chI_v (c:=c) (n:=N5) (by omega)
  obtain ⟨r,hr⟩:∃r,r=c.tmod (N5:Int):=⟨_,rfl⟩
  rw [←hr] at i1 i2 i3
  obtain ⟨i,hi⟩:∃i,i=chI c N5:=⟨_,rfl⟩
  rw [←hi] at i3 i4
  have HI:=hide hi
  have n0:(N5:Int)≠0:=by omega
  have hr2:c.tmod (N5:Int)=r:=hr.symm
  have k0:(0:Int)≤(i:Int):=by omega
  have k1:(i:Int)<(N5:Int):=by omega
  have k2:0≤r+(N5:Int):=by omega
  have k3:r+(N5:Int)≤1000000:=by omega
  obtain ⟨g5,zk,zx,zy,zs,zo,rfl,hgl,hz,c0,c1,c2,c3,c4⟩:=HV.out.at_ i4
  have HZ:=hide hz
  have hw1:w.heap.size+1<w1.heap.size:=M1.out.lt
  clear hi hr hz h0
  go_wp2
  refine bodyPost_ret (v := .tuple #[.agg #[.int .i64 zk,.int .i64 zx,.int .i64 zy,.int .i64 zs,.bool zo],.bool true]) ?_ rfl ?_
  ·obtain ⟨e0,e1,e2,e3,e4,e5⟩:=box5 (row5 M1.out rfl (.int .i64 zk) (.int .i64 zx) (.int .i64 zy) (.int .i64 zs) (.bool zo))
   simp [results,Try.results16,go_sem,e0,e1,e2,e3,e4]
  ·rw [←HL.out]
   refine ⟨fun h=>?_,fun z hz=>?_,?_⟩
   ·rw [h] at HZ;cases HZ.out
   ·rw [←HN5.out,←HI.out,HZ.out] at hz
    obtain rfl:=Option.some.inj hz
    rfl
   ·exact ((((B1.out.setCell (by show w.heap.size≤w.heap.size+1;omega) _).setCell (by show w.heap.size≤w.heap.size+1;omega) _).setCell (by show w.heap.size≤w.heap.size+1;omega) _).setCell (by show w.heap.size≤w.heap.size+1;omega) _).setCell (by show w.heap.size≤w.heap.size+1;omega) _
end Go.Proofs.Ytobbepmlmbbamaa
end
section
namespace Go.Proofs.Ytobbepmlmbbamaa
open Go Go.RowKit
attribute [local go_sem ↓] Go.wp_at_zero Go.wp_at_succ
def lone:Pl.Dg:=⟨[],[],1⟩
theorem lone_all:allL lone=[⟨1,-1,0,-1,false⟩,⟨1,-1,0,-1,true⟩,⟨1,-1,0,1,false⟩,⟨1,-1,0,1,true⟩]++sel lone (pkNX 0 2):=by
 have e:sel lone (cuC 1)=[⟨1,-1,0,-1,false⟩,⟨1,-1,0,-1,true⟩,⟨1,-1,0,1,false⟩,⟨1,-1,0,1,true⟩]:=by
  rw [←cu_sel lone 1 (by decide)]
  rfl
 show sel lone (cuC 1)++sel lone []++sel lone (pkNX 0 2)++sel lone []++[]=_
 rw [e]
 simp [sel_nil]
theorem lone_one:chL lone 1=[⟨1,-1,0,-1,false⟩,⟨1,-1,0,-1,true⟩,⟨1,-1,0,1,false⟩,⟨1,-1,0,1,true⟩]:=by
 unfold chL keepM
 rw [lone_all,List.filter_append,filter_none (p:=fun z => !dels lone.n 1 z) (l:=sel lone (pkNX 0 2)) (fun z hz=>by
  have hk:=pkNX_kind (mem_sel.1 hz).1
  unfold dels
  rw [hk]
  rfl)]
 rfl
theorem lone_zero:chL lone 0=[]:=by
 unfold chL keepM
 rw [lone_all,List.filter_append,filter_none (p:=fun z => !dels lone.n 0 z) (l:=sel lone (pkNX 0 2)) (fun z hz=>by
  have hk:=pkNX_kind (mem_sel.1 hz).1
  unfold dels
  rw [hk]
  rfl)]
 rfl
theorem lone_valid:Pl.Valid lone:=valid_empty (by decide)
set_option maxRecDepth 100000 in
set_option maxHeartbeats 4000000 in
theorem awake11 (w:World):Calls Try.prog 14 #[] w fun e w'=>e = .returned (.bool true)∧Below w.heap.size w w':=by
 have R0:=hide (row_at (W:=w) (g:=w.heap.size) (t:=24) (vs:=[.slice none 0 0,.slice none 0 0,.int .i64 1]) rfl)
 have B0:=hide (show Below w.heap.size w (w.alloc (.cells #[.slice none 0 0,.slice none 0 0,.int .i64 1] 24)) from (Below.refl _ _).alloc (Nat.le_refl _) _)
 go_enter Try.func14,Try.ntmps14
 go_wp2_with fail
 refine (Choose_any lone lone_valid none none 0 0 0 5 1 _ rfl (none_at _ 1)).mono ?_
 intro e w1 h1
 rw [lone_one] at h1
 have e1:=h1.2.1 ⟨1,-1,0,-1,true⟩ rfl
 unfold Mv.v at e1
 subst e1
 have R1:=hide (R0.out.below h1.2.2)
 have B1:=hide (B0.out.trans (h1.2.2.mono B0.out.size))
 clear h1 R0 B0
 obtain ⟨d0,d1,d2,d3⟩:=box3 R1.out
 have M1:=hide (row_at (W:=w1) (g:=w1.heap.size) (t:=28) (vs:=[.int .i64 1,.int .i64 (-1),.int .i64 0,.int .i64 (-1),.bool true]) rfl)
 have R2:=hide (R1.out.alloc (.cells #[.int .i64 1,.int .i64 (-1),.int .i64 0,.int .i64 (-1),.bool true] 28))
 have B2:=hide (B1.out.alloc B1.out.size (.cells #[.int .i64 1,.int .i64 (-1),.int .i64 0,.int .i64 (-1),.bool true] 28))
 have hw1:w.heap.size<w1.heap.size:=R1.out.lt
 go_wp2_with fail
 refine (Choose_any lone lone_valid none none 0 0 0 5 0 _ rfl (none_at _ 1)).mono ?_
 intro e w3 h3
 rw [lone_zero] at h3
 have e3:=h3.1 rfl
 unfold nilM at e3
 subst e3
 have M3:=hide (M1.out.below h3.2.2)
 have B3:=hide (B2.out.trans (h3.2.2.mono B2.out.size))
 have hw3:w1.heap.size<w3.heap.size:=M3.out.lt
 clear h3 R1 R2 B1 B2 M1 d0 d1 d2 d3
 obtain ⟨m0,m1,m2,m3,m4,m5⟩:=box5 M3.out
 go_wp2
 go_ret
 exact ⟨rfl,B3.out.alloc B3.out.size _⟩
def grt (n q:Nat)(lp:Int):Bool:=decide (4<n) || decide (20<q) || (decide (4<lp) && decide (lp≤64))
set_option maxRecDepth 100000 in
set_option maxHeartbeats 4000000 in
theorem great_any (A B:Option Addr)(n q cp cq:Nat)(lp:Int)(w:World):Calls Try.prog 15 #[.agg #[.slice A n cp,.slice B q cq,.int .i64 lp]] w fun e w'=>e = .returned (.bool (grt n q lp))∧Below w.heap.size w w':=by
 have B0:=hide (show Below w.heap.size w (w.alloc (.cells #[.slice A n cp,.slice B q cq,.int .i64 lp] 24)) from (Below.refl _ _).alloc (Nat.le_refl _) _)
 by_cases h1:(4:Int)<(n:Int)
 ·have E:=hide (show grt n q lp=true by unfold grt;rw [decide_eq_true (show 4<n by omega)];rfl)
  go_enter Try.func15,Try.ntmps15
  go_wp2
  go_ret
  exact ⟨by rw [E.out];rfl,B0.out⟩
 ·by_cases h2:(20:Int)<(q:Int)
  ·have E:=hide (show grt n q lp=true by unfold grt;rw [decide_eq_false (show ¬4<n by omega),decide_eq_true (show 20<q by omega)];rfl)
   go_enter Try.func15,Try.ntmps15
   go_wp2
   go_ret
   exact ⟨by rw [E.out];rfl,B0.out⟩
  ·by_cases h3:4<lp
   ·by_cases h4:lp≤64
    ·have E:=hide (show grt n q lp=true by unfold grt;rw [decide_eq_false (show ¬4<n by omega),decide_eq_false (show ¬20<q by omega),decide_eq_true h3,decide_eq_true h4];rfl)
     go_enter Try.func15,Try.ntmps15
     go_wp2
     go_ret
     exact ⟨by rw [E.out];rfl,B0.out⟩
    ·have E:=hide (show grt n q lp=false by unfold grt;rw [decide_eq_false (show ¬4<n by omega),decide_eq_false (show ¬20<q by omega),decide_eq_true h3,decide_eq_false h4];rfl)
     go_enter Try.func15,Try.ntmps15
     go_wp2
     go_ret
     exact ⟨by rw [E.out];rfl,B0.out⟩
   ·have E:=hide (show grt n q lp=false by unfold grt;rw [decide_eq_false (show ¬4<n by omega),decide_eq_false (show ¬20<q by omega),decide_eq_false h3];rfl)
    go_enter Try.func15,Try.ntmps15
    go_wp2
    go_ret
    exact ⟨by rw [E.out];rfl,B0.out⟩
end Go.Proofs.Ytobbepmlmbbamaa
end
section
namespace Go.Proofs.Ytobbepmlmbbamaa
open Go Go.RowKit
attribute [local go_sem ↓] Go.wp_at_zero Go.wp_at_succ
structure KL (w:World) (v:Value) (ms:List Mv) (W:World):Prop where
 o:W.ownsRow w.heap.size 28 5 v ms.length (mvs ms)
 bel:Below w.heap.size w W
section
variable {w W W' W2:World} {v v':Value} {ms:List Mv} {m:Mv}
theorem KL.below (h:KL w v ms W)(hb:Below W.heap.size W W'):KL w v ms W':=⟨own_below h.o hb,h.bel.trans (hb.mono h.bel.size)⟩
theorem KL.alloc (h:KL w v ms W)(o:Obj):KL w v ms (W.alloc o):=h.below ((Below.refl _ _).alloc (Nat.le_refl _) o)
theorem KL.push (h:KL w v ms W)(own:W2.ownsRow w.heap.size 28 5 v' (ms.length+1) (mvs ms++m.cells))(gr:W.grownBy W2 v.ownBlock):KL w v' (ms++[m]) W2 :=
 ⟨by rw [mvs_app,List.length_append];exact own,h.bel.grown gr h.bel.size (fun k hk=>(h.o.lt k hk).1)⟩
end
theorem keepM_len (n:Nat)(most:Int)(l:List Mv)(q:Nat):(keepM n most (l.take q)).length≤l.length:=filt_len (fun z => !dels n most z) q
end Go.Proofs.Ytobbepmlmbbamaa
end
section
namespace Go.Proofs.Ytobbepmlmbbamaa
open Go.ChangeShapes Go.WideShapes Go.ChangeAt Go.RowKit Go.Deep
section
variable {H:Type} {enc:TypeId × Value→H} {P:Program} {w:World} {base:Nat} {spare:Nat→Bool} {held:Bool}
theorem post_of_below {f:Func}{s:ChangeSpec}{apart fresh handsOn again:Bool}{W W':World}{args:Array Value}{v:Value}{ds gs:List (DataW H)}{before pa pv:List MemPlace}
 (hW:DataW.Whole enc P f.params.toList s.vars apart W args.toList ds gs before)
 (hres:∀(b:Nat) (sp:Nat→Bool) (hd:Bool),DataW.TrodAll enc P W' b sp hd f.resultTypes.toList (v.resultList f.resultTypes.size) (s.fn H (ds++gs)).results [])
 (hargs:∀sp:Nat→Bool,(∀p ∈ before,sp p.block=true)→DataW.TrodAll enc P W' 0 sp true f.params.toList args.toList (s.fn H (ds++gs)).args pa)
 (hvars:∀sp:Nat→Bool,(∀p ∈ before,sp p.block=true)→DataW.TrodVars enc P W' sp s.vars (s.fn H (ds++gs)).vars pv)
 (hps:before=pa++pv) (hb:Below W.heap.size W W')
 (hok:∀(j:Nat) (t:TypeId) (r:Value),f.resultTypes[j]? = some t→(v.resultList f.resultTypes.size)[j]? = some r→Value.okWide P W' .any 0 t r) :
 s.post enc P f apart fresh handsOn again W args v W':=by
 have hlt:∀p ∈ before,p.block<W.heap.size:=fun p hp=>hW.lt p hp
 have hold:∀p ∈ before,(fun b=>decide (b<W.heap.size)) p.block=true:=fun p hp=>by simpa using hlt p hp
 refine ⟨ds,gs,before,[],pa,pv,hW,hres _ _ _,hargs _ hold,hvars _ hold,World.keptBut_mono (fun p hp=>⟨hp,?_⟩) (hb.frame (· ∈ before)),fun _=>?_⟩
 ·rw [hps,List.mem_append] at hp
  exact Or.inr hp
 ·obtain ⟨_,_,_,_,_,hz,hn⟩:=hW
  refine ⟨hok,_,_,([]++pa)++pv,⟨[]++pa,pv,trodAll_append (hargs _ (fun _ _=>rfl)) (hres _ _ _),hvars _ (fun _ _=>rfl),rfl,?_,?_⟩,?_⟩
  ·intro b off hp
   have hin:MemPlace.cell b off ∈ before:=by rw [hps];simpa using hp
   rw [hb.frozen (hlt _ hin)]
   exact hz b off hin
  ·intro ha
   have:=hn ha
   rw [hps] at this
   simpa using this
  ·intro p hp _
   rw [hps]
   simpa using hp
end
end Go.Proofs.Ytobbepmlmbbamaa
end
