/-
  The texts Ji.
-/
import Derived.Test.YtdgliimmnnhhjaaGreatDoorU35
set_option linter.unusedVariables false
set_option linter.unusedSimpArgs false
section
namespace Go.Proofs.YtdgliimmnnhhjaaGreatDoor
open Go Go.RowKit
attribute [local go_sem ↓] Go.wp_at_zero Go.wp_at_succ
def delZ (n:Nat)(most:Int)(z:Mv):Bool:=decide (z.kind=3) && decide (most<n+2)
set_option maxRecDepth 100000 in
set_option maxHeartbeats 4000000 in
theorem delz_any (g1 g2 n:Nat)(most k x y s:Int)(o:Bool)(w:World)(h:CB w g1 g2 n most)(hn:n≤64) :
 Calls Tryz.prog 41 #[.agg #[.int .i64 k,.int .i64 x,.int .i64 y,.int .i64 s,.bool o],.pointer (some ⟨g1,0,none⟩),.pointer (some ⟨g2,0,none⟩)] w fun e w'=>e = .returned (.bool (delZ n most ⟨k,x,y,s,o⟩))∧Below w.heap.size w w':=by
 have M1:=hide (row_at (W:=w) (g:=w.heap.size) (t:=43) (vs:=[.int .i64 k,.int .i64 x,.int .i64 y,.int .i64 s,.bool o]) rfl)
 have B1:=hide (show Below w.heap.size w (w.alloc (.cells #[.int .i64 k,.int .i64 x,.int .i64 y,.int .i64 s,.bool o] 43)) from (Below.refl _ _).alloc (Nat.le_refl _) _)
 have H1:=hide (h.below B1.out)
 have hg1:g1<w.heap.size:=h.n.lt
 have hg2:g2<w.heap.size:=h.m.lt
 obtain ⟨n0,n1⟩:=box1 H1.out.n
 obtain ⟨m0,m1⟩:=box1 H1.out.m
 obtain ⟨e0,e1,e2,e3,e4,e5⟩:=box5 M1.out
 clear h
 by_cases k3:k=3
 ·subst k3
  have E:=hide (show delZ n most ⟨3,x,y,s,o⟩=decide (most<(n:Int)+2) from rfl)
  go_enter Tryz.func41,Tryz.ntmps41
  go_wp2
  go_ret
  exact ⟨by rw [E.out];rfl,B1.out⟩
 ·have E:=hide (show delZ n most ⟨k,x,y,s,o⟩=false by unfold delZ;simp only [decide_eq_false k3,Bool.false_and])
  have t3:(k == 3)=false:=by rw [beq_eq_false_iff_ne];exact k3
  clear k3
  go_enter Tryz.func41,Tryz.ntmps41
  go_wp2
  go_ret
  exact ⟨by rw [E.out];rfl,B1.out⟩
set_option maxRecDepth 100000 in
set_option maxHeartbeats 4000000 in
theorem indexz_any (ms:List Mv)(A:Option Addr)(c g1 g2 n N:Nat)(most:Int)(w:World)(hA:MovesV w A N ms)(h:CB w g1 g2 n most)(hn:n≤64)(hN:N≤1000000) :
 Calls Tryz.prog 66 #[.slice A N c,.func (.func 41) #[] #[.pointer (some ⟨g1,0,none⟩),.pointer (some ⟨g2,0,none⟩)]] w (IdxPost (delZ n most) ms w):=by
 have HA:=hide hA
 have HC:=hide h
 clear hA h
 go_enter Tryz.func66,Tryz.ntmps66
 go_wp2
 go_loopg [5,8] N (fun g s5 s8 wx=>∃q:Nat,q+g=N∧s8 = .int .i64 (q:Int)∧(∀(j:Nat) (y:Mv),j<q→ms[j]? = some y→delZ n most y=false)∧Below w.heap.size w wx)
 case atStart=>exact ⟨0,by omega,rfl,(fun j y h=>absurd h (by omega)),Below.refl _ _⟩
 case round =>
  obtain ⟨q,hkg,rfl,hno,hb⟩:=hrel
  have HNO:=hide hno
  have HB:=hide hb
  have HKG:=hide hkg
  clear hno hb
  by_cases hq:q<N
  ·have hqi:(q:Int)<(N:Int):=by omega
   have q0:(0:Int)≤(q:Int):=by omega
   obtain ⟨g5,zk,zx,zy,zs,zo,rfl,hgl,hz,c0,c1,c2,c3,c4⟩:=(HA.out.keep HB.out).at_ hq
   have HZ:=hide hz
   clear hz hkg
   go_wp2_with fail
   refine (delz_any g1 g2 n most zk zx zy zs zo _ (HC.out.below HB.out) hn).mono ?_
   rintro e w1 ⟨rfl,hb1⟩
   obtain ⟨db,hdb⟩:∃b,b=delZ n most ⟨zk,zx,zy,zs,zo⟩:=⟨_,rfl⟩
   rw [←hdb]
   have HD:=hide hdb
   have HB1:=hide (HB.out.trans (hb1.mono HB.out.size))
   clear hdb hb1
   cases db with
   | true =>
     go_wp2
     go_ret
     exact ⟨.inr ⟨q,idxD_some HZ.out HD.out.symm HNO.out,by have:=HA.out.1;omega,rfl⟩,HB1.out⟩
   | false =>
     go_wp2
     go_roundg (gk - 1)
     case measure=>have:=HKG.out;omega
     case rel =>
      refine ⟨q+1,by have:=HKG.out;omega,by go_num,fun j y hj hy=>?_,HB1.out⟩
      rcases Nat.lt_succ_iff_lt_or_eq.1 hj with h | rfl
      ·exact HNO.out j y h hy
      ·rw [HZ.out] at hy
       obtain rfl:=Option.some.inj hy
       exact HD.out.symm
  ·have hqi:¬((q:Int)<(N:Int)):=by omega
   clear hkg
   go_wp2
   go_ret
   refine ⟨.inl ⟨idxD_none fun j z hz=>HNO.out j z ?_ hz,rfl⟩,HB.out⟩
   have:=(List.getElem?_eq_some_iff.1 hz).1
   have:=HA.out.1
   omega
def keepZ (n:Nat)(most:Int)(l:List Mv):List Mv:=l.filter (fun z => !delZ n most z)
theorem keepZ_s {n:Nat}{most:Int}{l:List Mv}{j:Nat}{z:Mv}(h:l[j]? = some z):keepZ n most (l.take (j+1))=keepZ n most (l.take j)++if delZ n most z then [] else [z]:=by
 unfold keepZ
 obtain ⟨hq,e⟩:=List.getElem?_eq_some_iff.1 h
 rw [List.take_succ_eq_append_getElem hq,List.filter_append,e]
 cases hd:delZ n most z <;> simp [List.filter_cons,hd]
theorem keepZ_all {n:Nat}{most:Int}{l:List Mv}(h:idxD (delZ n most) l=none):keepZ n most l=l:=by
 unfold keepZ
 refine List.filter_eq_self.2 fun z hz=>?_
 rw [idxD_no h z hz]
 rfl
structure DZ (w:World) (B b g N c g1 g2 n:Nat) (most:Int) (ms:List Mv) (j i:Nat) (R:List Mv) (W:World):Prop where
 len:R.length=N
 ij:i<j
 tk:R.take i=keepZ n most (ms.take j)
 dr:R.drop j=ms.drop j
 own:W.ownsRow b 43 5 (.slice (some ⟨g,0,none⟩) N c) N (mvs R)
 cb:CB W g1 g2 n most
 bel:Below B w W
 lo:B≤b∧B≤W.heap.size∧g1<b∧g2<b∧b≤g
section
variable {w W W':World} {B b g N c g1 g2 n j i:Nat} {most:Int} {ms R:List Mv}
theorem DZ.below (h:DZ w B b g N c g1 g2 n most ms j i R W)(hb:Below W.heap.size W W'):DZ w B b g N c g1 g2 n most ms j i R W' :=
 ⟨h.len,h.ij,h.tk,h.dr,own_below h.own hb,h.cb.below hb,h.bel.trans (hb.mono h.lo.2.1),h.lo.1,Nat.le_trans h.lo.2.1 hb.size,h.lo.2.2⟩
theorem DZ.gone (h:DZ w B b g N c g1 g2 n most ms j i R W){z:Mv}(hz:ms[j]? = some z)(hd:delZ n most z=true):DZ w B b g N c g1 g2 n most ms (j+1) i R W:=by
 refine ⟨h.len,by have:=h.ij;omega,?_,?_,h.own,h.cb,h.bel,h.lo⟩
 ·rw [keepZ_s hz,hd,if_pos rfl,List.append_nil];exact h.tk
 ·have e:=congrArg (fun l=>l.drop 1) h.dr
  simpa [List.drop_drop] using e
theorem DZ.at_ (h:DZ w B b g N c g1 g2 n most ms j i R W){z:Mv}(hz:ms[j]? = some z):R[j]? = some z:=by
 have e:=congrArg (fun l=>l[0]?) h.dr
 simp only [List.getElem?_drop,Nat.add_zero] at e
 rw [e,hz]
theorem DZ.kept (h:DZ w B b g N c g1 g2 n most ms j i R W){z:Mv}(hz:ms[j]? = some z)(hd:delZ n most z=false)(hj:j<N) :
 DZ w B b g N c g1 g2 n most ms (j+1) (i+1) (R.set i z) (((((W.setCell ⟨g,i * 5,none⟩ (.int .i64 z.kind)).setCell ⟨g,i * 5+1,none⟩ (.int .i64 z.x)).setCell ⟨g,i * 5+2,none⟩ (.int .i64 z.y)).setCell ⟨g,i * 5+3,none⟩ (.int .i64 z.sign)).setCell ⟨g,i * 5+4,none⟩ (.bool z.over)):=by
 have hij:=h.ij
 have hl:=h.len
 obtain ⟨l1,l2,l3,l4,l5⟩:=h.lo
 refine ⟨by rw [List.length_set];exact hl,by omega,?_,?_,own_moves_set h.own i z (by omega),⟨row_sets h.cb.n (by omega) _ _ _ _ _ _ _ _ _ _,row_sets h.cb.m (by omega) _ _ _ _ _ _ _ _ _ _⟩,?_,l1,by simpa using l2,l3,l4,l5⟩
 ·rw [keepZ_s hz,hd,if_neg (by decide),←h.tk,List.take_succ_eq_append_getElem (by rw [List.length_set];omega),List.getElem_set_self,List.take_set_of_le (Nat.le_refl _)]
 ·rw [List.drop_set_of_lt (by omega)]
  have e:=congrArg (fun l=>l.drop 1) h.dr
  simpa [List.drop_drop] using e
 ·exact ((((h.bel.setCell (by show B≤g;omega) _).setCell (by show B≤g;omega) _).setCell (by show B≤g;omega) _).setCell (by show B≤g;omega) _).setCell (by show B≤g;omega) _
end
set_option maxRecDepth 100000 in
set_option maxHeartbeats 8000000 in
theorem deletez_any (ms:List Mv)(A:Option Addr)(c g1 g2 n N B b:Nat)(most:Int)(w:World)(hA:w.ownsRow b 43 5 (.slice A N c) N (mvs ms))(hlen:N=ms.length)(h:CB w g1 g2 n most)(hn:n≤64)(hN:N≤1000000)(hB:B≤b)(hB2:B≤w.heap.size)(hg1:g1<b)(hg2:g2<b) :
 Calls Tryz.prog 39 #[.slice A N c,.func (.func 41) #[] #[.pointer (some ⟨g1,0,none⟩),.pointer (some ⟨g2,0,none⟩)]] w (DelPost B b (keepZ n most ms) w):=by
 obtain ⟨A',c',e,hMV⟩:=(show MovesAt w (.slice A N c) ms from ⟨b,by rw [hlen] at hA;rw [hlen];exact hA⟩).mv
 injection e with e1 e2 e3
 subst e1 e3
 rw [←hlen] at hMV
 have HMV:=hide hMV
 have HA:=hide hA
 have HC:=hide h
 have HL:=hide hlen
 clear hMV hA h e2 hlen
 go_enter Tryz.func39,Tryz.ntmps39
 go_wp2_with fail
 refine (indexz_any ms A c g1 g2 n N most _ HMV.out HC.out hn hN).mono ?_
 rintro e w1 ⟨hi,hb1⟩
 have O1:=hide (own_below HA.out hb1)
 have C1:=hide (HC.out.below hb1)
 have B1:=hide (hb1.mono hB2)
 have hB3:B≤w1.heap.size:=Nat.le_trans hB2 hb1.size
 clear hb1
 rcases hi with ⟨h0,rfl⟩ | ⟨i0,h0,hi0,rfl⟩
 ·have E:=hide (keepZ_all h0)
  clear h0
  go_wp2
  go_ret
  exact ⟨_,rfl,by rw [E.out,←HL.out];exact O1.out,B1.out⟩
 ·have HI0:=hide (idxD_at h0)
  clear h0
  have hNi:i0<N:=by rw [HL.out];exact hi0
  obtain ⟨g,cap,e,_,hgl⟩:=World.ownsRow.form O1.out (by omega)
  injection e with e1 _ e3
  subst e1 e3
  obtain ⟨q1,q2,q3,q4⟩:=own_caps O1.out
  have t1:((i0:Int) == -1)=false:=by rw [beq_eq_false_iff_ne];omega
  clear hi0 hgl
  have D0:=hide (show DZ w B b g N c g1 g2 n most ms (i0+1) i0 ms w1 from ⟨HL.out.symm,by omega,HI0.out.symm,rfl,O1.out,C1.out,B1.out,hB,hB3,hg1,hg2,q3⟩)
  clear HMV HA HC HI0 O1 C1 B1
  unfold maxLen at q2
  go_wp2
  go_loopg [5,6,7] (N - (i0+1)) (fun gg s5 s6 s7 wx=>∃(j i:Nat) (R:List Mv),j+gg=N∧s6 = .int .i64 (j:Int)∧s5 = .int .i64 (i:Int)∧DZ w B b g N c g1 g2 n most ms j i R wx)
  case atStart=>exact ⟨i0+1,i0,ms,by omega,by go_num,rfl,D0.out⟩
  case round =>
   clear D0 t1
   obtain ⟨j,i,R,hkg,rfl,rfl,hd⟩:=hrel
   have HKG:=hide hkg
   have D1:=hide hd
   have hij:=hd.ij
   have hRl:=hd.len
   clear hkg hd
   by_cases hj:j<N
   ·have hji:(j:Int)<(N:Int):=by omega
    have j0:(0:Int)≤(j:Int):=by omega
    have i00:(0:Int)≤(i:Int):=by omega
    have i01:(i:Int)<(N:Int):=by omega
    obtain ⟨z,hz⟩:∃z,ms[j]? = some z:=⟨_,List.getElem?_eq_getElem (by rw [←HL.out];exact hj)⟩
    obtain ⟨zk,zx,zy,zs,zo⟩:=z
    have HZ:=hide hz
    have hzR:=D1.out.at_ hz
    have cj:∀t u,(Mv.cells ⟨zk,zx,zy,zs,zo⟩)[t]? = some u→wr.cell? ⟨g,j * 5+t,none⟩=some u:=fun t u hu=>by
     have ht:t<5:=(List.getElem?_eq_some_iff.1 hu).1
     rw [World.ownsRow.cellAt D1.out.own (j * 5+t) (by omega)]
     exact mv_get R j _ hzR t u hu
    have c0:=cj 0 _ rfl
    have c1:=cj 1 _ rfl
    have c2:=cj 2 _ rfl
    have c3:=cj 3 _ rfl
    have c4:=cj 4 _ rfl
    simp only [Nat.add_zero] at c0
    have hgl:g<wr.heap.size:=lt_of_cell c0
    have MB:=hide (row_at (W:=wr) (g:=wr.heap.size) (t:=43) (vs:=[.int .i64 zk,.int .i64 zx,.int .i64 zy,.int .i64 zs,.bool zo]) rfl)
    have D2:=hide (D1.out.below ((Below.refl wr.heap.size wr).alloc (Nat.le_refl _) (.cells #[.int .i64 zk,.int .i64 zx,.int .i64 zy,.int .i64 zs,.bool zo] 43)))
    clear hz hzR cj D1
    go_wp2_with fail
    refine (delz_any g1 g2 n most zk zx zy zs zo _ D2.out.cb hn).mono ?_
    rintro e w2 ⟨rfl,hb2⟩
    have D3:=hide (D2.out.below hb2)
    have MB2:=hide (MB.out.below hb2)
    obtain ⟨db,hdb⟩:∃d,d=delZ n most ⟨zk,zx,zy,zs,zo⟩:=⟨_,rfl⟩
    rw [←hdb]
    have HD:=hide hdb
    have hgl2:wr.heap.size<w2.heap.size:=MB2.out.lt
    have hgl3:g<w2.heap.size:=by omega
    have hne:g≠wr.heap.size:=by omega
    clear hdb hb2 D2 MB c0 c1 c2 c3 c4
    obtain ⟨e0,e1,e2,e3,e4,e5⟩:=box5 MB2.out
    cases db with
    | true =>
      go_wp2
      go_roundg (gk - 1)
      case measure=>have:=HKG.out;omega
      case rel=>exact ⟨j+1,i,R,by have:=HKG.out;omega,by go_num,rfl,D3.out.gone HZ.out HD.out.symm⟩
    | false =>
      obtain ⟨y,hy⟩:∃y,R[i]? = some y:=⟨_,List.getElem?_eq_getElem (by omega)⟩
      obtain ⟨yk,yx,yy,ys,yo⟩:=y
      have ci:∀t u,(Mv.cells ⟨yk,yx,yy,ys,yo⟩)[t]? = some u→w2.cell? ⟨g,i * 5+t,none⟩=some u:=fun t u hu=>by
       have ht:t<5:=(List.getElem?_eq_some_iff.1 hu).1
       rw [World.ownsRow.cellAt D3.out.own (i * 5+t) (by omega)]
       exact mv_get R i _ hy t u hu
      have c0:=ci 0 _ rfl
      have c1:=ci 1 _ rfl
      have c2:=ci 2 _ rfl
      have c3:=ci 3 _ rfl
      have c4:=ci 4 _ rfl
      simp only [Nat.add_zero] at c0
      have hfz:∀o,w2.frozen? ⟨g,o,none⟩=false:=fun o=>World.ownsRow.frozenAt D3.out.own o
      clear ci hy
      go_wp2
      go_roundg (gk - 1)
      case measure=>have:=HKG.out;omega
      case rel =>
       refine ⟨j+1,i+1,R.set i ⟨zk,zx,zy,zs,zo⟩,by have:=HKG.out;omega,by go_num,by go_num,?_⟩
       exact D3.out.kept HZ.out HD.out.symm hj
   ·have hji:¬((j:Int)<(N:Int)):=by omega
    have ej:j=N:=by have:=HKG.out;omega
    have hiN:i<N:=by omega
    obtain ⟨vs,hcl⟩:=run_clear_moves wr 0 g (i * 5) (N - i) (c - i) (by omega) (fun t ht=>by
     rw [World.ownsRow.cellAt D1.out.own (i * 5+t) (by omega)]
     rw [List.getElem?_eq_getElem (by rw [mvs_len];omega)]
     rfl) (fun t ht=>World.ownsRow.frozenAt D1.out.own _)
    have q5:c≤9223372036854775807:=by omega
    have i00:(0:Int)≤(i:Int):=by omega
    have i01:(i:Int)≤(N:Int):=by omega
    have i02:(i:Int)≤(c:Int):=by omega
    have i03:¬(c=i):=by omega
    have i04:(N:Int)≤(c:Int):=by omega
    have HEJ:=hide ej
    clear q2 ej
    go_wp2
    go_ret
    obtain ⟨ys,h1,h2⟩:=own_setCells vs (i * 5) wr (mvs R) D1.out.own
    have h3:=own_prefix h1 (show i≤N by omega)
    have e1:R.take i=keepZ n most ms:=by rw [D1.out.tk,HEJ.out,HL.out,List.take_length]
    rw [h2,mvs_take,e1] at h3
    have e2:(keepZ n most ms).length=i:=by rw [←e1,List.length_take];omega
    exact ⟨_,rfl,by rw [e2];exact h3,below_cells (by omega) vs _ _ D1.out.bel⟩
set_option maxRecDepth 100000 in
set_option maxHeartbeats 4000000 in
theorem steps_lt (d:Pl.Dg)(hd:Pl.Valid d)(A B:Option Addr)(cp cq m:Nat)(most:Int)(w:World)(hm:m=4 * d.n)(hg:DgAt w A B d)(hlt:(d.n:Int)<most) :
 Calls Tryz.prog 19 #[.agg #[.slice A d.n cp,.slice B m cq,.int .i64 d.lp],.int .i64 most] w fun e w'=>∃v,e = .returned v∧MovesIn w.heap.size w' v (keepZ d.n most (allL d))∧Below w.heap.size w w':=by
 have HM:=hide hm
 have HG:=hide hg
 have hn:=hd.wf.few
 clear hm hg
 have b3:Below w.heap.size w (((w.alloc (.cells #[.slice A d.n cp,.slice B m cq,.int .i64 (d.lp:Int)] 24)).alloc (.cells #[.int .i64 most] 3)).alloc (.cells #[.int .i64 (d.n:Int)] 3)):=(((Below.refl _ _).alloc (Nat.le_refl _) _).alloc (by simp) _).alloc (by simp;omega) _
 have R0:=hide (((row_at (W:=w) (g:=w.heap.size) (t:=24) (vs:=[.slice A d.n cp,.slice B m cq,.int .i64 (d.lp:Int)]) rfl).alloc (.cells #[.int .i64 most] 3)).alloc (.cells #[.int .i64 (d.n:Int)] 3))
 have C0:=hide (show CB (((w.alloc (.cells #[.slice A d.n cp,.slice B m cq,.int .i64 (d.lp:Int)] 24)).alloc (.cells #[.int .i64 most] 3)).alloc (.cells #[.int .i64 (d.n:Int)] 3)) (w.heap.size+1+1) (w.heap.size+1) d.n most from
  ⟨row_at (vs:=[_]) (by simp),(row_at (vs:=[_]) (by simp)).alloc _⟩)
 have B0:=hide b3
 clear b3
 go_enter Tryz.func19,Tryz.ntmps19
 go_wp2_with fail
 refine (All_any d hd A B cp cq m _ HM.out (HG.out.keep B0.out)).mono ?_
 rintro e w1 ⟨v,rfl,⟨b,hb,hb2,own⟩,hb1⟩
 have C1:=hide (C0.out.below hb1)
 have B1:=hide (B0.out.trans (hb1.mono B0.out.size))
 have hbig:w.heap.size+1+1<(((w.alloc (.cells #[.slice A d.n cp,.slice B m cq,.int .i64 (d.lp:Int)] 24)).alloc (.cells #[.int .i64 most] 3)).alloc (.cells #[.int .i64 (d.n:Int)] 3)).heap.size:=C0.out.n.lt
 have hs:=hb1.size
 have k1:w.heap.size≤b:=by omega
 have k2:w.heap.size≤w1.heap.size:=by omega
 have k3:w.heap.size+1+1<b:=by omega
 have k4:w.heap.size+1<b:=by omega
 obtain ⟨A5,c5,rfl⟩:=owns_slice own
 have OWN:=hide own
 have lal:=allL_le hn
 obtain ⟨N5,hN5⟩:∃n,n=(allL d).length:=⟨_,rfl⟩
 have O1:=OWN.out
 rw [←hN5] at O1 lal ⊢
 have OWN1:=hide O1
 have HN5:=hide hN5
 clear hb1 hbig hs R0 C0 B0 O1 OWN own hN5 hb
 go_wp2_with fail
 refine (deletez_any (allL d) A5 c5 (w.heap.size+1+1) (w.heap.size+1) d.n N5 w.heap.size b most w1 OWN1.out HN5.out C1.out hn (by omega) k1 k2 k3 k4).mono ?_
 rintro e w2 ⟨v,rfl,own2,hb2'⟩
 have O2:=hide own2
 have B2:=hide (B1.out.trans hb2')
 have S2:=hide (show b≤w2.heap.size from by have:=hb2'.size;have:=HN5.out;exact Nat.le_trans hb2 (by have:=hb2'.size;omega))
 clear own2 hb2'
 go_wp2
 go_ret
 exact ⟨_,rfl,⟨b,k1,S2.out,O2.out⟩,B2.out⟩
end Go.Proofs.YtdgliimmnnhhjaaGreatDoor
end
