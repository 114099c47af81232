/-
 The texts Ld, Le, Lf, Lh.
-/
import Derived.Test.YtobbepmlmbbamaaH20
set_option linter.unusedVariables false
set_option linter.unusedSimpArgs false
section
namespace Go.Proofs.Ytobbepmlmbbamaa
open Go Go.RowKit
attribute [local go_sem ↓] Go.wp_at_zero Go.wp_at_succ
structure AR (w:World) (dv:List Value) (b:Nat) (v:Value) (ms:List Mv) (R:Option Addr) (nr:Nat) (rs:List Mv) (W:World):Prop where
 al:AL w dv b v ms W
 rv:MovesV W R nr rs
 ne:∀g,0<nr→R=some ⟨g,0,none⟩→some g≠v.ownBlock
section
variable {w W W':World} {dv:List Value} {b nr:Nat} {v v':Value} {ms ms' rs:List Mv} {R:Option Addr}
theorem AR.step (h:AR w dv b v ms R nr rs W)(ha:AL w dv b v' ms' W')(hs:Sep W W' v v'):AR w dv b v' ms' R nr rs W' :=
 ⟨ha, ⟨h.rv.1, fun hp => let ⟨g, e, hl, hc⟩ := h.rv.2 hp; ⟨g, e, Nat.lt_of_lt_of_le hl hs.2.2, fun j z hz i u hu => hs.1 _ _ hl (h.ne g hp e) (hc j z hz i u hu)⟩⟩, fun g hp e c => by
   rcases hs.2.1 g c.symm with h1 | h1
   ·exact h.ne g hp e h1.symm
   ·obtain ⟨g',e',hl,_⟩:=h.rv.2 hp
    rw [e] at e'
    injection e' with e'
    injection e' with e'
    omega⟩
theorem AR.start {c:Nat}(h:AL w dv b v ms W)(hm:MovesIn W.heap.size W' (.slice R nr c) rs)(hb:Below W.heap.size W W')(hv:MovesV W' R nr rs):AR w dv b v ms R nr rs W' :=
 ⟨h.below hb, hv, fun g hp e k => by
   subst e
   obtain ⟨base,h1,h2,h3⟩:=hm
   have a:=(World.ownsRow.lt h3 g rfl).1
   have b:=(h.o.lt g k.symm).2
   omega⟩
end
theorem sel_take {d:Pl.Dg}{L:List Mv}{j:Nat}{z:Mv}(h:L[j]? = some z):sel d (L.take (j+1))=sel d (L.take j)++one (apC d z) z:=by
 obtain ⟨hq,e⟩:=List.getElem?_eq_some_iff.1 h
 rw [List.take_succ_eq_append_getElem hq,sel_app,e,sel_cons,sel_nil,List.append_nil]
theorem sel_takeN (d:Pl.Dg)(L:List Mv)(j n:Nat)(h:L.length≤n):(sel d (L.take j)).length≤n :=
 Nat.le_trans (sel_len d _) (Nat.le_trans (List.length_take_le' _ _) h)
def kIs (k:Int)(z:Mv):Bool:=z.kind == k
theorem rem_un (d:Pl.Dg):(remL d).filter (kIs 2)=sel d (unC d.n):=by
 unfold remL
 rw [List.filter_append,filter_every (fun z hz=>by unfold kIs;rw [un_kind hz];rfl),filter_none (fun z hz=>by unfold kIs;rw [up_kind hz];rfl),List.append_nil]
theorem rem_up (d:Pl.Dg):(remL d).filter (kIs 4)=sel d (upNX d.n d.n):=by
 unfold remL
 rw [List.filter_append,filter_none (fun z hz=>by unfold kIs;rw [un_kind hz];rfl),filter_every (fun z hz=>by unfold kIs;rw [up_kind hz];rfl),List.nil_append]
set_option maxRecDepth 100000 in
set_option maxHeartbeats 16000000 in
theorem rAll_any (d:Pl.Dg)(hd:Pl.Valid d)(A B:Option Addr)(cp cq m:Nat)(w:World)(hm:m=4 * d.n)(hg:DgAt w A B d) :
 Calls Try.prog 33 #[.agg #[.slice A d.n cp,.slice B m cq,.int .i64 d.lp]] w fun e w'=>∃v,e = .returned v∧MovesIn w.heap.size w' v (allL d)∧Below w.heap.size w w':=by
 have HM:=hide hm
 have HG:=hide hg
 have HW:=hide hd.wf
 have hn:=hd.wf.few
 have hm2:m≤256:=by omega
 have lun:=un_le (d:=d) hn
 have lup:=up_le (d:=d) hn
 have lrm:=remL_le (d:=d) hn
 have P0:=hide (AL.start w A B d.n cp m cq d.lp)
 clear hg hm
 go_enter Try.func33,Try.ntmps33
 go_wp2
 go_loopg [3,5,6] (m+1) (fun g s3 s5 s6 wx=>∃(k:Nat),k+g=m+1∧s5 = .int .i64 ((k:Int) - 1)∧AL w [.slice A d.n cp,.slice B m cq,.int .i64 (d.lp:Int)] (w.heap.size+1) s3 (sel d (cuC k)) wx)
 case atStart=>exact ⟨0,by omega,rfl,P0.out⟩
 case round =>
  clear P0
  obtain ⟨k,hkg,rfl,hp⟩:=hrel
  obtain ⟨g1,rfl⟩:∃go,go=gk:=⟨_,rfl⟩
  have HKG:=hide hkg
  have PK:=hide hp
  have hlen:(sel d (cuC k)).length≤4 * k:=by
   have a:=cuL_len d k
   rw [cu_sel d _ (by have:=HM.out;omega)] at a
   omega
  obtain ⟨x,hx⟩:∃x:Int,x=(k:Int) - 1:=⟨_,rfl⟩
  have HX:=hide hx
  rw [←hx]
  obtain ⟨d0,d1,d2,d3⟩:=box3 hp.d
  clear hp hx
  by_cases hk:k<m+1
  ·have hki:x<4 * (d.n:Int):=by have:=HX.out;have:=HM.out;omega
   have x0:-1≤x:=by have:=HX.out;omega
   clear hkg
   go_wp2
   go_loopg [3,6] 4 (fun g s3 s6 wx=>∃(j:Nat),j+g=4∧s6 = .int .i64 (j:Int)∧AL w [.slice A d.n cp,.slice B m cq,.int .i64 (d.lp:Int)] (w.heap.size+1) s3 (sel d (cuC k)++sel d ((cuN x).take j)) wx)
   case atStart=>exact ⟨0,rfl,rfl,by rw [show sel d ((cuN x).take 0)=[] from rfl,List.append_nil];exact PK.out⟩
   case round =>
    clear PK d0 d1 d2 d3
    obtain ⟨j,hjg,rfl,hq⟩:=hrel
    have HJG:=hide hjg
    have Q0:=hide hq
    have hl:=sel_takeN d (cuN x) j 4 (Nat.le_refl _)
    clear hq
    have hjs:j=0∨j=1∨j=2∨j=3∨j=4:=by omega
    clear hjg
    rcases hjs with rfl | rfl | rfl | rfl | rfl
    ·obtain ⟨d0,d1,d2,d3⟩:=box3 Q0.out.d
     go_wp2_with fail
     refine (radd_any d hd A B cp cq m _ _ _ 1 x 0 (-1) false _ w _ HM.out (HG.out.keep Q0.out.bel) (by simp only [List.length_append];omega) Q0.out).mono ?_
     rintro e w1 ⟨v1,rfl,hp1,hs1⟩
     have Q1:=hide hp1
     clear hp1 hs1
     go_wp2
     go_roundg 3
     case measure=>have:=HJG.out;omega
     case rel=>exact ⟨1,rfl,by go_num,by rw [sel_take (L:=cuN x) (j:=0) rfl,←List.append_assoc];exact Q1.out⟩
    ·obtain ⟨d0,d1,d2,d3⟩:=box3 Q0.out.d
     go_wp2_with fail
     refine (radd_any d hd A B cp cq m _ _ _ 1 x 0 (-1) true _ w _ HM.out (HG.out.keep Q0.out.bel) (by simp only [List.length_append];omega) Q0.out).mono ?_
     rintro e w1 ⟨v1,rfl,hp1,hs1⟩
     have Q1:=hide hp1
     clear hp1 hs1
     go_wp2
     go_roundg 2
     case measure=>have:=HJG.out;omega
     case rel=>exact ⟨2,rfl,by go_num,by rw [sel_take (L:=cuN x) (j:=1) rfl,←List.append_assoc];exact Q1.out⟩
    ·obtain ⟨d0,d1,d2,d3⟩:=box3 Q0.out.d
     go_wp2_with fail
     refine (radd_any d hd A B cp cq m _ _ _ 1 x 0 1 false _ w _ HM.out (HG.out.keep Q0.out.bel) (by simp only [List.length_append];omega) Q0.out).mono ?_
     rintro e w1 ⟨v1,rfl,hp1,hs1⟩
     have Q1:=hide hp1
     clear hp1 hs1
     go_wp2
     go_roundg 1
     case measure=>have:=HJG.out;omega
     case rel=>exact ⟨3,rfl,by go_num,by rw [sel_take (L:=cuN x) (j:=2) rfl,←List.append_assoc];exact Q1.out⟩
    ·obtain ⟨d0,d1,d2,d3⟩:=box3 Q0.out.d
     go_wp2_with fail
     refine (radd_any d hd A B cp cq m _ _ _ 1 x 0 1 true _ w _ HM.out (HG.out.keep Q0.out.bel) (by simp only [List.length_append];omega) Q0.out).mono ?_
     rintro e w1 ⟨v1,rfl,hp1,hs1⟩
     have Q1:=hide hp1
     clear hp1 hs1
     go_wp2
     go_roundg 0
     case measure=>have:=HJG.out;omega
     case rel=>exact ⟨4,rfl,by go_num,by rw [sel_take (L:=cuN x) (j:=3) rfl,←List.append_assoc];exact Q1.out⟩
    ·have E2 := hide (show sel d (cuC (k + 1)) = sel d (cuC k) ++ sel d ((cuN x).take 4) by
      show sel d (cuC k++cuN ((k:Int) - 1))=_
      rw [sel_app,←HX.out];rfl)
     have EK:=hide (show x+1=((k+1:Nat):Int) - 1 by have:=HX.out;omega)
     go_wp2
     go_roundg (g1 - 1)
     case measure=>have:=HKG.out;omega
     case rel=>exact ⟨k+1,by have:=HKG.out;omega,by rw [EK.out],by rw [E2.out];exact Q0.out⟩
  ·have hki:¬(x<4 * (d.n:Int)):=by have:=HX.out;have:=HM.out;omega
   obtain rfl:k=4 * d.n+1:=by have:=HM.out;omega
   clear hkg HKG HX
   obtain ⟨U,hU⟩:∃U,U=sel d (cuC (4 * d.n+1)):=⟨_,rfl⟩
   rw [←hU] at hlen PK
   have HU:=hide hU
   clear hU
   go_wp2_with fail
   refine (rRemoving_any d hd A B cp cq m _ HM.out (HG.out.keep PK.out.bel)).mono ?_
   rintro e w2 ⟨vr,rfl,hvr,hb2⟩
   obtain ⟨R,cr,rfl,hmv⟩:=hvr.at.mv
   have hq2:=AR.start PK.out hvr hb2 hmv
   clear hvr hb2 hmv PK d0 d1 d2 d3
   obtain ⟨nr,hnr⟩:∃n,n=(remL d).length:=⟨_,rfl⟩
   rw [←hnr] at hq2 lrm ⊢
   have HNR:=hide hnr
   have Q2:=hide hq2
   clear hnr hq2
   go_wp2
   go_loopg [3,8] nr (fun g s3 s8 wx=>∃(i:Nat),i+g=nr∧s8 = .int .i64 (i:Int)∧AR w [.slice A d.n cp,.slice B m cq,.int .i64 (d.lp:Int)] (w.heap.size+1) s3 (U++((remL d).take i).filter (kIs 2)) R nr (remL d) wx)
   case atStart=>exact ⟨0,by omega,rfl,by rw [show ((remL d).take 0).filter (kIs 2)=[] from rfl,List.append_nil];exact Q2.out⟩
   case round =>
    clear Q2
    obtain ⟨i,hkg,rfl,hp⟩:=hrel
    have HIG:=hide hkg
    have PK:=hide hp
    have hfl:=filt_len (L:=remL d) (kIs 2) i
    rw [←HNR.out] at hfl
    obtain ⟨d0,d1,d2,d3⟩:=box3 hp.al.d
    clear hp
    by_cases hi:i<nr
    ·have hii:(i:Int)<(nr:Int):=by omega
     have i0:(0:Int)≤(i:Int):=by omega
     obtain ⟨gr,kk,xx,yy,ss,oo,rfl,hgr,hz,a0,a1,a2,a3,a4⟩:=PK.out.rv.at_ hi
     clear hkg
     have F:=hide (filt_s (kIs 2) hz)
     clear hz
     by_cases h2:kk=2
     ·subst h2
      have F2:=hide (show ((remL d).take (i+1)).filter (kIs 2)=((remL d).take i).filter (kIs 2)++[⟨2,xx,yy,ss,oo⟩] by rw [F.out];rfl)
      obtain ⟨n0,hn0,hz0,hz1,hz2⟩:=info_parts moveInfo
      have PB:=hide (PK.out.al.below ((Below.refl _ _).alloc (Nat.le_refl _) (.cells (Mv.cells ⟨2,xx,yy,ss,oo⟩).toArray 28)))
      obtain ⟨ln,hln⟩:∃n,n=(U++((remL d).take i).filter (kIs 2)).length:=⟨_,rfl⟩
      have hlb:ln≤1000000:=by rw [hln];simp only [List.length_append];omega
      have A0:=PB.out.o
      rw [←hln] at A0
      have A1:∀u ∈ Mv.cells ⟨2,xx,yy,ss,oo⟩,u.oneCell'=true:=by simp [Mv.cells,Value.oneCell']
      have A2:ln+1≤maxLen:=by unfold maxLen;omega
      have A3:(ln+1) * 40≤140737488355328:=by omega
      have A6:=hide (five_news wr wr.heap.size rfl ⟨2,xx,yy,ss,oo⟩)
      have hb2:=PK.out.al.lo2
      have A0':=hide A0
      have HLN:=hide hln
      clear A0 hln
      go_wp2_with (at_builtin;refine wpList_append_lies _ (by rfl) _ _ 31 (by rfl) (w.heap.size+1) 28 n0 (.agg #[.int .i64 0,.int .i64 0,.int .i64 0,.int .i64 0,.bool false]) 5 40 Try.underlying31 hn0 hz0 hz1 hz2 rfl (by omega) _ ln _ (by rfl) A0'.out ⟨wr.heap.size,0,none⟩ 1 1 (Mv.cells ⟨2,xx,yy,ss,oo⟩) (by rfl) (by rfl) A6.out A1 (by omega) A2 A3 (by simp;omega) (wr.heap.size+1) (by simp) ?_;intro g2 c2 w3 own2 grow2 at2 lt2;have Q3:=hide (PK.out.step (PB.out.app (r:=[⟨2,xx,yy,ss,oo⟩]) (v' := .slice (some ⟨g2,0,none⟩) (ln+1) c2) (by rw [HLN.out] at own2 ⊢;exact own2) grow2) (Sep.app ((Below.refl _ _).alloc (Nat.le_refl _) _) grow2 at2 (by omega)));clear own2 grow2 at2)
      go_roundg (gk - 1)
      case measure=>have:=HIG.out;omega
      case rel=>exact ⟨i+1,by have:=HIG.out;omega,by go_num,by rw [F2.out,←List.append_assoc];exact Q3.out⟩
     ·have t1:(kk == 2)=false:=by rw [beq_eq_false_iff_ne];exact h2
      have F2:=hide (show ((remL d).take (i+1)).filter (kIs 2)=((remL d).take i).filter (kIs 2) by
       rw [F.out]
       unfold kIs
       rw [t1]
       simp)
      go_wp2
      go_roundg (gk - 1)
      case measure=>have:=HIG.out;omega
      case rel=>exact ⟨i+1,by have:=HIG.out;omega,by go_num,by rw [F2.out];exact PK.out⟩
    ·have hii:¬((i:Int)<(nr:Int)):=by omega
     have EI:=hide (show ((remL d).take i).filter (kIs 2)=sel d (unC d.n) by
      obtain rfl:i=nr:=by omega
      rw [HNR.out,List.take_length]
      exact rem_un d)
     rw [EI.out] at PK
     clear hkg HIG EI hfl
     obtain ⟨U2,hU2⟩:∃V,V=U++sel d (unC d.n):=⟨_,rfl⟩
     have hU2l:U2.length≤1100:=by rw [hU2,List.length_append];omega
     rw [←hU2] at PK
     have HU2:=hide hU2
     clear hU2
     go_wp2
     go_loopg [3,9,10,11] (m+2) (fun g s3 s9 s10 s11 wx=>∃(k:Nat),k+g=m+2∧s9 = .int .i64 ((k:Int) - 2)∧AR w [.slice A d.n cp,.slice B m cq,.int .i64 (d.lp:Int)] (w.heap.size+1) s3 (U2++sel d (pkNX d.n k)) R nr (remL d) wx)
     case atStart=>exact ⟨0,by omega,rfl,by rw [show sel d (pkNX d.n 0)=[] from rfl,List.append_nil];exact PK.out⟩
     case round =>
      clear PK d0 d1 d2 d3
      obtain ⟨k,hkg,rfl,hp⟩:=hrel
      obtain ⟨g1,rfl⟩:∃go,go=gk:=⟨_,rfl⟩
      have HKG:=hide hkg
      have PK:=hide hp
      have hlen:=Nat.le_trans (sel_len d (pkNX d.n k)) (pkNX_len hn k)
      obtain ⟨x,hx⟩:∃x:Int,x=(k:Int) - 2:=⟨_,rfl⟩
      have HX:=hide hx
      rw [←hx]
      obtain ⟨d0,d1,d2,d3⟩:=box3 hp.al.d
      clear hp hx
      by_cases hk:k<m+2
      ·have hki:x<4 * (d.n:Int):=by have:=HX.out;have:=HM.out;omega
       have x0:-2≤x:=by have:=HX.out;omega
       clear hkg
       go_wp2
       go_loopg [3,10,11] (m+2) (fun g s3 s10 s11 wx=>∃(q:Nat),q+g=m+2∧s10 = .int .i64 ((q:Int) - 2)∧AR w [.slice A d.n cp,.slice B m cq,.int .i64 (d.lp:Int)] (w.heap.size+1) s3 (U2++sel d (pkNX d.n k)++sel d (pkNY x q)) R nr (remL d) wx)
       case atStart=>exact ⟨0,by omega,rfl,by rw [show sel d (pkNY x 0)=[] from rfl,List.append_nil];exact PK.out⟩
       case round =>
        clear PK d0 d1 d2 d3
        obtain ⟨q,hqg,rfl,hp⟩:=hrel
        obtain ⟨g4,rfl⟩:∃go,go=gk:=⟨_,rfl⟩
        have HQG:=hide hqg
        have PQ:=hide hp
        have hlen2:=Nat.le_trans (sel_len d (pkNY x q)) (pkNY_len x q)
        obtain ⟨y,hy⟩:∃y:Int,y=(q:Int) - 2:=⟨_,rfl⟩
        have HY:=hide hy
        rw [←hy]
        obtain ⟨d0,d1,d2,d3⟩:=box3 hp.al.d
        clear hp hy
        by_cases hq:q<m+2
        ·have hqi:y<4 * (d.n:Int):=by have:=HY.out;have:=HM.out;omega
         have y0:-2≤y:=by have:=HY.out;omega
         clear hqg
         go_wp2
         go_loopg [3,11] 6 (fun g s3 s6 wx=>∃(j:Nat),j+g=6∧s6 = .int .i64 (j:Int)∧AR w [.slice A d.n cp,.slice B m cq,.int .i64 (d.lp:Int)] (w.heap.size+1) s3 (U2++sel d (pkNX d.n k)++sel d (pkNY x q)++sel d ((pkN x y 3).take j)) R nr (remL d) wx)
         case atStart=>exact ⟨0,rfl,rfl,by rw [show sel d ((pkN x y 3).take 0)=[] from rfl,List.append_nil];exact PQ.out⟩
         case round =>
          clear PQ d0 d1 d2 d3
          obtain ⟨j,hjg,rfl,hq⟩:=hrel
          have HJG:=hide hjg
          have Q0:=hide hq
          have hl:=sel_takeN d (pkN x y 3) j 6 (Nat.le_refl _)
          clear hq
          have hjs:j=0∨j=1∨j=2∨j=3∨j=4∨j=5∨j=6:=by omega
          clear hjg
          rcases hjs with rfl | rfl | rfl | rfl | rfl | rfl | rfl
          ·obtain ⟨d0,d1,d2,d3⟩:=box3 Q0.out.al.d
           go_wp2_with fail
           refine (radd_any d hd A B cp cq m _ _ _ 3 x y (-1) false _ w _ HM.out (HG.out.keep Q0.out.al.bel) (by simp only [List.length_append];omega) Q0.out.al).mono ?_
           rintro e w1 ⟨v1,rfl,hp1,hs1⟩
           have Q1:=hide (Q0.out.step hp1 hs1)
           clear hp1 hs1
           go_wp2
           go_roundg 5
           case measure=>have:=HJG.out;omega
           case rel=>exact ⟨1,rfl,by go_num,by rw [sel_take (L:=pkN x y 3) (j:=0) rfl,←List.append_assoc];exact Q1.out⟩
          ·obtain ⟨d0,d1,d2,d3⟩:=box3 Q0.out.al.d
           go_wp2_with fail
           refine (radd_any d hd A B cp cq m _ _ _ 3 x y (-1) true _ w _ HM.out (HG.out.keep Q0.out.al.bel) (by simp only [List.length_append];omega) Q0.out.al).mono ?_
           rintro e w1 ⟨v1,rfl,hp1,hs1⟩
           have Q1:=hide (Q0.out.step hp1 hs1)
           clear hp1 hs1
           go_wp2
           go_roundg 4
           case measure=>have:=HJG.out;omega
           case rel=>exact ⟨2,rfl,by go_num,by rw [sel_take (L:=pkN x y 3) (j:=1) rfl,←List.append_assoc];exact Q1.out⟩
          ·obtain ⟨d0,d1,d2,d3⟩:=box3 Q0.out.al.d
           go_wp2_with fail
           refine (radd_any d hd A B cp cq m _ _ _ 3 x y 0 false _ w _ HM.out (HG.out.keep Q0.out.al.bel) (by simp only [List.length_append];omega) Q0.out.al).mono ?_
           rintro e w1 ⟨v1,rfl,hp1,hs1⟩
           have Q1:=hide (Q0.out.step hp1 hs1)
           clear hp1 hs1
           go_wp2
           go_roundg 3
           case measure=>have:=HJG.out;omega
           case rel=>exact ⟨3,rfl,by go_num,by rw [sel_take (L:=pkN x y 3) (j:=2) rfl,←List.append_assoc];exact Q1.out⟩
          ·obtain ⟨d0,d1,d2,d3⟩:=box3 Q0.out.al.d
           go_wp2_with fail
           refine (radd_any d hd A B cp cq m _ _ _ 3 x y 0 true _ w _ HM.out (HG.out.keep Q0.out.al.bel) (by simp only [List.length_append];omega) Q0.out.al).mono ?_
           rintro e w1 ⟨v1,rfl,hp1,hs1⟩
           have Q1:=hide (Q0.out.step hp1 hs1)
           clear hp1 hs1
           go_wp2
           go_roundg 2
           case measure=>have:=HJG.out;omega
           case rel=>exact ⟨4,rfl,by go_num,by rw [sel_take (L:=pkN x y 3) (j:=3) rfl,←List.append_assoc];exact Q1.out⟩
          ·obtain ⟨d0,d1,d2,d3⟩:=box3 Q0.out.al.d
           go_wp2_with fail
           refine (radd_any d hd A B cp cq m _ _ _ 3 x y 1 false _ w _ HM.out (HG.out.keep Q0.out.al.bel) (by simp only [List.length_append];omega) Q0.out.al).mono ?_
           rintro e w1 ⟨v1,rfl,hp1,hs1⟩
           have Q1:=hide (Q0.out.step hp1 hs1)
           clear hp1 hs1
           go_wp2
           go_roundg 1
           case measure=>have:=HJG.out;omega
           case rel=>exact ⟨5,rfl,by go_num,by rw [sel_take (L:=pkN x y 3) (j:=4) rfl,←List.append_assoc];exact Q1.out⟩
          ·obtain ⟨d0,d1,d2,d3⟩:=box3 Q0.out.al.d
           go_wp2_with fail
           refine (radd_any d hd A B cp cq m _ _ _ 3 x y 1 true _ w _ HM.out (HG.out.keep Q0.out.al.bel) (by simp only [List.length_append];omega) Q0.out.al).mono ?_
           rintro e w1 ⟨v1,rfl,hp1,hs1⟩
           have Q1:=hide (Q0.out.step hp1 hs1)
           clear hp1 hs1
           go_wp2
           go_roundg 0
           case measure=>have:=HJG.out;omega
           case rel=>exact ⟨6,rfl,by go_num,by rw [sel_take (L:=pkN x y 3) (j:=5) rfl,←List.append_assoc];exact Q1.out⟩
          ·have E2 := hide (show sel d (pkNY x (q + 1)) = sel d (pkNY x q) ++ sel d ((pkN x y 3).take 6) by
            show sel d (pkNY x q++pkN x ((q:Int) - 2) 3)=_
            rw [sel_app,←HY.out];rfl)
           have EK:=hide (show y+1=((q+1:Nat):Int) - 2 by have:=HY.out;omega)
           go_wp2
           go_roundg (g4 - 1)
           case measure=>have:=HQG.out;omega
           case rel=>exact ⟨q+1,by have:=HQG.out;omega,by rw [EK.out],by rw [E2.out,←List.append_assoc];exact Q0.out⟩
        ·have hqi:¬(y<4 * (d.n:Int)):=by have:=HY.out;have:=HM.out;omega
         have E2:=hide (show sel d (pkNX d.n (k+1))=sel d (pkNX d.n k)++sel d (pkNY x q) by
          have:q=4 * d.n+2:=by have:=HM.out;omega
          rw [this]
          show sel d (pkNX d.n k++pkNY ((k:Int) - 2) (4 * d.n+2))=_
          rw [sel_app,←HX.out])
         have EK:=hide (show x+1=((k+1:Nat):Int) - 2 by have:=HX.out;omega)
         clear hqg
         go_wp2
         go_roundg (g1 - 1)
         case measure=>have:=HKG.out;omega
         case rel=>exact ⟨k+1,by have:=HKG.out;omega,by rw [EK.out],by rw [E2.out,←List.append_assoc];exact PQ.out⟩
      ·have hki:¬(x<4 * (d.n:Int)):=by have:=HX.out;have:=HM.out;omega
       obtain rfl:k=4 * d.n+2:=by have:=HM.out;omega
       clear hkg HKG HX
       obtain ⟨U3,hU3⟩:∃V,V=U2++sel d (pkNX d.n (4 * d.n+2)):=⟨_,rfl⟩
       have hU3l:U3.length≤500000:=by rw [hU3,List.length_append];omega
       rw [←hU3] at PK
       have HU3:=hide hU3
       clear hU3 hlen
       go_wp2
       go_loopg [3,12] nr (fun g s3 s8 wx=>∃(i:Nat),i+g=nr∧s8 = .int .i64 (i:Int)∧AR w [.slice A d.n cp,.slice B m cq,.int .i64 (d.lp:Int)] (w.heap.size+1) s3 (U3++((remL d).take i).filter (kIs 4)) R nr (remL d) wx)
       case atStart=>exact ⟨0,by omega,rfl,by rw [show ((remL d).take 0).filter (kIs 4)=[] from rfl,List.append_nil];exact PK.out⟩
       case round =>
        clear PK d0 d1 d2 d3
        obtain ⟨i,hkg,rfl,hp⟩:=hrel
        have HIG:=hide hkg
        have PK:=hide hp
        have hfl:=filt_len (L:=remL d) (kIs 4) i
        rw [←HNR.out] at hfl
        obtain ⟨d0,d1,d2,d3⟩:=box3 hp.al.d
        clear hp
        by_cases hi:i<nr
        ·have hii:(i:Int)<(nr:Int):=by omega
         have i0:(0:Int)≤(i:Int):=by omega
         obtain ⟨gr,kk,xx,yy,ss,oo,rfl,hgr,hz,a0,a1,a2,a3,a4⟩:=PK.out.rv.at_ hi
         clear hkg
         have F:=hide (filt_s (kIs 4) hz)
         clear hz
         by_cases h2:kk=4
         ·subst h2
          have F2:=hide (show ((remL d).take (i+1)).filter (kIs 4)=((remL d).take i).filter (kIs 4)++[⟨4,xx,yy,ss,oo⟩] by rw [F.out];rfl)
          obtain ⟨n0,hn0,hz0,hz1,hz2⟩:=info_parts moveInfo
          have PB:=hide (PK.out.al.below ((Below.refl _ _).alloc (Nat.le_refl _) (.cells (Mv.cells ⟨4,xx,yy,ss,oo⟩).toArray 28)))
          obtain ⟨ln,hln⟩:∃n,n=(U3++((remL d).take i).filter (kIs 4)).length:=⟨_,rfl⟩
          have hlb:ln≤1000000:=by rw [hln];simp only [List.length_append];omega
          have A0:=PB.out.o
          rw [←hln] at A0
          have A1:∀u ∈ Mv.cells ⟨4,xx,yy,ss,oo⟩,u.oneCell'=true:=by simp [Mv.cells,Value.oneCell']
          have A2:ln+1≤maxLen:=by unfold maxLen;omega
          have A3:(ln+1) * 40≤140737488355328:=by omega
          have A6:=hide (five_news wr wr.heap.size rfl ⟨4,xx,yy,ss,oo⟩)
          have hb2:=PK.out.al.lo2
          have A0':=hide A0
          have HLN:=hide hln
          clear A0 hln
          go_wp2_with (at_builtin;refine wpList_append_lies _ (by rfl) _ _ 31 (by rfl) (w.heap.size+1) 28 n0 (.agg #[.int .i64 0,.int .i64 0,.int .i64 0,.int .i64 0,.bool false]) 5 40 Try.underlying31 hn0 hz0 hz1 hz2 rfl (by omega) _ ln _ (by rfl) A0'.out ⟨wr.heap.size,0,none⟩ 1 1 (Mv.cells ⟨4,xx,yy,ss,oo⟩) (by rfl) (by rfl) A6.out A1 (by omega) A2 A3 (by simp;omega) (wr.heap.size+1) (by simp) ?_;intro g2 c2 w3 own2 grow2 at2 lt2;have Q3:=hide (PK.out.step (PB.out.app (r:=[⟨4,xx,yy,ss,oo⟩]) (v' := .slice (some ⟨g2,0,none⟩) (ln+1) c2) (by rw [HLN.out] at own2 ⊢;exact own2) grow2) (Sep.app ((Below.refl _ _).alloc (Nat.le_refl _) _) grow2 at2 (by omega)));clear own2 grow2 at2)
          go_roundg (gk - 1)
          case measure=>have:=HIG.out;omega
          case rel=>exact ⟨i+1,by have:=HIG.out;omega,by go_num,by rw [F2.out,←List.append_assoc];exact Q3.out⟩
         ·have t1:(kk == 4)=false:=by rw [beq_eq_false_iff_ne];exact h2
          have F2:=hide (show ((remL d).take (i+1)).filter (kIs 4)=((remL d).take i).filter (kIs 4) by
           rw [F.out]
           unfold kIs
           rw [t1]
           simp)
          go_wp2
          go_roundg (gk - 1)
          case measure=>have:=HIG.out;omega
          case rel=>exact ⟨i+1,by have:=HIG.out;omega,by go_num,by rw [F2.out];exact PK.out⟩
        ·have hii:¬((i:Int)<(nr:Int)):=by omega
         have EI:=hide (show ((remL d).take i).filter (kIs 4)=sel d (upNX d.n d.n) by
          obtain rfl:i=nr:=by omega
          rw [HNR.out,List.take_length]
          exact rem_up d)
         rw [EI.out] at PK
         clear hkg HIG EI hfl
         go_wp2_with fail
         refine (rSlides_any d hd A B cp cq m _ HM.out (HG.out.keep PK.out.al.bel)).mono ?_
         rintro e w10 ⟨v10,rfl,hv10,hb10⟩
         rw [HM.out] at hv10
         have lsl:=slL_len d (4 * d.n)
         obtain ⟨A10,c10,rfl,src10⟩:=hv10.at.src
         have Q10:=hide (PK.out.al.below hb10)
         have S10:=hide src10
         have B10:(U3++sel d (upNX d.n d.n)).length+(slL d (4 * d.n)).length≤maxLen:=by unfold maxLen;simp only [List.length_append];omega
         have C10:((U3++sel d (upNX d.n d.n)).length+(slL d (4 * d.n)).length) * 40≤140737488355328:=by simp only [List.length_append];omega
         have D10:w.heap.size+1≤w10.heap.size:=Q10.out.lo2
         obtain ⟨n0,hn0,hz0,hz1,hz2⟩:=info_parts moveInfo
         clear hb10 hv10 src10 d0 d1 d2 d3 PK
         go_wp2_with (at_builtin;refine wpList_append_src _ (by rfl) _ _ 31 (by rfl) (w.heap.size+1) 28 n0 (.agg #[.int .i64 0,.int .i64 0,.int .i64 0,.int .i64 0,.bool false]) 40 Try.underlying31 hn0 hz0 hz1 hz2 rfl _ _ _ (by rfl) Q10.out.o A10 _ c10 _ (by rfl) S10.out B10 C10 D10 ?_;intro v11 w11 own11 grow11;have Q11:=hide (Q10.out.app own11 grow11);clear own11 grow11)
         go_ret
         refine ⟨_,rfl,⟨w.heap.size+1,by omega,Q11.out.lo2,?_⟩,Q11.out.bel⟩
         have:=Q11.out.o
         rw [HU3.out,HU2.out,HU.out] at this
         exact this
end Go.Proofs.Ytobbepmlmbbamaa
end
section
namespace Go.Proofs.Ytobbepmlmbbamaa
open Go Go.RowKit
attribute [local go_sem ↓] Go.wp_at_zero Go.wp_at_succ
set_option maxRecDepth 100000 in
set_option maxHeartbeats 2000000 in
theorem All_bad (sg mt:List Int)(lp:Int)(A B:Option Addr)(n q cp cq:Nat)(w:World)(hs:IntsAt w A n sg)(hm:IntsAt w B q mt)(hn:n≤maxLen)(hq:q≤maxLen)(hlp:-9223372036854775808≤lp∧lp≤9223372036854775807)(hv:¬Pl.VL sg mt lp) :
 Calls Try.prog 30 #[.agg #[.slice A n cp,.slice B q cq,.int .i64 lp]] w fun e w'=>e = .returned (.slice none 0 0)∧Below w.heap.size w w':=by
 have HS:=hide hs
 have HM:=hide hm
 have B0:=hide (show Below w.heap.size w (w.alloc (.cells #[.slice A n cp,.slice B q cq,.int .i64 lp] 24)) from (Below.refl _ _).alloc (Nat.le_refl _) _)
 clear hs hm
 go_enter Try.func30,Try.ntmps30
 go_wp2_with fail
 refine (valid_any sg mt lp A B n q cp cq _ (HS.out.keep B0.out) (HM.out.keep B0.out) hn hq hlp).mono ?_
 rintro e w1 ⟨rfl,hb1⟩
 rw [Pl.vb_false hv]
 have B1:=hide (B0.out.trans (hb1.mono B0.out.size))
 clear hb1
 go_wp2
 go_ret
 exact ⟨rfl,B1.out⟩
end Go.Proofs.Ytobbepmlmbbamaa
end
section
namespace Go.Proofs.Ytobbepmlmbbamaa
open Go Go.RowKit
attribute [local go_sem ↓] Go.wp_at_zero Go.wp_at_succ
set_option maxRecDepth 100000 in
set_option maxHeartbeats 2000000 in
theorem growth_any (k:Int)(w:World):Calls Try.prog 44 #[.int .i64 k] w fun e w'=>e = .returned (.int .i64 (gro k))∧w'=w:=by
 by_cases k1:k=1
 ·subst k1
  go_enter Try.func44,Try.ntmps44
  go_wp2
  go_ret
  exact ⟨rfl,rfl⟩
 ·skip
  by_cases k2:k=2
  ·subst k2
   clear k1
   go_enter Try.func44,Try.ntmps44
   go_wp2
   go_ret
   exact ⟨rfl,rfl⟩
  ·skip
   by_cases k3:k=3
   ·subst k3
    clear k1 k2
    go_enter Try.func44,Try.ntmps44
    go_wp2
    go_ret
    exact ⟨rfl,rfl⟩
   ·skip
    by_cases k4:k=4
    ·subst k4
     clear k1 k2 k3
     go_enter Try.func44,Try.ntmps44
     go_wp2
     go_ret
     exact ⟨rfl,rfl⟩
    ·skip
     have E:=hide (show gro k=0 by unfold gro;rw [if_neg k1,if_neg k2,if_neg k3,if_neg k4])
     have t1:(k == 1)=false:=by rw [beq_eq_false_iff_ne];exact k1
     have t2:(k == 2)=false:=by rw [beq_eq_false_iff_ne];exact k2
     have t3:(k == 3)=false:=by rw [beq_eq_false_iff_ne];exact k3
     have t4:(k == 4)=false:=by rw [beq_eq_false_iff_ne];exact k4
     clear k1 k2 k3 k4
     go_enter Try.func44,Try.ntmps44
     go_wp2
     go_ret
     exact ⟨by rw [E.out];rfl,rfl⟩
theorem chI_neg {c:Int}{n:Nat}(hn:0<n)(h:c.tmod n<0):c.tmod n+n=(chI c n:Int):=by
 obtain ⟨h1,h2,h3,h4⟩:=chI_v (c:=c) hn
 obtain ⟨r,hr⟩:∃r,r=c.tmod n:=⟨_,rfl⟩
 rw [←hr] at h h1 h2 h3 ⊢
 rw [←h3]
 exact (Int.tmod_eq_of_lt (a:=r+n) (b:=n) (by omega) (by omega)).symm
theorem chI_pos {c:Int}{n:Nat}(hn:0<n)(h:¬c.tmod n<0):c.tmod n=(chI c n:Int):=by
 obtain ⟨h1,h2,h3,h4⟩:=chI_v (c:=c) hn
 obtain ⟨r,hr⟩:∃r,r=c.tmod n:=⟨_,rfl⟩
 rw [←hr] at h h1 h2 h3 ⊢
 rw [←h3,Int.tmod_eq_emod_of_nonneg (by omega),Int.add_emod_right,Int.emod_eq_of_lt (by omega) (by omega)]
set_option maxRecDepth 100000 in
set_option maxHeartbeats 2000000 in
theorem rindex_any (c:Int)(n:Nat)(w:World)(hn:0<n)(hn2:n≤1000000):Calls Try.prog 19 #[.int .i64 c,.int .i64 (n:Int)] w fun e w'=>e = .returned (.int .i64 (chI c n:Int))∧w'=w:=by
 have n0:((n:Int) == 0)=false:=by rw [beq_eq_false_iff_ne];omega
 obtain ⟨h1,h2,h3,h4⟩:=chI_v (c:=c) hn
 by_cases hk:c.tmod n<0
 ·have E:=hide (chI_neg hn hk)
  obtain ⟨r,hr⟩:∃r,r=c.tmod n:=⟨_,rfl⟩
  go_enter Try.func19,Try.ntmps19
  go_wp2
  go_ret
  exact ⟨by rw [←E.out];rfl,rfl⟩
 ·have E:=hide (chI_pos hn hk)
  go_enter Try.func19,Try.ntmps19
  go_wp2
  go_ret
  exact ⟨by rw [←E.out];rfl,rfl⟩
set_option maxRecDepth 100000 in
set_option maxHeartbeats 8000000 in
theorem rChoices_any (d:Pl.Dg)(hd:Pl.Valid d)(A B:Option Addr)(cp cq m:Nat)(most:Int)(w:World)(hm:m=4 * d.n)(hg:DgAt w A B d) :
 Calls Try.prog 18 #[.agg #[.slice A d.n cp,.slice B m cq,.int .i64 d.lp],.int .i64 most] w fun e w'=>∃v,e = .returned v∧MovesIn w.heap.size w' v (chL d most)∧Below w.heap.size w w':=by
 have HM:=hide hm
 have HG:=hide hg
 have hn:=hd.wf.few
 clear hm hg
 have R0:=hide (row_at (W:=w) (g:=w.heap.size) (t:=24) (vs:=[.slice A d.n cp,.slice B m cq,.int .i64 (d.lp:Int)]) rfl)
 have B0:=hide (show Below w.heap.size w (w.alloc (.cells #[.slice A d.n cp,.slice B m cq,.int .i64 (d.lp:Int)] 24)) from (Below.refl _ _).alloc (Nat.le_refl _) _)
 go_enter Try.func18,Try.ntmps18
 go_wp2_with fail
 refine (rAll_any d hd A B cp cq m _ HM.out (HG.out.keep B0.out)).mono ?_
 rintro e w0 ⟨v,rfl,hv,hb0⟩
 have R1:=hide (R0.out.below hb0)
 have B1:=hide (B0.out.trans (hb0.mono B0.out.size))
 obtain ⟨A5,c5,rfl,hV⟩:=hv.at.mv
 obtain ⟨N5,hN5⟩:∃n,n=(allL d).length:=⟨_,rfl⟩
 have hlen:=allL_le (d:=d) hn
 have hlenL:=allL_le (d:=d) hn
 rw [←hN5] at hV hlen ⊢
 have HN5:=hide hN5
 have HV:=hide hV
 clear hV hv hN5 hb0 R0 B0
 go_wp2
 go_loopg [5,7] N5 (fun g s5 s7 wx=>∃(q:Nat) (vK:Value),q+g=N5∧s7 = .int .i64 (q:Int)∧vK=s5∧KL w0 vK (keepM d.n most ((allL d).take q)) wx)
 case atStart=>exact ⟨0,.slice none 0 0,by omega,rfl,rfl,⟨⟨by simp [mvs,keepM],.inl ⟨rfl,rfl⟩⟩,Below.refl _ _⟩⟩
 case round =>
  obtain ⟨q,vK,hkg,rfl,rfl,hl⟩:=hrel
  have K0:=hide hl
  have HKG:=hide hkg
  have hkl:=keepM_len d.n most (allL d) q
  clear hl
  by_cases hq:q<N5
  ·have hqi:(q:Int)<(N5:Int):=by omega
   have q0:(0:Int)≤(q:Int):=by omega
   obtain ⟨g5,zk,zx,zy,zs,zo,rfl,hgl,hz,c0,c1,c2,c3,c4⟩:=(HV.out.keep K0.out.bel).at_ hq
   have KS:=hide (keepM_s (n:=d.n) (most:=most) hz)
   have HZ0:=hide hz
   have gb:=gro_bd zk
   obtain ⟨d0,d1,d2,d3⟩:=box3 (R1.out.below K0.out.bel)
   clear hz hkg
   have GRW:=hide (growth_any zk)
   go_wp2_with fail
   go_quiet ((go_at_call 44;exact Calls.quiet_of_same (GRW.out _)))
   have K2:=hide (show KL w0 vK (keepM d.n most ((allL d).take q)) (wr.drewN nq) from ⟨K0.out.o,Below.drewN' K0.out.bel _⟩)
   obtain ⟨w2,hw2⟩:∃W,W=wr.drewN nq:=⟨_,rfl⟩
   have HV2:=hide (HV.out.keep K2.out.bel)
   rw [←hw2] at K2 HV2 ⊢
   clear hw2 K0 GRW c0 c1 c2 c3 c4 d0 d1 d2 d3
   by_cases hle:(d.n:Int)+gro zk≤most
   ·have KK:=hide (show keepM d.n most ((allL d).take (q+1))=keepM d.n most ((allL d).take q)++[⟨zk,zx,zy,zs,zo⟩] by rw [KS.out];unfold dels;rw [decide_eq_false (show ¬most<(d.n:Int)+gro zk by omega)];rfl)
    obtain ⟨g6,zk',zx',zy',zs',zo',e6,hgl6,hz6,c0,c1,c2,c3,c4⟩:=HV2.out.at_ hq
    have HZZ:=hide (hz6.symm.trans HZ0.out)
    obtain ⟨rfl,rfl,rfl,rfl,rfl⟩:zk'=zk∧zx'=zx∧zy'=zy∧zs'=zs∧zo'=zo:=by simpa using HZZ.out
    injection e6 with e6
    injection e6 with e6 _ _
    subst e6
    obtain ⟨n0,hn0,hz0,hz1,hz2⟩:=info_parts moveInfo
    have A0:=hide (K2.out.alloc (.cells (Mv.cells ⟨zk',zx',zy',zs',zo'⟩).toArray 28)).o
    have A1:∀u ∈ Mv.cells ⟨zk',zx',zy',zs',zo'⟩,u.oneCell'=true:=by simp [Mv.cells,Value.oneCell']
    have A2:(keepM d.n most ((allL d).take q)).length+1≤maxLen:=by unfold maxLen;omega
    have A3:((keepM d.n most ((allL d).take q)).length+1) * 40≤140737488355328:=by omega
    have A4:w0.heap.size≤(w2.alloc (.cells (Mv.cells ⟨zk',zx',zy',zs',zo'⟩).toArray 28)).heap.size:=(K2.out.alloc _).bel.size
    have A6:=hide (five_news w2 w2.heap.size rfl ⟨zk',zx',zy',zs',zo'⟩)
    clear hz6 HZZ
    go_wp2_with (at_builtin;refine wpList_append_lies _ (by rfl) _ _ 31 (by rfl) w0.heap.size 28 n0 (.agg #[.int .i64 0,.int .i64 0,.int .i64 0,.int .i64 0,.bool false]) 5 40 Try.underlying31 hn0 hz0 hz1 hz2 rfl (by omega) vK (keepM d.n most ((allL d).take q)).length (mvs (keepM d.n most ((allL d).take q))) (by rfl) A0.out ⟨w2.heap.size,0,none⟩ 1 1 (Mv.cells ⟨zk',zx',zy',zs',zo'⟩) (by rfl) (by rfl) A6.out A1 (by omega) A2 A3 A4 (w2.heap.size+1) (by simp) ?_;intro g2 c2 w5 own2 grow2 at2 lt2;have K5:=hide ((K2.out.alloc (.cells (Mv.cells ⟨zk',zx',zy',zs',zo'⟩).toArray 28)).push (m:=⟨zk',zx',zy',zs',zo'⟩) own2 grow2);clear own2 grow2 at2)
    go_roundg (gk - 1)
    case measure=>have:=HKG.out;omega
    case rel=>exact ⟨q+1,_,by have:=HKG.out;omega,by go_num,rfl,by rw [KK.out];exact K5.out⟩
   ·have KK:=hide (show keepM d.n most ((allL d).take (q+1))=keepM d.n most ((allL d).take q) by rw [KS.out];unfold dels;rw [decide_eq_true (show most<(d.n:Int)+gro zk by omega)];simp)
    go_wp2
    go_roundg (gk - 1)
    case measure=>have:=HKG.out;omega
    case rel=>exact ⟨q+1,vK,by have:=HKG.out;omega,by go_num,rfl,by rw [KK.out];exact K2.out⟩
  ·have hqi:¬((q:Int)<(N5:Int)):=by omega
   have EQ:=hide (show keepM d.n most ((allL d).take q)=chL d most by
    have e:q=(allL d).length:=by rw [←HN5.out];have:=HKG.out;omega
    rw [e,List.take_length]
    rfl)
   go_wp2
   go_ret
   exact ⟨_,rfl,⟨w0.heap.size,B1.out.size,K0.out.bel.size,by rw [←EQ.out];exact K0.out.o⟩,B1.out.trans (K0.out.bel.mono B1.out.size)⟩
end Go.Proofs.Ytobbepmlmbbamaa
end
section
namespace Go.Proofs.Ytobbepmlmbbamaa
open Go Go.RowKit
attribute [local go_sem ↓] Go.wp_at_zero Go.wp_at_succ
theorem r1valid_yes (d:Pl.Dg)(hd:Pl.Valid d)(A B:Option Addr)(cp cq m:Nat)(w:World)(hm:m=4 * d.n)(hg:DgAt w A B d) :
 Calls Try.prog 17 #[.agg #[.slice A d.n cp,.slice B m cq,.int .i64 d.lp]] w fun e w'=>e = .returned (.bool true)∧Below w.heap.size w w':=by
 have hn:=hd.wf.few
 have hl:=hd.wf.lp
 refine (r1valid_any d.sg (nats d.mt) d.lp A B d.n m cp cq w hg.s (by rw [hm];exact hg.m) (by unfold maxLen;omega) (by unfold maxLen;omega) (by omega)).mono ?_
 rintro e w' ⟨h1,h2⟩
 rw [Pl.vb_true (vl_of.2 hd)] at h1
 exact ⟨h1,h2⟩
theorem grt_n {n q:Nat}{lp:Int}(h:false=grt n q lp):n≤64:=by
 have h2:=h.symm
 unfold grt at h2
 rw [Bool.or_eq_false_iff,Bool.or_eq_false_iff] at h2
 have:=of_decide_eq_false h2.1.1
 omega
set_option maxRecDepth 100000 in
set_option maxHeartbeats 4000000 in
theorem choices_bad (sg mt:List Int)(lp:Int)(A B:Option Addr)(n q cp cq:Nat)(most:Int)(w:World)(hs:IntsAt w A n sg)(hm:IntsAt w B q mt)(hn:n≤maxLen)(hq:q≤maxLen)(hlp:-9223372036854775808≤lp∧lp≤9223372036854775807)(hv:¬Pl.VL sg mt lp)(h64:n≤64) :
 Calls Try.prog 40 #[.agg #[.slice A n cp,.slice B q cq,.int .i64 lp],.int .i64 most] w fun e w'=>∃(A5:Option Addr) (c5:Nat),e = .returned (.slice A5 0 c5)∧Below w.heap.size w w':=by
 have HS:=hide hs
 have HM:=hide hm
 clear hs hm
 have b3:Below w.heap.size w (((w.alloc (.cells #[.slice A n cp,.slice B q cq,.int .i64 lp] 24)).alloc (.cells #[.int .i64 most] 3)).alloc (.cells #[.int .i64 (n:Int)] 3)):=(((Below.refl _ _).alloc (Nat.le_refl _) _).alloc (by simp) _).alloc (by simp;omega) _
 have C0:=hide (show CB (((w.alloc (.cells #[.slice A n cp,.slice B q cq,.int .i64 lp] 24)).alloc (.cells #[.int .i64 most] 3)).alloc (.cells #[.int .i64 (n:Int)] 3)) (w.heap.size+1+1) (w.heap.size+1) n most from
  ⟨row_at (vs:=[_]) (by simp),(row_at (vs:=[_]) (by simp)).alloc _⟩)
 have B0:=hide b3
 clear b3
 go_enter Try.func40,Try.ntmps40
 go_wp2_with fail
 refine (All_bad sg mt lp A B n q cp cq _ (HS.out.keep B0.out) (HM.out.keep B0.out) hn hq hlp hv).mono ?_
 rintro e w1 ⟨rfl,hb1⟩
 have C1:=hide (C0.out.below hb1)
 have B1:=hide (B0.out.trans (hb1.mono B0.out.size))
 have hbig:w.heap.size+1+1<w1.heap.size:=C1.out.n.lt
 have k2:w.heap.size≤w1.heap.size:=by omega
 have k4:w.heap.size+1<w1.heap.size:=by omega
 clear hb1 C0 B0
 go_wp2_with fail
 refine (delete_any [] none 0 (w.heap.size+1+1) (w.heap.size+1) n 0 w.heap.size w1.heap.size most w1 (World.ownsRow_nil _ _ _ _) rfl C1.out h64 (by omega) k2 k2 hbig k4).mono ?_
 rintro e w2 ⟨v,rfl,own2,hb2'⟩
 obtain ⟨A5,c5,rfl⟩:=owns_slice own2
 have B2:=hide (B1.out.trans hb2')
 clear own2 hb2'
 go_wp2
 go_ret
 exact ⟨A5,c5,rfl,B2.out⟩
set_option maxRecDepth 100000 in
set_option maxHeartbeats 4000000 in
theorem Choose_bad (sg mt:List Int)(lp:Int)(A B:Option Addr)(n q cp cq:Nat)(c most:Int)(w:World)(hs:IntsAt w A n sg)(hm:IntsAt w B q mt)(hn:n≤maxLen)(hq:q≤maxLen)(hlp:-9223372036854775808≤lp∧lp≤9223372036854775807)(hv:¬Pl.VL sg mt lp)(h64:n≤64) :
 Calls Try.prog 16 #[.agg #[.slice A n cp,.slice B q cq,.int .i64 lp],.int .i64 c,.int .i64 most] w fun e w'=>e = .returned (.tuple #[.agg #[.int .i64 0,.int .i64 0,.int .i64 0,.int .i64 0,.bool false],.bool false])∧Below w.heap.size w w':=by
 have HS:=hide hs
 have HM:=hide hm
 clear hs hm
 have M0:=hide (row_at (W:=w.alloc (.cells #[.slice A n cp,.slice B q cq,.int .i64 lp] 24)) (g:=w.heap.size+1) (t:=28) (vs:=[.int .i64 0,.int .i64 0,.int .i64 0,.int .i64 0,.bool false]) (by simp))
 have B0:=hide (show Below w.heap.size w ((w.alloc (.cells #[.slice A n cp,.slice B q cq,.int .i64 lp] 24)).alloc (.cells #[.int .i64 0,.int .i64 0,.int .i64 0,.int .i64 0,.bool false] 28)) from ((Below.refl _ _).alloc (Nat.le_refl _) _).alloc (by simp) _)
 go_enter Try.func16,Try.ntmps16
 go_wp2_with fail
 refine (choices_bad sg mt lp A B n q cp cq most _ (HS.out.keep B0.out) (HM.out.keep B0.out) hn hq hlp hv h64).mono ?_
 rintro e w1 ⟨A5,c5,rfl,hb1⟩
 have M1:=hide (M0.out.below hb1)
 have B1:=hide (B0.out.trans (hb1.mono B0.out.size))
 obtain ⟨m0,m1,m2,m3,m4,m5⟩:=box5 M1.out
 clear hb1 M0 B0
 go_wp2
 refine bodyPost_ret (v := .tuple #[.agg #[.int .i64 0,.int .i64 0,.int .i64 0,.int .i64 0,.bool false],.bool false]) ?_ rfl ?_
 ·obtain ⟨e0,e1,e2,e3,e4,e5⟩:=box5 (row5 M1.out rfl (.int .i64 0) (.int .i64 0) (.int .i64 0) (.int .i64 0) (.bool false))
  simp [results,Try.results16,go_sem,e0,e1,e2,e3,e4]
 ·exact ⟨rfl,((((B1.out.setCell (by show w.heap.size≤w.heap.size+1;omega) _).setCell (by show w.heap.size≤w.heap.size+1;omega) _).setCell (by show w.heap.size≤w.heap.size+1;omega) _).setCell (by show w.heap.size≤w.heap.size+1;omega) _).setCell (by show w.heap.size≤w.heap.size+1;omega) _⟩
set_option maxRecDepth 100000 in
set_option maxHeartbeats 8000000 in
theorem chooses_valid (d:Pl.Dg)(hd:Pl.Valid d)(A B:Option Addr)(cp cq m:Nat)(c most:Int)(w:World)(hm:m=4 * d.n)(hg:DgAt w A B d) :
 Calls Try.prog 3 #[.agg #[.slice A d.n cp,.slice B m cq,.int .i64 d.lp],.int .i64 c,.int .i64 most] w fun e w'=>e = .returned (.bool true)∧Below w.heap.size w w':=by
 have HM:=hide hm
 have HG:=hide hg
 have hn:=hd.wf.few
 clear hm hg
 have X0:=hide (row_at (W:=w) (g:=w.heap.size) (t:=24) (vs:=[.slice A d.n cp,.slice B m cq,.int .i64 (d.lp:Int)]) rfl)
 have B0:=hide (show Below w.heap.size w (w.alloc (.cells #[.slice A d.n cp,.slice B m cq,.int .i64 (d.lp:Int)] 24)) from (Below.refl _ _).alloc (Nat.le_refl _) _)
 go_enter Try.func3,Try.ntmps3
 go_wp2_with fail
 refine (awake11 _).mono ?_
 rintro e w1 ⟨rfl,hb1⟩
 have Y0:=hide (X0.out.below hb1)
 have B1:=hide (B0.out.trans (hb1.mono B0.out.size))
 clear X0 B0 hb1
 obtain ⟨d0,d1,d2,d3⟩:=box3 Y0.out
 go_wp2_with fail
 refine (great_any A B d.n m cp cq (d.lp:Int) w1).mono ?_
 rintro e w2 ⟨rfl,hb2⟩
 have Z0:=hide (Y0.out.below hb2)
 have B2:=hide (B1.out.trans (hb2.mono B1.out.size))
 clear Y0 B1 hb2 d0 d1 d2 d3
 obtain ⟨gb,hgb⟩:∃b,b=grt d.n m (d.lp:Int):=⟨_,rfl⟩
 rw [←hgb]
 clear hgb
 obtain ⟨d0,d1,d2,d3⟩:=box3 Z0.out
 cases gb with
 | true =>
   go_wp2
   go_ret
   exact ⟨rfl,B2.out⟩
 | false =>
   go_wp2_with fail
   refine (Choose_any d hd A B cp cq m c most _ HM.out (HG.out.keep B2.out)).mono ?_
   intro e w3 h3
   obtain ⟨L,hL⟩:∃L,L=chL d most:=⟨_,rfl⟩
   have lch:=chL_le hn most
   rw [←hL] at h3 lch
   have HL:=hide hL
   clear hL
   rcases h3.split with ⟨hno,rfl,hb3⟩ | ⟨zk,zx,zy,zs,zo,hz,rfl,hb3⟩
   ·have HNO:=hide hno
    have U0:=hide ((Z0.out.below hb3).alloc (.cells #[.int .i64 0,.int .i64 0,.int .i64 0,.int .i64 0,.bool false] 28))
    have M0:=hide (row_at (W:=w3) (g:=w3.heap.size) (t:=28) (vs:=[.int .i64 0,.int .i64 0,.int .i64 0,.int .i64 0,.bool false]) rfl)
    have B3:=hide ((B2.out.trans (hb3.mono B2.out.size)).alloc (B2.out.trans (hb3.mono B2.out.size)).size (.cells #[.int .i64 0,.int .i64 0,.int .i64 0,.int .i64 0,.bool false] 28))
    clear h3 hb3 hno Z0 d0 d1 d2 d3
    obtain ⟨d0,d1,d2,d3⟩:=box3 U0.out
    go_wp2_with fail
    refine (r1valid_yes d hd A B cp cq m _ HM.out (HG.out.keep B3.out)).mono ?_
    rintro e w4 ⟨rfl,hb4⟩
    have U4:=hide (U0.out.below hb4)
    have M4:=hide (M0.out.below hb4)
    have B4:=hide (B3.out.trans (hb4.mono B3.out.size))
    clear hb4 U0 M0 d0 d1 d2 d3
    obtain ⟨d0,d1,d2,d3⟩:=box3 U4.out
    go_wp2_with fail
    refine (rChoices_any d hd A B cp cq m most _ HM.out (HG.out.keep B4.out)).mono ?_
    rintro e w5 ⟨v,rfl,hv,hb5⟩
    obtain ⟨A5,c5,rfl,hV⟩:=hv.at.mv
    have M5:=hide (M4.out.below hb5)
    have B5:=hide (B4.out.trans (hb5.mono B4.out.size))
    have e0:(chL d most).length=0:=by rw [←HL.out,HNO.out];rfl
    rw [e0]
    clear hV hv hb5 e0 d0 d1 d2 d3 M4 U4
    obtain ⟨m0,m1,m2,m3,m4,m5⟩:=box5 M5.out
    go_wp2
    go_ret
    exact ⟨rfl,B5.out⟩
   ·have HZ:=hide hz
    obtain ⟨N5,hN5⟩:∃n,n=L.length:=⟨_,rfl⟩
    have hN0:0<N5:=by have:=(List.getElem?_eq_some_iff.1 hz).1;omega
    rw [←hN5] at HZ lch
    have HN5:=hide hN5
    have U0:=hide ((Z0.out.below hb3).alloc (.cells #[.int .i64 zk,.int .i64 zx,.int .i64 zy,.int .i64 zs,.bool zo] 28))
    have M0:=hide (row_at (W:=w3) (g:=w3.heap.size) (t:=28) (vs:=[.int .i64 zk,.int .i64 zx,.int .i64 zy,.int .i64 zs,.bool zo]) rfl)
    have B3:=hide ((B2.out.trans (hb3.mono B2.out.size)).alloc (B2.out.trans (hb3.mono B2.out.size)).size (.cells #[.int .i64 zk,.int .i64 zx,.int .i64 zy,.int .i64 zs,.bool zo] 28))
    clear h3 hb3 hz hN5 Z0 d0 d1 d2 d3
    obtain ⟨d0,d1,d2,d3⟩:=box3 U0.out
    go_wp2_with fail
    refine (r1valid_yes d hd A B cp cq m _ HM.out (HG.out.keep B3.out)).mono ?_
    rintro e w4 ⟨rfl,hb4⟩
    have U4:=hide (U0.out.below hb4)
    have M4:=hide (M0.out.below hb4)
    have B4:=hide (B3.out.trans (hb4.mono B3.out.size))
    clear hb4 U0 M0 d0 d1 d2 d3
    obtain ⟨d0,d1,d2,d3⟩:=box3 U4.out
    go_wp2_with fail
    refine (rChoices_any d hd A B cp cq m most _ HM.out (HG.out.keep B4.out)).mono ?_
    rintro e w5 ⟨v,rfl,hv,hb5⟩
    obtain ⟨A5,c5,rfl,hV⟩:=hv.at.mv
    have M5:=hide (M4.out.below hb5)
    have B5:=hide (B4.out.trans (hb5.mono B4.out.size))
    rw [←HL.out,←HN5.out] at hV ⊢
    have hI:=(chI_v (c:=c) hN0).2.2.2
    have IX:=hide (fun w=>rindex_any c N5 w hN0 (by omega))
    obtain ⟨g5,yk,yx,yy,ys,yo,rfl,hgl,hy,c0,c1,c2,c3,c4⟩:=hV.at_ hI
    rw [HZ.out] at hy
    obtain ⟨rfl,rfl,rfl,rfl,rfl⟩:zk=yk∧zx=yx∧zy=yy∧zs=ys∧zo=yo:=by simpa using hy
    obtain ⟨ix,hix⟩:∃i,i=chI c N5:=⟨_,rfl⟩
    rw [←hix] at c0 c1 c2 c3 c4 hI
    have IX2:=hide (show ∀w,Calls Try.prog 19 #[.int .i64 c,.int .i64 (N5:Int)] w fun e w'=>e = .returned (.int .i64 (ix:Int))∧w'=w by rw [hix];exact IX.out)
    have hN1:((N5:Int) == 0)=false:=by rw [beq_eq_false_iff_ne];omega
    have hI2:(ix:Int)<(N5:Int):=by omega
    clear hV hv hb5 hy hix IX d0 d1 d2 d3 M4 U4
    obtain ⟨m0,m1,m2,m3,m4,m5⟩:=box5 M5.out
    go_wp2_with fail
    go_quiet ((go_at_call 19;exact Calls.quiet_of_same (IX2.out _)))
    go_wp2
    go_ret
    exact ⟨rfl,Below.drewN' B5.out _⟩
set_option maxRecDepth 100000 in
set_option maxHeartbeats 4000000 in
theorem chooses_bad (sg mt:List Int)(lp:Int)(A B:Option Addr)(n q cp cq:Nat)(c most:Int)(w:World)(hs:IntsAt w A n sg)(hm:IntsAt w B q mt)(hn:n≤maxLen)(hq:q≤maxLen)(hlp:-9223372036854775808≤lp∧lp≤9223372036854775807)(hv:¬Pl.VL sg mt lp) :
 Calls Try.prog 3 #[.agg #[.slice A n cp,.slice B q cq,.int .i64 lp],.int .i64 c,.int .i64 most] w fun e w'=>e = .returned (.bool true)∧Below w.heap.size w w':=by
 have HS:=hide hs
 have HM:=hide hm
 clear hs hm
 have X0:=hide (row_at (W:=w) (g:=w.heap.size) (t:=24) (vs:=[.slice A n cp,.slice B q cq,.int .i64 lp]) rfl)
 have B0:=hide (show Below w.heap.size w (w.alloc (.cells #[.slice A n cp,.slice B q cq,.int .i64 lp] 24)) from (Below.refl _ _).alloc (Nat.le_refl _) _)
 go_enter Try.func3,Try.ntmps3
 go_wp2_with fail
 refine (awake11 _).mono ?_
 rintro e w1 ⟨rfl,hb1⟩
 have Y0:=hide (X0.out.below hb1)
 have B1:=hide (B0.out.trans (hb1.mono B0.out.size))
 clear X0 B0 hb1
 obtain ⟨d0,d1,d2,d3⟩:=box3 Y0.out
 go_wp2_with fail
 refine (great_any A B n q cp cq lp w1).mono ?_
 rintro e w2 ⟨rfl,hb2⟩
 have Z0:=hide (Y0.out.below hb2)
 have B2:=hide (B1.out.trans (hb2.mono B1.out.size))
 clear Y0 B1 hb2 d0 d1 d2 d3
 obtain ⟨gb,hgb⟩:∃b,b=grt n q lp:=⟨_,rfl⟩
 rw [←hgb]
 have HGB:=hide hgb
 clear hgb
 obtain ⟨d0,d1,d2,d3⟩:=box3 Z0.out
 cases gb with
 | true =>
   go_wp2
   go_ret
   exact ⟨rfl,B2.out⟩
 | false =>
   have h64:n≤64:=grt_n HGB.out
   go_wp2_with fail
   refine (Choose_bad sg mt lp A B n q cp cq c most _ (HS.out.keep B2.out) (HM.out.keep B2.out) hn hq hlp hv h64).mono ?_
   rintro e w3 ⟨rfl,hb3⟩
   have U0:=hide ((Z0.out.below hb3).alloc (.cells #[.int .i64 0,.int .i64 0,.int .i64 0,.int .i64 0,.bool false] 28))
   have M0:=hide (row_at (W:=w3) (g:=w3.heap.size) (t:=28) (vs:=[.int .i64 0,.int .i64 0,.int .i64 0,.int .i64 0,.bool false]) rfl)
   have B3:=hide ((B2.out.trans (hb3.mono B2.out.size)).alloc (B2.out.trans (hb3.mono B2.out.size)).size (.cells #[.int .i64 0,.int .i64 0,.int .i64 0,.int .i64 0,.bool false] 28))
   clear hb3 Z0 d0 d1 d2 d3
   obtain ⟨d0,d1,d2,d3⟩:=box3 U0.out
   go_wp2_with fail
   refine (r1valid_any sg mt lp A B n q cp cq _ (HS.out.keep B3.out) (HM.out.keep B3.out) hn hq hlp).mono ?_
   rintro e w4 ⟨rfl,hb4⟩
   rw [Pl.vb_false hv]
   have M4:=hide (M0.out.below hb4)
   have B4:=hide (B3.out.trans (hb4.mono B3.out.size))
   clear hb4 U0 M0 d0 d1 d2 d3
   obtain ⟨m0,m1,m2,m3,m4,m5⟩:=box5 M4.out
   go_wp2
   go_ret
   exact ⟨rfl,B4.out⟩
theorem chooses_walk (sg mt:List Int)(lp:Int)(A B:Option Addr)(n q cp cq:Nat)(c most:Int)(w:World)(hs:IntsAt w A n sg)(hm:IntsAt w B q mt)(hn:n≤maxLen)(hq:q≤maxLen)(hlp:-9223372036854775808≤lp∧lp≤9223372036854775807) :
 Calls Try.prog 3 #[.agg #[.slice A n cp,.slice B q cq,.int .i64 lp],.int .i64 c,.int .i64 most] w fun e w'=>e = .returned (.bool true)∧Below w.heap.size w w':=by
 by_cases hv:Pl.VL sg mt lp
 ·have hl:=hs.len
  have hl2:=hm.len
  have hl3:=hv.len
  have en:(Pl.mk sg mt lp).n=n:=hl
  have em:nats (Pl.mk sg mt lp).mt=mt:=Pl.nats_mk hv.2.1
  have el:((Pl.mk sg mt lp).lp:Int)=lp:=by show ((lp.toNat:Nat):Int)=lp;have:=hv.2.2;omega
  have h:=chooses_valid (Pl.mk sg mt lp) hv.1 A B cp cq q c most w (by rw [en];omega) ⟨by rw [en];exact hs,by rw [en,em,show 4 * n=q by omega];exact hm⟩
  rw [en,el] at h
  exact h
 ·exact chooses_bad sg mt lp A B n q cp cq c most w hs hm hn hq hlp hv
end Go.Proofs.Ytobbepmlmbbamaa
end
