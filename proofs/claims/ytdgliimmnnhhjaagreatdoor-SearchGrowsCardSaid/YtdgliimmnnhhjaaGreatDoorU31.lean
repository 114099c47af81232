/-
  The texts Xr.
-/
import Derived.Test.YtdgliimmnnhhjaaGreatDoorU27
import Derived.Test.YtdgliimmnnhhjaaGreatDoorU29
set_option linter.unusedVariables false
set_option linter.unusedSimpArgs false
section
namespace Go.Proofs.YtdgliimmnnhhjaaGreatDoor
open Go Go.RowKit
attribute [local go_sem ↓] Go.wp_at_zero Go.wp_at_succ
structure MG (w:World) (T:TypeId) (gd gl:Nat) (dv:List Value) (v:Value) (ms:List Mv) (W:World):Prop where
 d:Row W gd T dv
 l:Row W gl 39 [v]
 o:W.ownsRow (gl+1) 43 5 v ms.length (mvs ms)
 bel:Below w.heap.size w W
 lo:w.heap.size≤gd
 lt:gd<gl
section
variable {w W W' W2:World} {T:TypeId} {gd gl:Nat} {dv:List Value} {v v':Value} {ms:List Mv} {m:Mv}
theorem MG.below (h:MG w T gd gl dv v ms W)(hb:Below W.heap.size W W'):MG w T gd gl dv v ms W' :=
 ⟨h.d.below hb,h.l.below hb,own_below h.o hb,h.bel.trans (hb.mono h.bel.size),h.lo,h.lt⟩
theorem MG.alloc (h:MG w T gd gl dv v ms W)(o:Obj):MG w T gd gl dv v ms (W.alloc o):=h.below ((Below.refl _ _).alloc (Nat.le_refl _) o)
theorem MG.big (h:MG w T gd gl dv v ms W):gl<W.heap.size:=h.l.lt
theorem MG.far (h:MG w T gd gl dv v ms W){g:Nat}(hg:g≤gl):some g≠v.ownBlock:=fun e=>by have:=(h.o.lt g e.symm).1;omega
theorem MG.push (h:MG w T gd gl dv v ms W)(own:W2.ownsRow (gl+1) 43 5 v' (ms.length+1) (mvs ms++m.cells))(gr:W.grownBy W2 v.ownBlock):MG w T gd gl dv v' (ms++[m]) (W2.setCell ⟨gl,0,none⟩ v'):=by
 have a:=h.lo
 have b:=h.lt
 refine ⟨(h.d.grown gr (h.far (by omega))).other (by show gd≠gl;omega) _,(h.l.grown gr (h.far (Nat.le_refl _))).set 0 v',?_,?_,h.lo,h.lt⟩
 ·rw [mvs_app,List.length_append]
  exact ownsRow_setCell_below own (by show gl<gl+1;omega) _
 ·exact (h.bel.grown gr h.bel.size (fun k hk=>by have:=(h.o.lt k hk).1;omega)).setCell (by show _≤gl;omega) _
end
def one (c:Int)(m:Mv):List Mv:=if c=0 then [m] else []
theorem one_yes {c:Int}{m:Mv}(h:c=0):one c m=[m]:=by unfold one;rw [if_pos h]
theorem one_no {c:Int}{m:Mv}(h:¬c=0):one c m=[]:=by unfold one;rw [if_neg h]
theorem one_len (c:Int)(m:Mv):(one c m).length≤1:=by unfold one;split <;> simp
set_option maxRecDepth 100000 in
set_option maxHeartbeats 4000000 in
theorem cuTry_any (d:Pl.Dg)(hd:Pl.Wf d)(A B:Option Addr)(cp cq m gd gl:Nat)(v:Value)(ms:List Mv)(x s:Int)(o:Bool)(w0 w:World)(hm:m=4 * d.n)(hg:DgAt w A B d)(hx:-1≤x∧x<4 * (d.n:Int))(hms:ms.length≤1000000)
 (hp:MG w0 24 gd gl [.slice A d.n cp,.slice B m cq,.int .i64 (d.lp:Int)] v ms w) :
 Calls Tryz.prog 96 #[.agg #[.int .i64 1,.int .i64 x,.int .i64 0,.int .i64 s,.bool o],.pointer (some ⟨gd,0,none⟩),.pointer (some ⟨gl,0,none⟩)] w fun e w'=>e = .returned (.tuple #[])∧∃v',MG w0 24 gd gl [.slice A d.n cp,.slice B m cq,.int .i64 (d.lp:Int)] v' (ms++one (curlableC d x) ⟨1,x,0,s,o⟩) w':=by
 have HM:=hide hm
 have HG:=hide hg
 have hn:=hd.few
 have hlp:=hd.lp
 obtain ⟨cc,hcc⟩:∃c,c=curlableC d x:=⟨_,rfl⟩
 have HC:=hide hcc
 have hb0:Below w.heap.size w (w.alloc (.cells #[.int .i64 1,.int .i64 x,.int .i64 0,.int .i64 s,.bool o] 43)):=(Below.refl _ _).alloc (Nat.le_refl _) _
 have HB0:=hide hb0
 have P1:=hide (hp.below hb0)
 have M1:=hide (row_at (W:=w) (g:=w.heap.size) (t:=43) (vs:=[.int .i64 1,.int .i64 x,.int .i64 0,.int .i64 s,.bool o]) rfl)
 have hgl:gl<w.heap.size:=hp.big
 have hgd:gd<gl:=hp.lt
 clear hp hb0 hg hm hcc
 obtain ⟨d0,d1,d2,d3⟩:=box3 P1.out.d
 obtain ⟨e0,e1,e2,e3,e4,e5⟩:=box5 M1.out
 go_enter Tryz.func96,Tryz.ntmps96
 go_wp2_with fail
 refine (curlable_m d A B cp cq m 1 x 0 s o _ HM.out (HG.out.keep HB0.out) hn hlp hx).mono ?_
 rintro e w1 ⟨rfl,hb1⟩
 have P2:=hide (P1.out.below hb1)
 have M2:=hide (M1.out.below hb1)
 have hs2:w.heap.size<w1.heap.size:=M2.out.lt
 have hs3:gl<w1.heap.size:=by omega
 clear hb1 d0 d1 d2 d3 e0 e1 e2 e3 e4 e5 HB0 P1 M1
 obtain ⟨e0,e1,e2,e3,e4,e5⟩:=box5 M2.out
 rw [←HC.out]
 by_cases h0:cc=0
 ·have E:=hide (show one cc ⟨1,x,0,s,o⟩=[⟨1,x,0,s,o⟩] from one_yes h0)
  have t1:(cc == 0)=true:=by rw [beq_iff_eq];exact h0
  clear h0
  obtain ⟨q0,q1⟩:=box1 P2.out.l
  obtain ⟨n0,hn0,hz0,hz1,hz2⟩:=info_parts moveInfo
  have A0:=hide (P2.out.alloc (.cells (Mv.cells ⟨1,x,0,s,o⟩).toArray 43)).o
  have A1:∀u ∈ Mv.cells ⟨1,x,0,s,o⟩,u.oneCell'=true:=by simp [Mv.cells,Value.oneCell']
  have A2:ms.length+1≤maxLen:=by unfold maxLen;omega
  have A3:(ms.length+1) * 40≤140737488355328:=by omega
  have A6:=hide (five_news w1 w1.heap.size rfl ⟨1,x,0,s,o⟩)
  go_wp2_with (at_builtin;refine wpList_append_lies _ (by rfl) _ _ 39 (by rfl) (gl+1) 43 n0 (.agg #[.int .i64 0,.int .i64 0,.int .i64 0,.int .i64 0,.bool false]) 5 40 Tryz.underlying39 hn0 hz0 hz1 hz2 rfl (by omega) v ms.length (mvs ms) (by rfl) A0.out ⟨w1.heap.size,0,none⟩ 1 1 (Mv.cells ⟨1,x,0,s,o⟩) (by rfl) (by rfl) A6.out A1 (by omega) A2 A3 (by simp;omega) (w1.heap.size+1) (by simp) ?_;intro g2 c2 w2 own2 grow2 at2 lt2;obtain ⟨q2,q3⟩:=box1 ((P2.out.alloc (.cells (Mv.cells ⟨1,x,0,s,o⟩).toArray 43)).l.grown grow2 ((P2.out.alloc (.cells (Mv.cells ⟨1,x,0,s,o⟩).toArray 43)).far (Nat.le_refl _)));have OWN2:=hide own2;have GR2:=hide grow2;clear own2 grow2 at2)
  refine bodyPost_end (results_none rfl _ _ _) rfl ⟨rfl,.slice (some ⟨g2,0,none⟩) (ms.length+1) c2,?_⟩
  rw [←HC.out,E.out]
  exact (P2.out.alloc _).push OWN2.out GR2.out
 ·have E:=hide (show one cc ⟨1,x,0,s,o⟩=[] from one_no h0)
  have t1:(cc == 0)=false:=by rw [beq_eq_false_iff_ne];exact h0
  clear h0
  go_wp2
  refine bodyPost_end (results_none rfl _ _ _) rfl ⟨rfl,v,?_⟩
  rw [←HC.out,E.out,List.append_nil]
  exact P2.out
def cuX (d:Pl.Dg)(x:Int):List Mv:=one (curlableC d x) ⟨1,x,0,-1,false⟩++one (curlableC d x) ⟨1,x,0,-1,true⟩++(one (curlableC d x) ⟨1,x,0,1,false⟩++one (curlableC d x) ⟨1,x,0,1,true⟩)
def cuL (d:Pl.Dg):Nat→List Mv
 | 0=>[]
 | k+1=>cuL d k++cuX d ((k:Int) - 1)
theorem cuX_len (d:Pl.Dg)(x:Int):(cuX d x).length≤4:=by
 unfold cuX
 have a:=one_len (curlableC d x) ⟨1,x,0,-1,false⟩
 have b:=one_len (curlableC d x) ⟨1,x,0,-1,true⟩
 have c:=one_len (curlableC d x) ⟨1,x,0,1,false⟩
 have e:=one_len (curlableC d x) ⟨1,x,0,1,true⟩
 simp only [List.length_append]
 omega
theorem cuL_len (d:Pl.Dg):∀k,(cuL d k).length≤4 * k
 | 0=>Nat.le_refl _
 | k + 1 => by
   have a:=cuL_len d k
   have b:=cuX_len d ((k:Int) - 1)
   show (cuL d k++cuX d ((k:Int) - 1)).length≤_
   rw [List.length_append]
   omega
def MovesIn (b:Nat)(w:World)(v:Value)(ms:List Mv):Prop:=∃base,b≤base∧base≤w.heap.size∧w.ownsRow base 43 5 v ms.length (mvs ms)
theorem MovesIn.at {b:Nat}{w:World}{v:Value}{ms:List Mv}(h:MovesIn b w v ms):MovesAt w v ms:=let ⟨base,_,_,h⟩:=h;⟨base,h⟩
set_option maxRecDepth 100000 in
set_option maxHeartbeats 4000000 in
theorem curls_any (d:Pl.Dg)(hd:Pl.Wf d)(A B:Option Addr)(cp cq m:Nat)(w:World)(hm:m=4 * d.n)(hg:DgAt w A B d) :
 Calls Tryz.prog 67 #[.agg #[.slice A d.n cp,.slice B m cq,.int .i64 d.lp]] w fun e w'=>∃v,e = .returned v∧MovesIn w.heap.size w' v (cuL d (m+1))∧Below w.heap.size w w':=by
 have HM:=hide hm
 have HG:=hide hg
 have hn:=hd.few
 have hm2:m≤256:=by omega
 have P0:=hide (show MG w 24 w.heap.size (w.heap.size+1) [.slice A d.n cp,.slice B m cq,.int .i64 (d.lp:Int)] (.slice none 0 0) [] ((w.alloc (.cells #[.slice A d.n cp,.slice B m cq,.int .i64 (d.lp:Int)] 24)).alloc (.cells #[.slice none 0 0] 39)) from
  ⟨(row_at (vs:=[_,_,_]) rfl).alloc _,row_at (vs:=[_]) (by simp),⟨rfl,.inl ⟨rfl,rfl⟩⟩,((Below.refl _ _).alloc (Nat.le_refl _) _).alloc (by simp) _,Nat.le_refl _,by omega⟩)
 clear hg hm
 go_enter Tryz.func67,Tryz.ntmps67
 go_wp2
 go_loopg [5] (m+1) (fun g s5 wx=>∃(k:Nat) (v:Value),k+g=m+1∧s5 = .int .i64 ((k:Int) - 1)∧MG w 24 w.heap.size (w.heap.size+1) [.slice A d.n cp,.slice B m cq,.int .i64 (d.lp:Int)] v (cuL d k) wx)
 case atStart=>exact ⟨0,_,by omega,rfl,P0.out⟩
 case round =>
  clear P0
  obtain ⟨k,v,hkg,rfl,hp⟩:=hrel
  obtain ⟨go,rfl⟩:∃go,go=gk:=⟨_,rfl⟩
  have HKG:=hide hkg
  have PK:=hide hp
  have hlen:=cuL_len d k
  obtain ⟨x,hx⟩:∃x:Int,x=(k:Int) - 1:=⟨_,rfl⟩
  have HX:=hide hx
  rw [←hx]
  obtain ⟨d0,d1,d2,d3⟩:=box3 hp.d
  clear hp hx
  by_cases hk:k<m+1
  ·have hki:x<(m:Int):=by have:=HX.out;omega
   have x0:-1≤x:=by have:=HX.out;omega
   have x1:x<4 * (d.n:Int):=by have:=HM.out;omega
   clear hkg
   have i0:∀W,(Instr.index 120 (.agg #[.int .i64 (-1),.int .i64 1]) (.int .i64 0)).run Tryz.prog W = .ok (.int .i64 (-1)) W:=fun _=>by kernel_rfl
   have i1:∀W,(Instr.index 120 (.agg #[.int .i64 (-1),.int .i64 1]) (.int .i64 1)).run Tryz.prog W = .ok (.int .i64 1) W:=fun _=>by kernel_rfl
   go_wp2
   go_loopg [17,7] 2 (fun g s17 s7 wx=>∃(j:Nat) (u:Value),j+g=2∧s17 = .int .i64 (j:Int)∧MG w 24 w.heap.size (w.heap.size+1) [.slice A d.n cp,.slice B m cq,.int .i64 (d.lp:Int)] u (cuL d k++((if 0<j then one (curlableC d x) ⟨1,x,0,-1,false⟩++one (curlableC d x) ⟨1,x,0,-1,true⟩ else [])++(if 1<j then one (curlableC d x) ⟨1,x,0,1,false⟩++one (curlableC d x) ⟨1,x,0,1,true⟩ else []))) wx)
   case atStart=>exact ⟨0,v,by omega,rfl,by simpa using PK.out⟩
   case round =>
    clear PK
    obtain ⟨j,u,hjg,rfl,hq⟩:=hrel
    have HJG:=hide hjg
    have hj3:j=0∨j=1∨j=2:=by omega
    have L1:=one_len (curlableC d x) ⟨1,x,0,-1,false⟩
    have L2:=one_len (curlableC d x) ⟨1,x,0,-1,true⟩
    have L3:=one_len (curlableC d x) ⟨1,x,0,1,false⟩
    clear hjg
    rcases hj3 with rfl | rfl | rfl
    ·have hq1:MG w 24 w.heap.size (w.heap.size+1) [.slice A d.n cp,.slice B m cq,.int .i64 (d.lp:Int)] u (cuL d k) wr:=by simpa using hq
     have Q0:=hide hq1
     clear hq hq1
     go_wp2_with fail
     refine (cuTry_any d hd A B cp cq m _ _ u (cuL d k) x (-1) false w _ HM.out (HG.out.keep Q0.out.bel) ⟨x0,x1⟩ (by omega) Q0.out).mono ?_
     rintro e w1 ⟨rfl,u1,hp1⟩
     have Q1:=hide hp1
     clear hp1
     go_wp2_with fail
     refine (cuTry_any d hd A B cp cq m _ _ u1 _ x (-1) true w _ HM.out (HG.out.keep Q1.out.bel) ⟨x0,x1⟩ (by rw [List.length_append];omega) Q1.out).mono ?_
     rintro e w2 ⟨rfl,u2,hp2⟩
     have Q2:=hide hp2
     clear hp2
     go_wp2
     go_roundg 1
     case measure=>have:=HJG.out;omega
     case rel=>exact ⟨1,u2,rfl,by go_num,by simpa using Q2.out⟩
    ·have hq1:MG w 24 w.heap.size (w.heap.size+1) [.slice A d.n cp,.slice B m cq,.int .i64 (d.lp:Int)] u (cuL d k++(one (curlableC d x) ⟨1,x,0,-1,false⟩++one (curlableC d x) ⟨1,x,0,-1,true⟩)) wr:=by simpa using hq
     have Q0:=hide hq1
     clear hq hq1
     go_wp2_with fail
     refine (cuTry_any d hd A B cp cq m _ _ u _ x 1 false w _ HM.out (HG.out.keep Q0.out.bel) ⟨x0,x1⟩ (by rw [List.length_append,List.length_append];omega) Q0.out).mono ?_
     rintro e w1 ⟨rfl,u1,hp1⟩
     have Q1:=hide hp1
     clear hp1
     go_wp2_with fail
     refine (cuTry_any d hd A B cp cq m _ _ u1 _ x 1 true w _ HM.out (HG.out.keep Q1.out.bel) ⟨x0,x1⟩ (by rw [List.length_append,List.length_append,List.length_append];omega) Q1.out).mono ?_
     rintro e w2 ⟨rfl,u2,hp2⟩
     have Q2:=hide hp2
     clear hp2
     go_wp2
     go_roundg 0
     case measure=>have:=HJG.out;omega
     case rel=>exact ⟨2,u2,rfl,by go_num,by simpa using Q2.out⟩
    ·have Q0 := hide (show MG w 24 w.heap.size (w.heap.size + 1) [.slice A d.n cp, .slice B m cq, .int .i64 (d.lp : Int)] u (cuL d (k + 1)) wr from by
      have e:cuL d (k+1)=cuL d k++cuX d x:=by rw [HX.out];rfl
      rw [e]
      unfold cuX
      simpa using hq)
     have EK:=hide (show x+1=((k+1:Nat):Int) - 1 by have:=HX.out;omega)
     clear hq
     go_wp2
     go_roundg (go - 1)
     case measure=>have:=HKG.out;omega
     case rel=>exact ⟨k+1,u,by have:=HKG.out;omega,by rw [EK.out],Q0.out⟩
  ·have hki:¬(x<(m:Int)):=by have:=HX.out;omega
   have e:k=m+1:=by omega
   subst e
   obtain ⟨q0,q1⟩:=box1 PK.out.l
   clear hkg
   go_wp2
   go_ret
   exact ⟨v,rfl,⟨w.heap.size+1+1,by omega,PK.out.big,PK.out.o⟩,PK.out.bel⟩
def unL (d:Pl.Dg):Nat→List Mv
 | 0=>[]
 | k+1=>unL d k++one (uncC d k) ⟨2,k,0,0,false⟩
theorem unL_len (d:Pl.Dg):∀k,(unL d k).length≤k
 | 0=>Nat.le_refl _
 | k + 1 => by
   have a:=unL_len d k
   have b:=one_len (uncC d k) ⟨2,k,0,0,false⟩
   show (unL d k++one (uncC d k) ⟨2,k,0,0,false⟩).length≤_
   rw [List.length_append]
   omega
set_option maxRecDepth 100000 in
set_option maxHeartbeats 4000000 in
theorem unTry_any (d:Pl.Dg)(hd:Pl.Wf d)(A B:Option Addr)(cp cq m gd gl c:Nat)(v:Value)(ms:List Mv)(w0 w:World)(hm:m=4 * d.n)(hg:DgAt w A B d)(hc:c<d.n)(hms:ms.length≤1000000)
 (hp:MG w0 24 gd gl [.slice A d.n cp,.slice B m cq,.int .i64 (d.lp:Int)] v ms w) :
 Calls Tryz.prog 93 #[.agg #[.int .i64 2,.int .i64 (c:Int),.int .i64 0,.int .i64 0,.bool false],.pointer (some ⟨gd,0,none⟩),.pointer (some ⟨gl,0,none⟩)] w fun e w'=>e = .returned (.tuple #[])∧∃v',MG w0 24 gd gl [.slice A d.n cp,.slice B m cq,.int .i64 (d.lp:Int)] v' (ms++one (uncC d c) ⟨2,c,0,0,false⟩) w':=by
 have HM:=hide hm
 have HG:=hide hg
 have hn:=hd.few
 obtain ⟨cc,hcc⟩:∃c',c'=uncC d c:=⟨_,rfl⟩
 have HC:=hide hcc
 have hb0:Below w.heap.size w (w.alloc (.cells #[.int .i64 2,.int .i64 (c:Int),.int .i64 0,.int .i64 0,.bool false] 43)):=(Below.refl _ _).alloc (Nat.le_refl _) _
 have HB0:=hide hb0
 have P1:=hide (hp.below hb0)
 have M1:=hide (row_at (W:=w) (g:=w.heap.size) (t:=43) (vs:=[.int .i64 2,.int .i64 (c:Int),.int .i64 0,.int .i64 0,.bool false]) rfl)
 have hgl:gl<w.heap.size:=hp.big
 have hgd:gd<gl:=hp.lt
 clear hp hb0 hg hm hcc
 obtain ⟨d0,d1,d2,d3⟩:=box3 P1.out.d
 obtain ⟨e0,e1,e2,e3,e4,e5⟩:=box5 M1.out
 go_enter Tryz.func93,Tryz.ntmps93
 go_wp2_with fail
 refine (kink_any d hd A B cp cq m c _ HM.out (HG.out.keep HB0.out) hc).mono ?_
 rintro e w1 ⟨he,hb1⟩
 have P2:=hide (P1.out.below hb1)
 have M2:=hide (M1.out.below hb1)
 have HB1:=hide (HB0.out.trans (hb1.mono HB0.out.size))
 have hs2:w.heap.size<w1.heap.size:=M2.out.lt
 have hs3:gl<w1.heap.size:=by omega
 have HE:=hide he
 clear hb1 d0 d1 d2 d3 e0 e1 e2 e3 e4 e5 HB0 P1 M1 he
 obtain ⟨d0,d1,d2,d3⟩:=box3 P2.out.d
 obtain ⟨e0,e1,e2,e3,e4,e5⟩:=box5 M2.out
 by_cases hI:isK d c
 ·have HE2:=HE.out
  rw [Pl.vb_true hI] at HE2
  unfold kinkE at HE2
  obtain ⟨z1,hz1⟩:∃z:Nat,z=Pl.tn (kk d c) 2:=⟨_,rfl⟩
  obtain ⟨z2,hz2⟩:∃z:Nat,z=Pl.tn (d.m (kk d c)) 2:=⟨_,rfl⟩
  rw [←hz1,←hz2] at HE2
  simp only [if_true] at HE2
  subst HE2
  clear HE hI hz1 hz2
  go_wp2_with fail
  refine (uncurl_m d hd A B cp cq m c 2 0 0 false _ HM.out (HG.out.keep HB1.out) hc).mono ?_
  rintro e w3 ⟨r1,r2,hb3⟩
  have P3:=hide (P2.out.below hb3)
  have M3:=hide (M2.out.below hb3)
  have hs4:w.heap.size<w3.heap.size:=M3.out.lt
  have hs5:gl<w3.heap.size:=by omega
  rw [←HC.out] at r1 r2
  have R1:=hide r1
  have R2:=hide r2
  clear r1 r2 hb3 d0 d1 d2 d3 e0 e1 e2 e3 e4 e5 HB1 P2 M2
  obtain ⟨e0,e1,e2,e3,e4,e5⟩:=box5 M3.out
  have hs6:gl<w3.heap.size+1:=by omega
  have hs7:gl<w3.heap.size+1+1:=by omega
  have hs8:w.heap.size<w3.heap.size+1:=by omega
  have hs9:w.heap.size<w3.heap.size+1+1:=by omega
  by_cases h0:cc=0
  ·obtain ⟨A9,B9,c8,c9,k9,x9,y9,s9,o9,hmv,rfl,hT⟩:=ResOk.split (R2.out h0)
   have E:=hide (show one cc ⟨2,c,0,0,false⟩=[⟨2,c,0,0,false⟩] from one_yes h0)
   clear h0 R1 R2 hmv hT
   obtain ⟨N9,hN9⟩:∃n,n=(unD d c).n:=⟨_,rfl⟩
   obtain ⟨N4,hN4⟩:∃n,n=4 * (unD d c).n:=⟨_,rfl⟩
   obtain ⟨L9,hL9⟩:∃n,n=(unD d c).lp:=⟨_,rfl⟩
   rw [←hN4,←hN9,←hL9]
   clear hN9 hN4 hL9
   obtain ⟨q0,q1⟩:=box1 P3.out.l
   obtain ⟨n0,hn0,hz0,hz1,hz2⟩:=info_parts moveInfo
   have PA:=hide ((P3.out.alloc (.cells #[.slice A9 N9 c8,.slice B9 N4 c9,.int .i64 (L9:Int)] 24)).alloc (.cells #[.int .i64 k9,.int .i64 x9,.int .i64 y9,.int .i64 s9,.bool o9] 43))
   have A0:=hide (PA.out.alloc (.cells (Mv.cells ⟨2,c,0,0,false⟩).toArray 43)).o
   have A1:∀u ∈ Mv.cells ⟨2,c,0,0,false⟩,u.oneCell'=true:=by simp [Mv.cells,Value.oneCell']
   have A2:ms.length+1≤maxLen:=by unfold maxLen;omega
   have A3:(ms.length+1) * 40≤140737488355328:=by omega
   have A6:=hide (five_news ((w3.alloc (.cells #[.slice A9 N9 c8,.slice B9 N4 c9,.int .i64 (L9:Int)] 24)).alloc (.cells #[.int .i64 k9,.int .i64 x9,.int .i64 y9,.int .i64 s9,.bool o9] 43)) (w3.heap.size+1+1) (by simp) ⟨2,c,0,0,false⟩)
   go_wp2_with (at_builtin;refine wpList_append_lies _ (by rfl) _ _ 39 (by rfl) (gl+1) 43 n0 (.agg #[.int .i64 0,.int .i64 0,.int .i64 0,.int .i64 0,.bool false]) 5 40 Tryz.underlying39 hn0 hz0 hz1 hz2 rfl (by omega) v ms.length (mvs ms) (by rfl) A0.out ⟨w3.heap.size+1+1,0,none⟩ 1 1 (Mv.cells ⟨2,c,0,0,false⟩) (by rfl) (by rfl) A6.out A1 (by omega) A2 A3 (by simp;omega) (w3.heap.size+1+1+1) (by simp) ?_;intro g2 c2 w2 own2 grow2 at2 lt2;obtain ⟨q2,q3⟩:=box1 ((PA.out.alloc (.cells (Mv.cells ⟨2,c,0,0,false⟩).toArray 43)).l.grown grow2 ((PA.out.alloc (.cells (Mv.cells ⟨2,c,0,0,false⟩).toArray 43)).far (Nat.le_refl _)));have OWN2:=hide own2;have GR2:=hide grow2;clear own2 grow2 at2)
   refine bodyPost_end (results_none rfl _ _ _) rfl ⟨rfl,.slice (some ⟨g2,0,none⟩) (ms.length+1) c2,?_⟩
   rw [←HC.out,E.out]
   exact (PA.out.alloc _).push OWN2.out GR2.out
  ·have E:=hide (show one cc ⟨2,c,0,0,false⟩=[] from one_no h0)
   have hE:=ResErr.split (R1.out h0)
   subst hE
   have t1:(cc == 0)=false:=by rw [beq_eq_false_iff_ne];exact h0
   clear h0 R1 R2
   go_wp2
   refine bodyPost_end (results_none rfl _ _ _) rfl ⟨rfl,v,?_⟩
   rw [←HC.out,E.out,List.append_nil]
   exact (P3.out.alloc _).alloc _
 ·have HE2:=HE.out
  rw [Pl.vb_false hI] at HE2
  have E:=hide (show one cc ⟨2,c,0,0,false⟩=[] from one_no (by
   rw [HC.out]
   unfold uncC
   rw [if_neg (show ¬d.m (kk d c) / 4=c from hI)]
   decide))
  unfold kinkE at HE2
  simp only [Bool.false_eq_true,if_false] at HE2
  subst HE2
  clear HE hI
  go_wp2
  refine bodyPost_ret (results_none rfl _ _ _) rfl ⟨rfl,v,?_⟩
  rw [←HC.out,E.out,List.append_nil]
  exact P2.out
set_option maxRecDepth 100000 in
set_option maxHeartbeats 4000000 in
theorem uncurls_any (d:Pl.Dg)(hd:Pl.Wf d)(A B:Option Addr)(cp cq m:Nat)(w:World)(hm:m=4 * d.n)(hg:DgAt w A B d) :
 Calls Tryz.prog 63 #[.agg #[.slice A d.n cp,.slice B m cq,.int .i64 d.lp]] w fun e w'=>∃v,e = .returned v∧MovesIn w.heap.size w' v (unL d d.n)∧Below w.heap.size w w':=by
 have HM:=hide hm
 have HG:=hide hg
 have hn:=hd.few
 have P0:=hide (show MG w 24 w.heap.size (w.heap.size+1) [.slice A d.n cp,.slice B m cq,.int .i64 (d.lp:Int)] (.slice none 0 0) [] ((w.alloc (.cells #[.slice A d.n cp,.slice B m cq,.int .i64 (d.lp:Int)] 24)).alloc (.cells #[.slice none 0 0] 39)) from
  ⟨(row_at (vs:=[_,_,_]) rfl).alloc _,row_at (vs:=[_]) (by simp),⟨rfl,.inl ⟨rfl,rfl⟩⟩,((Below.refl _ _).alloc (Nat.le_refl _) _).alloc (by simp) _,Nat.le_refl _,by omega⟩)
 clear hg hm
 go_enter Tryz.func63,Tryz.ntmps63
 go_wp2
 go_loopg [5,10] d.n (fun g s5 s10 wx=>∃(k:Nat) (v:Value),k+g=d.n∧s10 = .int .i64 (k:Int)∧MG w 24 w.heap.size (w.heap.size+1) [.slice A d.n cp,.slice B m cq,.int .i64 (d.lp:Int)] v (unL d k) wx)
 case atStart=>exact ⟨0,_,by omega,rfl,P0.out⟩
 case round =>
  clear P0
  obtain ⟨k,v,hkg,rfl,hp⟩:=hrel
  have HKG:=hide hkg
  have PK:=hide hp
  have hlen:=unL_len d k
  clear hp
  by_cases hk:k<d.n
  ·have hki:(k:Int)<(d.n:Int):=by omega
   clear hkg
   go_wp2_with fail
   refine (unTry_any d hd A B cp cq m w.heap.size (w.heap.size+1) k v (unL d k) w wr HM.out (HG.out.keep PK.out.bel) hk (by omega) PK.out).mono ?_
   rintro e w1 ⟨rfl,v',hp1⟩
   have P1:=hide hp1
   clear hp1
   go_wp2
   go_roundg (gk - 1)
   case measure=>have:=HKG.out;omega
   case rel=>exact ⟨k+1,v',by have:=HKG.out;omega,by go_num,P1.out⟩
  ·have hki:¬((k:Int)<(d.n:Int)):=by omega
   have e:k=d.n:=by omega
   have EL:=hide (show unL d k=unL d d.n by rw [e])
   obtain ⟨q0,q1⟩:=box1 PK.out.l
   clear hkg e
   go_wp2
   go_ret
   exact ⟨v,rfl,⟨w.heap.size+1+1,by omega,PK.out.big,by rw [←EL.out];exact PK.out.o⟩,PK.out.bel⟩
end Go.Proofs.YtdgliimmnnhhjaaGreatDoor
end
