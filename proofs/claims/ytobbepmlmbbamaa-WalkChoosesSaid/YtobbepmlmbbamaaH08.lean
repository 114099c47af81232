/-
 The texts Xr, Xt, Prt, Rb, Rc, Ri, Rl, Rm, Rv, Rxa, Rxb, Rxc, Rx, Rza.
-/
import Derived.Test.YtobbepmlmbbamaaH07
set_option linter.unusedVariables false
set_option linter.unusedSimpArgs false
section
namespace Go.Proofs.Ytobbepmlmbbamaa
open Go Go.RowKit
attribute [local go_sem ↓] Go.wp_at_zero Go.wp_at_succ
structure MG (w:World) (T:TypeId) (gd gl:Nat) (dv:List Value) (v:Value) (ms:List Mv) (W:World):Prop where
 d:Row W gd T dv
 l:Row W gl 31 [v]
 o:W.ownsRow (gl+1) 28 5 v ms.length (mvs ms)
 bel:Below w.heap.size w W
 lo:w.heap.size≤gd
 lt:gd<gl
section
variable {w W W' W2:World} {T:TypeId} {gd gl:Nat} {dv:List Value} {v v':Value} {ms:List Mv} {m:Mv}
theorem MG.below (h:MG w T gd gl dv v ms W)(hb:Below W.heap.size W W'):MG w T gd gl dv v ms W' :=
 ⟨h.d.below hb,h.l.below hb,own_below h.o hb,h.bel.trans (hb.mono h.bel.size),h.lo,h.lt⟩
theorem MG.alloc (h:MG w T gd gl dv v ms W)(o:Obj):MG w T gd gl dv v ms (W.alloc o):=h.below ((Below.refl _ _).alloc (Nat.le_refl _) o)
theorem MG.big (h:MG w T gd gl dv v ms W):gl<W.heap.size:=h.l.lt
theorem MG.far (h:MG w T gd gl dv v ms W){g:Nat}(hg:g≤gl):some g≠v.ownBlock:=fun e=>by have:=(h.o.lt g e.symm).1;omega
theorem MG.push (h:MG w T gd gl dv v ms W)(own:W2.ownsRow (gl+1) 28 5 v' (ms.length+1) (mvs ms++m.cells))(gr:W.grownBy W2 v.ownBlock):MG w T gd gl dv v' (ms++[m]) (W2.setCell ⟨gl,0,none⟩ v'):=by
 have a:=h.lo
 have b:=h.lt
 refine ⟨(h.d.grown gr (h.far (by omega))).other (by show gd≠gl;omega) _,(h.l.grown gr (h.far (Nat.le_refl _))).set 0 v',?_,?_,h.lo,h.lt⟩
 ·rw [mvs_app,List.length_append]
  exact ownsRow_setCell_below own (by show gl<gl+1;omega) _
 ·exact (h.bel.grown gr h.bel.size (fun k hk=>by have:=(h.o.lt k hk).1;omega)).setCell (by show _≤gl;omega) _
end
def one (c:Int)(m:Mv):List Mv:=if c=0 then [m] else []
theorem one_yes {c:Int}{m:Mv}(h:c=0):one c m=[m]:=by unfold one;rw [if_pos h]
theorem one_no {c:Int}{m:Mv}(h:¬c=0):one c m=[]:=by unfold one;rw [if_neg h]
theorem one_len (c:Int)(m:Mv):(one c m).length≤1:=by unfold one;split <;> simp
set_option maxRecDepth 100000 in
set_option maxHeartbeats 4000000 in
theorem cuTry_any (d:Pl.Dg)(hd:Pl.Wf d)(A B:Option Addr)(cp cq m gd gl:Nat)(v:Value)(ms:List Mv)(x s:Int)(o:Bool)(w0 w:World)(hm:m=4 * d.n)(hg:DgAt w A B d)(hx:-1≤x∧x<4 * (d.n:Int))(hms:ms.length≤1000000)
 (hp:MG w0 24 gd gl [.slice A d.n cp,.slice B m cq,.int .i64 (d.lp:Int)] v ms w) :
 Calls Try.prog 111 #[.agg #[.int .i64 1,.int .i64 x,.int .i64 0,.int .i64 s,.bool o],.pointer (some ⟨gd,0,none⟩),.pointer (some ⟨gl,0,none⟩)] w fun e w'=>e = .returned (.tuple #[])∧∃v',MG w0 24 gd gl [.slice A d.n cp,.slice B m cq,.int .i64 (d.lp:Int)] v' (ms++one (curlableC d x) ⟨1,x,0,s,o⟩) w':=by
 have HM:=hide hm
 have HG:=hide hg
 have hn:=hd.few
 have hlp:=hd.lp
 obtain ⟨cc,hcc⟩:∃c,c=curlableC d x:=⟨_,rfl⟩
 have HC:=hide hcc
 have hb0:Below w.heap.size w (w.alloc (.cells #[.int .i64 1,.int .i64 x,.int .i64 0,.int .i64 s,.bool o] 28)):=(Below.refl _ _).alloc (Nat.le_refl _) _
 have HB0:=hide hb0
 have P1:=hide (hp.below hb0)
 have M1:=hide (row_at (W:=w) (g:=w.heap.size) (t:=28) (vs:=[.int .i64 1,.int .i64 x,.int .i64 0,.int .i64 s,.bool o]) rfl)
 have hgl:gl<w.heap.size:=hp.big
 have hgd:gd<gl:=hp.lt
 clear hp hb0 hg hm hcc
 obtain ⟨d0,d1,d2,d3⟩:=box3 P1.out.d
 obtain ⟨e0,e1,e2,e3,e4,e5⟩:=box5 M1.out
 go_enter Try.func111,Try.ntmps111
 go_wp2_with fail
 refine (curlable_m d A B cp cq m 1 x 0 s o _ HM.out (HG.out.keep HB0.out) hn hlp hx).mono ?_
 rintro e w1 ⟨rfl,hb1⟩
 have P2:=hide (P1.out.below hb1)
 have M2:=hide (M1.out.below hb1)
 have hs2:w.heap.size<w1.heap.size:=M2.out.lt
 have hs3:gl<w1.heap.size:=by omega
 clear hb1 d0 d1 d2 d3 e0 e1 e2 e3 e4 e5 HB0 P1 M1
 obtain ⟨e0,e1,e2,e3,e4,e5⟩:=box5 M2.out
 rw [←HC.out]
 by_cases h0:cc=0
 ·have E:=hide (show one cc ⟨1,x,0,s,o⟩=[⟨1,x,0,s,o⟩] from one_yes h0)
  have t1:(cc == 0)=true:=by rw [beq_iff_eq];exact h0
  clear h0
  obtain ⟨q0,q1⟩:=box1 P2.out.l
  obtain ⟨n0,hn0,hz0,hz1,hz2⟩:=info_parts moveInfo
  have A0:=hide (P2.out.alloc (.cells (Mv.cells ⟨1,x,0,s,o⟩).toArray 28)).o
  have A1:∀u ∈ Mv.cells ⟨1,x,0,s,o⟩,u.oneCell'=true:=by simp [Mv.cells,Value.oneCell']
  have A2:ms.length+1≤maxLen:=by unfold maxLen;omega
  have A3:(ms.length+1) * 40≤140737488355328:=by omega
  have A6:=hide (five_news w1 w1.heap.size rfl ⟨1,x,0,s,o⟩)
  go_wp2_with (at_builtin;refine wpList_append_lies _ (by rfl) _ _ 31 (by rfl) (gl+1) 28 n0 (.agg #[.int .i64 0,.int .i64 0,.int .i64 0,.int .i64 0,.bool false]) 5 40 Try.underlying31 hn0 hz0 hz1 hz2 rfl (by omega) v ms.length (mvs ms) (by rfl) A0.out ⟨w1.heap.size,0,none⟩ 1 1 (Mv.cells ⟨1,x,0,s,o⟩) (by rfl) (by rfl) A6.out A1 (by omega) A2 A3 (by simp;omega) (w1.heap.size+1) (by simp) ?_;intro g2 c2 w2 own2 grow2 at2 lt2;obtain ⟨q2,q3⟩:=box1 ((P2.out.alloc (.cells (Mv.cells ⟨1,x,0,s,o⟩).toArray 28)).l.grown grow2 ((P2.out.alloc (.cells (Mv.cells ⟨1,x,0,s,o⟩).toArray 28)).far (Nat.le_refl _)));have OWN2:=hide own2;have GR2:=hide grow2;clear own2 grow2 at2)
  refine bodyPost_end (results_none rfl _ _ _) rfl ⟨rfl,.slice (some ⟨g2,0,none⟩) (ms.length+1) c2,?_⟩
  rw [←HC.out,E.out]
  exact (P2.out.alloc _).push OWN2.out GR2.out
 ·have E:=hide (show one cc ⟨1,x,0,s,o⟩=[] from one_no h0)
  have t1:(cc == 0)=false:=by rw [beq_eq_false_iff_ne];exact h0
  clear h0
  go_wp2
  refine bodyPost_end (results_none rfl _ _ _) rfl ⟨rfl,v,?_⟩
  rw [←HC.out,E.out,List.append_nil]
  exact P2.out
def cuX (d:Pl.Dg)(x:Int):List Mv:=one (curlableC d x) ⟨1,x,0,-1,false⟩++one (curlableC d x) ⟨1,x,0,-1,true⟩++(one (curlableC d x) ⟨1,x,0,1,false⟩++one (curlableC d x) ⟨1,x,0,1,true⟩)
def cuL (d:Pl.Dg):Nat→List Mv
 | 0=>[]
 | k+1=>cuL d k++cuX d ((k:Int) - 1)
theorem cuX_len (d:Pl.Dg)(x:Int):(cuX d x).length≤4:=by
 unfold cuX
 have a:=one_len (curlableC d x) ⟨1,x,0,-1,false⟩
 have b:=one_len (curlableC d x) ⟨1,x,0,-1,true⟩
 have c:=one_len (curlableC d x) ⟨1,x,0,1,false⟩
 have e:=one_len (curlableC d x) ⟨1,x,0,1,true⟩
 simp only [List.length_append]
 omega
theorem cuL_len (d:Pl.Dg):∀k,(cuL d k).length≤4 * k
 | 0=>Nat.le_refl _
 | k + 1 => by
   have a:=cuL_len d k
   have b:=cuX_len d ((k:Int) - 1)
   show (cuL d k++cuX d ((k:Int) - 1)).length≤_
   rw [List.length_append]
   omega
def MovesIn (b:Nat)(w:World)(v:Value)(ms:List Mv):Prop:=∃base,b≤base∧base≤w.heap.size∧w.ownsRow base 28 5 v ms.length (mvs ms)
theorem MovesIn.at {b:Nat}{w:World}{v:Value}{ms:List Mv}(h:MovesIn b w v ms):MovesAt w v ms:=let ⟨base,_,_,h⟩:=h;⟨base,h⟩
set_option maxRecDepth 100000 in
set_option maxHeartbeats 4000000 in
theorem curls_any (d:Pl.Dg)(hd:Pl.Wf d)(A B:Option Addr)(cp cq m:Nat)(w:World)(hm:m=4 * d.n)(hg:DgAt w A B d) :
 Calls Try.prog 65 #[.agg #[.slice A d.n cp,.slice B m cq,.int .i64 d.lp]] w fun e w'=>∃v,e = .returned v∧MovesIn w.heap.size w' v (cuL d (m+1))∧Below w.heap.size w w':=by
 have HM:=hide hm
 have HG:=hide hg
 have hn:=hd.few
 have hm2:m≤256:=by omega
 have P0:=hide (show MG w 24 w.heap.size (w.heap.size+1) [.slice A d.n cp,.slice B m cq,.int .i64 (d.lp:Int)] (.slice none 0 0) [] ((w.alloc (.cells #[.slice A d.n cp,.slice B m cq,.int .i64 (d.lp:Int)] 24)).alloc (.cells #[.slice none 0 0] 31)) from
  ⟨(row_at (vs:=[_,_,_]) rfl).alloc _,row_at (vs:=[_]) (by simp),⟨rfl,.inl ⟨rfl,rfl⟩⟩,((Below.refl _ _).alloc (Nat.le_refl _) _).alloc (by simp) _,Nat.le_refl _,by omega⟩)
 clear hg hm
 go_enter Try.func65,Try.ntmps65
 go_wp2
 go_loopg [5] (m+1) (fun g s5 wx=>∃(k:Nat) (v:Value),k+g=m+1∧s5 = .int .i64 ((k:Int) - 1)∧MG w 24 w.heap.size (w.heap.size+1) [.slice A d.n cp,.slice B m cq,.int .i64 (d.lp:Int)] v (cuL d k) wx)
 case atStart=>exact ⟨0,_,by omega,rfl,P0.out⟩
 case round =>
  clear P0
  obtain ⟨k,v,hkg,rfl,hp⟩:=hrel
  obtain ⟨go,rfl⟩:∃go,go=gk:=⟨_,rfl⟩
  have HKG:=hide hkg
  have PK:=hide hp
  have hlen:=cuL_len d k
  obtain ⟨x,hx⟩:∃x:Int,x=(k:Int) - 1:=⟨_,rfl⟩
  have HX:=hide hx
  rw [←hx]
  obtain ⟨d0,d1,d2,d3⟩:=box3 hp.d
  clear hp hx
  by_cases hk:k<m+1
  ·have hki:x<(m:Int):=by have:=HX.out;omega
   have x0:-1≤x:=by have:=HX.out;omega
   have x1:x<4 * (d.n:Int):=by have:=HM.out;omega
   clear hkg
   have i0:∀W,(Instr.index 86 (.agg #[.int .i64 (-1),.int .i64 1]) (.int .i64 0)).run Try.prog W = .ok (.int .i64 (-1)) W:=fun _=>by kernel_rfl
   have i1:∀W,(Instr.index 86 (.agg #[.int .i64 (-1),.int .i64 1]) (.int .i64 1)).run Try.prog W = .ok (.int .i64 1) W:=fun _=>by kernel_rfl
   go_wp2
   go_loopg [17,7] 2 (fun g s17 s7 wx=>∃(j:Nat) (u:Value),j+g=2∧s17 = .int .i64 (j:Int)∧MG w 24 w.heap.size (w.heap.size+1) [.slice A d.n cp,.slice B m cq,.int .i64 (d.lp:Int)] u (cuL d k++((if 0<j then one (curlableC d x) ⟨1,x,0,-1,false⟩++one (curlableC d x) ⟨1,x,0,-1,true⟩ else [])++(if 1<j then one (curlableC d x) ⟨1,x,0,1,false⟩++one (curlableC d x) ⟨1,x,0,1,true⟩ else []))) wx)
   case atStart=>exact ⟨0,v,by omega,rfl,by simpa using PK.out⟩
   case round =>
    clear PK
    obtain ⟨j,u,hjg,rfl,hq⟩:=hrel
    have HJG:=hide hjg
    have hj3:j=0∨j=1∨j=2:=by omega
    have L1:=one_len (curlableC d x) ⟨1,x,0,-1,false⟩
    have L2:=one_len (curlableC d x) ⟨1,x,0,-1,true⟩
    have L3:=one_len (curlableC d x) ⟨1,x,0,1,false⟩
    clear hjg
    rcases hj3 with rfl | rfl | rfl
    ·have hq1:MG w 24 w.heap.size (w.heap.size+1) [.slice A d.n cp,.slice B m cq,.int .i64 (d.lp:Int)] u (cuL d k) wr:=by simpa using hq
     have Q0:=hide hq1
     clear hq hq1
     go_wp2_with fail
     refine (cuTry_any d hd A B cp cq m _ _ u (cuL d k) x (-1) false w _ HM.out (HG.out.keep Q0.out.bel) ⟨x0,x1⟩ (by omega) Q0.out).mono ?_
     rintro e w1 ⟨rfl,u1,hp1⟩
     have Q1:=hide hp1
     clear hp1
     go_wp2_with fail
     refine (cuTry_any d hd A B cp cq m _ _ u1 _ x (-1) true w _ HM.out (HG.out.keep Q1.out.bel) ⟨x0,x1⟩ (by rw [List.length_append];omega) Q1.out).mono ?_
     rintro e w2 ⟨rfl,u2,hp2⟩
     have Q2:=hide hp2
     clear hp2
     go_wp2
     go_roundg 1
     case measure=>have:=HJG.out;omega
     case rel=>exact ⟨1,u2,rfl,by go_num,by simpa using Q2.out⟩
    ·have hq1:MG w 24 w.heap.size (w.heap.size+1) [.slice A d.n cp,.slice B m cq,.int .i64 (d.lp:Int)] u (cuL d k++(one (curlableC d x) ⟨1,x,0,-1,false⟩++one (curlableC d x) ⟨1,x,0,-1,true⟩)) wr:=by simpa using hq
     have Q0:=hide hq1
     clear hq hq1
     go_wp2_with fail
     refine (cuTry_any d hd A B cp cq m _ _ u _ x 1 false w _ HM.out (HG.out.keep Q0.out.bel) ⟨x0,x1⟩ (by rw [List.length_append,List.length_append];omega) Q0.out).mono ?_
     rintro e w1 ⟨rfl,u1,hp1⟩
     have Q1:=hide hp1
     clear hp1
     go_wp2_with fail
     refine (cuTry_any d hd A B cp cq m _ _ u1 _ x 1 true w _ HM.out (HG.out.keep Q1.out.bel) ⟨x0,x1⟩ (by rw [List.length_append,List.length_append,List.length_append];omega) Q1.out).mono ?_
     rintro e w2 ⟨rfl,u2,hp2⟩
     have Q2:=hide hp2
     clear hp2
     go_wp2
     go_roundg 0
     case measure=>have:=HJG.out;omega
     case rel=>exact ⟨2,u2,rfl,by go_num,by simpa using Q2.out⟩
    ·have Q0 := hide (show MG w 24 w.heap.size (w.heap.size + 1) [.slice A d.n cp, .slice B m cq, .int .i64 (d.lp : Int)] u (cuL d (k + 1)) wr from by
      have e:cuL d (k+1)=cuL d k++cuX d x:=by rw [HX.out];rfl
      rw [e]
      unfold cuX
      simpa using hq)
     have EK:=hide (show x+1=((k+1:Nat):Int) - 1 by have:=HX.out;omega)
     clear hq
     go_wp2
     go_roundg (go - 1)
     case measure=>have:=HKG.out;omega
     case rel=>exact ⟨k+1,u,by have:=HKG.out;omega,by rw [EK.out],Q0.out⟩
  ·have hki:¬(x<(m:Int)):=by have:=HX.out;omega
   have e:k=m+1:=by omega
   subst e
   obtain ⟨q0,q1⟩:=box1 PK.out.l
   clear hkg
   go_wp2
   go_ret
   exact ⟨v,rfl,⟨w.heap.size+1+1,by omega,PK.out.big,PK.out.o⟩,PK.out.bel⟩
def unL (d:Pl.Dg):Nat→List Mv
 | 0=>[]
 | k+1=>unL d k++one (uncC d k) ⟨2,k,0,0,false⟩
theorem unL_len (d:Pl.Dg):∀k,(unL d k).length≤k
 | 0=>Nat.le_refl _
 | k + 1 => by
   have a:=unL_len d k
   have b:=one_len (uncC d k) ⟨2,k,0,0,false⟩
   show (unL d k++one (uncC d k) ⟨2,k,0,0,false⟩).length≤_
   rw [List.length_append]
   omega
set_option maxRecDepth 100000 in
set_option maxHeartbeats 4000000 in
theorem unTry_any (d:Pl.Dg)(hd:Pl.Wf d)(A B:Option Addr)(cp cq m gd gl c:Nat)(v:Value)(ms:List Mv)(w0 w:World)(hm:m=4 * d.n)(hg:DgAt w A B d)(hc:c<d.n)(hms:ms.length≤1000000)
 (hp:MG w0 24 gd gl [.slice A d.n cp,.slice B m cq,.int .i64 (d.lp:Int)] v ms w) :
 Calls Try.prog 112 #[.agg #[.int .i64 2,.int .i64 (c:Int),.int .i64 0,.int .i64 0,.bool false],.pointer (some ⟨gd,0,none⟩),.pointer (some ⟨gl,0,none⟩)] w fun e w'=>e = .returned (.tuple #[])∧∃v',MG w0 24 gd gl [.slice A d.n cp,.slice B m cq,.int .i64 (d.lp:Int)] v' (ms++one (uncC d c) ⟨2,c,0,0,false⟩) w':=by
 have HM:=hide hm
 have HG:=hide hg
 have hn:=hd.few
 obtain ⟨cc,hcc⟩:∃c',c'=uncC d c:=⟨_,rfl⟩
 have HC:=hide hcc
 have hb0:Below w.heap.size w (w.alloc (.cells #[.int .i64 2,.int .i64 (c:Int),.int .i64 0,.int .i64 0,.bool false] 28)):=(Below.refl _ _).alloc (Nat.le_refl _) _
 have HB0:=hide hb0
 have P1:=hide (hp.below hb0)
 have M1:=hide (row_at (W:=w) (g:=w.heap.size) (t:=28) (vs:=[.int .i64 2,.int .i64 (c:Int),.int .i64 0,.int .i64 0,.bool false]) rfl)
 have hgl:gl<w.heap.size:=hp.big
 have hgd:gd<gl:=hp.lt
 clear hp hb0 hg hm hcc
 obtain ⟨d0,d1,d2,d3⟩:=box3 P1.out.d
 obtain ⟨e0,e1,e2,e3,e4,e5⟩:=box5 M1.out
 go_enter Try.func112,Try.ntmps112
 go_wp2_with fail
 refine (kink_any d hd A B cp cq m c _ HM.out (HG.out.keep HB0.out) hc).mono ?_
 rintro e w1 ⟨he,hb1⟩
 have P2:=hide (P1.out.below hb1)
 have M2:=hide (M1.out.below hb1)
 have HB1:=hide (HB0.out.trans (hb1.mono HB0.out.size))
 have hs2:w.heap.size<w1.heap.size:=M2.out.lt
 have hs3:gl<w1.heap.size:=by omega
 have HE:=hide he
 clear hb1 d0 d1 d2 d3 e0 e1 e2 e3 e4 e5 HB0 P1 M1 he
 obtain ⟨d0,d1,d2,d3⟩:=box3 P2.out.d
 obtain ⟨e0,e1,e2,e3,e4,e5⟩:=box5 M2.out
 by_cases hI:isK d c
 ·have HE2:=HE.out
  rw [Pl.vb_true hI] at HE2
  unfold kinkE at HE2
  obtain ⟨z1,hz1⟩:∃z:Nat,z=Pl.tn (kk d c) 2:=⟨_,rfl⟩
  obtain ⟨z2,hz2⟩:∃z:Nat,z=Pl.tn (d.m (kk d c)) 2:=⟨_,rfl⟩
  rw [←hz1,←hz2] at HE2
  simp only [if_true] at HE2
  subst HE2
  clear HE hI hz1 hz2
  go_wp2_with fail
  refine (uncurl_m d hd A B cp cq m c 2 0 0 false _ HM.out (HG.out.keep HB1.out) hc).mono ?_
  rintro e w3 ⟨r1,r2,hb3⟩
  have P3:=hide (P2.out.below hb3)
  have M3:=hide (M2.out.below hb3)
  have hs4:w.heap.size<w3.heap.size:=M3.out.lt
  have hs5:gl<w3.heap.size:=by omega
  rw [←HC.out] at r1 r2
  have R1:=hide r1
  have R2:=hide r2
  clear r1 r2 hb3 d0 d1 d2 d3 e0 e1 e2 e3 e4 e5 HB1 P2 M2
  obtain ⟨e0,e1,e2,e3,e4,e5⟩:=box5 M3.out
  have hs6:gl<w3.heap.size+1:=by omega
  have hs7:gl<w3.heap.size+1+1:=by omega
  have hs8:w.heap.size<w3.heap.size+1:=by omega
  have hs9:w.heap.size<w3.heap.size+1+1:=by omega
  by_cases h0:cc=0
  ·obtain ⟨A9,B9,c8,c9,k9,x9,y9,s9,o9,hmv,rfl,hT⟩:=ResOk.split (R2.out h0)
   have E:=hide (show one cc ⟨2,c,0,0,false⟩=[⟨2,c,0,0,false⟩] from one_yes h0)
   clear h0 R1 R2 hmv hT
   obtain ⟨N9,hN9⟩:∃n,n=(unD d c).n:=⟨_,rfl⟩
   obtain ⟨N4,hN4⟩:∃n,n=4 * (unD d c).n:=⟨_,rfl⟩
   obtain ⟨L9,hL9⟩:∃n,n=(unD d c).lp:=⟨_,rfl⟩
   rw [←hN4,←hN9,←hL9]
   clear hN9 hN4 hL9
   obtain ⟨q0,q1⟩:=box1 P3.out.l
   obtain ⟨n0,hn0,hz0,hz1,hz2⟩:=info_parts moveInfo
   have PA:=hide ((P3.out.alloc (.cells #[.slice A9 N9 c8,.slice B9 N4 c9,.int .i64 (L9:Int)] 24)).alloc (.cells #[.int .i64 k9,.int .i64 x9,.int .i64 y9,.int .i64 s9,.bool o9] 28))
   have A0:=hide (PA.out.alloc (.cells (Mv.cells ⟨2,c,0,0,false⟩).toArray 28)).o
   have A1:∀u ∈ Mv.cells ⟨2,c,0,0,false⟩,u.oneCell'=true:=by simp [Mv.cells,Value.oneCell']
   have A2:ms.length+1≤maxLen:=by unfold maxLen;omega
   have A3:(ms.length+1) * 40≤140737488355328:=by omega
   have A6:=hide (five_news ((w3.alloc (.cells #[.slice A9 N9 c8,.slice B9 N4 c9,.int .i64 (L9:Int)] 24)).alloc (.cells #[.int .i64 k9,.int .i64 x9,.int .i64 y9,.int .i64 s9,.bool o9] 28)) (w3.heap.size+1+1) (by simp) ⟨2,c,0,0,false⟩)
   go_wp2_with (at_builtin;refine wpList_append_lies _ (by rfl) _ _ 31 (by rfl) (gl+1) 28 n0 (.agg #[.int .i64 0,.int .i64 0,.int .i64 0,.int .i64 0,.bool false]) 5 40 Try.underlying31 hn0 hz0 hz1 hz2 rfl (by omega) v ms.length (mvs ms) (by rfl) A0.out ⟨w3.heap.size+1+1,0,none⟩ 1 1 (Mv.cells ⟨2,c,0,0,false⟩) (by rfl) (by rfl) A6.out A1 (by omega) A2 A3 (by simp;omega) (w3.heap.size+1+1+1) (by simp) ?_;intro g2 c2 w2 own2 grow2 at2 lt2;obtain ⟨q2,q3⟩:=box1 ((PA.out.alloc (.cells (Mv.cells ⟨2,c,0,0,false⟩).toArray 28)).l.grown grow2 ((PA.out.alloc (.cells (Mv.cells ⟨2,c,0,0,false⟩).toArray 28)).far (Nat.le_refl _)));have OWN2:=hide own2;have GR2:=hide grow2;clear own2 grow2 at2)
   refine bodyPost_end (results_none rfl _ _ _) rfl ⟨rfl,.slice (some ⟨g2,0,none⟩) (ms.length+1) c2,?_⟩
   rw [←HC.out,E.out]
   exact (PA.out.alloc _).push OWN2.out GR2.out
  ·have E:=hide (show one cc ⟨2,c,0,0,false⟩=[] from one_no h0)
   have hE:=ResErr.split (R1.out h0)
   subst hE
   have t1:(cc == 0)=false:=by rw [beq_eq_false_iff_ne];exact h0
   clear h0 R1 R2
   go_wp2
   refine bodyPost_end (results_none rfl _ _ _) rfl ⟨rfl,v,?_⟩
   rw [←HC.out,E.out,List.append_nil]
   exact (P3.out.alloc _).alloc _
 ·have HE2:=HE.out
  rw [Pl.vb_false hI] at HE2
  have E:=hide (show one cc ⟨2,c,0,0,false⟩=[] from one_no (by
   rw [HC.out]
   unfold uncC
   rw [if_neg (show ¬d.m (kk d c) / 4=c from hI)]
   decide))
  unfold kinkE at HE2
  simp only [Bool.false_eq_true,if_false] at HE2
  subst HE2
  clear HE hI
  go_wp2
  refine bodyPost_ret (results_none rfl _ _ _) rfl ⟨rfl,v,?_⟩
  rw [←HC.out,E.out,List.append_nil]
  exact P2.out
set_option maxRecDepth 100000 in
set_option maxHeartbeats 4000000 in
theorem uncurls_any (d:Pl.Dg)(hd:Pl.Wf d)(A B:Option Addr)(cp cq m:Nat)(w:World)(hm:m=4 * d.n)(hg:DgAt w A B d) :
 Calls Try.prog 66 #[.agg #[.slice A d.n cp,.slice B m cq,.int .i64 d.lp]] w fun e w'=>∃v,e = .returned v∧MovesIn w.heap.size w' v (unL d d.n)∧Below w.heap.size w w':=by
 have HM:=hide hm
 have HG:=hide hg
 have hn:=hd.few
 have P0:=hide (show MG w 24 w.heap.size (w.heap.size+1) [.slice A d.n cp,.slice B m cq,.int .i64 (d.lp:Int)] (.slice none 0 0) [] ((w.alloc (.cells #[.slice A d.n cp,.slice B m cq,.int .i64 (d.lp:Int)] 24)).alloc (.cells #[.slice none 0 0] 31)) from
  ⟨(row_at (vs:=[_,_,_]) rfl).alloc _,row_at (vs:=[_]) (by simp),⟨rfl,.inl ⟨rfl,rfl⟩⟩,((Below.refl _ _).alloc (Nat.le_refl _) _).alloc (by simp) _,Nat.le_refl _,by omega⟩)
 clear hg hm
 go_enter Try.func66,Try.ntmps66
 go_wp2
 go_loopg [5,10] d.n (fun g s5 s10 wx=>∃(k:Nat) (v:Value),k+g=d.n∧s10 = .int .i64 (k:Int)∧MG w 24 w.heap.size (w.heap.size+1) [.slice A d.n cp,.slice B m cq,.int .i64 (d.lp:Int)] v (unL d k) wx)
 case atStart=>exact ⟨0,_,by omega,rfl,P0.out⟩
 case round =>
  clear P0
  obtain ⟨k,v,hkg,rfl,hp⟩:=hrel
  have HKG:=hide hkg
  have PK:=hide hp
  have hlen:=unL_len d k
  clear hp
  by_cases hk:k<d.n
  ·have hki:(k:Int)<(d.n:Int):=by omega
   clear hkg
   go_wp2_with fail
   refine (unTry_any d hd A B cp cq m w.heap.size (w.heap.size+1) k v (unL d k) w wr HM.out (HG.out.keep PK.out.bel) hk (by omega) PK.out).mono ?_
   rintro e w1 ⟨rfl,v',hp1⟩
   have P1:=hide hp1
   clear hp1
   go_wp2
   go_roundg (gk - 1)
   case measure=>have:=HKG.out;omega
   case rel=>exact ⟨k+1,v',by have:=HKG.out;omega,by go_num,P1.out⟩
  ·have hki:¬((k:Int)<(d.n:Int)):=by omega
   have e:k=d.n:=by omega
   have EL:=hide (show unL d k=unL d d.n by rw [e])
   obtain ⟨q0,q1⟩:=box1 PK.out.l
   clear hkg e
   go_wp2
   go_ret
   exact ⟨v,rfl,⟨w.heap.size+1+1,by omega,PK.out.big,by rw [←EL.out];exact PK.out.o⟩,PK.out.bel⟩
end Go.Proofs.Ytobbepmlmbbamaa
end
section
namespace Go.Proofs.Ytobbepmlmbbamaa
open Go Go.RowKit
attribute [local go_sem ↓] Go.wp_at_zero Go.wp_at_succ
def upY (d:Pl.Dg)(x:Nat):Nat→List Mv
 | 0=>[]
 | k+1=>upY d x k++(if x<k then one (unpC d x k) ⟨4,x,k,0,false⟩ else [])
def upX (d:Pl.Dg):Nat→List Mv
 | 0=>[]
 | k+1=>upX d k++upY d k d.n
theorem upY_none (d:Pl.Dg)(x:Nat):∀k,k≤x+1→upY d x k=[]
 | 0,_=>rfl
 | k + 1, h => by
   show upY d x k++(if x<k then one (unpC d x k) ⟨4,x,k,0,false⟩ else [])=[]
   rw [upY_none d x k (by omega),if_neg (by omega)]
   rfl
theorem upY_len (d:Pl.Dg)(x:Nat):∀k,(upY d x k).length≤k
 | 0=>Nat.le_refl _
 | k + 1 => by
   have a:=upY_len d x k
   have b:=one_len (unpC d x k) ⟨4,x,k,0,false⟩
   show (upY d x k++(if x<k then one (unpC d x k) ⟨4,x,k,0,false⟩ else [])).length≤_
   rw [List.length_append]
   split
   ·omega
   ·simp;omega
theorem upX_len {d:Pl.Dg}(hn:d.n≤64):∀k,(upX d k).length≤64 * k
 | 0=>Nat.le_refl _
 | k + 1 => by
   have a:=upX_len hn k
   have b:=upY_len d k d.n
   show (upX d k++upY d k d.n).length≤_
   rw [List.length_append]
   omega
set_option maxRecDepth 100000 in
set_option maxHeartbeats 4000000 in
theorem upTry_any (d:Pl.Dg)(hd:Pl.Wf d)(A B:Option Addr)(cp cq m gd gl x y:Nat)(v:Value)(ms:List Mv)(w0 w:World)(hm:m=4 * d.n)(hg:DgAt w A B d)(hxy:x<y)(hy:y<d.n)(hms:ms.length≤1000000)
 (hp:MG w0 24 gd gl [.slice A d.n cp,.slice B m cq,.int .i64 (d.lp:Int)] v ms w) :
 Calls Try.prog 115 #[.agg #[.int .i64 4,.int .i64 (x:Int),.int .i64 (y:Int),.int .i64 0,.bool false],.pointer (some ⟨gd,0,none⟩),.pointer (some ⟨gl,0,none⟩)] w fun e w'=>e = .returned (.tuple #[])∧∃v',MG w0 24 gd gl [.slice A d.n cp,.slice B m cq,.int .i64 (d.lp:Int)] v' (ms++one (unpC d x y) ⟨4,x,y,0,false⟩) w':=by
 have HM:=hide hm
 have HG:=hide hg
 have hn:=hd.few
 obtain ⟨cc,hcc⟩:∃c',c'=unpC d x y:=⟨_,rfl⟩
 have HC:=hide hcc
 have hb0:Below w.heap.size w (w.alloc (.cells #[.int .i64 4,.int .i64 (x:Int),.int .i64 (y:Int),.int .i64 0,.bool false] 28)):=(Below.refl _ _).alloc (Nat.le_refl _) _
 have HB0:=hide hb0
 have P1:=hide (hp.below hb0)
 have M1:=hide (row_at (W:=w) (g:=w.heap.size) (t:=28) (vs:=[.int .i64 4,.int .i64 (x:Int),.int .i64 (y:Int),.int .i64 0,.bool false]) rfl)
 have hgl:gl<w.heap.size:=hp.big
 have hgd:gd<gl:=hp.lt
 clear hp hb0 hg hm hcc
 obtain ⟨d0,d1,d2,d3⟩:=box3 P1.out.d
 obtain ⟨e0,e1,e2,e3,e4,e5⟩:=box5 M1.out
 go_enter Try.func115,Try.ntmps115
 go_wp2_with fail
 refine (find_any d hd A B cp cq m x y _ HM.out (HG.out.keep HB0.out) (by omega) hy).mono ?_
 rintro e w1 ⟨he,hb1⟩
 have P2:=hide (P1.out.below hb1)
 have M2:=hide (M1.out.below hb1)
 have HB1:=hide (HB0.out.trans (hb1.mono HB0.out.size))
 have hs2:w.heap.size<w1.heap.size:=M2.out.lt
 have hs3:gl<w1.heap.size:=by omega
 have hs2':w.heap.size<w1.heap.size+1:=by omega
 have hs1d:gd<w1.heap.size:=by omega
 have hs3':gl<w1.heap.size+1:=by omega
 have HE:=hide he
 clear hb1 d0 d1 d2 d3 e0 e1 e2 e3 e4 e5 HB0 P1 M1 he
 obtain ⟨d0,d1,d2,d3⟩:=box3 P2.out.d
 obtain ⟨e0,e1,e2,e3,e4,e5⟩:=box5 M2.out
 obtain ⟨L,hL⟩:∃L,L=lensI d x y:=⟨_,rfl⟩
 have HL:=hide hL
 have HE2:=HE.out
 rw [←hL] at HE2
 clear hL HE
 cases L with
 | some i =>
   unfold findE lensV at HE2
   dsimp only at HE2
   obtain ⟨l0,hl0⟩:∃z:Nat,z=lnH x y i:=⟨_,rfl⟩
   rw [←hl0] at HE2
   obtain ⟨l1,hl1⟩:∃z:Nat,z=d.m (Pl.nx d l0):=⟨_,rfl⟩
   rw [←hl1] at HE2
   obtain ⟨l2,hl2⟩:∃z:Nat,z=Pl.tn l0 2:=⟨_,rfl⟩
   rw [←hl2] at HE2
   obtain ⟨l3,hl3⟩:∃z:Nat,z=Pl.tn l1 2:=⟨_,rfl⟩
   rw [←hl3] at HE2
   obtain ⟨l4,hl4⟩:∃z:Nat,z=Pl.tn (d.m l0) 2:=⟨_,rfl⟩
   rw [←hl4] at HE2
   obtain ⟨l5,hl5⟩:∃z:Nat,z=Pl.nx d l0:=⟨_,rfl⟩
   rw [←hl5] at HE2
   obtain ⟨l6,hl6⟩:∃z:Nat,z=d.m l0:=⟨_,rfl⟩
   rw [←hl6] at HE2
   obtain ⟨l7,hl7⟩:∃z:Nat,z=Pl.tn l5 2:=⟨_,rfl⟩
   rw [←hl7] at HE2
   clear hl0 hl1 hl2 hl3 hl4 hl5 hl6 hl7
   subst HE2
   have PL:=hide (P2.out.alloc (.cells #[.int .i64 (l0:Int),.int .i64 (l1:Int),.int .i64 (l2:Int),.int .i64 (l3:Int),.int .i64 (l4:Int),.int .i64 (l5:Int),.int .i64 (l6:Int),.int .i64 (l7:Int)] 93))
   have ML0:=hide (M2.out.alloc (.cells #[.int .i64 (l0:Int),.int .i64 (l1:Int),.int .i64 (l2:Int),.int .i64 (l3:Int),.int .i64 (l4:Int),.int .i64 (l5:Int),.int .i64 (l6:Int),.int .i64 (l7:Int)] 93))
   have HBL:=hide (HB1.out.alloc HB1.out.size (.cells #[.int .i64 (l0:Int),.int .i64 (l1:Int),.int .i64 (l2:Int),.int .i64 (l3:Int),.int .i64 (l4:Int),.int .i64 (l5:Int),.int .i64 (l6:Int),.int .i64 (l7:Int)] 93))
   go_wp2_with fail
   refine (unpoke_m d hd A B cp cq m x y 4 0 false _ HM.out (HG.out.keep HBL.out) hxy hy).mono ?_
   rintro e w3 ⟨r1,r2,hb3⟩
   have P3:=hide (PL.out.below hb3)
   have M3:=hide (ML0.out.below hb3)
   have hs4:w.heap.size<w3.heap.size:=M3.out.lt
   have hs5:gl<w3.heap.size:=by omega
   rw [←HC.out] at r1 r2
   have R1:=hide r1
   have R2:=hide r2
   clear r1 r2 hb3 d0 d1 d2 d3 e0 e1 e2 e3 e4 e5 HB1 P2 M2 PL ML0 HBL
   obtain ⟨e0,e1,e2,e3,e4,e5⟩:=box5 M3.out
   have hs6:gl<w3.heap.size+1:=by omega
   have hs7:gl<w3.heap.size+1+1:=by omega
   have hs8:w.heap.size<w3.heap.size+1:=by omega
   have hs9:w.heap.size<w3.heap.size+1+1:=by omega
   by_cases h0:cc=0
   ·obtain ⟨A9,B9,c8,c9,k9,x9,y9,s9,o9,hmv,rfl,hT⟩:=ResOk.split (R2.out h0)
    have E:=hide (show one cc ⟨4,x,y,0,false⟩=[⟨4,x,y,0,false⟩] from one_yes h0)
    clear h0 R1 R2 hmv hT
    obtain ⟨N9,hN9⟩:∃n,n=(unpD d x y).n:=⟨_,rfl⟩
    obtain ⟨N4,hN4⟩:∃n,n=4 * (unpD d x y).n:=⟨_,rfl⟩
    obtain ⟨L9,hL9⟩:∃n,n=(unpD d x y).lp:=⟨_,rfl⟩
    rw [←hN4,←hN9,←hL9]
    clear hN9 hN4 hL9
    obtain ⟨q0,q1⟩:=box1 P3.out.l
    obtain ⟨n0,hn0,hz0,hz1,hz2⟩:=info_parts moveInfo
    have PA:=hide ((P3.out.alloc (.cells #[.slice A9 N9 c8,.slice B9 N4 c9,.int .i64 (L9:Int)] 24)).alloc (.cells #[.int .i64 k9,.int .i64 x9,.int .i64 y9,.int .i64 s9,.bool o9] 28))
    have A0:=hide (PA.out.alloc (.cells (Mv.cells ⟨4,x,y,0,false⟩).toArray 28)).o
    have A1:∀u ∈ Mv.cells ⟨4,x,y,0,false⟩,u.oneCell'=true:=by simp [Mv.cells,Value.oneCell']
    have A2:ms.length+1≤maxLen:=by unfold maxLen;omega
    have A3:(ms.length+1) * 40≤140737488355328:=by omega
    have A6:=hide (five_news ((w3.alloc (.cells #[.slice A9 N9 c8,.slice B9 N4 c9,.int .i64 (L9:Int)] 24)).alloc (.cells #[.int .i64 k9,.int .i64 x9,.int .i64 y9,.int .i64 s9,.bool o9] 28)) (w3.heap.size+1+1) (by simp) ⟨4,x,y,0,false⟩)
    go_wp2_with (at_builtin;refine wpList_append_lies _ (by rfl) _ _ 31 (by rfl) (gl+1) 28 n0 (.agg #[.int .i64 0,.int .i64 0,.int .i64 0,.int .i64 0,.bool false]) 5 40 Try.underlying31 hn0 hz0 hz1 hz2 rfl (by omega) v ms.length (mvs ms) (by rfl) A0.out ⟨w3.heap.size+1+1,0,none⟩ 1 1 (Mv.cells ⟨4,x,y,0,false⟩) (by rfl) (by rfl) A6.out A1 (by omega) A2 A3 (by simp;omega) (w3.heap.size+1+1+1) (by simp) ?_;intro g2 c2 w2 own2 grow2 at2 lt2;obtain ⟨q2,q3⟩:=box1 ((PA.out.alloc (.cells (Mv.cells ⟨4,x,y,0,false⟩).toArray 28)).l.grown grow2 ((PA.out.alloc (.cells (Mv.cells ⟨4,x,y,0,false⟩).toArray 28)).far (Nat.le_refl _)));have OWN2:=hide own2;have GR2:=hide grow2;clear own2 grow2 at2)
    refine bodyPost_end (results_none rfl _ _ _) rfl ⟨rfl,.slice (some ⟨g2,0,none⟩) (ms.length+1) c2,?_⟩
    rw [←HC.out,E.out]
    exact (PA.out.alloc _).push OWN2.out GR2.out
   ·have E:=hide (show one cc ⟨4,x,y,0,false⟩=[] from one_no h0)
    have hE:=ResErr.split (R1.out h0)
    subst hE
    have t1:(cc == 0)=false:=by rw [beq_eq_false_iff_ne];exact h0
    clear h0 R1 R2
    go_wp2
    refine bodyPost_end (results_none rfl _ _ _) rfl ⟨rfl,v,?_⟩
    rw [←HC.out,E.out,List.append_nil]
    exact (P3.out.alloc _).alloc _
 | none =>
   unfold findE noLens at HE2
   dsimp only at HE2
   have E:=hide (show one cc ⟨4,x,y,0,false⟩=[] from one_no (by
    rw [HC.out]
    unfold unpC
    rw [←HL.out]
    intro h
    cases h))
   subst HE2
   go_wp2
   refine bodyPost_ret (results_none rfl _ _ _) rfl ⟨rfl,v,?_⟩
   rw [←HC.out,E.out,List.append_nil]
   exact P2.out.alloc _
set_option maxRecDepth 100000 in
set_option maxHeartbeats 4000000 in
theorem unpokes_any (d:Pl.Dg)(hd:Pl.Wf d)(A B:Option Addr)(cp cq m:Nat)(w:World)(hm:m=4 * d.n)(hg:DgAt w A B d) :
 Calls Try.prog 68 #[.agg #[.slice A d.n cp,.slice B m cq,.int .i64 d.lp]] w fun e w'=>∃v,e = .returned v∧MovesIn w.heap.size w' v (upX d d.n)∧Below w.heap.size w w':=by
 have HM:=hide hm
 have HG:=hide hg
 have hn:=hd.few
 have P0:=hide (show MG w 24 w.heap.size (w.heap.size+1) [.slice A d.n cp,.slice B m cq,.int .i64 (d.lp:Int)] (.slice none 0 0) [] ((w.alloc (.cells #[.slice A d.n cp,.slice B m cq,.int .i64 (d.lp:Int)] 24)).alloc (.cells #[.slice none 0 0] 31)) from
  ⟨(row_at (vs:=[_,_,_]) rfl).alloc _,row_at (vs:=[_]) (by simp),⟨rfl,.inl ⟨rfl,rfl⟩⟩,((Below.refl _ _).alloc (Nat.le_refl _) _).alloc (by simp) _,Nat.le_refl _,by omega⟩)
 clear hg hm
 go_enter Try.func68,Try.ntmps68
 go_wp2
 go_loopg [5,6,11] d.n (fun g s5 s6 s11 wx=>∃(k:Nat) (v:Value),k+g=d.n∧s11 = .int .i64 (k:Int)∧MG w 24 w.heap.size (w.heap.size+1) [.slice A d.n cp,.slice B m cq,.int .i64 (d.lp:Int)] v (upX d k) wx)
 case atStart=>exact ⟨0,_,by omega,rfl,P0.out⟩
 case round =>
  clear P0
  obtain ⟨k,v,hkg,rfl,hp⟩:=hrel
  obtain ⟨go,rfl⟩:∃go,go=gk:=⟨_,rfl⟩
  have HKG:=hide hkg
  have PK:=hide hp
  have hlen:=upX_len hn k
  clear hp
  by_cases hk:k<d.n
  ·have hki:(k:Int)<(d.n:Int):=by omega
   clear hkg
   go_wp2
   go_loopg [6] (d.n - (k+1)) (fun g s6 wx=>∃(j:Nat) (u:Value),j+g=d.n∧k+1≤j∧s6 = .int .i64 (j:Int)∧MG w 24 w.heap.size (w.heap.size+1) [.slice A d.n cp,.slice B m cq,.int .i64 (d.lp:Int)] u (upX d k++upY d k j) wx)
   case atStart=>exact ⟨k+1,v,by omega,by omega,by go_num,by rw [upY_none d k (k+1) (Nat.le_refl _),List.append_nil];exact PK.out⟩
   case round =>
    clear PK
    obtain ⟨j,u,hjg,hkj,rfl,hq⟩:=hrel
    have HJG:=hide hjg
    have QJ:=hide hq
    have hlen2:=upY_len d k j
    obtain ⟨d0,d1,d2,d3⟩:=box3 hq.d
    clear hq hjg
    by_cases hj:j<d.n
    ·have hji:(j:Int)<(d.n:Int):=by omega
     go_wp2_with fail
     refine (upTry_any d hd A B cp cq m _ _ k j u _ w _ HM.out (HG.out.keep QJ.out.bel) (by omega) hj (by simp only [List.length_append];omega) QJ.out).mono ?_
     rintro e w1 ⟨rfl,u1,hp1⟩
     have Q1:=hide hp1
     clear hp1
     go_wp2
     go_roundg (gk - 1)
     case measure=>have:=HJG.out;omega
     case rel =>
      have e2:upY d k (j+1)=upY d k j++one (unpC d k j) ⟨4,k,j,0,false⟩:=by
       show upY d k j++(if k<j then one (unpC d k j) ⟨4,k,j,0,false⟩ else [])=_
       rw [if_pos (by omega)]
      exact ⟨j+1,u1,by have:=HJG.out;omega,by omega,by go_num,by rw [e2];simpa using Q1.out⟩
    ·have hji:¬((j:Int)<(d.n:Int)):=by omega
     have E2:=hide (show upX d (k+1)=upX d k++upY d k j by
      have:j=d.n:=by have:=HJG.out;omega
      rw [this];rfl)
     go_wp2
     go_roundg (go - 1)
     case measure=>have:=HKG.out;omega
     case rel=>exact ⟨k+1,u,by have:=HKG.out;omega,by go_num,by rw [E2.out];exact QJ.out⟩
  ·have hki:¬((k:Int)<(d.n:Int)):=by omega
   have e:k=d.n:=by omega
   have EL:=hide (show upX d k=upX d d.n by rw [e])
   obtain ⟨q0,q1⟩:=box1 PK.out.l
   clear hkg e
   go_wp2
   go_ret
   exact ⟨v,rfl,⟨w.heap.size+1+1,by omega,PK.out.big,by rw [←EL.out];exact PK.out.o⟩,PK.out.bel⟩
end Go.Proofs.Ytobbepmlmbbamaa
end
section
namespace Go.Proofs.Ytobbepmlmbbamaa.Pl
variable {d:Dg}
def lsum:List Int→Nat
 | []=>0
 | z :: l=>z.toNat+lsum l
theorem lsum_set:∀(ps:List Int) (i:Nat) (v:Int),i<ps.length→lsum (ps.set i v)+(pv ps i).toNat=lsum ps+v.toNat
 | [],i,v,h=>by simp at h
 | z :: l, 0, v, h => by
   simp only [List.set_cons_zero,lsum,pv,List.getD_cons_zero];omega
 | z :: l, i + 1, v, h => by
   have:=lsum_set l i v (by simpa using h)
   simp only [List.set_cons_succ,lsum,pv,List.getD_cons_succ] at this ⊢;omega
def ids (n k:Nat):List Int:=(List.range n).map (fun c=>if c<k then (c:Int) else 0)
theorem ids_len (n k:Nat):(ids n k).length=n:=by unfold ids;simp
theorem ids_zero (n:Nat):ids n 0=List.replicate n 0:=by
 unfold ids
 refine List.ext_getElem (by simp) (fun i h1 h2=>?_)
 simp
theorem ids_pv {n k c:Nat}(hc:c<n):pv (ids n k) c=if c<k then (c:Int) else 0:=by
 unfold pv ids
 rw [List.getD_eq_getElem?_getD,List.getElem?_map,List.getElem?_range hc];rfl
theorem ids_get {n k i:Nat}(h:i<(ids n k).length):(ids n k)[i]=if i<k then (i:Int) else 0:=by simp [ids]
theorem ids_set {n k:Nat}(hk:k<n):(ids n k).set k (k:Int)=ids n (k+1):=by
 refine List.ext_getElem (by rw [List.length_set,ids_len,ids_len]) (fun i h1 h2=>?_)
 rw [List.getElem_set,ids_get,ids_get]
 by_cases e:k=i
 ·subst e;rw [if_pos rfl,if_pos (by omega)]
 ·rw [if_neg e]
  by_cases e2:i<k
  ·rw [if_pos e2,if_pos (by omega)]
  ·rw [if_neg e2,if_neg (by omega)]
structure PI (d:Dg) (ps:List Int):Prop where
 len:ps.length=d.n
 is:∀c,c<d.n→∃b:Nat,pv ps c=b∧b≤c∧Comp d c b
theorem PI.start (d:Dg):PI d (ids d.n d.n) :=
 ⟨ids_len _ _,fun c hc=>⟨c,by rw [ids_pv hc,if_pos hc],Nat.le_refl _,.refl⟩⟩
theorem PI.nat {ps:List Int}(h:PI d ps){c:Nat}(hc:c<d.n):0≤pv ps c∧pv ps c≤c:=by
 obtain ⟨b,h1,h2,_⟩:=h.is c hc
 omega
theorem comp_m (hd:Wf d){h:Nat}(hh:h<4 * d.n):Comp d (h / 4) (d.m h / 4) :=
 (con_comp hd hh (hd.lt h hh)).1 (Con.refl.right)
theorem PI.step (hd:Wf d){ps:List Int}(h:PI d ps){x:Nat}(hx:x<4 * d.n)(hlt:pv ps (d.m x / 4)<pv ps (x / 4)):PI d (ps.set (x / 4) (pv ps (d.m x / 4)))∧lsum (ps.set (x / 4) (pv ps (d.m x / 4)))<lsum ps:=by
 have hm:=hd.lt x hx
 have hl:x / 4<ps.length:=by rw [h.len];omega
 have h1:=h.nat (c:=x / 4) (by omega)
 have h2:=h.nat (c:=d.m x / 4) (by omega)
 refine ⟨⟨by rw [List.length_set,h.len],fun c hc=>?_⟩,by have:=lsum_set ps (x / 4) (pv ps (d.m x / 4)) hl;omega⟩
 rw [pv_set hl]
 by_cases e:c=x / 4
 ·rw [if_pos e]
  obtain ⟨b,e1,e2,e3⟩:=h.is (d.m x / 4) (by omega)
  refine ⟨b,e1,by omega,?_⟩
  rw [e]
  exact (comp_m hd hx).trans e3
 ·rw [if_neg e];exact h.is c hc
structure PB (d:Dg) (ps:List Int):Prop where
 len:ps.length=d.n
 is:∀c,c<d.n→∃b:Nat,pv ps c=b∧b≤c∧Comp d c b
 same:∀a b,a<d.n→Comp d a b→pv ps a=pv ps b
theorem PI.done (hd:Wf d){ps:List Int}(h:PI d ps)(hs:∀x,x<4 * d.n→pv ps (x / 4)≤pv ps (d.m x / 4)):PB d ps:=by
 refine ⟨h.len,h.is,fun a b ha e=>?_⟩
 have:=con_sub hd.hm (R:=fun x y=>pv ps (x / 4)=pv ps (y / 4)) ⟨fun _ _=>rfl,fun _ _ _ _ e=>e.symm,fun _ _ _ _ _ _ e e'=>e.trans e'⟩
  (fun x _=>by show pv ps (x / 4)=pv ps (rot x / 4);unfold rot;rw [tn_div]) (fun x hx=>?_) (x:=4 * a) (y:=4 * b) (by unfold dart;omega) e
 ·simpa [Nat.mul_div_cancel_left] using this
 ·have h1:=hs x hx
  have h2:=hs (d.m x) (hd.lt x hx)
  rw [hd.inv x hx] at h2
  exact Int.le_antisymm h1 h2
theorem PB.iff (hd:Wf d){ps:List Int}(h:PB d ps){a b:Nat}(ha:a<d.n)(hb:b<d.n):pv ps a=pv ps b↔Comp d a b:=by
 refine ⟨fun e=>?_,h.same a b ha⟩
 obtain ⟨x,e1,e2,e3⟩:=h.is a ha
 obtain ⟨y,g1,g2,g3⟩:=h.is b hb
 have:x=y:=by omega
 subst this
 exact e3.trans (comp_symm hd hb g3)
theorem PB.root {ps:List Int}(h:PB d ps){c:Nat}(hc:c<d.n):∃b:Nat,pv ps c=b∧b<d.n∧pv ps b=b∧Comp d c b:=by
 obtain ⟨b,h1,h2,h3⟩:=h.is c hc
 exact ⟨b,h1,by omega,by rw [←h.same c b hc h3,h1],h3⟩
theorem PB.rule (hd:Wf d){ps:List Int}(h:PB d ps):(∀c,c<d.n→pv ps c=c→nf d ps c (4 * d.n)=nv ps c d.n+2)↔Rule d:=by
 have key:∀c p:Nat,c<d.n→pv ps c=p→nf d ps p (4 * d.n)=cnt (fun h=>Least (nx d) h∧Comp d c (h / 4)) (4 * d.n)∧nv ps p d.n=cnt (fun b=>Comp d c b) d.n:=by
  intro c p hc e
  have one:∀b,b<d.n→(pv ps b=p↔Comp d c b):=fun b hb'=>by
   rw [←h.iff hd hc hb',e]
   exact ⟨fun e=>e.symm,fun e=>e.symm⟩
  refine ⟨cnt_congr _ (fun x hx=>?_),cnt_congr _ (fun x hx=>one x hx)⟩
  rw [one (x / 4) (by omega)]
 constructor
 ·intro h2 c hc
  obtain ⟨b,e1,e2,e3,e4⟩:=h.root hc
  obtain ⟨k1,k2⟩:=key c b hc e1
  have:=h2 b e2 e3
  omega
 ·intro h2 c hc e
  obtain ⟨k1,k2⟩:=key c c hc e
  rw [k1,k2]
  exact h2 c hc
def Fx (d:Dg)(ps es:List Int)(m:Nat):Prop:=es.length=d.n∧∀p,p<d.n→pv es p=(nf d ps p m:Int)
def Cx (d:Dg)(ps es:List Int)(k:Nat):Prop:=es.length=d.n∧∀p,p<d.n→pv es p=(nv ps p k:Int)
theorem rep_pv {n p:Nat}(hp:p<n):pv (List.replicate n 0) p=0:=by
 unfold pv;rw [List.getD_eq_getElem?_getD,List.getElem?_replicate,if_pos hp];rfl
theorem Fx.start (d:Dg)(ps:List Int):Fx d ps (List.replicate d.n 0) 0:=⟨by simp,fun p hp=>by rw [rep_pv hp];simp [nf,cnt]⟩
theorem Cx.start (d:Dg)(ps:List Int):Cx d ps (List.replicate d.n 0) 0:=⟨by simp,fun p hp=>by rw [rep_pv hp];simp [nv,cnt]⟩
theorem Fx.more {ps es:List Int}{m:Nat}(h:Fx d ps es m){q:Nat}(hq:q<d.n)(e:pv ps (m / 4)=q)(hl:Least (nx d) m):Fx d ps (es.set q (pv es q+1)) (m+1):=by
 refine ⟨by rw [List.length_set,h.1],fun p hp=>?_⟩
 rw [pv_set (by rw [h.1];exact hq)]
 have hp0:=h.2 p hp
 by_cases e2:p=q
 ·subst e2
  rw [if_pos rfl,hp0]
  unfold nf
  rw [cnt_step_pos ⟨hl,e⟩];omega
 ·rw [if_neg e2,hp0]
  unfold nf
  rw [cnt_step_neg (fun e3=>e2 (by have:=e3.2;rw [e] at this;omega))]
theorem Fx.same {ps es:List Int}{m:Nat}(h:Fx d ps es m)(hl:¬Least (nx d) m):Fx d ps es (m+1):=by
 refine ⟨h.1,fun p hp=>?_⟩
 rw [h.2 p hp]
 unfold nf
 rw [cnt_step_neg (fun e3=>hl e3.1)]
theorem Cx.more {ps es:List Int}{k:Nat}(h:Cx d ps es k){q:Nat}(hq:q<d.n)(e:pv ps k=q):Cx d ps (es.set q (pv es q+1)) (k+1):=by
 refine ⟨by rw [List.length_set,h.1],fun p hp=>?_⟩
 rw [pv_set (by rw [h.1];exact hq)]
 have hp0:=h.2 p hp
 by_cases e2:p=q
 ·subst e2
  rw [if_pos rfl,hp0]
  unfold nv
  rw [cnt_step_pos e];omega
 ·rw [if_neg e2,hp0]
  unfold nv
  rw [cnt_step_neg (fun e3=>e2 (by rw [e] at e3;omega))]
theorem nf_le (d:Dg)(ps:List Int)(p:Nat):∀m,nf d ps p m≤m:=fun m=>cnt_top _ m
theorem nv_le (ps:List Int)(p:Nat):∀m,nv ps p m≤m:=fun m=>cnt_top _ m
theorem SI.all (hd:Wf d){k p:Nat}{bs:List Bool}(h:SI d k p bs)(hp:Per (nx d) k p):SQ d (k+1) bs:=by
 refine h.done hd ?_
 have e:=hp.2.1
 have hl:=h.lt hd
 refine (h.iff _ hl).2 (.inr ⟨0,hp.1,?_⟩)
 rw [e];rfl
end Go.Proofs.Ytobbepmlmbbamaa.Pl
end
section
namespace Go.Proofs.Ytobbepmlmbbamaa
open Go Go.RowKit
theorem Row.drewN {w:World}{g:Nat}{t:TypeId}{vs:List Value}(h:Row w g t vs)(n:Nat):Row (w.drewN n) g t vs:=h
theorem Below.drewN' {k:Nat}{w w':World}(h:Below k w w')(n:Nat):Below k w (w'.drewN n):=⟨h.os,h.tape,h.output,h.size,h.block⟩
set_option maxRecDepth 100000 in
set_option maxHeartbeats 4000000 in
theorem rpart_any (d:Pl.Dg)(hd:Pl.Wf d)(A B:Option Addr)(cp cq m:Nat)(l:Value)(w:World)(hm:m=4 * d.n)(hg:DgAt w A B d) :
 Calls Try.prog 63 #[.agg #[.slice A d.n cp,.slice B m cq,l]] w fun e w' =>
  ∃(ps:List Int) (g:Nat),e = .returned (.slice (some ⟨g,0,none⟩) d.n d.n)∧Pl.PB d ps∧w.heap.size≤g∧IRow w' g ps∧Below w.heap.size w w':=by
 have hn:=hd.few
 have HF:=hide hd
 have HM:=hide hm
 have hm2:m≤256:=by omega
 have HG:=hide hg
 clear hd hm hg
 have hmk:=run_ints d.n (by omega) (w.alloc (.cells #[.slice A d.n cp,.slice B m cq,l] 24))
 go_enter Try.func63,Try.ntmps63
 go_wp2
 clear hmk
 obtain ⟨W1,hW1⟩:∃W1:World,W1=(w.alloc (.cells #[.slice A d.n cp,.slice B m cq,l] 24)).alloc (.cells (Array.replicate d.n (Value.int .i64 0)) 3):=⟨_,rfl⟩
 have B1:=hide (show Below w.heap.size w W1 by rw [hW1];exact ((Below.refl _ _).alloc (Nat.le_refl _) _).alloc (by simp) _)
 have X1:=hide (show Row W1 w.heap.size 24 (boxV A B d.n cp m cq l) by rw [hW1];exact (Row.new w _ _).alloc _)
 have R1:=hide (show IRow W1 (w.heap.size+1) (Pl.ids d.n 0) by
  rw [hW1,Pl.ids_zero]
  have:=IRow.made (w.alloc (.cells #[.slice A d.n cp,.slice B m cq,l] 24)) d.n
  simpa using this)
 rw [←hW1]
 clear hW1
 go_loopg [4] d.n (fun g i wx=>∃k:Nat,k+g=d.n∧i = .int .i64 k∧Below w.heap.size w wx∧Row wx w.heap.size 24 (boxV A B d.n cp m cq l)∧IRow wx (w.heap.size+1) (Pl.ids d.n k))
 case atStart=>exact ⟨0,by omega,rfl,B1.out,X1.out,R1.out⟩
 case round =>
  obtain ⟨k,hkg,rfl,b2,x2,r2⟩:=hrel
  have HK:=hide hkg
  have hks:k≤d.n:=by omega
  clear hkg
  by_cases hlt:k<d.n
  ·have c1:=r2.cell (i:=k) (by rw [Pl.ids_len];exact hlt)
   have f1:=Row.free r2 k
   have B2:=hide b2
   have X2:=hide x2
   have R2:=hide r2
   clear b2 x2 r2
   go_wp2
   go_roundg (gk - 1)
   case measure=>have:=HK.out;omega
   case rel =>
    refine ⟨k+1,by have:=HK.out;omega,by go_num,?_,X2.out.other (by simp) _,?_⟩
    ·exact B2.out.setCell (by simp) _
    ·have:=R2.out.set k k
     rwa [Pl.ids_set hlt] at this
  ·have hkn:k=d.n:=by omega
   have B2:=hide b2
   have X2:=hide x2
   have R2:=hide (show IRow wr (w.heap.size+1) (Pl.ids d.n d.n) by subst hkn;exact r2)
   clear b2 x2 r2 hkn
   go_wp2
   go_loopg [5] (Pl.lsum (Pl.ids d.n d.n)+1) (fun g c wx=>∃(ps:List Int) (ch:Bool),c = .bool ch∧Pl.PI d ps∧((ch=true∧g=Pl.lsum ps+1)∨(ch=false∧g=0∧∀x,x<4 * d.n→Pl.pv ps (x / 4)≤Pl.pv ps (d.m x / 4)))∧Below w.heap.size w wx∧Row wx w.heap.size 24 (boxV A B d.n cp m cq l)∧IRow wx (w.heap.size+1) ps)
   case atStart=>exact ⟨_,true,rfl,Pl.PI.start d,.inl ⟨rfl,rfl⟩,B2.out,X2.out,R2.out⟩
   case round =>
    clear B2 X2 R2 B1 X1 R1 HK hks hlt
    obtain ⟨ps,ch,rfl,hpi,hch,b3,x3,r3⟩:=hrel
    have HP:=hide hpi
    have HC:=hide hch
    have B3:=hide b3
    have X3:=hide x3
    have R3:=hide r3
    clear hpi hch b3 x3 r3
    cases ch with
    | false =>
      have hs:=hide (show ∀x,x<4 * d.n→Pl.pv ps (x / 4)≤Pl.pv ps (d.m x / 4) from (HC.out.resolve_left (fun h=>by cases h.1)).2.2)
      have hwl:w.heap.size+1<wr.heap.size:=R3.out.lt
      go_wp2
      go_ret
      exact ⟨ps,w.heap.size+1,rfl,Pl.PI.done HF.out HP.out hs.out,by omega,R3.out,B3.out⟩
    | true =>
      have HGK:=hide (show gk=Pl.lsum ps+1 from (HC.out.resolve_right (fun h=>by cases h.1)).2)
      clear HC
      go_wp2
      go_loopg [5,6] m (fun g c i wx=>∃(k:Nat) (qs:List Int) (ch:Bool),k+g=m∧i = .int .i64 k∧c = .bool ch∧Pl.PI d qs∧((ch=true∧Pl.lsum qs<Pl.lsum ps)∨(ch=false∧Pl.lsum qs=Pl.lsum ps∧∀x,x<k→Pl.pv qs (x / 4)≤Pl.pv qs (d.m x / 4)))∧Below w.heap.size w wx∧Row wx w.heap.size 24 (boxV A B d.n cp m cq l)∧IRow wx (w.heap.size+1) qs)
      case atStart=>exact ⟨0,ps,false,by omega,rfl,rfl,HP.out,.inr ⟨rfl,rfl,fun x hx=>absurd hx (by omega)⟩,B3.out,X3.out,R3.out⟩
      case round =>
       clear B3 X3 R3 HP
       obtain ⟨k,qs,ch,hkg,rfl,rfl,hpi,hch,b4,x4,r4⟩:=hrel
       have HK:=hide hkg
       have hkm:k≤m:=by omega
       have HP:=hide hpi
       have HC:=hide hch
       clear hkg hpi hch
       obtain ⟨x0,x1,x2,x3⟩:=box3 x4
       by_cases hlt:k<m
       ·have hk4:k<4 * d.n:=by have:=HM.out;omega
        have hmk4:=HF.out.lt k hk4
        obtain ⟨bb,bo,rfl,hmc⟩:=mate_at HG.out.m hk4
        have hmc':=cell_below hmc b4
        have hk5:k / 4<d.n:=by omega
        have c1:=r4.cell (i:=k / 4) (by rw [HP.out.len];exact hk5)
        obtain ⟨u,hu⟩:∃u,u=d.m k:=⟨_,rfl⟩
        rw [←hu] at hmc' hmk4
        have HU:=hide hu
        have hu5:u / 4<d.n:=by omega
        have c2:=r4.cell (i:=u / 4) (by rw [HP.out.len];exact hu5)
        have f1:=Row.free r4 (k / 4)
        have B4:=hide b4
        have X4:=hide x4
        have R4:=hide r4
        clear b4 x4 r4 hmc hu
        by_cases hlow:Pl.pv qs (u / 4)<Pl.pv qs (k / 4)
        ·have HST:=hide (HP.out.step HF.out hk4 (by rw [←HU.out];exact hlow))
         go_wp2
         go_quiet (fail)
         go_wp2
         go_quiet (fail)
         go_wp2
         go_roundg (gk - 1)
         case measure=>have:=HK.out;omega
         case rel =>
          refine ⟨k+1,qs.set (k / 4) (Pl.pv qs (u / 4)),true,by have:=HK.out;omega,by go_num,rfl,?_,.inl ⟨rfl,?_⟩,(Below.drewN' B4.out _).setCell (by simp) _,(Row.drewN X4.out _).other (by simp) _,IRow.set (Row.drewN R4.out _) _ _⟩
          ·rw [HU.out];exact HST.out.1
          ·have:=HST.out.2
           rw [←HU.out] at this
           rcases HC.out with ⟨_,h⟩ | ⟨_,h,_⟩ <;> omega
        ·go_wp2
         go_quiet (fail)
         go_wp2
         go_quiet (fail)
         go_wp2
         go_roundg (gk - 1)
         case measure=>have:=HK.out;omega
         case rel =>
          refine ⟨k+1,qs,ch,by have:=HK.out;omega,by go_num,rfl,HP.out,?_,Below.drewN' B4.out _,Row.drewN X4.out _,Row.drewN R4.out _⟩
          rcases HC.out with ⟨h1,h2⟩ | ⟨h1,h2,h3⟩
          ·exact .inl ⟨h1,h2⟩
          ·refine .inr ⟨h1,h2,fun x hx=>?_⟩
           by_cases e:x=k
           ·subst e;rw [←HU.out];omega
           ·exact h3 x (by omega)
       ·have hkm':k=m:=by omega
        have HKM:=hide hkm'
        have B4:=hide b4
        have X4:=hide x4
        have R4:=hide r4
        clear b4 x4 r4 hkm'
        go_wp2
        go_roundg (if ch=true then Pl.lsum qs+1 else 0)
        case measure =>
         have:=HGK.out
         rcases HC.out with ⟨h1,h2⟩ | ⟨h1,h2,h3⟩
         ·rw [if_pos h1];omega
         ·rw [h1];simp;omega
        case rel =>
         refine ⟨qs,ch,rfl,HP.out,?_,B4.out,X4.out,R4.out⟩
         rcases HC.out with ⟨h1,h2⟩ | ⟨h1,h2,h3⟩
         ·exact .inl ⟨h1,by rw [if_pos h1]⟩
         ·refine .inr ⟨h1,by rw [h1];rfl,fun x hx=>h3 x ?_⟩
          have:=HKM.out
          have:=HM.out
          omega
end Go.Proofs.Ytobbepmlmbbamaa
end
section
namespace Go.Proofs.Ytobbepmlmbbamaa
open Go Go.RowKit
structure VS (w:World) (vs:List Value) (gp gf gc gs:Nat) (ps fs cs:List Int) (bs:List Bool) (W:World):Prop where
 x:Row W w.heap.size 24 vs
 p:IRow W gp ps
 f:IRow W gf fs
 c:IRow W gc cs
 s:BRow W gs bs
 bel:Below w.heap.size w W
 lo:w.heap.size<gp∧w.heap.size<gf∧w.heap.size<gc∧w.heap.size<gs
 ne:gp≠gf∧gp≠gc∧gp≠gs∧gf≠gc∧gf≠gs∧gc≠gs
section
variable {w:World} {vs:List Value} {gp gf gc gs:Nat} {ps fs cs:List Int} {bs:List Bool} {W W':World}
theorem VS.below (h:VS w vs gp gf gc gs ps fs cs bs W)(hb:Below W.heap.size W W'):VS w vs gp gf gc gs ps fs cs bs W' :=
 ⟨h.x.below hb,Row.below h.p hb,Row.below h.f hb,Row.below h.c hb,Row.below h.s hb,h.bel.trans (hb.mono h.bel.size),h.lo,h.ne⟩
theorem VS.drewN (h:VS w vs gp gf gc gs ps fs cs bs W)(n:Nat):VS w vs gp gf gc gs ps fs cs bs (W.drewN n):=⟨h.x,h.p,h.f,h.c,h.s,Below.drewN' h.bel n,h.lo,h.ne⟩
theorem VS.setF (h:VS w vs gp gf gc gs ps fs cs bs W)(i:Nat)(v:Int):VS w vs gp gf gc gs ps (fs.set i v) cs bs (W.setCell ⟨gf,i,none⟩ (.int .i64 v)):=by
 have a:=h.lo
 have b:=h.ne
 exact ⟨h.x.other (by show _≠gf;omega) _,Row.other h.p (by show _≠gf;omega) _,h.f.set i v,Row.other h.c (by show _≠gf;omega) _,Row.other h.s (by show _≠gf;omega) _,h.bel.setCell (by show _≤gf;omega) _,h.lo,h.ne⟩
theorem VS.setC (h:VS w vs gp gf gc gs ps fs cs bs W)(i:Nat)(v:Int):VS w vs gp gf gc gs ps fs (cs.set i v) bs (W.setCell ⟨gc,i,none⟩ (.int .i64 v)):=by
 have a:=h.lo
 have b:=h.ne
 exact ⟨h.x.other (by show _≠gc;omega) _,Row.other h.p (by show _≠gc;omega) _,Row.other h.f (by show _≠gc;omega) _,h.c.set i v,Row.other h.s (by show _≠gc;omega) _,h.bel.setCell (by show _≤gc;omega) _,h.lo,h.ne⟩
theorem VS.setS (h:VS w vs gp gf gc gs ps fs cs bs W)(i:Nat)(v:Bool):VS w vs gp gf gc gs ps fs cs (bs.set i v) (W.setCell ⟨gs,i,none⟩ (.bool v)):=by
 have a:=h.lo
 have b:=h.ne
 exact ⟨h.x.other (by show _≠gs;omega) _,Row.other h.p (by show _≠gs;omega) _,Row.other h.f (by show _≠gs;omega) _,Row.other h.c (by show _≠gs;omega) _,h.s.set i v,h.bel.setCell (by show _≤gs;omega) _,h.lo,h.ne⟩
end
theorem map_ints (l:List Nat):l.map (fun k:Nat=>Value.int .i64 k)=(nats l).map (Value.int .i64):=(map_nats l).symm
theorem nats_getD (l:List Nat)(j:Nat):(nats l).getD j 0=(l.getD j 0:Nat):=by
 unfold nats
 rw [List.getD_eq_getElem?_getD,List.getD_eq_getElem?_getD,List.getElem?_map]
 cases l[j]? <;> rfl
theorem rpart_n (d:Pl.Dg)(hd:Pl.Wf d)(A B:Option Addr)(n q cp cq:Nat)(l:Value)(w:World)(e:n=d.n)(hm:q=4 * d.n)(hs:IntsAt w A n d.sg)(hb:IntsAt w B q (nats d.mt)) :
 Calls Try.prog 63 #[.agg #[.slice A n cp,.slice B q cq,l]] w fun e w' =>
  ∃(ps:List Int) (g:Nat),e = .returned (.slice (some ⟨g,0,none⟩) n n)∧Pl.PB d ps∧w.heap.size≤g∧IRow w' g ps∧Below w.heap.size w w':=by
 subst e
 exact rpart_any d hd A B cp cq q l w hm ⟨hs,by rw [←hm];exact hb⟩
theorem rface_n (d:Pl.Dg)(hd:Pl.Wf d)(A B:Option Addr)(n q cp cq:Nat)(l:Value)(h p:Nat)(w:World)(e:n=d.n)(hm:q=4 * d.n)(hb:IntsAt w B q (nats d.mt))(hh:h<4 * d.n)(hp:Pl.Per (Pl.nx d) h p)(hpN:p≤4 * d.n) :
 Calls Try.prog 64 #[.agg #[.slice A n cp,.slice B q cq,l],.int .i64 (h:Int)] w (fun e w'=>∃(A5:Option Addr) (c5:Nat),e = .returned (.slice A5 p c5)∧w'.ownsRow w.heap.size 3 1 (.slice A5 p c5) p ((Pl.cyc (Pl.nx d) h p).map (fun k:Nat=>Value.int .i64 k))∧Below w.heap.size w w'):=by
 subst e
 exact rface_any d hd A B cp cq q l h p w hm (by rw [hm] at hb ⊢;exact hb) hh hp hpN
theorem two_rows (W:World)(n:Nat):IRow (((W.alloc (.cells (Array.replicate n (Value.int .i64 0)) 3)).alloc (.cells (Array.replicate n (Value.int .i64 0)) 3)).drew) W.heap.size (List.replicate n 0)∧IRow (((W.alloc (.cells (Array.replicate n (Value.int .i64 0)) 3)).alloc (.cells (Array.replicate n (Value.int .i64 0)) 3)).drew) (W.heap.size+1) (List.replicate n 0)∧Below W.heap.size W (((W.alloc (.cells (Array.replicate n (Value.int .i64 0)) 3)).alloc (.cells (Array.replicate n (Value.int .i64 0)) 3)).drew):=by
 have:=IRow.made (W.alloc (.cells (Array.replicate n (Value.int .i64 0)) 3)) n
 rw [show (W.alloc (.cells (Array.replicate n (Value.int .i64 0)) 3)).heap.size=W.heap.size+1 by simp] at this
 exact ⟨Row.drew (Row.alloc (IRow.made W n) _),Row.drew this,(((Below.refl _ _).alloc (Nat.le_refl _) _).alloc (by simp) _).drew⟩
theorem two_rows' (W:World)(n:Nat):IRow (((W.alloc (.cells (Array.replicate n (Value.int .i64 0)) 3)).alloc (.cells (Array.replicate n (Value.int .i64 0)) 3)).drew) (W.heap.size+1) (List.replicate n 0)∧IRow (((W.alloc (.cells (Array.replicate n (Value.int .i64 0)) 3)).alloc (.cells (Array.replicate n (Value.int .i64 0)) 3)).drew) W.heap.size (List.replicate n 0)∧Below W.heap.size W (((W.alloc (.cells (Array.replicate n (Value.int .i64 0)) 3)).alloc (.cells (Array.replicate n (Value.int .i64 0)) 3)).drew) :=
 let ⟨a,b,c⟩:=two_rows W n;⟨b,a,c⟩
set_option maxRecDepth 100000 in
set_option maxHeartbeats 4000000 in
theorem rvalid_any (sg mt:List Int)(lp:Int)(A B:Option Addr)(n q cp cq:Nat)(w:World)(hs:IntsAt w A n sg)(hm:IntsAt w B q mt)(hn:n≤maxLen)(hq:q≤maxLen)(hlp:-9223372036854775808≤lp∧lp≤9223372036854775807) :
 Calls Try.prog 29 #[.agg #[.slice A n cp,.slice B q cq,.int .i64 lp]] w fun e w'=>e = .returned (.bool (Pl.vb (Pl.VL sg mt lp)))∧Below w.heap.size w w':=by
 unfold maxLen at hn hq
 have HLS:=hide hs.len
 have HLM:=hide hm.len
 have b0:Below w.heap.size w (w.alloc (.cells #[.slice A n cp,.slice B q cq,.int .i64 lp] 24)):=(Below.refl _ _).alloc (Nat.le_refl _) _
 by_cases h1:64<n
 ·have HV:=hide (fun h:Pl.VL sg mt lp=>show False by have:=h.few;have:=HLS.out;omega)
  go_enter Try.func29,Try.ntmps29
  go_wp2
  go_ret
  exact ⟨ret_bool (Pl.vb_false HV.out).symm,b0⟩
 ·have h1':decide (64<(n:Int))=false:=by simp;omega
  by_cases h2:q=4 * n
  ·by_cases h3:0≤lp∧lp≤64
   ·have h2':(((q:Nat):Int) != 4 * (n:Int))=false:=by simp;omega
    have h3a:decide (lp<0)=false:=by simp;omega
    have h3b:decide (64<lp)=false:=by simp;omega
    have HQ4:=hide h2
    have hq6:q≤256:=by omega
    clear h2
    have x0:Row (w.alloc (.cells #[.slice A n cp,.slice B q cq,.int .i64 lp] 24)) w.heap.size 24 (boxV A B n cp q cq (.int .i64 lp)):=Row.new w _ _
    go_enter Try.func29,Try.ntmps29
    go_wp2
    have B0:=hide b0
    have X0:=hide x0
    clear b0 x0 h1' h2' h3a h3b
    go_loopg [4] n (fun g i wx=>∃k:Nat,k+g=n∧i = .int .i64 k∧(∀c,c<k→Pl.pv sg c=1∨Pl.pv sg c = -1)∧Below w.heap.size w wx∧Row wx w.heap.size 24 (boxV A B n cp q cq (.int .i64 lp)))
    case atStart=>exact ⟨0,by omega,rfl,fun c hc=>absurd hc (by omega),B0.out,X0.out⟩
    case round =>
     clear B0 X0
     obtain ⟨k,hkg,rfl,hsg,b1,x1⟩:=hrel
     have HG:=hide hkg
     have HSG:=hide hsg
     have hkn:k≤n:=by omega
     clear hkg hsg
     by_cases hlt:k<n
     ·obtain ⟨ab,ao,rfl,hc⟩:=ints_pv hs hlt
      have hc1:=cell_below hc b1
      obtain ⟨y0,y1,y2,_⟩:=box3 x1
      have B1:=hide b1
      have X1:=hide x1
      clear b1 x1 hc
      by_cases hz:Pl.pv sg k=1
      ·have HZ:=hide hz
       rw [hz] at hc1
       clear hz
       go_wp2
       go_roundg (gk - 1)
       case measure=>have:=HG.out;omega
       case rel =>
        refine ⟨k+1,by have:=HG.out;omega,by go_num,fun c hc=>?_,B1.out,X1.out⟩
        by_cases e:c=k
        ·rw [e];exact .inl HZ.out
        ·exact HSG.out c (by omega)
      ·by_cases hz2:Pl.pv sg k = -1
       ·have HZ:=hide hz2
        rw [hz2] at hc1
        clear hz hz2
        go_wp2
        go_roundg (gk - 1)
        case measure=>have:=HG.out;omega
        case rel =>
         refine ⟨k+1,by have:=HG.out;omega,by go_num,fun c hc=>?_,B1.out,X1.out⟩
         by_cases e:c=k
         ·rw [e];exact .inr HZ.out
         ·exact HSG.out c (by omega)
       ·have HV := hide (fun h : Pl.VL sg mt lp => show False by
         rcases h.sign (c:=k) (by have:=HLS.out;omega) with e | e
         ·exact hz e
         ·exact hz2 e)
        have t1:(Pl.pv sg k != 1)=true:=by rw [bne_iff_ne];exact hz
        have t2:(Pl.pv sg k != -1)=true:=by rw [bne_iff_ne];exact hz2
        clear hz hz2
        go_wp2
        go_ret
        exact ⟨ret_bool (Pl.vb_false HV.out).symm,B1.out⟩
     ·have HSG':=hide (fun (c:Nat) (hc:c<sg.length)=>HSG.out c (by have:=HLS.out;omega))
      have B1:=hide b1
      have X1:=hide x1
      clear b1 x1 HSG HG
      go_wp2
      go_loopg [5] q (fun g i wx=>∃k:Nat,k+g=q∧i = .int .i64 k∧(∀h,h<k→0≤Pl.pv mt h∧Pl.pv mt h<mt.length∧Pl.pv mt h≠h∧Pl.pv mt (Pl.pv mt h).toNat=h∧Pl.out (Pl.mk sg mt lp) h≠Pl.out (Pl.mk sg mt lp) (Pl.pv mt h).toNat)∧Below w.heap.size w wx∧Row wx w.heap.size 24 (boxV A B n cp q cq (.int .i64 lp)))
      case atStart=>exact ⟨0,by omega,rfl,fun c hc=>absurd hc (by omega),B1.out,X1.out⟩
      case round =>
       clear B1 X1
       obtain ⟨j,hjg,rfl,hmo,b2,x2⟩:=hrel
       have HG:=hide hjg
       have HMO:=hide hmo
       have hjq:j≤q:=by omega
       clear hjg hmo
       obtain ⟨y0,y1,y2,_⟩:=box3 x2
       by_cases hlt2:j<q
       ·obtain ⟨bb,bo,rfl,hc⟩:=ints_pv hm hlt2
        have hj4n:(j:Int)<4 * (n:Int):=by have:=HQ4.out;omega
        have hc1:=cell_below hc b2
        have hjl:j<mt.length:=by have:=HLM.out;omega
        have B2:=hide b2
        have X2:=hide x2
        clear b2 x2 hc
        by_cases hz0:Pl.pv mt j<0
        ·have HV:=hide (fun h:Pl.VL sg mt lp=>show False by have:=(h.mate hjl).1;omega)
         have t1:decide (Pl.pv mt j<0)=true:=by simpa using hz0
         clear hz0
         go_wp2
         go_quiet (fail)
         go_wp2
         go_ret
         exact ⟨ret_bool (Pl.vb_false HV.out).symm,Below.drewN' B2.out _⟩
        ·have t1:decide (Pl.pv mt j<0)=false:=by simpa using hz0
         by_cases hz1:Pl.pv mt j<q
         ·obtain ⟨t,ht⟩:∃t:Nat,Pl.pv mt j=t:=⟨(Pl.pv mt j).toNat,by omega⟩
          have htq:t<q:=by omega
          have t2:decide (4 * (n:Int)≤(t:Int))=false:=by have:=HQ4.out;simp;omega
          rw [ht] at hc1 t1
          have HT:=hide ht
          have hj4:j<4 * n:=by have:=HQ4.out;omega
          have ht4:t<4 * n:=by have:=HQ4.out;omega
          clear hz0 hz1 ht
          by_cases htj:t=j
          ·have HV:=hide (fun h:Pl.VL sg mt lp=>show False by have:=(h.mate hjl).2.2.1;rw [HT.out] at this;omega)
           have t3:(((t:Nat):Int) == (j:Int))=true:=by simp;omega
           clear htj
           go_wp2
           go_quiet (fail)
           go_wp2
           go_ret
           exact ⟨ret_bool (Pl.vb_false HV.out).symm,Below.drewN' B2.out _⟩
          ·have t3:(((t:Nat):Int) == (j:Int))=false:=by simp;omega
           obtain ⟨bb',bo',ebb,hcb⟩:=ints_pv hm htq
           injection ebb with ebb
           injection ebb with ebb1 ebb2
           subst ebb1;subst ebb2
           have hc2:=cell_below hcb B2.out
           clear hcb
           by_cases hinv:Pl.pv mt t=j
           ·have HI:=hide hinv
            rw [hinv] at hc2
            have t4:((j:Int) != (j:Int))=false:=by simp
            clear hinv
            have HSS:=hide (fun (p:Cls (fun w'=>Row w' w.heap.size 24 (boxV A (some ⟨bb,bo,none⟩) n cp q cq (.int .i64 lp))∧Below w.heap.size w w'∧w'.cell? ⟨bb,bo+t,none⟩=some (.int .i64 (j:Int)))) (h:Nat) (hh:h<4 * n) =>
             calls_cls (C:=fun w'=>Row w' w.heap.size 24 (boxV A (some ⟨bb,bo,none⟩) n cp q cq (.int .i64 lp))∧Below w.heap.size w w'∧w'.cell? ⟨bb,bo+t,none⟩=some (.int .i64 (j:Int)))
              (rout_any (Pl.mk sg mt lp) A (some ⟨bb,bo,none⟩) n cp q cq (.int .i64 lp) h p.w HLS.out.symm hh (by omega) (hs.keep p.ok.2.1)) (fun e w' h=>⟨h.1,p.ok.1.below h.2,p.ok.2.1.trans (h.2.mono p.ok.2.1.size),cell_below p.ok.2.2 h.2⟩))
            have c30:∀p:Cls (fun w'=>Row w' w.heap.size 24 (boxV A (some ⟨bb,bo,none⟩) n cp q cq (.int .i64 lp))∧Below w.heap.size w w'∧w'.cell? ⟨bb,bo+t,none⟩=some (.int .i64 (j:Int))),p.w.cell? ⟨w.heap.size,0,none⟩=some (.slice A n cp):=fun p=>p.ok.1.cell (i:=0) (by show 0<3;omega)
            have c31:∀p:Cls (fun w'=>Row w' w.heap.size 24 (boxV A (some ⟨bb,bo,none⟩) n cp q cq (.int .i64 lp))∧Below w.heap.size w w'∧w'.cell? ⟨bb,bo+t,none⟩=some (.int .i64 (j:Int))),p.w.cell? ⟨w.heap.size,1,none⟩=some (.slice (some ⟨bb,bo,none⟩) q cq):=fun p=>p.ok.1.cell (i:=1) (by show 1<3;omega)
            have c32:∀p:Cls (fun w'=>Row w' w.heap.size 24 (boxV A (some ⟨bb,bo,none⟩) n cp q cq (.int .i64 lp))∧Below w.heap.size w w'∧w'.cell? ⟨bb,bo+t,none⟩=some (.int .i64 (j:Int))),p.w.cell? ⟨w.heap.size,2,none⟩=some (.int .i64 lp):=fun p=>p.ok.1.cell (i:=2) (by show 2<3;omega)
            have c33:∀p:Cls (fun w'=>Row w' w.heap.size 24 (boxV A (some ⟨bb,bo,none⟩) n cp q cq (.int .i64 lp))∧Below w.heap.size w w'∧w'.cell? ⟨bb,bo+t,none⟩=some (.int .i64 (j:Int))),p.w.cell? ⟨bb,bo+t,none⟩=some (.int .i64 (j:Int)):=fun p=>p.ok.2.2
            have HC2:=hide hc2
            go_wp2
            refine wp_region_cls (fun w'=>Row w' w.heap.size 24 (boxV A (some ⟨bb,bo,none⟩) n cp q cq (.int .i64 lp))∧Below w.heap.size w w'∧w'.cell? ⟨bb,bo+t,none⟩=some (.int .i64 (j:Int))) (by kernel_rfl) (by kernel_rfl) ⟨X2.out.drew,B2.out.drew,HC2.out⟩ (fun hne=>?_)
            repeat (go_big_quiet_step ((go_at_call 62;exact HSS.out _ _ (by omega))))
            refine wpQuiet_nil ?_
            rintro _ ⟨p,rfl⟩
            have hp1:=hide p.ok.1
            have hp2:=hide p.ok.2.1
            clear HSS c30 c31 c32 c33
            go_wp2
            ·have t5:(Pl.out (Pl.mk sg mt lp) j == Pl.out (Pl.mk sg mt lp) t)=true:=by assumption
             go_ret
             refine ⟨ret_bool (Pl.vb_false fun h=>?_).symm,hp2.out⟩
             have h5:=(h.mate hjl).2.2.2.2
             rw [HT.out,Int.toNat_natCast] at h5
             exact h5 (beq_iff_eq.1 t5)
            ·have t5:(Pl.out (Pl.mk sg mt lp) j == Pl.out (Pl.mk sg mt lp) t)=false:=by assumption
             go_roundg (gk - 1)
             case measure=>have:=HG.out;omega
             case rel =>
              refine ⟨j+1,by have:=HG.out;omega,by go_num,fun h hh=>?_,hp2.out,hp1.out⟩
              by_cases e:h=j
              ·subst e
               rw [HT.out,Int.toNat_natCast]
               exact ⟨by omega,by have:=HLM.out;omega,by omega,HI.out,beq_eq_false_iff_ne.1 t5⟩
              ·exact HMO.out h (by omega)
           ·have HV := hide (fun h : Pl.VL sg mt lp => show False by
             have:=(h.mate hjl).2.2.2.1
             rw [HT.out,Int.toNat_natCast] at this
             exact hinv this)
            have t4:(Pl.pv mt t != (j:Int))=true:=by rw [bne_iff_ne];exact hinv
            clear hinv
            go_wp2
            go_quiet (fail)
            go_wp2
            go_ret
            exact ⟨ret_bool (Pl.vb_false HV.out).symm,Below.drewN' B2.out _⟩
         ·have HV:=hide (fun h:Pl.VL sg mt lp=>show False by have:=(h.mate hjl).2.1;have:=HLM.out;omega)
          have t2:decide (4 * (n:Int)≤Pl.pv mt j)=true:=by have:=HQ4.out;simp;omega
          clear hz0 hz1
          go_wp2
          go_quiet (fail)
          go_wp2
          go_ret
          exact ⟨ret_bool (Pl.vb_false HV.out).symm,Below.drewN' B2.out _⟩
       ·have hjq':j=q:=by omega
        have hj4n:¬((j:Int)<4 * (n:Int)):=by have:=HQ4.out;omega
        have hw:=Pl.wf_of (sg:=sg) (mt:=mt) (lp:=lp) (by have:=HLS.out;omega) (by have:=HLS.out;have:=HLM.out;have:=HQ4.out;omega) h3 HSG'.out (fun k hk=>HMO.out k (by have:=HLM.out;omega))
        have hpos:∀z,z ∈ mt→0≤z:=fun z hz=>by
         obtain ⟨k,hk,rfl⟩:=Pl.mem_pv hz
         exact (HMO.out k (by have:=HLM.out;omega)).1
        have HW:=hide hw
        have HR:=hide (Pl.VL.of hw hpos h3.1)
        have HN:=hide (Pl.nats_mk (sg:=sg) (lp:=lp) hpos)
        have B2:=hide b2
        have X2:=hide x2
        clear b2 x2 hw hpos hjq'
        obtain ⟨d,hd⟩:∃d,d=Pl.mk sg mt lp:=⟨_,rfl⟩
        have HD:=hide hd
        have HWd:=hide (show Pl.Wf d by rw [hd];exact HW.out)
        have HNd:=hide (show n=d.n by rw [hd];exact HLS.out.symm)
        have HQd:=hide (show q=4 * d.n by have:=HQ4.out;have:=HNd.out;omega)
        have HSd:=hide (show IntsAt w A n d.sg by rw [hd];exact hs)
        have HMd:=hide (show IntsAt w B q (nats d.mt) by rw [hd];unfold nats;rw [HN.out];exact hm)
        clear hd
        have hmk:=fun W:World=>run_ints n (by omega) W
        have hmkb:∀W:World,(Instr.makeSlice 69 (.int .i64 (4 * (n:Int))) (.int .i64 (4 * (n:Int)))).run Try.prog W = .ok (.slice (some ⟨W.heap.size,0,none⟩) q q) (W.alloc (.cells (Array.replicate q (Value.bool false)) 4)):=fun W=>by
         have:=run_bools q (by omega) W
         rwa [show (q:Int)=4 * (n:Int) by have:=HQ4.out;omega] at this
        go_wp2_with fail
        refine (rpart_n d HWd.out A B n q cp cq (.int .i64 lp) _ HNd.out HQd.out (HSd.out.keep B2.out) (HMd.out.keep B2.out)).mono ?_
        rintro e w3 ⟨ps,gp,rfl,hpb,hgp,hpr,hb3⟩
        have HPB:=hide hpb
        have P3:=hide hpr
        have X3:=hide (X2.out.below hb3)
        have B3:=hide (B2.out.trans (hb3.mono B2.out.size))
        have hgpw:w.heap.size<gp:=by have:=X2.out.lt;omega
        have hgp3:gp<w3.heap.size:=hpr.lt
        clear hpb hgp hpr hb3 y0 y1 y2
        go_upto_region 16 with fail
        go_cut [8,9] (fun s8 s9 wx=>∃gf gc:Nat,s8 = .slice (some ⟨gf,0,none⟩) n n∧s9 = .slice (some ⟨gc,0,none⟩) n n∧gf≠gc∧w3.heap.size≤gf∧w3.heap.size≤gc∧IRow wx gf (List.replicate n 0)∧IRow wx gc (List.replicate n 0)∧Below w3.heap.size w3 wx)
        case first =>
         clear hmkb
         go_region
         all_goals (go_wp2_with fail;go_meet)
         all_goals
          first
           | exact ⟨w3.heap.size,w3.heap.size+1,rfl,rfl,by omega,by omega,by omega,two_rows w3 n⟩
           | exact ⟨w3.heap.size+1,w3.heap.size,rfl,rfl,by omega,by omega,by omega,two_rows' w3 n⟩
        case rest =>
         clear hmk
         obtain ⟨gf,gc,rfl,rfl,i1,i2,i3,hf,hc,hb4⟩:=hcut
         obtain ⟨W4,hW4⟩:∃W4:World,W4=wc.alloc (.cells (Array.replicate q (Value.bool false)) 4):=⟨_,rfl⟩
         have V4:=hide (show VS w (boxV A B n cp q cq (.int .i64 lp)) gp gf gc wc.heap.size ps (List.replicate n 0) (List.replicate n 0) (List.replicate q false) W4 by
          have l1:=hf.lt
          have l2:=hc.lt
          have l3:=hb4.size
          rw [hW4]
          exact ⟨(X3.out.below hb4).alloc _,Row.alloc (Row.below P3.out hb4) _,Row.alloc hf _,Row.alloc hc _,BRow.made _ _,(B3.out.trans (hb4.mono B3.out.size)).alloc (by have:=B3.out.size;omega) _,by omega,by omega⟩)
         obtain ⟨gs,hgs⟩:∃gs,gs=wc.heap.size:=⟨_,rfl⟩
         rw [←hgs] at V4
         clear hf hc hb4 X3 B3 P3 X2 B2
         go_wp2
         rw [←hW4,←hgs]
         clear hW4 hgs hmkb
         have V4':=V4
         go_loopg [11] q (fun g i wx=>∃(k:Nat) (fs:List Int) (bs:List Bool),k+g=q∧i = .int .i64 k∧Pl.Fx d ps fs k∧Pl.SQ d k bs∧VS w (boxV A B n cp q cq (.int .i64 lp)) gp gf gc gs ps fs (List.replicate n 0) bs wx)
         case atStart=>exact ⟨0,_,_,by omega,rfl,by have:=Pl.Fx.start d ps;rwa [←HNd.out] at this,by have:=Pl.SQ.start d;rwa [←HQd.out] at this,V4.out⟩
         case round =>
          clear V4 V4'
          obtain ⟨k,fs,bs,hkg,rfl,hfx,hsq,hv⟩:=hrel
          have HK:=hide hkg
          have HFX:=hide hfx
          have HSQ:=hide hsq
          have V:=hide hv
          have hkq:k≤q:=by omega
          clear hkg hfx hsq hv
          by_cases hlt3:k<q
          ·have hj4n':(k:Int)<4 * (n:Int):=by have:=HQ4.out;omega
           have hkd:k<4 * d.n:=by have:=HQd.out;omega
           have c1:=V.out.s.cell (i:=k) (by rw [HSQ.out.len];exact hkd)
           by_cases hseen:Pl.gb bs k=true
           ·rw [show bs.getD k false=true from hseen] at c1
            have HS2:=hide (HSQ.out.seen HWd.out hkd hseen)
            clear hseen
            go_wp2
            go_roundg (q - (k+1))
            case measure=>have:=HK.out;omega
            case rel=>exact ⟨k+1,fs,bs,by omega,by go_num,HFX.out.same HS2.out.2,HS2.out.1,V.out⟩
           ·have hseen':Pl.gb bs k=false:=by simpa using hseen
            rw [show bs.getD k false=false from hseen'] at c1
            have HSE:=hide (HSQ.out.enter HWd.out hkd hseen')
            obtain ⟨p,hp1,hp2⟩:=HWd.out.nxb.per hkd
            have HP:=hide hp2
            have hp0:=hp2.1
            have hp256:p≤256:=by have:=HQd.out;omega
            obtain ⟨y0,y1,y2,_⟩:=box3 V.out.x
            have hgsl:gs<wr.heap.size:=V.out.s.lt
            clear hp2 hseen hseen'
            go_wp2_with fail
            refine (rface_n d HWd.out A B n q cp cq (.int .i64 lp) k p _ HNd.out HQd.out (HMd.out.keep V.out.bel) hkd HP.out hp1).mono ?_
            rintro e w5 ⟨A5,c5,rfl,own,hb5⟩
            have V5:=hide (V.out.below hb5)
            rw [map_ints] at own
            have OWN:=hide own
            obtain ⟨bz,hbz⟩:∃bz,bz=wr.heap.size:=⟨_,rfl⟩
            rw [←hbz] at OWN hgsl
            clear own hb5 y0 y1 y2 c1 hbz
            go_wp2_with fail
            go_loopg [13] p (fun g i wx=>∃(j:Nat) (cs:List Bool),j+g=p∧i = .int .i64 j∧Pl.SI d k j cs∧VS w (boxV A B n cp q cq (.int .i64 lp)) gp gf gc gs ps fs (List.replicate n 0) cs wx∧wx.ownsRow bz 3 1 (.slice A5 p c5) p ((nats (Pl.cyc (Pl.nx d) k p)).map (Value.int .i64)))
            case atStart=>exact ⟨0,bs,by omega,rfl,HSE.out.1,V5.out,OWN.out⟩
            case round =>
             clear V V5 OWN
             obtain ⟨j,cs,hjg,rfl,hsi,hv,own⟩:=hrel
             have HJ:=hide hjg
             have HSI:=hide hsi
             have V:=hide hv
             have OWN:=hide own
             have hjp:j≤p:=by omega
             clear hjg hsi hv own
             by_cases hlt4:j<p
             ·obtain ⟨b5,o5,hA5,hc5⟩:=(own_ints' OWN.out).at_ hlt4
              obtain ⟨x,hx⟩:∃x,x=Pl.it (Pl.nx d) j k:=⟨_,rfl⟩
              have hxd:x<4 * d.n:=by rw [hx];exact HSI.out.lt HWd.out
              have hxq:x<q:=by rw [HQd.out];exact hxd
              rw [nats_getD,Pl.cyc_get hlt4,←hx] at hc5
              have HX:=hide hx
              subst hA5
              have c2:=V.out.s.cell (i:=x) (by rw [HSI.out.len];exact hxd)
              have f2:=Row.free V.out.s x
              clear hx
              go_wp2
              go_roundg (p - (j+1))
              case measure=>have:=HJ.out;omega
              case rel =>
               refine ⟨j+1,cs.set x true,by omega,by go_num,by rw [HX.out];exact HSI.out.step HWd.out,V.out.setS x true,ownsRow_setCell_below OWN.out (by show gs<bz;omega) _⟩
             ·have hjp':j=p:=by omega
              have HSQ2:=hide (show Pl.SQ d (k+1) cs by subst hjp';exact HSI.out.all HWd.out HP.out)
              have hk4:k / 4<n:=by have:=HNd.out;omega
              have c1:=V.out.p.cell (i:=k / 4) (by rw [HPB.out.len,←HNd.out];exact hk4)
              obtain ⟨u,hu1,hu2,_,_⟩:=HPB.out.root (c:=k / 4) (by rw [←HNd.out];exact hk4)
              rw [hu1] at c1
              have hun:u<n:=by rw [HNd.out];exact hu2
              have c2:=V.out.f.cell (i:=u) (by rw [HFX.out.1,←HNd.out];exact hun)
              have f2:=Row.free V.out.f u
              have hfu:=HFX.out.2 u hu2
              have hfl:=Pl.nf_le d ps u k
              have hfr:0≤Pl.pv fs u∧Pl.pv fs u≤256:=by omega
              have HU:=hide hu1
              clear hjp' hu1 hfu hfl
              go_wp2
              go_roundg (q - (k+1))
              case measure=>have:=HK.out;omega
              case rel =>
               exact ⟨k+1,_,cs,by omega,by go_num,HFX.out.more hu2 HU.out HSE.out.2,HSQ2.out,V.out.setF u _⟩
          ·have hkq':k=q:=by omega
           have hj4n':¬((k:Int)<4 * (n:Int)):=by have:=HQ4.out;omega
           have HFX2:=hide (show Pl.Fx d ps fs (4 * d.n) by rw [←HQd.out,←hkq'];exact HFX.out)
           clear HFX HSQ HK hkq'
           go_wp2
           go_loopg [14] n (fun g i wx=>∃(k:Nat) (cs:List Int),k+g=n∧i = .int .i64 k∧Pl.Cx d ps cs k∧VS w (boxV A B n cp q cq (.int .i64 lp)) gp gf gc gs ps fs cs bs wx)
           case atStart=>exact ⟨0,_,by omega,rfl,by have:=Pl.Cx.start d ps;rwa [←HNd.out] at this,V.out⟩
           case round =>
            clear V
            obtain ⟨j,cs,hjg,rfl,hcx,hv⟩:=hrel
            have HJ:=hide hjg
            have HCX:=hide hcx
            have V:=hide hv
            have hjn:j≤n:=by omega
            clear hjg hcx hv
            by_cases hlt5:j<n
            ·have c1:=V.out.p.cell (i:=j) (by rw [HPB.out.len,←HNd.out];exact hlt5)
             obtain ⟨u,hu1,hu2,_,_⟩:=HPB.out.root (c:=j) (by rw [←HNd.out];exact hlt5)
             rw [hu1] at c1
             have hun:u<n:=by rw [HNd.out];exact hu2
             have c2:=V.out.c.cell (i:=u) (by rw [HCX.out.1,←HNd.out];exact hun)
             have f2:=Row.free V.out.c u
             have hfu:=HCX.out.2 u hu2
             have hfl:=Pl.nv_le ps u j
             have hfr:0≤Pl.pv cs u∧Pl.pv cs u≤256:=by omega
             have HU:=hide hu1
             clear hu1 hfu hfl
             go_wp2
             go_roundg (n - (j+1))
             case measure=>have:=HJ.out;omega
             case rel=>exact ⟨j+1,_,by omega,by go_num,HCX.out.more hu2 HU.out,V.out.setC u _⟩
            ·have hjn':j=n:=by omega
             have HCX2:=hide (show Pl.Cx d ps cs d.n by rw [←HNd.out,←hjn'];exact HCX.out)
             clear HCX HJ hjn'
             go_wp2
             go_loopg [15] n (fun g i wx=>∃k:Nat,k+g=n∧i = .int .i64 k∧(∀c,c<k→Pl.pv ps c=c→Pl.nf d ps c (4 * d.n)=Pl.nv ps c d.n+2)∧VS w (boxV A B n cp q cq (.int .i64 lp)) gp gf gc gs ps fs cs bs wx)
             case atStart=>exact ⟨0,by omega,rfl,fun c hc=>absurd hc (by omega),V.out⟩
             case round =>
              clear V
              obtain ⟨i,hig,rfl,hok,hv⟩:=hrel
              have HI:=hide hig
              have HOK:=hide hok
              have V:=hide hv
              have hin:i≤n:=by omega
              clear hig hok hv
              have HRU:=hide (HPB.out.rule HWd.out)
              by_cases hlt6:i<n
              ·have hid:i<d.n:=by rw [←HNd.out];exact hlt6
               have c1:=V.out.p.cell (i:=i) (by rw [HPB.out.len];exact hid)
               have c2:=V.out.f.cell (i:=i) (by rw [HFX2.out.1];exact hid)
               have c3:=V.out.c.cell (i:=i) (by rw [HCX2.out.1];exact hid)
               have E2:=hide (HFX2.out.2 i hid)
               have E3:=hide (HCX2.out.2 i hid)
               have hfl:=Pl.nf_le d ps i (4 * d.n)
               have hcl:=Pl.nv_le ps i d.n
               have hfr:0≤Pl.pv cs i∧Pl.pv cs i≤256:=by have:=E3.out;have:=HNd.out;omega
               clear hfl hcl
               obtain ⟨z,hz⟩:∃z,z=Pl.pv ps i:=⟨_,rfl⟩
               rw [←hz] at c1
               by_cases hzi:z=i
               ·have t1:(z == (i:Int))=true:=by simpa using hzi
                have HZ:=hide (show Pl.pv ps i=i by rw [←hz];exact hzi)
                clear hz hzi
                by_cases hbad:Pl.pv fs i=Pl.pv cs i+2
                ·have t2:(Pl.pv fs i != Pl.pv cs i+2)=false:=by simpa using hbad
                 have HBAD:=hide hbad
                 clear hbad
                 go_wp2
                 go_quiet (fail)
                 go_wp2
                 go_roundg (n - (i+1))
                 case measure=>have:=HI.out;omega
                 case rel =>
                  refine ⟨i+1,by omega,by go_num,fun c hc e=>?_,V.out.drewN _⟩
                  by_cases e2:c=i
                  ·subst e2;have:=HBAD.out;have:=E2.out;have:=E3.out;omega
                  ·exact HOK.out c (by omega) e
                ·have t2:(Pl.pv fs i != Pl.pv cs i+2)=true:=by simpa using hbad
                 have HV:=hide (show ¬Pl.VL sg mt lp from fun h=>hbad (by
                  have h2:=HR.out.1 h
                  rw [←HD.out] at h2
                  have h3:=HRU.out.2 h2 i hid HZ.out
                  have:=E2.out
                  have:=E3.out
                  omega))
                 clear hbad
                 go_wp2
                 go_quiet (fail)
                 go_wp2
                 go_ret
                 exact ⟨ret_bool (Pl.vb_false HV.out).symm,Below.drewN' V.out.bel _⟩
               ·have t1:(z == (i:Int))=false:=by simpa using hzi
                have HZ:=hide (show ¬Pl.pv ps i=i by rw [←hz];exact hzi)
                clear hz hzi
                go_wp2
                go_quiet (fail)
                go_wp2
                go_roundg (n - (i+1))
                case measure=>have:=HI.out;omega
                case rel =>
                 refine ⟨i+1,by omega,by go_num,fun c hc e=>?_,V.out.drewN _⟩
                 by_cases e2:c=i
                 ·subst e2;exact absurd e HZ.out
                 ·exact HOK.out c (by omega) e
              ·have HV := hide (show Pl.VL sg mt lp from HR.out.2 (by
                rw [←HD.out]
                exact HRU.out.1 (fun c hc e=>HOK.out c (by rw [←HNd.out] at hc;omega) e)))
               go_wp2
               go_ret
               exact ⟨ret_bool (Pl.vb_true HV.out).symm,V.out.bel⟩
   ·have HV:=hide (fun h:Pl.VL sg mt lp=>show False by have:=h.loops;omega)
    have h2':(((q:Nat):Int) != 4 * (n:Int))=false:=by simp;omega
    have HQ2:=hide h2
    clear h2
    by_cases h3a:lp<0
    ·have t1:decide (lp<0)=true:=by simpa using h3a
     go_enter Try.func29,Try.ntmps29
     go_wp2
     go_ret
     exact ⟨ret_bool (Pl.vb_false HV.out).symm,b0⟩
    ·have t1:decide (lp<0)=false:=by simpa using h3a
     have t2:decide (64<lp)=true:=by simp;omega
     go_enter Try.func29,Try.ntmps29
     go_wp2
     go_ret
     exact ⟨ret_bool (Pl.vb_false HV.out).symm,b0⟩
  ·have HV:=hide (fun h:Pl.VL sg mt lp=>show False by have:=h.len;have:=HLS.out;have:=HLM.out;omega)
   have h2':(((q:Nat):Int) != 4 * (n:Int))=true:=by simp;omega
   go_enter Try.func29,Try.ntmps29
   go_wp2
   go_ret
   exact ⟨ret_bool (Pl.vb_false HV.out).symm,b0⟩
end Go.Proofs.Ytobbepmlmbbamaa
end
section
namespace Go.Proofs.Ytobbepmlmbbamaa
open Go Go.RowKit
theorem isO_mm {d:Pl.Dg}(hd:Pl.Wf d){x:Nat}(hx:x<4 * d.n):isO d x=(x % 2 == 1 && d.m x % 2 == 1):=by
 unfold isO ei eo
 split
 ·rfl
 ·rw [hd.inv x hx,Bool.and_comm]
theorem isU_mm {d:Pl.Dg}(hd:Pl.Wf d){x:Nat}(hx:x<4 * d.n):isU d x=(x % 2 == 0 && d.m x % 2 == 0):=by
 unfold isU ei eo
 split
 ·rfl
 ·rw [hd.inv x hx,Bool.and_comm]
theorem per3 {f:Nat→Nat}{h p:Nat}(hp:Pl.Per f h p)(h3:f (f (f h))=h):p=3∨f h=h:=by
 obtain ⟨h0,h1,h2⟩:=hp
 by_cases e:f h=h
 ·exact .inr e
 ·refine .inl ?_
  rcases Nat.lt_trichotomy p 3 with g | g | g
  ·have:p=1∨p=2:=by omega
   rcases this with rfl | rfl
   ·exact absurd h1 e
   ·have k:f (f h)=h:=h1
    rw [k] at h3
    exact absurd h3 e
  ·exact g
  ·exact absurd h3 (h2 3 (by omega) g)
theorem is3_per {d:Pl.Dg}{h p:Nat}(hp:Pl.Per (Pl.nx d) h p):is3 d h↔p=3∧h / 4≠Pl.nx d h / 4∧Pl.nx d h / 4≠Pl.nx d (Pl.nx d h) / 4∧h / 4≠Pl.nx d (Pl.nx d h) / 4:=by
 constructor
 ·rintro ⟨a,b,c,e⟩
  rcases per3 hp a with g | g
  ·exact ⟨g,b,c,e⟩
  ·exact absurd (by show h / 4=Pl.nx d h / 4;rw [g]) b
 ·rintro ⟨rfl,b,c,e⟩
  exact ⟨hp.2.1,b,c,e⟩
theorem cyc3 (f:Nat→Nat)(h:Nat):Pl.cyc f h 3=[h,f h,f (f h)]:=rfl
set_option maxRecDepth 100000 in
set_option maxHeartbeats 4000000 in
theorem rtri_any (d:Pl.Dg)(hd:Pl.Wf d)(A B:Option Addr)(cp cq m:Nat)(l:Value)(h:Nat)(w:World)(hm:m=4 * d.n)(hb:IntsAt w B m (nats d.mt))(hh:h<4 * d.n) :
 Calls Try.prog 70 #[.agg #[.slice A d.n cp,.slice B m cq,l],.int .i64 (h:Int)] w fun e w'=>e = .returned (.bool (Pl.vb (isT d h)))∧Below w.heap.size w w':=by
 have hn:=hd.few
 have HD:=hide hd
 have HM:=hide hm
 have HB:=hide hb
 have X0:=hide (row_at (W:=w) (g:=w.heap.size) (t:=24) (vs:=[.slice A d.n cp,.slice B m cq,l]) rfl)
 have B0:=hide (show Below w.heap.size w (w.alloc (.cells #[.slice A d.n cp,.slice B m cq,l] 24)) from (Below.refl _ _).alloc (Nat.le_refl _) _)
 obtain ⟨p,hpN,hper⟩:=hd.nxb.per (x:=h) hh
 have HPER:=hide hper
 have hp0:=hper.1
 clear hm hb hd hper
 go_enter Try.func70,Try.ntmps70
 go_wp2_with fail
 refine (rface_n d HD.out A B d.n m cp cq l h p _ rfl HM.out (HB.out.keep B0.out) hh HPER.out hpN).mono ?_
 rintro e w1 ⟨A5,c5,rfl,own5,hb1⟩
 have X1:=hide (X0.out.below hb1)
 have B1:=hide (B0.out.trans (hb1.mono B0.out.size))
 have FA:=hide (show FaceAt w1 (.slice A5 p c5) (Pl.cyc (Pl.nx d) h p) from ⟨A5,c5,by rw [Pl.cyc_len],by rw [Pl.cyc_len];exact own_rowT own5⟩)
 clear own5 hb1 X0 B0
 by_cases hp3:p=3
 ·subst hp3
  have HT:=hide (is3_per HPER.out)
  obtain ⟨b5,o5,rfl,g0⟩:=nats_at FA.out.ints.2 (k:=0) (by omega)
  obtain ⟨_,_,e1,g1⟩:=nats_at FA.out.ints.2 (k:=1) (by omega)
  injection e1 with e1
  injection e1 with e1 e2
  subst e1;subst e2
  obtain ⟨_,_,e1,g2⟩:=nats_at FA.out.ints.2 (k:=2) (by omega)
  injection e1 with e1
  injection e1 with e1 e2
  subst e1;subst e2
  simp only [cyc3,List.getD_cons_zero,List.getD_cons_succ] at g0 g1 g2
  have hu4:Pl.nx d h<4 * d.n:=th_lt HD.out hh 1
  have hv4:Pl.nx d (Pl.nx d h)<4 * d.n:=th_lt HD.out hh 2
  have HTH:=hide (show th d h 0=h∧th d h 1=Pl.nx d h∧th d h 2=Pl.nx d (Pl.nx d h) from ⟨rfl,rfl,rfl⟩)
  obtain ⟨u,hu⟩:∃u,u=Pl.nx d h:=⟨_,rfl⟩
  obtain ⟨v,hv⟩:∃v,v=Pl.nx d (Pl.nx d h):=⟨_,rfl⟩
  rw [←hv] at g2 hv4 HT HTH
  rw [←hu] at g1 hu4 HT HTH
  clear hu hv
  rw [Nat.add_zero] at g0
  by_cases e1:h / 4=u / 4
  ·have HV:=hide (show ¬isT d h from fun t=>(HT.out.1 t.1).2.1 e1)
   have t1:((h:Int) / 4 == (u:Int) / 4)=true:=by rw [beq_iff_eq];omega
   clear e1
   go_wp2_with fail
   go_quiet (fail)
   go_wp2
   go_ret
   exact ⟨ret_bool (Pl.vb_false HV.out).symm,Below.drewN' B1.out _⟩
  ·have t1:((h:Int) / 4 == (u:Int) / 4)=false:=by rw [beq_eq_false_iff_ne];omega
   by_cases e2:u / 4=v / 4
   ·have HV:=hide (show ¬isT d h from fun t=>(HT.out.1 t.1).2.2.1 e2)
    have t2:((u:Int) / 4 == (v:Int) / 4)=true:=by rw [beq_iff_eq];omega
    clear e1 e2
    go_wp2_with fail
    go_quiet (fail)
    go_wp2
    go_ret
    exact ⟨ret_bool (Pl.vb_false HV.out).symm,Below.drewN' B1.out _⟩
   ·have t2:((u:Int) / 4 == (v:Int) / 4)=false:=by rw [beq_eq_false_iff_ne];omega
    by_cases e3:h / 4=v / 4
    ·have HV:=hide (show ¬isT d h from fun t=>(HT.out.1 t.1).2.2.2 e3)
     have t3:((h:Int) / 4 == (v:Int) / 4)=true:=by rw [beq_iff_eq];omega
     clear e1 e2 e3
     go_wp2_with fail
     go_quiet (fail)
     go_wp2
     go_ret
     exact ⟨ret_bool (Pl.vb_false HV.out).symm,Below.drewN' B1.out _⟩
    ·have t3:((h:Int) / 4 == (v:Int) / 4)=false:=by rw [beq_eq_false_iff_ne];omega
     have H3:=hide (show is3 d h from HT.out.2 ⟨rfl,e1,e2,e3⟩)
     clear e1 e2 e3
     go_wp2_with fail
     go_quiet (fail)
     clear g0 g1 g2 t1 t2 t3
     go_wp2_with fail
     go_loopg [6,7,8] 3 (fun g ov un i wx=>∃j:Nat,j+g=3∧i = .int .i64 j∧ov = .int .i64 (cntO d h j:Nat)∧un = .int .i64 (cntU d h j:Nat)∧Row wx w.heap.size 24 [.slice A d.n cp,.slice B m cq,l]∧FaceAt wx (.slice (some ⟨b5,o5,none⟩) 3 c5) (Pl.cyc (Pl.nx d) h 3)∧Below w.heap.size w wx)
     case atStart=>exact ⟨0,rfl,rfl,rfl,rfl,X1.out,FA.out,Below.drewN' B1.out _⟩
     case round =>
      clear X1 FA B1
      obtain ⟨j,hjg,rfl,rfl,rfl,hx,hf,hb⟩:=hrel
      have HJ:=hide hjg
      have X:=hide hx
      have FA:=hide hf
      have BL:=hide hb
      have hcO:cntO d h j≤3:=by
       unfold cntO
       have:=List.length_filter_le (fun i=>isO d (th d h i)) (List.range j)
       rw [List.length_range] at this
       omega
      have hcU:cntU d h j≤3:=by
       unfold cntU
       have:=List.length_filter_le (fun i=>isU d (th d h i)) (List.range j)
       rw [List.length_range] at this
       omega
      have hj3:j≤3:=by omega
      clear hjg hx hf hb
      obtain ⟨d0,d1,d2,d3⟩:=box3 X.out
      by_cases hlt:j<3
      ·obtain ⟨_,_,e1,g⟩:=nats_at FA.out.ints.2 (k:=j) hlt
       injection e1 with e1
       injection e1 with e1 e2
       subst e1;subst e2
       rw [show (Pl.cyc (Pl.nx d) h 3).getD j 0=th d h j by
        have:j=0∨j=1∨j=2:=by omega
        rcases this with rfl | rfl | rfl <;> rfl] at g
       have hx4:=th_lt HD.out hh j
       have SO:=hide (cntO_s d h j)
       have SU:=hide (cntU_s d h j)
       obtain ⟨x,hx⟩:∃x,x=th d h j:=⟨_,rfl⟩
       rw [←hx] at g hx4 SO SU
       clear hx
       have EO:=hide (isO_mm HD.out hx4)
       have EU:=hide (isU_mm HD.out hx4)
       obtain ⟨bb,bo,rfl,mc⟩:=mate_at (by rw [←HM.out];exact HB.out.keep BL.out) hx4
       have hy4:=HD.out.lt x hx4
       obtain ⟨y,hy⟩:∃y,y=d.m x:=⟨_,rfl⟩
       rw [←hy] at mc hy4 EO EU
       clear hy
       have hxm:x<m:=by rw [HM.out];exact hx4
       obtain ⟨cO,hcO2⟩:∃c,c=cntO d h j:=⟨_,rfl⟩
       obtain ⟨cU,hcU2⟩:∃c,c=cntU d h j:=⟨_,rfl⟩
       rw [←hcO2] at hcO SO ⊢
       rw [←hcU2] at hcU SU ⊢
       clear hcO2 hcU2
       have j0:(0:Int)≤(j:Int):=by omega
       have j1:(j:Int)<3:=by omega
       have x0:(0:Int)≤(x:Int):=by omega
       have x1:(x:Int)<(m:Int):=by omega
       have hx2:x % 2=0∨x % 2=1:=by omega
       have hy2:y % 2=0∨y % 2=1:=by omega
       rcases hx2 with hx2 | hx2 <;> rcases hy2 with hy2 | hy2
       all_goals
        have XX:=hide hx2
        have YY:=hide hy2
        have ex:(x:Int) % 2=((x % 2:Nat):Int):=by omega
        have ey:(y:Int) % 2=((y % 2:Nat):Int):=by omega
        rw [hx2] at ex
        rw [hy2] at ey
        clear hx2 hy2
        go_wp2_with fail
        go_quiet (fail)
        go_wp2
        go_roundg (gk - 1)
        case measure=>have:=HJ.out;omega
        case rel =>
         refine ⟨j+1,by have:=HJ.out;omega,by go_num,?_,?_,X.out,FA.out,Below.drewN' BL.out _⟩
         ·rw [SO.out,EO.out,XX.out,YY.out];first | rfl | go_num
         ·rw [SU.out,EU.out,XX.out,YY.out];first | rfl | go_num
      ·have hj:j=3:=by omega
       subst hj
       obtain ⟨cO,hcO2⟩:∃c,c=cntO d h 3:=⟨_,rfl⟩
       obtain ⟨cU,hcU2⟩:∃c,c=cntU d h 3:=⟨_,rfl⟩
       have HE:=hide (show isT d h↔cO=1∧cU=1 by rw [hcO2,hcU2];exact ⟨fun t=>t.2,fun t=>⟨H3.out,t⟩⟩)
       rw [←hcO2] at hcO ⊢
       rw [←hcU2] at hcU ⊢
       clear hcO2 hcU2
       by_cases q1:cO=1
       ·have t1:((cO:Int) == 1)=true:=by rw [beq_iff_eq];omega
        by_cases q2:cU=1
        ·have t2:((cU:Int) == 1)=true:=by rw [beq_iff_eq];omega
         have HV:=hide (HE.out.2 ⟨q1,q2⟩)
         clear q1 q2
         go_wp2
         go_ret
         exact ⟨ret_bool (Pl.vb_true HV.out).symm,BL.out⟩
        ·have t2:((cU:Int) == 1)=false:=by rw [beq_eq_false_iff_ne];omega
         have HV:=hide (fun t=>q2 (HE.out.1 t).2)
         clear q1 q2
         go_wp2
         go_ret
         exact ⟨ret_bool (Pl.vb_false HV.out).symm,BL.out⟩
       ·have t1:((cO:Int) == 1)=false:=by rw [beq_eq_false_iff_ne];omega
        have HV:=hide (fun t=>q1 (HE.out.1 t).1)
        clear q1
        go_wp2
        go_ret
        exact ⟨ret_bool (Pl.vb_false HV.out).symm,BL.out⟩
 ·have t1:((p:Int) != 3)=true:=by rw [bne_iff_ne];omega
  have HV:=hide (show ¬isT d h from fun t=>hp3 ((is3_per HPER.out).1 t.1).1)
  clear hp3
  go_wp2_with fail
  go_quiet (fail)
  go_wp2
  go_ret
  exact ⟨ret_bool (Pl.vb_false HV.out).symm,Below.drewN' B1.out _⟩
end Go.Proofs.Ytobbepmlmbbamaa
end
section
namespace Go.Proofs.Ytobbepmlmbbamaa
open Go Go.RowKit
theorem own_row_ne {W:World}{base b n:Nat}{t:TypeId}{v:Value}{xs vs:List Value}(h:W.ownsRow base 3 1 v n xs)(hr:Row W b t vs)(ht:3≠t):some b≠v.ownBlock:=by
 intro e
 obtain ⟨cs,fr,h3⟩:=ownsRow_block h b e.symm
 rw [hr] at h3
 injection h3 with h3
 injection h3 with _ h4
 exact ht h4.symm
theorem own_setRow {W:World}{base b n:Nat}{t:TypeId}{v:Value}{xs vs:List Value}(h:W.ownsRow base 3 1 v n xs)(hr:Row W b t vs)(ht:3≠t)(o:Nat)(u:Value):(W.setCell ⟨b,o,none⟩ u).ownsRow base 3 1 v n xs:=by
 have hne:=own_row_ne h hr ht
 obtain ⟨A,c,rfl⟩:=owns_slice h
 refine ⟨h.1,?_⟩
 rcases h.2 with hz | ⟨g,cap,cur,r1,r2,r3,r4⟩
 ·exact .inl hz
 ·refine .inr ⟨g,cap,cur,r1,r2,?_,r4⟩
  have hgb:g≠b:=fun e=>hne (by rw [r1,←e];rfl)
  exact (Below.heap_setCell W ⟨b,o,none⟩ u g hgb).trans r3
structure RK (base:Nat) (w:World) (vS vM:Value) (n q:Nat) (lp:Int) (mv:List Value) (ss:List Int) (l:List Nat) (W:World):Prop where
 d:Row W w.heap.size 24 [vS,vM,.int .i64 lp]
 m:Row W (w.heap.size+1) 28 mv
 rd:∃vs,Row W (w.heap.size+1+1) 24 vs∧vs.length=3
 rm:∃us,Row W (w.heap.size+1+1+1) 28 us∧us.length=5
 s:W.ownsRow base 3 1 vS n (ss.map (.int .i64))
 o:W.ownsRow base 3 1 vM q (l.map (fun k:Nat=>Value.int .i64 k))
 ne:∀k,vS.ownBlock=some k→vM.ownBlock≠some k
 bel:Below base w W
 le:base≤w.heap.size
section
variable {base:Nat} {w W W' W2:World} {vS vM v':Value} {n q:Nat} {lp:Int} {mv:List Value} {ss:List Int} {l:List Nat}
theorem RK.big (h:RK base w vS vM n q lp mv ss l W):w.heap.size+4≤W.heap.size:=by
 obtain ⟨_,h1,_⟩:=h.rm
 have:=h1.lt;omega
theorem RK.below (h:RK base w vS vM n q lp mv ss l W)(hb:Below W.heap.size W W'):RK base w vS vM n q lp mv ss l W' :=
 let ⟨vs,r1,l1⟩:=h.rd
 let ⟨us,r2,l2⟩:=h.rm
 ⟨h.d.below hb,h.m.below hb,⟨vs,r1.below hb,l1⟩,⟨us,r2.below hb,l2⟩,own_keep h.s hb (Nat.le_refl _),own_keep h.o hb (Nat.le_refl _),h.ne,h.bel.trans (hb.mono (by have:=h.big;have:=h.le;omega)),h.le⟩
theorem RK.alloc (h:RK base w vS vM n q lp mv ss l W)(o:Obj):RK base w vS vM n q lp mv ss l (W.alloc o):=h.below ((Below.refl _ _).alloc (Nat.le_refl _) o)
theorem RK.drew (h:RK base w vS vM n q lp mv ss l W):RK base w vS vM n q lp mv ss l W.drew:=⟨h.d,h.m,h.rd,h.rm,h.s,h.o,h.ne,h.bel.drew,h.le⟩
theorem RK.drewN (h:RK base w vS vM n q lp mv ss l W)(k:Nat):RK base w vS vM n q lp mv ss l (W.drewN k):=⟨h.d,h.m,h.rd,h.rm,h.s,h.o,h.ne,Below.drewN' h.bel k,h.le⟩
theorem RK.kept (h:RK base w vS vM n q lp mv ss l W)(gr:W.grownBy W2 vM.ownBlock){l':List Nat}(own:W2.ownsRow base 3 1 vM q (l'.map (fun k:Nat=>Value.int .i64 k))):RK base w vS vM n q lp mv ss l' W2:=by
 obtain ⟨vs,r1,l1⟩:=h.rd
 obtain ⟨us,r2,l2⟩:=h.rm
 refine ⟨h.d.grown gr (own_row_ne h.o h.d (by decide)),h.m.grown gr (own_row_ne h.o h.m (by decide)),⟨vs,r1.grown gr (own_row_ne h.o r1 (by decide)),l1⟩,⟨us,r2.grown gr (own_row_ne h.o r2 (by decide)),l2⟩,?_,own,h.ne,?_,h.le⟩
 ·refine h.s.kept gr ?_
  cases hm:vS.ownBlock with
  | none=>exact .inl rfl
  | some g=>exact .inr (fun e=>h.ne g hm e.symm)
 ·exact h.bel.grown gr (by have:=h.bel.size;have:=h.le;omega) (fun k hk=>(h.o.lt k hk).1)
theorem RK.setL (h:RK base w vS vM n q lp mv ss l W)(lp':Int):RK base w vS vM n q lp' mv ss l (W.setCell ⟨w.heap.size,2,none⟩ (.int .i64 lp')):=by
 obtain ⟨vs,r1,l1⟩:=h.rd
 obtain ⟨us,r2,l2⟩:=h.rm
 exact ⟨h.d.set 2 _,h.m.other (by show _≠w.heap.size;omega) _,⟨vs,r1.other (by show _≠w.heap.size;omega) _,l1⟩,⟨us,r2.other (by show _≠w.heap.size;omega) _,l2⟩,own_setRow h.s h.d (by decide) _ _,own_setRow h.o h.d (by decide) _ _,h.ne,h.bel.setCell h.le _,h.le⟩
theorem RK.setD (h:RK base w vS vM n q lp mv ss l W)(o:Nat)(v:Value):RK base w vS vM n q lp mv ss l (W.setCell ⟨w.heap.size+1+1,o,none⟩ v):=by
 obtain ⟨vs,r1,l1⟩:=h.rd
 obtain ⟨us,r2,l2⟩:=h.rm
 exact ⟨h.d.other (by show _≠w.heap.size+1+1;omega) _,h.m.other (by show _≠w.heap.size+1+1;omega) _,⟨_,r1.set o v,by rw [List.length_set,l1]⟩,⟨us,r2.other (by show _≠w.heap.size+1+1;omega) _,l2⟩,own_setRow h.s r1 (by decide) _ _,own_setRow h.o r1 (by decide) _ _,h.ne,h.bel.setCell (by have:=h.le;show base≤w.heap.size+1+1;omega) _,h.le⟩
theorem RK.setM (h:RK base w vS vM n q lp mv ss l W)(o:Nat)(v:Value):RK base w vS vM n q lp mv ss l (W.setCell ⟨w.heap.size+1+1+1,o,none⟩ v):=by
 obtain ⟨vs,r1,l1⟩:=h.rd
 obtain ⟨us,r2,l2⟩:=h.rm
 exact ⟨h.d.other (by show _≠w.heap.size+1+1+1;omega) _,h.m.other (by show _≠w.heap.size+1+1+1;omega) _,⟨vs,r1.other (by show _≠w.heap.size+1+1+1;omega) _,l1⟩,⟨_,r2.set o v,by rw [List.length_set,l2]⟩,own_setRow h.s r2 (by decide) _ _,own_setRow h.o r2 (by decide) _ _,h.ne,h.bel.setCell (by have:=h.le;show base≤w.heap.size+1+1+1;omega) _,h.le⟩
theorem RK.setO (h:RK base w vS vM n q lp mv ss l W){b:Nat}{t:TypeId}{vs:List Value}(hr:Row W b t vs)(ht:3≠t)(hb:w.heap.size+4≤b)(o:Nat)(v:Value):RK base w vS vM n q lp mv ss l (W.setCell ⟨b,o,none⟩ v):=by
 obtain ⟨vs,r1,l1⟩:=h.rd
 obtain ⟨us,r2,l2⟩:=h.rm
 exact ⟨h.d.other (by show _≠b;omega) _,h.m.other (by show _≠b;omega) _,⟨vs,r1.other (by show _≠b;omega) _,l1⟩,⟨us,r2.other (by show _≠b;omega) _,l2⟩,own_setRow h.s hr ht _ _,own_setRow h.o hr ht _ _,h.ne,h.bel.setCell (by have:=h.le;show base≤b;omega) _,h.le⟩
theorem RK.appS {ss':List Int}{n':Nat}(h:RK base w vS vM n q lp mv ss l W)(own:W2.ownsRow base 3 1 v' n' (ss'.map (.int .i64)))(gr:W.grownBy W2 vS.ownBlock){g':Nat}(hv:v'.ownBlock=some g')(hat0:vS.ownBlock=some g'∨g'=W.heap.size) :
 RK base w v' vM n' q lp mv ss' l (W2.setCell ⟨w.heap.size,0,none⟩ v'):=by
 have hat:v'.ownBlock=vS.ownBlock∨v'.ownBlock=some W.heap.size:=by
  rcases hat0 with e | e
  ·exact .inl (hv.trans e.symm)
  ·exact .inr (hv.trans (congrArg some e))
 obtain ⟨vs,r1,l1⟩:=h.rd
 obtain ⟨us,r2,l2⟩:=h.rm
 have hd:=h.d.grown gr (own_row_ne h.s h.d (by decide))
 refine ⟨hd.set 0 v',(h.m.grown gr (own_row_ne h.s h.m (by decide))).other (by show _≠w.heap.size;omega) _,⟨vs,(r1.grown gr (own_row_ne h.s r1 (by decide))).other (by show _≠w.heap.size;omega) _,l1⟩,⟨us,(r2.grown gr (own_row_ne h.s r2 (by decide))).other (by show _≠w.heap.size;omega) _,l2⟩,own_setRow own hd (by decide) _ _,?_,?_,?_,h.le⟩
 ·refine own_setRow (h.o.kept gr ?_) hd (by decide) _ _
  cases hm:vM.ownBlock with
  | none=>exact .inl rfl
  | some g=>exact .inr (fun e=>h.ne g e.symm hm)
 ·intro g hg hm
  rcases hat with e | e
  ·exact h.ne g (e ▸ hg) hm
  ·rw [e] at hg
   injection hg with hg
   have:=(h.o.lt g hm).2
   omega
 ·exact (h.bel.grown gr (by have:=h.bel.size;have:=h.le;omega) (fun k hk=>(h.s.lt k hk).1)).setCell h.le _
theorem RK.appM {l':List Nat}{q':Nat}(h:RK base w vS vM n q lp mv ss l W)(own:W2.ownsRow base 3 1 v' q' (l'.map (fun k:Nat=>Value.int .i64 k)))(gr:W.grownBy W2 vM.ownBlock){g':Nat}(hv:v'.ownBlock=some g')(hat0:vM.ownBlock=some g'∨g'=W.heap.size) :
 RK base w vS v' n q' lp mv ss l' (W2.setCell ⟨w.heap.size,1,none⟩ v'):=by
 have hat:v'.ownBlock=vM.ownBlock∨v'.ownBlock=some W.heap.size:=by
  rcases hat0 with e | e
  ·exact .inl (hv.trans e.symm)
  ·exact .inr (hv.trans (congrArg some e))
 obtain ⟨vs,r1,l1⟩:=h.rd
 obtain ⟨us,r2,l2⟩:=h.rm
 have hd:=h.d.grown gr (own_row_ne h.o h.d (by decide))
 refine ⟨hd.set 1 v',(h.m.grown gr (own_row_ne h.o h.m (by decide))).other (by show _≠w.heap.size;omega) _,⟨vs,(r1.grown gr (own_row_ne h.o r1 (by decide))).other (by show _≠w.heap.size;omega) _,l1⟩,⟨us,(r2.grown gr (own_row_ne h.o r2 (by decide))).other (by show _≠w.heap.size;omega) _,l2⟩,?_,own_setRow own hd (by decide) _ _,?_,?_,h.le⟩
 ·refine own_setRow (h.s.kept gr ?_) hd (by decide) _ _
  cases hm:vS.ownBlock with
  | none=>exact .inl rfl
  | some g=>exact .inr (fun e=>h.ne g hm e.symm)
 ·intro g hg hm
  rcases hat with e | e
  ·exact h.ne g hg (e ▸ hm)
  ·rw [e] at hm
   injection hm with hm
   have:=(h.s.lt g hg).2
   omega
 ·exact (h.bel.grown gr (by have:=h.bel.size;have:=h.le;omega) (fun k hk=>(h.o.lt k hk).1)).setCell h.le _
def st8 (w W:World)(y0 y1 y2 z0 z1 z2 z3 z4:Value):World:=((((((((W.setCell ⟨w.heap.size+1+1,0,none⟩ y0).setCell ⟨w.heap.size+1+1,1,none⟩ y1).setCell ⟨w.heap.size+1+1,2,none⟩ y2).setCell ⟨w.heap.size+1+1+1,0,none⟩ z0).setCell ⟨w.heap.size+1+1+1,1,none⟩ z1).setCell ⟨w.heap.size+1+1+1,2,none⟩ z2).setCell ⟨w.heap.size+1+1+1,3,none⟩ z3).setCell ⟨w.heap.size+1+1+1,4,none⟩ z4)
theorem RK.fin (h:RK base w vS vM n q lp mv ss l W)(y0 y1 y2 z0 z1 z2 z3 z4:Value):RK base w vS vM n q lp mv ss l (st8 w W y0 y1 y2 z0 z1 z2 z3 z4) :=
 (((((((h.setD 0 y0).setD 1 y1).setD 2 y2).setM 0 z0).setM 1 z1).setM 2 z2).setM 3 z3).setM 4 z4
theorem RK.cells (h:RK base w vS vM n q lp mv ss l W)(y0 y1 y2 z0 z1 z2 z3 z4:Value) :
 (st8 w W y0 y1 y2 z0 z1 z2 z3 z4).cell? ⟨w.heap.size+1+1,0,none⟩=some y0∧(st8 w W y0 y1 y2 z0 z1 z2 z3 z4).cell? ⟨w.heap.size+1+1,1,none⟩=some y1∧(st8 w W y0 y1 y2 z0 z1 z2 z3 z4).cell? ⟨w.heap.size+1+1,2,none⟩=some y2∧(st8 w W y0 y1 y2 z0 z1 z2 z3 z4).cell? ⟨w.heap.size+1+1+1,0,none⟩=some z0∧(st8 w W y0 y1 y2 z0 z1 z2 z3 z4).cell? ⟨w.heap.size+1+1+1,1,none⟩=some z1∧(st8 w W y0 y1 y2 z0 z1 z2 z3 z4).cell? ⟨w.heap.size+1+1+1,2,none⟩=some z2∧(st8 w W y0 y1 y2 z0 z1 z2 z3 z4).cell? ⟨w.heap.size+1+1+1,3,none⟩=some z3∧(st8 w W y0 y1 y2 z0 z1 z2 z3 z4).cell? ⟨w.heap.size+1+1+1,4,none⟩=some z4:=by
 obtain ⟨vs,r1,l1⟩:=h.rd
 obtain ⟨us,r2,l2⟩:=h.rm
 exact fin8 r1 r2 l1 l2 (by omega) y0 y1 y2 z0 z1 z2 z3 z4
end
def RErr (c:Int)(e:Ending):Prop:=∃(A B:Option Addr) (n q c1 c2:Nat) (lp k x y s:Int) (o:Bool),e = .returned (.tuple #[.agg #[.slice A n c1,.slice B q c2,.int .i64 lp],.agg #[.int .i64 k,.int .i64 x,.int .i64 y,.int .i64 s,.bool o],.int .i64 c])
def RC (base:Nat)(c:Int)(r:Pl.Dg)(mv:Mv)(w:World)(e:Ending)(w':World):Prop:=(c≠0→RErr c e)∧(c=0→ResOk r mv e w')∧Below base w w'
structure Own2 (base:Nat) (w:World) (vS vM:Value) (n q:Nat) (ss:List Int) (l:List Nat):Prop where
 s:w.ownsRow base 3 1 vS n (ss.map (.int .i64))
 o:w.ownsRow base 3 1 vM q (l.map (fun k:Nat=>Value.int .i64 k))
 ne:∀k,vS.ownBlock=some k→vM.ownBlock≠some k
 le:base≤w.heap.size
theorem RK.start {base:Nat}{w:World}{vS vM:Value}{n q:Nat}{ss:List Int}{l:List Nat}(h:Own2 base w vS vM n q ss l)(lp:Int)(y0 y1 y2 y3 y4:Value):RK base w vS vM n q lp [y0,y1,y2,y3,y4] ss l (W4 w vS vM (.int .i64 lp) y0 y1 y2 y3 y4):=by
 obtain ⟨x0,x1,x2,x3,b0,_⟩:=boxes4 w vS vM (.int .i64 lp) y0 y1 y2 y3 y4
 exact ⟨x0,x1,⟨_,x2,rfl⟩,⟨_,x3,rfl⟩,own_keep h.s b0 (Nat.le_refl _),own_keep h.o b0 (Nat.le_refl _),h.ne,b0.mono h.le,h.le⟩
end Go.Proofs.Ytobbepmlmbbamaa
end
section
namespace Go.Proofs.Ytobbepmlmbbamaa
open Go Go.RowKit
attribute [local go_sem ↓] Go.wp_at_zero Go.wp_at_succ
theorem rc_err {base:Nat}{c:Int}{r:Pl.Dg}{mv:Mv}{w w':World}{e:Ending}(hc:c≠0)(h:RErr c e)(hb:Below base w w'):RC base c r mv w e w':=⟨fun _=>h,fun h0=>absurd h0 hc,hb⟩
set_option maxRecDepth 100000 in
set_option maxHeartbeats 4000000 in
theorem rcurl_range (base n q cp cq:Nat)(A B:Option Addr)(lp k x y s:Int)(o:Bool)(ss:List Int)(l:List Nat)(r:Pl.Dg)(mv:Mv)(w:World)(h:Own2 base w (.slice A n cp) (.slice B q cq) n q ss l)(hn:n≤1000)(hin:¬inR n ⟨1,x,y,s,o⟩) :
 Calls Try.prog 53 #[.agg #[.slice A n cp,.slice B q cq,.int .i64 lp],.agg #[.int .i64 k,.int .i64 x,.int .i64 y,.int .i64 s,.bool o]] w (RC base 2 r mv w):=by
 have hin':¬((-1≤x∧x<4 * n)∧y=0∧(s=1∨s = -1)):=fun e=>hin (by unfold inR;simp;exact ⟨e.1.1,e.1.2,e.2.1,e.2.2⟩)
 have BE:=hide (show Below base w ((((w.alloc (.cells #[.slice A n cp,.slice B q cq,.int .i64 lp] 24)).alloc (.cells #[.int .i64 k,.int .i64 x,.int .i64 y,.int .i64 s,.bool o] 28)).alloc (.cells #[.slice A n cp,.slice B q cq,.int .i64 lp] 24)).alloc (.cells #[.int .i64 k,.int .i64 x,.int .i64 y,.int .i64 s,.bool o] 28)).drew from (((((Below.refl w.heap.size w).alloc (Nat.le_refl _) _).alloc (by simp) _).alloc (by simp;omega) _).alloc (by simp;omega) _).drew.mono h.le)
 clear hin h
 by_cases h1:x < -1
 ·have t1:decide (x < -1)=true:=by simpa using h1
  clear h1 hin'
  go_enter Try.func53,Try.ntmps53
  go_wp2_with fail
  go_region
  go_wp2_with fail
  refine bodyPost_ret (v := .tuple #[.agg #[.slice A n cp,.slice B q cq,.int .i64 lp],.agg #[.int .i64 k,.int .i64 x,.int .i64 y,.int .i64 s,.bool o],.int .i64 2]) (by simp [results,Try.results53,go_sem]) rfl ?_
  exact rc_err (by decide) ⟨A,B,n,q,cp,cq,lp,k,x,y,s,o,rfl⟩ BE.out
 ·have t1:decide (x < -1)=false:=by simpa using h1
  by_cases h2:x<4 * n
  ·have t2:decide (4 * (n:Int)≤x)=false:=by simp;omega
   by_cases h3:y=0
   ·have t3:(y != 0)=false:=by simpa using h3
    have h4:¬(s=1∨s = -1):=fun e=>hin' ⟨⟨by omega,h2⟩,h3,e⟩
    have t4:(s != 1)=true:=by rw [bne_iff_ne];exact fun e=>h4 (.inl e)
    have t5:(s != -1)=true:=by rw [bne_iff_ne];exact fun e=>h4 (.inr e)
    clear h1 h2 h3 h4 hin'
    go_enter Try.func53,Try.ntmps53
    go_wp2_with fail
    go_region
    go_wp2_with fail
    refine bodyPost_ret (v := .tuple #[.agg #[.slice A n cp,.slice B q cq,.int .i64 lp],.agg #[.int .i64 k,.int .i64 x,.int .i64 y,.int .i64 s,.bool o],.int .i64 2]) (by simp [results,Try.results53,go_sem]) rfl ?_
    exact rc_err (by decide) ⟨A,B,n,q,cp,cq,lp,k,x,y,s,o,rfl⟩ BE.out
   ·have t3:(y != 0)=true:=by rw [bne_iff_ne];exact h3
    clear h1 h2 h3 hin'
    go_enter Try.func53,Try.ntmps53
    go_wp2_with fail
    go_region
    go_wp2_with fail
    refine bodyPost_ret (v := .tuple #[.agg #[.slice A n cp,.slice B q cq,.int .i64 lp],.agg #[.int .i64 k,.int .i64 x,.int .i64 y,.int .i64 s,.bool o],.int .i64 2]) (by simp [results,Try.results53,go_sem]) rfl ?_
    exact rc_err (by decide) ⟨A,B,n,q,cp,cq,lp,k,x,y,s,o,rfl⟩ BE.out
  ·have t2:decide (4 * (n:Int)≤x)=true:=by simp;omega
   clear h1 h2 hin'
   go_enter Try.func53,Try.ntmps53
   go_wp2_with fail
   go_region
   go_wp2_with fail
   refine bodyPost_ret (v := .tuple #[.agg #[.slice A n cp,.slice B q cq,.int .i64 lp],.agg #[.int .i64 k,.int .i64 x,.int .i64 y,.int .i64 s,.bool o],.int .i64 2]) (by simp [results,Try.results53,go_sem]) rfl ?_
   exact rc_err (by decide) ⟨A,B,n,q,cp,cq,lp,k,x,y,s,o,rfl⟩ BE.out
end Go.Proofs.Ytobbepmlmbbamaa
end
section
namespace Go.Proofs.Ytobbepmlmbbamaa
open Go Go.RowKit
attribute [local go_sem ↓] Go.wp_at_zero Go.wp_at_succ
set_option maxRecDepth 100000 in
set_option maxHeartbeats 4000000 in
theorem runpoke_range (base n q cp cq:Nat)(A B:Option Addr)(lp k x y s:Int)(o:Bool)(ss:List Int)(l:List Nat)(r:Pl.Dg)(mv:Mv)(w:World)(h:Own2 base w (.slice A n cp) (.slice B q cq) n q ss l)(hn:n≤1000)(hin:¬inR n ⟨4,x,y,s,o⟩) :
 Calls Try.prog 56 #[.agg #[.slice A n cp,.slice B q cq,.int .i64 lp],.agg #[.int .i64 k,.int .i64 x,.int .i64 y,.int .i64 s,.bool o]] w (RC base 2 r mv w):=by
 have hin':¬(0≤x∧x<y∧y<n∧s=0∧o=false):=fun e=>hin (by unfold inR;simp;exact e)
 have BE:=hide (show Below base w ((((w.alloc (.cells #[.slice A n cp,.slice B q cq,.int .i64 lp] 24)).alloc (.cells #[.int .i64 k,.int .i64 x,.int .i64 y,.int .i64 s,.bool o] 28)).alloc (.cells #[.slice A n cp,.slice B q cq,.int .i64 lp] 24)).alloc (.cells #[.int .i64 k,.int .i64 x,.int .i64 y,.int .i64 s,.bool o] 28)).drew from (((((Below.refl w.heap.size w).alloc (Nat.le_refl _) _).alloc (by simp) _).alloc (by simp;omega) _).alloc (by simp;omega) _).drew.mono h.le)
 clear hin h
 by_cases h1:0≤x
 ·skip
  have t1:decide (x<0)=false:=by simp;omega
  by_cases h2:y<n
  ·skip
   have t2:decide ((n:Int)≤y)=false:=by simp;omega
   by_cases h3:x<y
   ·skip
    have t3:decide (y≤x)=false:=by simp;omega
    by_cases h4:s=0
    ·skip
     have t4:(s != 0)=false:=by simpa using h4
     cases o with
     | false=>exact absurd (by refine ⟨?_,?_,?_,?_,?_⟩ <;> first | omega | rfl | assumption) hin'
     | true =>
       clear h1 h2 h3 h4 hin'
       go_enter Try.func56,Try.ntmps56
       go_wp2_with fail
       go_region
       go_wp2_with fail
       refine bodyPost_ret (v := .tuple #[.agg #[.slice A n cp,.slice B q cq,.int .i64 lp],.agg #[.int .i64 k,.int .i64 x,.int .i64 y,.int .i64 s,.bool true],.int .i64 2]) (by simp [results,Try.results56,go_sem]) rfl ?_
       exact rc_err (by decide) ⟨A,B,n,q,cp,cq,lp,k,x,y,s,true,rfl⟩ BE.out
    ·have t4:(s != 0)=true:=by rw [bne_iff_ne];exact h4
     clear h1 h2 h3 h4 hin'
     go_enter Try.func56,Try.ntmps56
     go_wp2_with fail
     go_region
     go_wp2_with fail
     refine bodyPost_ret (v := .tuple #[.agg #[.slice A n cp,.slice B q cq,.int .i64 lp],.agg #[.int .i64 k,.int .i64 x,.int .i64 y,.int .i64 s,.bool o],.int .i64 2]) (by simp [results,Try.results56,go_sem]) rfl ?_
     exact rc_err (by decide) ⟨A,B,n,q,cp,cq,lp,k,x,y,s,o,rfl⟩ BE.out
   ·have t3:decide (y≤x)=true:=by simp;omega
    clear h1 h2 h3 hin'
    go_enter Try.func56,Try.ntmps56
    go_wp2_with fail
    go_region
    go_wp2_with fail
    refine bodyPost_ret (v := .tuple #[.agg #[.slice A n cp,.slice B q cq,.int .i64 lp],.agg #[.int .i64 k,.int .i64 x,.int .i64 y,.int .i64 s,.bool o],.int .i64 2]) (by simp [results,Try.results56,go_sem]) rfl ?_
    exact rc_err (by decide) ⟨A,B,n,q,cp,cq,lp,k,x,y,s,o,rfl⟩ BE.out
  ·have t2:decide ((n:Int)≤y)=true:=by simp;omega
   clear h1 h2 hin'
   go_enter Try.func56,Try.ntmps56
   go_wp2_with fail
   go_region
   go_wp2_with fail
   refine bodyPost_ret (v := .tuple #[.agg #[.slice A n cp,.slice B q cq,.int .i64 lp],.agg #[.int .i64 k,.int .i64 x,.int .i64 y,.int .i64 s,.bool o],.int .i64 2]) (by simp [results,Try.results56,go_sem]) rfl ?_
   exact rc_err (by decide) ⟨A,B,n,q,cp,cq,lp,k,x,y,s,o,rfl⟩ BE.out
 ·have t1:decide (x<0)=true:=by simp;omega
  clear h1 hin'
  go_enter Try.func56,Try.ntmps56
  go_wp2_with fail
  go_region
  go_wp2_with fail
  refine bodyPost_ret (v := .tuple #[.agg #[.slice A n cp,.slice B q cq,.int .i64 lp],.agg #[.int .i64 k,.int .i64 x,.int .i64 y,.int .i64 s,.bool o],.int .i64 2]) (by simp [results,Try.results56,go_sem]) rfl ?_
  exact rc_err (by decide) ⟨A,B,n,q,cp,cq,lp,k,x,y,s,o,rfl⟩ BE.out
set_option maxRecDepth 100000 in
set_option maxHeartbeats 4000000 in
theorem rslide_range (base n q cp cq:Nat)(A B:Option Addr)(lp k x y s:Int)(o:Bool)(ss:List Int)(l:List Nat)(r:Pl.Dg)(mv:Mv)(w:World)(h:Own2 base w (.slice A n cp) (.slice B q cq) n q ss l)(hn:n≤1000)(hq:q=4 * n)(hin:¬inR n ⟨5,x,y,s,o⟩) :
 Calls Try.prog 57 #[.agg #[.slice A n cp,.slice B q cq,.int .i64 lp],.agg #[.int .i64 k,.int .i64 x,.int .i64 y,.int .i64 s,.bool o]] w (RC base 2 r mv w):=by
 have hin':¬(0≤x∧x<q∧y=0∧s=0∧o=false):=fun e=>hin (by unfold inR;simp;exact ⟨e.1,by omega,e.2.2⟩)
 have BE:=hide (show Below base w ((((w.alloc (.cells #[.slice A n cp,.slice B q cq,.int .i64 lp] 24)).alloc (.cells #[.int .i64 k,.int .i64 x,.int .i64 y,.int .i64 s,.bool o] 28)).alloc (.cells #[.slice A n cp,.slice B q cq,.int .i64 lp] 24)).alloc (.cells #[.int .i64 k,.int .i64 x,.int .i64 y,.int .i64 s,.bool o] 28)).drew from (((((Below.refl w.heap.size w).alloc (Nat.le_refl _) _).alloc (by simp) _).alloc (by simp;omega) _).alloc (by simp;omega) _).drew.mono h.le)
 clear hin h hq
 by_cases h1:0≤x
 ·skip
  have t1:decide (x<0)=false:=by simp;omega
  by_cases h2:x<q
  ·skip
   have t2:decide ((q:Int)≤x)=false:=by simp;omega
   by_cases h3:y=0
   ·skip
    have t3:(y != 0)=false:=by simpa using h3
    by_cases h4:s=0
    ·skip
     have t4:(s != 0)=false:=by simpa using h4
     cases o with
     | false=>exact absurd (by refine ⟨?_,?_,?_,?_,?_⟩ <;> first | omega | rfl | assumption) hin'
     | true =>
       clear h1 h2 h3 h4 hin'
       go_enter Try.func57,Try.ntmps57
       go_wp2_with fail
       go_region
       go_wp2_with fail
       refine bodyPost_ret (v := .tuple #[.agg #[.slice A n cp,.slice B q cq,.int .i64 lp],.agg #[.int .i64 k,.int .i64 x,.int .i64 y,.int .i64 s,.bool true],.int .i64 2]) (by simp [results,Try.results57,go_sem]) rfl ?_
       exact rc_err (by decide) ⟨A,B,n,q,cp,cq,lp,k,x,y,s,true,rfl⟩ BE.out
    ·have t4:(s != 0)=true:=by rw [bne_iff_ne];exact h4
     clear h1 h2 h3 h4 hin'
     go_enter Try.func57,Try.ntmps57
     go_wp2_with fail
     go_region
     go_wp2_with fail
     refine bodyPost_ret (v := .tuple #[.agg #[.slice A n cp,.slice B q cq,.int .i64 lp],.agg #[.int .i64 k,.int .i64 x,.int .i64 y,.int .i64 s,.bool o],.int .i64 2]) (by simp [results,Try.results57,go_sem]) rfl ?_
     exact rc_err (by decide) ⟨A,B,n,q,cp,cq,lp,k,x,y,s,o,rfl⟩ BE.out
   ·have t3:(y != 0)=true:=by rw [bne_iff_ne];exact h3
    clear h1 h2 h3 hin'
    go_enter Try.func57,Try.ntmps57
    go_wp2_with fail
    go_region
    go_wp2_with fail
    refine bodyPost_ret (v := .tuple #[.agg #[.slice A n cp,.slice B q cq,.int .i64 lp],.agg #[.int .i64 k,.int .i64 x,.int .i64 y,.int .i64 s,.bool o],.int .i64 2]) (by simp [results,Try.results57,go_sem]) rfl ?_
    exact rc_err (by decide) ⟨A,B,n,q,cp,cq,lp,k,x,y,s,o,rfl⟩ BE.out
  ·have t2:decide ((q:Int)≤x)=true:=by simp;omega
   clear h1 h2 hin'
   go_enter Try.func57,Try.ntmps57
   go_wp2_with fail
   go_region
   go_wp2_with fail
   refine bodyPost_ret (v := .tuple #[.agg #[.slice A n cp,.slice B q cq,.int .i64 lp],.agg #[.int .i64 k,.int .i64 x,.int .i64 y,.int .i64 s,.bool o],.int .i64 2]) (by simp [results,Try.results57,go_sem]) rfl ?_
   exact rc_err (by decide) ⟨A,B,n,q,cp,cq,lp,k,x,y,s,o,rfl⟩ BE.out
 ·have t1:decide (x<0)=true:=by simp;omega
  clear h1 hin'
  go_enter Try.func57,Try.ntmps57
  go_wp2_with fail
  go_region
  go_wp2_with fail
  refine bodyPost_ret (v := .tuple #[.agg #[.slice A n cp,.slice B q cq,.int .i64 lp],.agg #[.int .i64 k,.int .i64 x,.int .i64 y,.int .i64 s,.bool o],.int .i64 2]) (by simp [results,Try.results57,go_sem]) rfl ?_
  exact rc_err (by decide) ⟨A,B,n,q,cp,cq,lp,k,x,y,s,o,rfl⟩ BE.out
end Go.Proofs.Ytobbepmlmbbamaa
end
section
namespace Go.Proofs.Ytobbepmlmbbamaa
open Go Go.RowKit
attribute [local go_sem ↓] Go.wp_at_zero Go.wp_at_succ
set_option maxRecDepth 100000 in
set_option maxHeartbeats 4000000 in
theorem rpk_r1 (base n q cp cq:Nat)(A B:Option Addr)(lp k x y s:Int)(o:Bool)(ss:List Int)(l:List Nat)(r:Pl.Dg)(mv:Mv)(w:World)(h:Own2 base w (.slice A n cp) (.slice B q cq) n q ss l)(hn:n≤1000)(t1:decide (x < -2)=true) :
 Calls Try.prog 55 #[.agg #[.slice A n cp,.slice B q cq,.int .i64 lp],.agg #[.int .i64 k,.int .i64 x,.int .i64 y,.int .i64 s,.bool o]] w (RC base 2 r mv w):=by
 have BE:=hide (show Below base w ((((w.alloc (.cells #[.slice A n cp,.slice B q cq,.int .i64 lp] 24)).alloc (.cells #[.int .i64 k,.int .i64 x,.int .i64 y,.int .i64 s,.bool o] 28)).alloc (.cells #[.slice A n cp,.slice B q cq,.int .i64 lp] 24)).alloc (.cells #[.int .i64 k,.int .i64 x,.int .i64 y,.int .i64 s,.bool o] 28)).drew from (((((Below.refl w.heap.size w).alloc (Nat.le_refl _) _).alloc (by simp) _).alloc (by simp;omega) _).alloc (by simp;omega) _).drew.mono h.le)
 clear h
 go_enter Try.func55,Try.ntmps55
 go_upto_region 2 with fail
 simp only [List.append_eq,List.cons_append,List.nil_append]
 go_wp2_with fail
 all_goals go_region
 all_goals (go_wp2_with fail)
 all_goals (refine bodyPost_ret (v := .tuple #[.agg #[.slice A n cp,.slice B q cq,.int .i64 lp],.agg #[.int .i64 k,.int .i64 x,.int .i64 y,.int .i64 s,.bool o],.int .i64 2]) (by simp [results,Try.results55,go_sem]) rfl ?_;exact rc_err (by decide) ⟨A,B,n,q,cp,cq,lp,k,x,y,s,o,rfl⟩ BE.out)
set_option maxRecDepth 100000 in
set_option maxHeartbeats 4000000 in
theorem rpk_r2 (base n q cp cq:Nat)(A B:Option Addr)(lp k x y s:Int)(o:Bool)(ss:List Int)(l:List Nat)(r:Pl.Dg)(mv:Mv)(w:World)(h:Own2 base w (.slice A n cp) (.slice B q cq) n q ss l)(hn:n≤1000)(t1:decide (x < -2)=false)(t2:decide (4 * (n:Int)≤x)=true) :
 Calls Try.prog 55 #[.agg #[.slice A n cp,.slice B q cq,.int .i64 lp],.agg #[.int .i64 k,.int .i64 x,.int .i64 y,.int .i64 s,.bool o]] w (RC base 2 r mv w):=by
 have BE:=hide (show Below base w ((((w.alloc (.cells #[.slice A n cp,.slice B q cq,.int .i64 lp] 24)).alloc (.cells #[.int .i64 k,.int .i64 x,.int .i64 y,.int .i64 s,.bool o] 28)).alloc (.cells #[.slice A n cp,.slice B q cq,.int .i64 lp] 24)).alloc (.cells #[.int .i64 k,.int .i64 x,.int .i64 y,.int .i64 s,.bool o] 28)).drew from (((((Below.refl w.heap.size w).alloc (Nat.le_refl _) _).alloc (by simp) _).alloc (by simp;omega) _).alloc (by simp;omega) _).drew.mono h.le)
 clear h
 go_enter Try.func55,Try.ntmps55
 go_upto_region 2 with fail
 simp only [List.append_eq,List.cons_append,List.nil_append]
 go_wp2_with fail
 all_goals go_region
 all_goals (go_wp2_with fail)
 all_goals (refine bodyPost_ret (v := .tuple #[.agg #[.slice A n cp,.slice B q cq,.int .i64 lp],.agg #[.int .i64 k,.int .i64 x,.int .i64 y,.int .i64 s,.bool o],.int .i64 2]) (by simp [results,Try.results55,go_sem]) rfl ?_;exact rc_err (by decide) ⟨A,B,n,q,cp,cq,lp,k,x,y,s,o,rfl⟩ BE.out)
set_option maxRecDepth 100000 in
set_option maxHeartbeats 4000000 in
theorem rpk_r3 (base n q cp cq:Nat)(A B:Option Addr)(lp k x y s:Int)(o:Bool)(ss:List Int)(l:List Nat)(r:Pl.Dg)(mv:Mv)(w:World)(h:Own2 base w (.slice A n cp) (.slice B q cq) n q ss l)(hn:n≤1000)(t1:decide (x < -2)=false)(t2:decide (4 * (n:Int)≤x)=false)(t3:decide (y < -2)=true) :
 Calls Try.prog 55 #[.agg #[.slice A n cp,.slice B q cq,.int .i64 lp],.agg #[.int .i64 k,.int .i64 x,.int .i64 y,.int .i64 s,.bool o]] w (RC base 2 r mv w):=by
 have BE:=hide (show Below base w ((((w.alloc (.cells #[.slice A n cp,.slice B q cq,.int .i64 lp] 24)).alloc (.cells #[.int .i64 k,.int .i64 x,.int .i64 y,.int .i64 s,.bool o] 28)).alloc (.cells #[.slice A n cp,.slice B q cq,.int .i64 lp] 24)).alloc (.cells #[.int .i64 k,.int .i64 x,.int .i64 y,.int .i64 s,.bool o] 28)).drew from (((((Below.refl w.heap.size w).alloc (Nat.le_refl _) _).alloc (by simp) _).alloc (by simp;omega) _).alloc (by simp;omega) _).drew.mono h.le)
 clear h
 go_enter Try.func55,Try.ntmps55
 go_upto_region 2 with fail
 simp only [List.append_eq,List.cons_append,List.nil_append]
 go_wp2_with fail
 all_goals go_region
 all_goals (go_wp2_with fail)
 all_goals (refine bodyPost_ret (v := .tuple #[.agg #[.slice A n cp,.slice B q cq,.int .i64 lp],.agg #[.int .i64 k,.int .i64 x,.int .i64 y,.int .i64 s,.bool o],.int .i64 2]) (by simp [results,Try.results55,go_sem]) rfl ?_;exact rc_err (by decide) ⟨A,B,n,q,cp,cq,lp,k,x,y,s,o,rfl⟩ BE.out)
set_option maxRecDepth 100000 in
set_option maxHeartbeats 4000000 in
theorem rpk_r4 (base n q cp cq:Nat)(A B:Option Addr)(lp k x y s:Int)(o:Bool)(ss:List Int)(l:List Nat)(r:Pl.Dg)(mv:Mv)(w:World)(h:Own2 base w (.slice A n cp) (.slice B q cq) n q ss l)(hn:n≤1000)(t1:decide (x < -2)=false)(t2:decide (4 * (n:Int)≤x)=false)(t3:decide (y < -2)=false)(t4:decide (4 * (n:Int)≤y)=true) :
 Calls Try.prog 55 #[.agg #[.slice A n cp,.slice B q cq,.int .i64 lp],.agg #[.int .i64 k,.int .i64 x,.int .i64 y,.int .i64 s,.bool o]] w (RC base 2 r mv w):=by
 have BE:=hide (show Below base w ((((w.alloc (.cells #[.slice A n cp,.slice B q cq,.int .i64 lp] 24)).alloc (.cells #[.int .i64 k,.int .i64 x,.int .i64 y,.int .i64 s,.bool o] 28)).alloc (.cells #[.slice A n cp,.slice B q cq,.int .i64 lp] 24)).alloc (.cells #[.int .i64 k,.int .i64 x,.int .i64 y,.int .i64 s,.bool o] 28)).drew from (((((Below.refl w.heap.size w).alloc (Nat.le_refl _) _).alloc (by simp) _).alloc (by simp;omega) _).alloc (by simp;omega) _).drew.mono h.le)
 clear h
 go_enter Try.func55,Try.ntmps55
 go_upto_region 2 with fail
 simp only [List.append_eq,List.cons_append,List.nil_append]
 go_wp2_with fail
 all_goals go_region
 all_goals (go_wp2_with fail)
 all_goals (refine bodyPost_ret (v := .tuple #[.agg #[.slice A n cp,.slice B q cq,.int .i64 lp],.agg #[.int .i64 k,.int .i64 x,.int .i64 y,.int .i64 s,.bool o],.int .i64 2]) (by simp [results,Try.results55,go_sem]) rfl ?_;exact rc_err (by decide) ⟨A,B,n,q,cp,cq,lp,k,x,y,s,o,rfl⟩ BE.out)
end Go.Proofs.Ytobbepmlmbbamaa
end
section
namespace Go.Proofs.Ytobbepmlmbbamaa
open Go Go.RowKit
attribute [local go_sem ↓] Go.wp_at_zero Go.wp_at_succ
set_option maxRecDepth 100000 in
set_option maxHeartbeats 4000000 in
theorem rpk_r5 (base n q cp cq:Nat)(A B:Option Addr)(lp k x y s:Int)(o:Bool)(ss:List Int)(l:List Nat)(r:Pl.Dg)(mv:Mv)(w:World)(h:Own2 base w (.slice A n cp) (.slice B q cq) n q ss l)(hn:n≤1000)(t1:decide (x < -2)=false)(t2:decide (4 * (n:Int)≤x)=false)(t3:decide (y < -2)=false)(t4:decide (4 * (n:Int)≤y)=false)(t5:decide (s < -1)=true) :
 Calls Try.prog 55 #[.agg #[.slice A n cp,.slice B q cq,.int .i64 lp],.agg #[.int .i64 k,.int .i64 x,.int .i64 y,.int .i64 s,.bool o]] w (RC base 2 r mv w):=by
 have BE:=hide (show Below base w ((((w.alloc (.cells #[.slice A n cp,.slice B q cq,.int .i64 lp] 24)).alloc (.cells #[.int .i64 k,.int .i64 x,.int .i64 y,.int .i64 s,.bool o] 28)).alloc (.cells #[.slice A n cp,.slice B q cq,.int .i64 lp] 24)).alloc (.cells #[.int .i64 k,.int .i64 x,.int .i64 y,.int .i64 s,.bool o] 28)).drew from (((((Below.refl w.heap.size w).alloc (Nat.le_refl _) _).alloc (by simp) _).alloc (by simp;omega) _).alloc (by simp;omega) _).drew.mono h.le)
 clear h
 go_enter Try.func55,Try.ntmps55
 go_upto_region 2 with fail
 simp only [List.append_eq,List.cons_append,List.nil_append]
 go_wp2_with fail
 all_goals go_region
 all_goals (go_wp2_with fail)
 all_goals (refine bodyPost_ret (v := .tuple #[.agg #[.slice A n cp,.slice B q cq,.int .i64 lp],.agg #[.int .i64 k,.int .i64 x,.int .i64 y,.int .i64 s,.bool o],.int .i64 2]) (by simp [results,Try.results55,go_sem]) rfl ?_;exact rc_err (by decide) ⟨A,B,n,q,cp,cq,lp,k,x,y,s,o,rfl⟩ BE.out)
set_option maxRecDepth 100000 in
set_option maxHeartbeats 4000000 in
theorem rpk_r6 (base n q cp cq:Nat)(A B:Option Addr)(lp k x y s:Int)(o:Bool)(ss:List Int)(l:List Nat)(r:Pl.Dg)(mv:Mv)(w:World)(h:Own2 base w (.slice A n cp) (.slice B q cq) n q ss l)(hn:n≤1000)(t1:decide (x < -2)=false)(t2:decide (4 * (n:Int)≤x)=false)(t3:decide (y < -2)=false)(t4:decide (4 * (n:Int)≤y)=false)(t5:decide (s < -1)=false)(t6:decide (1<s)=true) :
 Calls Try.prog 55 #[.agg #[.slice A n cp,.slice B q cq,.int .i64 lp],.agg #[.int .i64 k,.int .i64 x,.int .i64 y,.int .i64 s,.bool o]] w (RC base 2 r mv w):=by
 have BE:=hide (show Below base w ((((w.alloc (.cells #[.slice A n cp,.slice B q cq,.int .i64 lp] 24)).alloc (.cells #[.int .i64 k,.int .i64 x,.int .i64 y,.int .i64 s,.bool o] 28)).alloc (.cells #[.slice A n cp,.slice B q cq,.int .i64 lp] 24)).alloc (.cells #[.int .i64 k,.int .i64 x,.int .i64 y,.int .i64 s,.bool o] 28)).drew from (((((Below.refl w.heap.size w).alloc (Nat.le_refl _) _).alloc (by simp) _).alloc (by simp;omega) _).alloc (by simp;omega) _).drew.mono h.le)
 clear h
 go_enter Try.func55,Try.ntmps55
 go_upto_region 2 with fail
 simp only [List.append_eq,List.cons_append,List.nil_append]
 go_wp2_with fail
 all_goals go_region
 all_goals (go_wp2_with fail)
 all_goals (refine bodyPost_ret (v := .tuple #[.agg #[.slice A n cp,.slice B q cq,.int .i64 lp],.agg #[.int .i64 k,.int .i64 x,.int .i64 y,.int .i64 s,.bool o],.int .i64 2]) (by simp [results,Try.results55,go_sem]) rfl ?_;exact rc_err (by decide) ⟨A,B,n,q,cp,cq,lp,k,x,y,s,o,rfl⟩ BE.out)
set_option maxRecDepth 100000 in
set_option maxHeartbeats 4000000 in
theorem rpk_r7 (base n q cp cq:Nat)(A B:Option Addr)(lp k x y:Int)(o:Bool)(ss:List Int)(l:List Nat)(r:Pl.Dg)(mv:Mv)(w:World)(h:Own2 base w (.slice A n cp) (.slice B q cq) n q ss l)(hn:n≤1000)(t1:decide (x < -2)=false)(t2:decide (4 * (n:Int)≤x)=false)(t3:decide (y < -2)=false)(t4:decide (4 * (n:Int)≤y)=false)(t5:(x != y)=false)(t6:(x == y)=true)(t7:decide (x<0)=true)(t8:decide (0≤x)=false) :
 Calls Try.prog 55 #[.agg #[.slice A n cp,.slice B q cq,.int .i64 lp],.agg #[.int .i64 k,.int .i64 x,.int .i64 y,.int .i64 (-1),.bool o]] w (RC base 2 r mv w):=by
 have BE:=hide (show Below base w ((((w.alloc (.cells #[.slice A n cp,.slice B q cq,.int .i64 lp] 24)).alloc (.cells #[.int .i64 k,.int .i64 x,.int .i64 y,.int .i64 (-1),.bool o] 28)).alloc (.cells #[.slice A n cp,.slice B q cq,.int .i64 lp] 24)).alloc (.cells #[.int .i64 k,.int .i64 x,.int .i64 y,.int .i64 (-1),.bool o] 28)).drew from (((((Below.refl w.heap.size w).alloc (Nat.le_refl _) _).alloc (by simp) _).alloc (by simp;omega) _).alloc (by simp;omega) _).drew.mono h.le)
 clear h
 go_enter Try.func55,Try.ntmps55
 go_upto_region 2 with fail
 simp only [List.append_eq,List.cons_append,List.nil_append]
 go_wp2_with fail
 all_goals go_region
 all_goals (go_wp2_with fail)
 all_goals (refine bodyPost_ret (v := .tuple #[.agg #[.slice A n cp,.slice B q cq,.int .i64 lp],.agg #[.int .i64 k,.int .i64 x,.int .i64 y,.int .i64 (-1),.bool o],.int .i64 2]) (by simp [results,Try.results55,go_sem]) rfl ?_;exact rc_err (by decide) ⟨A,B,n,q,cp,cq,lp,k,x,y,(-1),o,rfl⟩ BE.out)
set_option maxRecDepth 100000 in
set_option maxHeartbeats 4000000 in
theorem rpk_r8 (base n q cp cq:Nat)(A B:Option Addr)(lp k x y:Int)(o:Bool)(ss:List Int)(l:List Nat)(r:Pl.Dg)(mv:Mv)(w:World)(h:Own2 base w (.slice A n cp) (.slice B q cq) n q ss l)(hn:n≤1000)(t1:decide (x < -2)=false)(t2:decide (4 * (n:Int)≤x)=false)(t3:decide (y < -2)=false)(t4:decide (4 * (n:Int)≤y)=false)(t5:(x != y)=false)(t6:(x == y)=true)(t7:decide (x<0)=false)(t8:decide (0≤x)=true) :
 Calls Try.prog 55 #[.agg #[.slice A n cp,.slice B q cq,.int .i64 lp],.agg #[.int .i64 k,.int .i64 x,.int .i64 y,.int .i64 0,.bool o]] w (RC base 2 r mv w):=by
 have BE:=hide (show Below base w ((((w.alloc (.cells #[.slice A n cp,.slice B q cq,.int .i64 lp] 24)).alloc (.cells #[.int .i64 k,.int .i64 x,.int .i64 y,.int .i64 0,.bool o] 28)).alloc (.cells #[.slice A n cp,.slice B q cq,.int .i64 lp] 24)).alloc (.cells #[.int .i64 k,.int .i64 x,.int .i64 y,.int .i64 0,.bool o] 28)).drew from (((((Below.refl w.heap.size w).alloc (Nat.le_refl _) _).alloc (by simp) _).alloc (by simp;omega) _).alloc (by simp;omega) _).drew.mono h.le)
 clear h
 go_enter Try.func55,Try.ntmps55
 go_upto_region 2 with fail
 simp only [List.append_eq,List.cons_append,List.nil_append]
 go_wp2_with fail
 all_goals go_region
 all_goals (go_wp2_with fail)
 all_goals (refine bodyPost_ret (v := .tuple #[.agg #[.slice A n cp,.slice B q cq,.int .i64 lp],.agg #[.int .i64 k,.int .i64 x,.int .i64 y,.int .i64 0,.bool o],.int .i64 2]) (by simp [results,Try.results55,go_sem]) rfl ?_;exact rc_err (by decide) ⟨A,B,n,q,cp,cq,lp,k,x,y,0,o,rfl⟩ BE.out)
end Go.Proofs.Ytobbepmlmbbamaa
end
section
namespace Go.Proofs.Ytobbepmlmbbamaa
open Go Go.RowKit
attribute [local go_sem ↓] Go.wp_at_zero Go.wp_at_succ
set_option maxRecDepth 100000 in
set_option maxHeartbeats 4000000 in
theorem rpk_r9 (base n q cp cq:Nat)(A B:Option Addr)(lp k x y:Int)(o:Bool)(ss:List Int)(l:List Nat)(r:Pl.Dg)(mv:Mv)(w:World)(h:Own2 base w (.slice A n cp) (.slice B q cq) n q ss l)(hn:n≤1000)(t1:decide (x < -2)=false)(t2:decide (4 * (n:Int)≤x)=false)(t3:decide (y < -2)=false)(t4:decide (4 * (n:Int)≤y)=false)(t5:(x != y)=true)(t6:(x == y)=false)(t7:¬x=y) :
 Calls Try.prog 55 #[.agg #[.slice A n cp,.slice B q cq,.int .i64 lp],.agg #[.int .i64 k,.int .i64 x,.int .i64 y,.int .i64 1,.bool o]] w (RC base 2 r mv w):=by
 have BE:=hide (show Below base w ((((w.alloc (.cells #[.slice A n cp,.slice B q cq,.int .i64 lp] 24)).alloc (.cells #[.int .i64 k,.int .i64 x,.int .i64 y,.int .i64 1,.bool o] 28)).alloc (.cells #[.slice A n cp,.slice B q cq,.int .i64 lp] 24)).alloc (.cells #[.int .i64 k,.int .i64 x,.int .i64 y,.int .i64 1,.bool o] 28)).drew from (((((Below.refl w.heap.size w).alloc (Nat.le_refl _) _).alloc (by simp) _).alloc (by simp;omega) _).alloc (by simp;omega) _).drew.mono h.le)
 clear h
 go_enter Try.func55,Try.ntmps55
 go_upto_region 2 with fail
 simp only [List.append_eq,List.cons_append,List.nil_append]
 go_wp2_with fail
 all_goals go_region
 all_goals (go_wp2_with fail)
 all_goals (refine bodyPost_ret (v := .tuple #[.agg #[.slice A n cp,.slice B q cq,.int .i64 lp],.agg #[.int .i64 k,.int .i64 x,.int .i64 y,.int .i64 1,.bool o],.int .i64 2]) (by simp [results,Try.results55,go_sem]) rfl ?_;exact rc_err (by decide) ⟨A,B,n,q,cp,cq,lp,k,x,y,1,o,rfl⟩ BE.out)
set_option maxRecDepth 100000 in
set_option maxHeartbeats 4000000 in
theorem rpk_r10 (base n q cp cq:Nat)(A B:Option Addr)(lp k x y:Int)(o:Bool)(ss:List Int)(l:List Nat)(r:Pl.Dg)(mv:Mv)(w:World)(h:Own2 base w (.slice A n cp) (.slice B q cq) n q ss l)(hn:n≤1000)(t1:decide (x < -2)=false)(t2:decide (4 * (n:Int)≤x)=false)(t3:decide (y < -2)=false)(t4:decide (4 * (n:Int)≤y)=false)(t5:(x != y)=true)(t6:(x == y)=false)(t7:¬x=y) :
 Calls Try.prog 55 #[.agg #[.slice A n cp,.slice B q cq,.int .i64 lp],.agg #[.int .i64 k,.int .i64 x,.int .i64 y,.int .i64 (-1),.bool o]] w (RC base 2 r mv w):=by
 have BE:=hide (show Below base w ((((w.alloc (.cells #[.slice A n cp,.slice B q cq,.int .i64 lp] 24)).alloc (.cells #[.int .i64 k,.int .i64 x,.int .i64 y,.int .i64 (-1),.bool o] 28)).alloc (.cells #[.slice A n cp,.slice B q cq,.int .i64 lp] 24)).alloc (.cells #[.int .i64 k,.int .i64 x,.int .i64 y,.int .i64 (-1),.bool o] 28)).drew from (((((Below.refl w.heap.size w).alloc (Nat.le_refl _) _).alloc (by simp) _).alloc (by simp;omega) _).alloc (by simp;omega) _).drew.mono h.le)
 clear h
 go_enter Try.func55,Try.ntmps55
 go_upto_region 2 with fail
 simp only [List.append_eq,List.cons_append,List.nil_append]
 go_wp2_with fail
 all_goals go_region
 all_goals (go_wp2_with fail)
 all_goals (refine bodyPost_ret (v := .tuple #[.agg #[.slice A n cp,.slice B q cq,.int .i64 lp],.agg #[.int .i64 k,.int .i64 x,.int .i64 y,.int .i64 (-1),.bool o],.int .i64 2]) (by simp [results,Try.results55,go_sem]) rfl ?_;exact rc_err (by decide) ⟨A,B,n,q,cp,cq,lp,k,x,y,(-1),o,rfl⟩ BE.out)
end Go.Proofs.Ytobbepmlmbbamaa
end
section
namespace Go.Proofs.Ytobbepmlmbbamaa
open Go Go.RowKit
attribute [local go_sem ↓] Go.wp_at_zero Go.wp_at_succ
theorem rpoke_range (base n q cp cq:Nat)(A B:Option Addr)(lp k x y s:Int)(o:Bool)(ss:List Int)(l:List Nat)(r:Pl.Dg)(mv:Mv)(w:World)(h:Own2 base w (.slice A n cp) (.slice B q cq) n q ss l)(hn:n≤1000)(hin:¬inR n ⟨3,x,y,s,o⟩) :
 Calls Try.prog 55 #[.agg #[.slice A n cp,.slice B q cq,.int .i64 lp],.agg #[.int .i64 k,.int .i64 x,.int .i64 y,.int .i64 s,.bool o]] w (RC base 2 r mv w):=by
 have hin':¬(-2≤x∧x<4 * n ∧ -2≤y∧y<4 * n∧(if x≠y then s=0 else if x<0 then s=0∨s=1 else s=1∨s = -1)):=fun e=>hin (by unfold inR;simp;simpa using e)
 rcases Int.lt_or_le x (-2) with h1 | h1
 ·exact rpk_r1 base n q cp cq A B lp k x y s o ss l r mv w h hn (by simp;omega)
 rcases Int.lt_or_le x (4 * n) with h2 | h2
 rotate_left
 ·exact rpk_r2 base n q cp cq A B lp k x y s o ss l r mv w h hn (by simp;omega) (by simp;omega)
 rcases Int.lt_or_le y (-2) with h3 | h3
 ·exact rpk_r3 base n q cp cq A B lp k x y s o ss l r mv w h hn (by simp;omega) (by simp;omega) (by simp;omega)
 rcases Int.lt_or_le y (4 * n) with h4 | h4
 rotate_left
 ·exact rpk_r4 base n q cp cq A B lp k x y s o ss l r mv w h hn (by simp;omega) (by simp;omega) (by simp;omega) (by simp;omega)
 rcases Int.lt_or_le s (-1) with h5 | h5
 ·exact rpk_r5 base n q cp cq A B lp k x y s o ss l r mv w h hn (by simp;omega) (by simp;omega) (by simp;omega) (by simp;omega) (by simp;omega)
 rcases Int.lt_or_le 1 s with h6 | h6
 ·exact rpk_r6 base n q cp cq A B lp k x y s o ss l r mv w h hn (by simp;omega) (by simp;omega) (by simp;omega) (by simp;omega) (by simp;omega) (by simp;omega)
 have hs3:s=0∨s=1∨s = -1:=by omega
 by_cases hxy:x=y
 ·by_cases hx:x<0
  ·rcases hs3 with rfl | rfl | rfl
   ·exact absurd ⟨h1,h2,h3,h4,by rw [if_neg (fun c=>c hxy),if_pos hx];exact .inl rfl⟩ hin'
   ·exact absurd ⟨h1,h2,h3,h4,by rw [if_neg (fun c=>c hxy),if_pos hx];exact .inr rfl⟩ hin'
   ·exact rpk_r7 base n q cp cq A B lp k x y o ss l r mv w h hn (by simp;omega) (by simp;omega) (by simp;omega) (by simp;omega) (by rw [bne_eq_false_iff_eq];exact hxy) (by rw [beq_iff_eq];exact hxy) (by simp;omega) (by simp;omega)
  ·rcases hs3 with rfl | rfl | rfl
   ·exact rpk_r8 base n q cp cq A B lp k x y o ss l r mv w h hn (by simp;omega) (by simp;omega) (by simp;omega) (by simp;omega) (by rw [bne_eq_false_iff_eq];exact hxy) (by rw [beq_iff_eq];exact hxy) (by simp;omega) (by simp;omega)
   ·exact absurd ⟨h1,h2,h3,h4,by rw [if_neg (fun c=>c hxy),if_neg hx];exact .inl rfl⟩ hin'
   ·exact absurd ⟨h1,h2,h3,h4,by rw [if_neg (fun c=>c hxy),if_neg hx];exact .inr rfl⟩ hin'
 ·rcases hs3 with rfl | rfl | rfl
  ·exact absurd ⟨h1,h2,h3,h4,by rw [if_pos hxy]⟩ hin'
  ·exact rpk_r9 base n q cp cq A B lp k x y o ss l r mv w h hn (by simp;omega) (by simp;omega) (by simp;omega) (by simp;omega) (by rw [bne_iff_ne];exact hxy) (by rw [beq_eq_false_iff_ne];exact hxy) hxy
  ·exact rpk_r10 base n q cp cq A B lp k x y o ss l r mv w h hn (by simp;omega) (by simp;omega) (by simp;omega) (by simp;omega) (by rw [bne_iff_ne];exact hxy) (by rw [beq_eq_false_iff_ne];exact hxy) hxy
end Go.Proofs.Ytobbepmlmbbamaa
end
section
namespace Go.Proofs.Ytobbepmlmbbamaa
open Go Go.RowKit
attribute [local go_sem ↓] Go.wp_at_zero Go.wp_at_succ
def fE (E:Nat→Nat)(x k:Nat):Bool:=(List.range k).any (fun j=>E (2 * j) == x || E (2 * j+1) == x)
theorem fE_s (E:Nat→Nat)(x k:Nat):fE E x (k+1)=(fE E x k || (E (2 * k) == x || E (2 * k+1) == x)):=by
 unfold fE
 rw [List.range_succ,List.any_append]
 simp
theorem fE_iff (E:Nat→Nat)(x:Nat):fE E x 3=true↔∃j,j<6∧x=E j:=by
 rw [fE_s,fE_s,fE_s]
 have:fE E x 0=false:=rfl
 rw [this]
 simp only [Bool.or_eq_true,beq_iff_eq,Bool.false_eq_true,false_or]
 constructor
 ·rintro ((h | h) | h)
  ·rcases h with h | h
   ·exact ⟨0,by omega,h.symm⟩
   ·exact ⟨1,by omega,h.symm⟩
  ·rcases h with h | h
   ·exact ⟨2,by omega,h.symm⟩
   ·exact ⟨3,by omega,h.symm⟩
  ·rcases h with h | h
   ·exact ⟨4,by omega,h.symm⟩
   ·exact ⟨5,by omega,h.symm⟩
 ·rintro ⟨j,hj,h⟩
  have:j=0∨j=1∨j=2∨j=3∨j=4∨j=5:=by omega
  rcases this with rfl | rfl | rfl | rfl | rfl | rfl <;> simp [h]
theorem per_uniq {f:Nat→Nat}{x p q:Nat}(hp:Pl.Per f x p)(hq:Pl.Per f x q):p=q:=by
 rcases Nat.lt_trichotomy p q with h | h | h
 ·exact absurd hp.2.1 (hq.2.2 p hp.1 h)
 ·exact h
 ·exact absurd hq.2.1 (hp.2.2 q hq.1 h)
theorem own_form1 {w:World}{base n cap:Nat}{A:Option Addr}{xs:List Value}(h:w.ownsRow base 3 1 (.slice A n cap) n xs)(hn:0<n):∃g,A=some ⟨g,0,none⟩:=by
 obtain ⟨g,c,e,_⟩:=World.ownsRow.form h hn
 injection e with e
 exact ⟨g,e⟩
structure INb (w:World) (dv:List Value) (gf:Nat) (F:List Nat) (W:World):Prop where
 x:Row W w.heap.size 24 dv
 f:∀i,i<F.length→W.cell? ⟨gf,i,none⟩=some (.int .i64 (F.getD i 0:Nat))
 bel:Below w.heap.size w W
theorem INb.drewN {w:World}{dv:List Value}{gf:Nat}{F:List Nat}{W:World}(h:INb w dv gf F W)(n:Nat):INb w dv gf F (W.drewN n):=⟨h.x.drewN n,h.f,Below.drewN' h.bel n⟩
set_option maxRecDepth 100000 in
set_option maxHeartbeats 4000000 in
theorem rinner_any (d:Pl.Dg)(hd:Pl.Wf d)(A B:Option Addr)(cp cq m:Nat)(l:Value)(h ge ce:Nat)(E:Nat→Nat)(w:World)(hm:m=4 * d.n)(hb:IntsAt w B m (nats d.mt))(hh:h<4 * d.n)(hE:∀j,j<6→w.cell? ⟨ge,j,none⟩=some (.int .i64 (E j:Nat))) :
 Calls Try.prog 106 #[.agg #[.slice A d.n cp,.slice B m cq,l],.int .i64 (h:Int),.slice (some ⟨ge,0,none⟩) 3 ce] w fun e w'=>e = .returned (.bool (Pl.vb (Pl.Per (Pl.nx d) h 3∧∀i,i<3→∃j,j<6∧Pl.it (Pl.nx d) i h=E j)))∧Below w.heap.size w w':=by
 have hn:=hd.few
 have HD:=hide hd
 have HM:=hide hm
 have HB:=hide hb
 have HE:=hide hE
 have hm2:m≤256:=by omega
 obtain ⟨p,hpN,hper⟩:=hd.nxb.per (x:=h) hh
 have HPER:=hide hper
 have hp0:=hper.1
 have X0:=hide (row_at (W:=w) (g:=w.heap.size) (t:=24) (vs:=[.slice A d.n cp,.slice B m cq,l]) rfl)
 have B0:=hide (show Below w.heap.size w (w.alloc (.cells #[.slice A d.n cp,.slice B m cq,l] 24)) from (Below.refl _ _).alloc (Nat.le_refl _) _)
 clear hm hb hd hper hE
 go_enter Try.func106,Try.ntmps106
 go_wp2_with fail
 refine (rface_any d HD.out A B cp cq m l h p _ HM.out (HB.out.keep B0.out) hh HPER.out hpN).mono ?_
 rintro e w1 ⟨A5,c5,rfl,own5,hb1⟩
 obtain ⟨gf,rfl⟩:=own_form1 own5 hp0
 have I1:=hide (show INb w [.slice A d.n cp,.slice B m cq,l] gf (Pl.cyc (Pl.nx d) h p) w1 from ⟨X0.out.below hb1,fun i hi=>by
  have h2:=OwnN.cell (show OwnN w1 _ gf p c5 (Pl.cyc (Pl.nx d) h p) from own5) (k:=i) (by rw [Pl.cyc_len] at hi;exact hi)
  exact h2,B0.out.trans (hb1.mono B0.out.size)⟩)
 clear own5 hb1 X0 B0
 by_cases hp3:p=3
 ·subst hp3
  have HV:=hide (show (Pl.Per (Pl.nx d) h 3∧∀i,i<3→∃j,j<6∧Pl.it (Pl.nx d) i h=E j)↔∀i,i<3→fE E (Pl.it (Pl.nx d) i h) 3=true from ⟨fun h i hi=>(fE_iff E _).2 (h.2 i hi),fun h=>⟨HPER.out,fun i hi=>(fE_iff E _).1 (h i hi)⟩⟩)
  have HF:=hide (show ∀i,i<3→(Pl.cyc (Pl.nx d) h 3).getD i 0=Pl.it (Pl.nx d) i h from fun i hi=>by
   unfold Pl.cyc
   rw [List.getD_eq_getElem?_getD,List.getElem?_map,List.getElem?_range hi];rfl)
  have HL:=hide (show (Pl.cyc (Pl.nx d) h 3).length=3 from Pl.cyc_len _ _ _)
  obtain ⟨F,hF⟩:∃F,F=Pl.cyc (Pl.nx d) h 3:=⟨_,rfl⟩
  rw [←hF] at I1 HF HL
  clear hF hpN hp0
  go_wp2_with fail
  go_loopg [8,9,10] 3 (fun g s8 s9 s10 wx=>∃q:Nat,q+g=3∧s8 = .int .i64 (q:Int)∧(∀i,i<q→fE E (F.getD i 0) 3=true)∧INb w [.slice A d.n cp,.slice B m cq,l] gf F wx)
  case atStart=>exact ⟨0,by omega,rfl,fun i hi=>absurd hi (by omega),I1.out⟩
  case round =>
   clear I1
   obtain ⟨q,hkg,rfl,hall,hin⟩:=hrel
   obtain ⟨go1,hgo1⟩:∃g,g=gk:=⟨_,rfl⟩
   rw [←hgo1] at hkg
   have HGO:=hide hgo1
   clear hgo1
   have HKG:=hide hkg
   have HALL:=hide hall
   have IN:=hide hin
   clear hall hin
   by_cases hq:q<3
   ·have hqi:(q:Int)<3:=by omega
    clear hkg
    go_wp2_with fail
    go_loopg [9,10] 3 (fun g s9 s10 wx=>∃k:Nat,k+g=3∧s10 = .int .i64 (k:Int)∧s9 = .bool (fE E (F.getD q 0) k)∧INb w [.slice A d.n cp,.slice B m cq,l] gf F wx)
    case atStart=>exact ⟨0,by omega,rfl,rfl,IN.out⟩
    case round =>
     clear IN
     obtain ⟨k,hkg2,rfl,rfl,hin⟩:=hrel
     have HKG2:=hide hkg2
     have IN:=hide hin
     clear hin
     by_cases hk:k<3
     ·have hki:(k:Int)<(3:Int):=by omega
      have hk0:(0:Int)≤(k:Int):=by omega
      have hq0:(0:Int)≤(q:Int):=by omega
      have c0:=cell_below (HE.out (2 * k) (by omega)) IN.out.bel
      have c1:=cell_below (HE.out (2 * k+1) (by omega)) IN.out.bel
      have cf:=IN.out.f q (by rw [HL.out];exact hq)
      have FS:=hide (fE_s E (F.getD q 0) k)
      obtain ⟨a,ha⟩:∃a,a=E (2 * k):=⟨_,rfl⟩
      obtain ⟨b,hb⟩:∃a,a=E (2 * k+1):=⟨_,rfl⟩
      obtain ⟨x,hx⟩:∃a,a=F.getD q 0:=⟨_,rfl⟩
      obtain ⟨f,hf⟩:∃f,f=fE E (F.getD q 0) k:=⟨_,rfl⟩
      rw [←hf,←ha,←hb,←hx] at FS
      rw [←ha] at c0
      rw [←hb] at c1
      rw [←hx] at cf
      rw [←hf]
      rw [show 2 * k=k * 2 by omega] at c0 c1
      have HX:=hide hx
      clear ha hb hx hf hkg2
      go_upto_region 11 with fail
      cases f with
      | true =>
        have FE:=hide (show fE E x (k+1)=true by rw [FS.out];rfl)
        go_quiet (fail)
        go_wp2
        go_roundg (gk - 1)
        case measure=>have:=HKG2.out;omega
        case rel=>exact ⟨k+1,by have:=HKG2.out;omega,by go_num,by rw [←HX.out,FE.out],IN.out.drewN _⟩
      | false =>
        by_cases e1:a=x
        ·have t1:((a:Int) == (x:Int))=true:=by rw [beq_iff_eq];omega
         have FE:=hide (show fE E x (k+1)=true by rw [FS.out];simp [e1])
         clear e1
         go_quiet (fail)
         go_wp2
         go_roundg (gk - 1)
         case measure=>have:=HKG2.out;omega
         case rel=>exact ⟨k+1,by have:=HKG2.out;omega,by go_num,by rw [←HX.out,FE.out],IN.out.drewN _⟩
        ·have t1:((a:Int) == (x:Int))=false:=by rw [beq_eq_false_iff_ne];omega
         by_cases e2:b=x
         ·have t2:((b:Int) == (x:Int))=true:=by rw [beq_iff_eq];omega
          have FE:=hide (show fE E x (k+1)=true by rw [FS.out];simp [e2])
          clear e1 e2
          go_quiet (fail)
          go_wp2
          go_roundg (gk - 1)
          case measure=>have:=HKG2.out;omega
          case rel=>exact ⟨k+1,by have:=HKG2.out;omega,by go_num,by rw [←HX.out,FE.out],IN.out.drewN _⟩
         ·have t2:((b:Int) == (x:Int))=false:=by rw [beq_eq_false_iff_ne];omega
          have FE:=hide (show fE E x (k+1)=false by rw [FS.out];simp [e1,e2])
          clear e1 e2
          go_quiet (fail)
          go_wp2
          go_roundg (gk - 1)
          case measure=>have:=HKG2.out;omega
          case rel=>exact ⟨k+1,by have:=HKG2.out;omega,by go_num,by rw [←HX.out,FE.out],IN.out.drewN _⟩
     ·have hki:¬((k:Int)<(3:Int)):=by omega
      obtain rfl:k=3:=by omega
      clear hkg2 HKG2
      cases hf:fE E (F.getD q 0) 3 with
      | true =>
        have HFT:=hide hf
        clear hf
        go_wp2_with fail
        go_roundg (go1 - 1)
        case measure=>have:=HKG.out;have:=HGO.out;omega
        case rel=>exact ⟨q+1,by have:=HKG.out;omega,by go_num,fun i hi=>by
         by_cases e:i=q
         ·rw [e];exact HFT.out
         ·exact HALL.out i (by omega),IN.out⟩
      | false =>
        have HN:=hide (show ¬(Pl.Per (Pl.nx d) h 3∧∀i,i<3→∃j,j<6∧Pl.it (Pl.nx d) i h=E j) from fun h=>by
         have:=HV.out.1 h q hq
         rw [←HF.out q hq,hf] at this
         cases this)
        clear hf
        go_wp2_with fail
        go_ret
        exact ⟨ret_bool (Pl.vb_false HN.out).symm,IN.out.bel⟩
   ·have hqi:¬((q:Int)<3):=by omega
    have HY:=hide (show Pl.Per (Pl.nx d) h 3∧∀i,i<3→∃j,j<6∧Pl.it (Pl.nx d) i h=E j from HV.out.2 fun i hi=>by rw [←HF.out i hi];exact HALL.out i (by omega))
    clear hkg
    go_wp2_with fail
    go_ret
    exact ⟨ret_bool (Pl.vb_true HY.out).symm,IN.out.bel⟩
 ·have HN:=hide (show ¬(Pl.Per (Pl.nx d) h 3∧∀i,i<3→∃j,j<6∧Pl.it (Pl.nx d) i h=E j) from fun h=>hp3 (per_uniq HPER.out h.1))
  have t1:((p:Int) != 3)=true:=by rw [bne_iff_ne];omega
  clear hp3
  go_wp2_with fail
  go_ret
  exact ⟨ret_bool (Pl.vb_false HN.out).symm,I1.out.bel⟩
end Go.Proofs.Ytobbepmlmbbamaa
end
