/-
  The texts Xo, Xp, Ya, Yb, Yd.
-/
import Derived.Test.YtdgliimmnnhhjaaGreatDoorU25
set_option linter.unusedVariables false
set_option linter.unusedSimpArgs false
section
namespace Go.Proofs.YtdgliimmnnhhjaaGreatDoor
open Go Go.RowKit
theorem ends {d:Pl.Dg}(hd:Pl.Wf d){h k q:Nat}(hl:th d h k<4 * d.n)(hq:d.m (th d h k)=Pl.tn q 1) :
 (sb d h k=Pl.tn (th d h k) 2∧so d h k=th d h k∧si d h k=Pl.tn q 1∧sf d h k=Pl.tn q 3)∨(sb d h k=Pl.tn q 3∧so d h k=Pl.tn q 1∧si d h k=th d h k∧sf d h k=Pl.tn (th d h k) 2):=by
 have e3:Pl.tn (Pl.tn q 1) 2=Pl.tn q 3:=Pl.tn_tn _ _ _
 by_cases ho:Pl.out d (th d h k)=true
 ·left
  have e1:eo d (th d h k)=th d h k:=by unfold eo;rw [if_pos ho]
  have e2:ei d (th d h k)=Pl.tn q 1:=by unfold ei;rw [e1,hq]
  exact ⟨by unfold sb;rw [e1],e1,e2,by unfold sf;rw [e2,e3]⟩
 ·right
  have e1:eo d (th d h k)=Pl.tn q 1:=by unfold eo;rw [if_neg ho,hq]
  have e2:ei d (th d h k)=th d h k:=by unfold ei;rw [e1,←hq,hd.inv _ hl]
  exact ⟨by unfold sb;rw [e1,e3],e1,e2,by unfold sf;rw [e2]⟩
section
variable {d:Pl.Dg} {h:Nat}
end
end Go.Proofs.YtdgliimmnnhhjaaGreatDoor
end
section
namespace Go.Proofs.YtdgliimmnnhhjaaGreatDoor
open Go Go.RowKit
attribute [local go_sem ↓] Go.wp_at_zero Go.wp_at_succ
theorem moveInfo:(Tryz.prog.info? 43).map (fun i=>(i.zero,i.size,i.bytes))=some (some (.agg #[.int .i64 0,.int .i64 0,.int .i64 0,.int .i64 0,.bool false]),5,40):=by kernel_rfl
def Mv.cells (m:Mv):List Value:=[.int .i64 m.kind,.int .i64 m.x,.int .i64 m.y,.int .i64 m.sign,.bool m.over]
def mvs (ms:List Mv):List Value:=ms.flatMap Mv.cells
theorem mvs_len:∀ms:List Mv,(mvs ms).length=ms.length * 5
 | []=>rfl
 | m :: ms => by
   have:=mvs_len ms
   unfold mvs at this ⊢
   rw [List.flatMap_cons,List.length_append,this,List.length_cons]
   simp [Mv.cells]
   omega
theorem mvs_app (ms:List Mv)(m:Mv):mvs (ms++[m])=mvs ms++m.cells:=by unfold mvs;simp
structure ML (w:World) (gd gl:Nat) (dv:List Value) (v:Value) (ms:List Mv) (W:World):Prop where
 d:Row W gd 24 dv
 l:Row W gl 39 [v]
 o:W.ownsRow (gl+1) 43 5 v ms.length (mvs ms)
 bel:Below w.heap.size w W
 lo:w.heap.size≤gd
 lt:gd<gl
section
variable {w W W' W2:World} {gd gl:Nat} {dv:List Value} {v v':Value} {ms:List Mv} {m:Mv}
theorem own_below {base:Nat}{e:TypeId}{size n:Nat}{xs:List Value}(h:W.ownsRow base e size v n xs)(hb:Below W.heap.size W W'):W'.ownsRow base e size v n xs:=by
 refine ⟨h.1,?_⟩
 rcases h.2 with hz | ⟨g,cap,cur,r1,r2,r3,r4⟩
 ·exact .inl hz
 ·exact .inr ⟨g,cap,cur,r1,r2,(hb.block g (lt_of_heap r3)).trans r3,r4⟩
theorem ML.below (h:ML w gd gl dv v ms W)(hb:Below W.heap.size W W'):ML w gd gl dv v ms W' :=
 ⟨h.d.below hb,h.l.below hb,own_below h.o hb,h.bel.trans (hb.mono h.bel.size),h.lo,h.lt⟩
theorem ML.alloc (h:ML w gd gl dv v ms W)(o:Obj):ML w gd gl dv v ms (W.alloc o):=h.below ((Below.refl _ _).alloc (Nat.le_refl _) o)
theorem ML.big (h:ML w gd gl dv v ms W):gl<W.heap.size:=h.l.lt
theorem ML.far (h:ML w gd gl dv v ms W){g:Nat}(hg:g≤gl):some g≠v.ownBlock:=fun e=>by have:=(h.o.lt g e.symm).1;omega
theorem ML.push (h:ML w gd gl dv v ms W)(own:W2.ownsRow (gl+1) 43 5 v' (ms.length+1) (mvs ms++m.cells))(gr:W.grownBy W2 v.ownBlock):ML w gd gl dv v' (ms++[m]) (W2.setCell ⟨gl,0,none⟩ v'):=by
 have a:=h.lo
 have b:=h.lt
 refine ⟨(h.d.grown gr (h.far (by omega))).other (by show gd≠gl;omega) _,(h.l.grown gr (h.far (Nat.le_refl _))).set 0 v',?_,?_,h.lo,h.lt⟩
 ·rw [mvs_app,List.length_append]
  exact ownsRow_setCell_below own (by show gl<gl+1;omega) _
 ·exact (h.bel.grown gr h.bel.size (fun k hk=>by have:=(h.o.lt k hk).1;omega)).setCell (by show _≤gl;omega) _
end
theorem five_news (W:World)(g:Nat)(hg:W.heap.size=g)(m:Mv):∀j u,m.cells[j]? = some u→(W.alloc (.cells m.cells.toArray 43)).cell? ((⟨g,0,none⟩:Addr).add j)=some u:=by
 subst hg
 intro j u hu
 rw [Addr.add_lit,Nat.zero_add]
 have hj:j<m.cells.length:=by
  rcases Nat.lt_or_ge j m.cells.length with h | h
  ·exact h
  ·rw [List.getElem?_eq_none h] at hu;cases hu
 have:=(Row.new W 43 m.cells).cell hj
 rw [this,←hu,List.getElem?_eq_getElem hj]
theorem box1 {W:World}{g:Nat}{t:TypeId}{a:Value}(h:Row W g t [a]):W.cell? ⟨g,0,none⟩=some a∧∀o,W.frozen? ⟨g,o,none⟩=false:=⟨h.cell (i:=0) (by simp),h.free⟩
def slP (d:Pl.Dg)(h:Nat):Prop:=h≤th d h 1∧h≤th d h 2∧isT d h
open Classical in
noncomputable def slOne (d:Pl.Dg)(h:Nat):List Mv:=if slP d h then [⟨5,h,0,0,false⟩] else []
set_option maxRecDepth 100000 in
set_option maxHeartbeats 4000000 in
theorem slTry_any (d:Pl.Dg)(hd:Pl.Wf d)(A B:Option Addr)(cp cq m h gd gl:Nat)(v:Value)(ms:List Mv)(w0 w:World)(hm:m=4 * d.n)(hg:DgAt w A B d)(hh:h<4 * d.n)(hms:ms.length≤1000)
 (hp:ML w0 gd gl [.slice A d.n cp,.slice B m cq,.int .i64 (d.lp:Int)] v ms w) :
 Calls Tryz.prog 95 #[.agg #[.int .i64 5,.int .i64 (h:Int),.int .i64 0,.int .i64 0,.bool false],.pointer (some ⟨gd,0,none⟩),.pointer (some ⟨gl,0,none⟩)] w fun e w'=>e = .returned (.tuple #[])∧∃v',ML w0 gd gl [.slice A d.n cp,.slice B m cq,.int .i64 (d.lp:Int)] v' (ms++slOne d h) w':=by
 have HM:=hide hm
 have HG:=hide hg
 have hn:=hd.few
 have hm2:m≤256:=by omega
 have hHM:h<m:=by omega
 obtain ⟨i,hi⟩:∃i,i=th d h 1:=⟨_,rfl⟩
 obtain ⟨j,hj⟩:∃j,j=th d h 2:=⟨_,rfl⟩
 have li:i<m:=by have:=th_lt hd hh 1;omega
 have lj:j<m:=by have:=th_lt hd hh 2;omega
 have HI:=hide (show Pl.nx d h=i from hi.symm)
 have HJ:=hide (show Pl.nx d i=j from by rw [hi,hj];rfl)
 have HT:=hide (show slP d h↔h≤i∧h≤j∧isT d h by unfold slP;rw [hi,hj])
 clear hi hj hm
 have ih0:(0:Int)≤(h:Int)∧(h:Int)<(m:Int):=by omega
 have ii0:(0:Int)≤(i:Int)∧(i:Int)<(m:Int):=by omega
 have hb0:Below w.heap.size w (w.alloc (.cells #[.int .i64 5,.int .i64 (h:Int),.int .i64 0,.int .i64 0,.bool false] 43)):=(Below.refl _ _).alloc (Nat.le_refl _) _
 have HB0:=hide hb0
 have P1:=hide (hp.below hb0)
 have M1:=hide (row_at (W:=w) (g:=w.heap.size) (t:=43) (vs:=[.int .i64 5,.int .i64 (h:Int),.int .i64 0,.int .i64 0,.bool false]) rfl)
 have hgl:gl<w.heap.size:=hp.big
 have hgd:gd<gl:=hp.lt
 clear hp hb0 hg
 obtain ⟨d0,d1,d2,d3⟩:=box3 P1.out.d
 obtain ⟨e0,e1,e2,e3,e4,e5⟩:=box5 M1.out
 go_enter Tryz.func95,Tryz.ntmps95
 go_wp2_with fail
 refine (next_i d hd B cq m (h:Int) _ HM.out ih0 (by rw [HM.out];exact (HG.out.keep HB0.out).m)).mono ?_
 rintro e w1 ⟨rfl,rfl⟩
 rw [Int.toNat_natCast,HI.out]
 go_wp2_with fail
 refine (next_i d hd B cq m (i:Int) _ HM.out ii0 (by rw [HM.out];exact (HG.out.keep HB0.out).m)).mono ?_
 rintro e w1 ⟨rfl,rfl⟩
 rw [Int.toNat_natCast,HJ.out]
 by_cases c1:(i:Int)<(h:Int)
 ·have E:=hide (show slOne d h=[] by unfold slOne;rw [if_neg (fun h=>by have:=HT.out.1 h;omega)])
  go_wp2
  refine bodyPost_ret (results_none rfl _ _ _) rfl ⟨rfl,v,?_⟩
  rw [E.out,List.append_nil]
  exact P1.out
 ·by_cases c2:(j:Int)<(h:Int)
  ·have E:=hide (show slOne d h=[] by unfold slOne;rw [if_neg (fun h=>by have:=HT.out.1 h;omega)])
   go_wp2
   refine bodyPost_ret (results_none rfl _ _ _) rfl ⟨rfl,v,?_⟩
   rw [E.out,List.append_nil]
   exact P1.out
  ·go_wp2_with fail
   refine (tri_v d hd A B cp cq m h _ HM.out (HG.out.keep HB0.out) hh).mono ?_
   rintro e w1 ⟨b0,o0,i0,f0,b1,o1,i1,f1,b2,o2,i2,f2,rfl,_,hb1⟩
   have P2:=hide (P1.out.below hb1)
   have M2:=hide (M1.out.below hb1)
   have hs1:=hb1.size
   have hs20:w.heap.size+1≤w1.heap.size:=by simpa using hs1
   have hs2:w.heap.size<w1.heap.size:=by omega
   clear hs20
   have hs3:gl<w1.heap.size:=by omega
   have hs4:gl<w1.heap.size+1:=by omega
   have hs5:w.heap.size<w1.heap.size+1:=by omega
   clear hb1 hs1 d0 d1 d2 d3 e0 e1 e2 e3 e4 e5
   obtain ⟨e0,e1,e2,e3,e4,e5⟩:=box5 M2.out
   by_cases hI:isT d h
   ·rw [Pl.vb_true hI]
    have E:=hide (show slOne d h=[⟨5,h,0,0,false⟩] by unfold slOne;rw [if_pos (HT.out.2 ⟨by omega,by omega,hI⟩)])
    clear hI
    obtain ⟨q0,q1⟩:=box1 P2.out.l
    obtain ⟨n0,hn0,hz0,hz1,hz2⟩:=info_parts moveInfo
    have P3:=hide (P2.out.alloc (.cells #[.int .i64 (b0:Int),.int .i64 (o0:Int),.int .i64 (i0:Int),.int .i64 (f0:Int),.int .i64 (b1:Int),.int .i64 (o1:Int),.int .i64 (i1:Int),.int .i64 (f1:Int),.int .i64 (b2:Int),.int .i64 (o2:Int),.int .i64 (i2:Int),.int .i64 (f2:Int)] 134))
    have A0:=hide (P3.out.alloc (.cells (Mv.cells ⟨5,h,0,0,false⟩).toArray 43)).o
    have A1:∀u ∈ Mv.cells ⟨5,h,0,0,false⟩,u.oneCell'=true:=by simp [Mv.cells,Value.oneCell']
    have A2:ms.length+1≤maxLen:=by unfold maxLen;omega
    have A3:(ms.length+1) * 40≤140737488355328:=by omega
    have A4:gl+1≤w1.heap.size+1+1:=by omega
    have A5:=five_news (w1.alloc (.cells #[.int .i64 (b0:Int),.int .i64 (o0:Int),.int .i64 (i0:Int),.int .i64 (f0:Int),.int .i64 (b1:Int),.int .i64 (o1:Int),.int .i64 (i1:Int),.int .i64 (f1:Int),.int .i64 (b2:Int),.int .i64 (o2:Int),.int .i64 (i2:Int),.int .i64 (f2:Int)] 134)) (w1.heap.size+1) (by simp) ⟨5,h,0,0,false⟩
    have A6:=hide A5
    clear A5
    go_wp2_with (at_builtin;refine wpList_append_lies _ (by rfl) _ _ 39 (by rfl) (gl+1) 43 n0 (.agg #[.int .i64 0,.int .i64 0,.int .i64 0,.int .i64 0,.bool false]) 5 40 Tryz.underlying39 hn0 hz0 hz1 hz2 rfl (by omega) v ms.length (mvs ms) (by rfl) A0.out ⟨w1.heap.size+1,0,none⟩ 1 1 (Mv.cells ⟨5,h,0,0,false⟩) (by rfl) (by rfl) A6.out A1 (by omega) A2 A3 (by simp;omega) (w1.heap.size+1+1) (by simp) ?_;intro g2 c2 w2 own2 grow2 at2 lt2;obtain ⟨q2,q3⟩:=box1 ((P3.out.alloc (.cells (Mv.cells ⟨5,h,0,0,false⟩).toArray 43)).l.grown grow2 ((P3.out.alloc (.cells (Mv.cells ⟨5,h,0,0,false⟩).toArray 43)).far (Nat.le_refl _)));have OWN2:=hide own2;have GR2:=hide grow2;clear own2 grow2 at2)
    refine bodyPost_end (results_none rfl _ _ _) rfl ⟨rfl,.slice (some ⟨g2,0,none⟩) (ms.length+1) c2,?_⟩
    rw [E.out]
    exact (P3.out.alloc _).push OWN2.out GR2.out
   ·rw [Pl.vb_false hI]
    have E:=hide (show slOne d h=[] by unfold slOne;rw [if_neg (fun h=>hI (HT.out.1 h).2.2)])
    clear hI
    go_wp2
    refine bodyPost_end (results_none rfl _ _ _) rfl ⟨rfl,v,?_⟩
    rw [E.out,List.append_nil]
    exact P2.out.alloc _
noncomputable def slL (d:Pl.Dg):Nat→List Mv
 | 0=>[]
 | k+1=>slL d k++slOne d k
theorem slL_len (d:Pl.Dg):∀k,(slL d k).length≤k
 | 0=>Nat.le_refl _
 | k + 1 => by
   have:=slL_len d k
   unfold slL slOne
   rw [List.length_append]
   split <;> simp <;> omega
theorem slL_mem (d:Pl.Dg)(z:Mv):∀k,z ∈ slL d k↔∃h,h<k∧slP d h∧z=⟨5,h,0,0,false⟩
 | 0=>by simp [slL]
 | k + 1 => by
   unfold slL
   rw [List.mem_append,slL_mem d z k]
   constructor
   ·rintro (⟨h,h1,h2,h3⟩ | h)
    ·exact ⟨h,by omega,h2,h3⟩
    ·unfold slOne at h
     split at h
     ·rename_i hp
      exact ⟨k,by omega,hp,by simpa using h⟩
     ·cases h
   ·rintro ⟨h,h1,h2,h3⟩
    by_cases e:h=k
    ·subst e
     right
     unfold slOne
     rw [if_pos h2,h3]
     simp
    ·exact .inl ⟨h,by omega,h2,h3⟩
def MovesAt (w:World)(v:Value)(ms:List Mv):Prop:=∃base,w.ownsRow base 43 5 v ms.length (mvs ms)
set_option maxRecDepth 100000 in
set_option maxHeartbeats 4000000 in
theorem slides_any (d:Pl.Dg)(hd:Pl.Wf d)(A B:Option Addr)(cp cq m:Nat)(w:World)(hm:m=4 * d.n)(hg:DgAt w A B d) :
 Calls Tryz.prog 65 #[.agg #[.slice A d.n cp,.slice B m cq,.int .i64 d.lp]] w fun e w'=>∃v,e = .returned v∧MovesAt w' v (slL d m)∧Below w.heap.size w w':=by
 have HM:=hide hm
 have HG:=hide hg
 have hn:=hd.few
 have hm2:m≤256:=by omega
 have P0:=hide (show ML w w.heap.size (w.heap.size+1) [.slice A d.n cp,.slice B m cq,.int .i64 (d.lp:Int)] (.slice none 0 0) [] ((w.alloc (.cells #[.slice A d.n cp,.slice B m cq,.int .i64 (d.lp:Int)] 24)).alloc (.cells #[.slice none 0 0] 39)) from
  ⟨(row_at (vs:=[_,_,_]) rfl).alloc _,row_at (vs:=[_]) (by simp),⟨rfl,.inl ⟨rfl,rfl⟩⟩,((Below.refl _ _).alloc (Nat.le_refl _) _).alloc (by simp) _,Nat.le_refl _,by omega⟩)
 clear hg hm
 go_enter Tryz.func65,Tryz.ntmps65
 go_wp2
 go_loopg [5,10] m (fun g s5 s10 wx=>∃(k:Nat) (v:Value),k+g=m∧s10 = .int .i64 (k:Int)∧ML w w.heap.size (w.heap.size+1) [.slice A d.n cp,.slice B m cq,.int .i64 (d.lp:Int)] v (slL d k) wx)
 case atStart=>exact ⟨0,_,by omega,rfl,P0.out⟩
 case round =>
  clear P0
  obtain ⟨k,v,hkg,rfl,hp⟩:=hrel
  have HKG:=hide hkg
  have PK:=hide hp
  have hlen:=slL_len d k
  clear hp
  by_cases hk:k<m
  ·have hki:(k:Int)<(m:Int):=by omega
   clear hkg
   go_wp2_with fail
   refine (slTry_any d hd A B cp cq m k w.heap.size (w.heap.size+1) v (slL d k) w wr HM.out (HG.out.keep PK.out.bel) (by have:=HM.out;omega) (by omega) PK.out).mono ?_
   rintro e w1 ⟨rfl,v',hp1⟩
   have P1:=hide hp1
   clear hp1
   go_wp2
   go_roundg (gk - 1)
   case measure=>have:=HKG.out;omega
   case rel=>exact ⟨k+1,v',by have:=HKG.out;omega,by go_num,P1.out⟩
  ·have hki:¬((k:Int)<(m:Int)):=by omega
   have e:k=m:=by omega
   subst e
   obtain ⟨q0,q1⟩:=box1 PK.out.l
   clear hkg
   go_wp2
   go_ret
   exact ⟨v,rfl,⟨_,PK.out.o⟩,PK.out.bel⟩
set_option maxRecDepth 100000 in
set_option maxHeartbeats 4000000 in
theorem Slides_any (d:Pl.Dg)(hd:Pl.Valid d)(A B:Option Addr)(cp cq m:Nat)(w:World)(hm:m=4 * d.n)(hg:DgAt w A B d) :
 Calls Tryz.prog 38 #[.agg #[.slice A d.n cp,.slice B m cq,.int .i64 d.lp]] w fun e w'=>∃v,e = .returned v∧MovesAt w' v (slL d m)∧Below w.heap.size w w':=by
 have HM:=hide hm
 have HG:=hide hg
 have HW:=hide (Pl.Valid.iff.1 hd).1
 clear hg hm
 have hb0:Below w.heap.size w (w.alloc (.cells #[.slice A d.n cp,.slice B m cq,.int .i64 (d.lp:Int)] 24)):=(Below.refl _ _).alloc (Nat.le_refl _) _
 have r0:=row_at (W:=w) (g:=w.heap.size) (t:=24) (vs:=[.slice A d.n cp,.slice B m cq,.int .i64 (d.lp:Int)]) rfl
 have R0:=hide r0
 have B0:=hide hb0
 clear r0 hb0
 go_enter Tryz.func38,Tryz.ntmps38
 go_wp2_with fail
 refine (valid_yes d hd A B cp cq m _ HM.out (HG.out.keep B0.out)).mono ?_
 rintro e w1 ⟨rfl,hb1⟩
 have R1:=hide (R0.out.below hb1)
 have B1:=hide (B0.out.trans (hb1.mono B0.out.size))
 have hs1:=hb1.size
 have hs2:w.heap.size<w1.heap.size:=by have h:=R1.out.lt;exact h
 clear hb1 hs1
 obtain ⟨d0,d1,d2,d3⟩:=box3 R1.out
 go_wp2_with fail
 refine (slides_any d HW.out A B cp cq m _ HM.out (HG.out.keep B1.out)).mono ?_
 rintro e w2 ⟨v,rfl,hv,hb2⟩
 have HV:=hide hv
 have B2:=hide (B1.out.trans (hb2.mono B1.out.size))
 clear hv hb2
 go_wp2
 go_ret
 exact ⟨v,rfl,HV.out,B2.out⟩
end Go.Proofs.YtdgliimmnnhhjaaGreatDoor
end
section
namespace Go.Proofs.YtdgliimmnnhhjaaGreatDoor
open Go Go.RowKit
attribute [local go_sem ↓] Go.wp_at_zero Go.wp_at_succ
def gro (k:Int):Int:=if k=1 then 1 else if k=2 then -1 else if k=3 then 2 else if k=4 then -2 else 0
structure CB (W:World) (g1 g2:Nat) (n:Nat) (most:Int):Prop where
 n:Row W g1 3 [.int .i64 (n:Int)]
 m:Row W g2 3 [.int .i64 most]
theorem CB.below {W W':World}{g1 g2 n:Nat}{most:Int}(h:CB W g1 g2 n most)(hb:Below W.heap.size W W'):CB W' g1 g2 n most:=⟨h.n.below hb,h.m.below hb⟩
def idxD (p:Mv→Bool):List Mv→Option Nat
 | []=>none
 | z :: l=>if p z then some 0 else (idxD p l).map (·+1)
theorem idxD_none {p:Mv→Bool}:∀{l:List Mv},(∀(j:Nat) (z:Mv),l[j]? = some z→p z=false)→idxD p l=none
 | [],_=>rfl
 | z :: l, h => by
   unfold idxD
   rw [if_neg (by rw [h 0 z rfl];decide),idxD_none (l:=l) (fun j y hy=>h (j+1) y hy)]
   rfl
theorem idxD_some {p:Mv→Bool}:∀{l:List Mv} {q:Nat} {z:Mv},l[q]? = some z→p z=true→(∀(j:Nat) (y:Mv),j<q→l[j]? = some y→p y=false)→idxD p l=some q
 | [],q,z,hz,_,_=>by cases hz
 | y :: l, 0, z, hz, hp, _ => by
   obtain rfl:y=z:=by simpa using hz
   unfold idxD
   rw [if_pos hp]
 | y :: l, q + 1, z, hz, hp, h => by
   unfold idxD
   rw [if_neg (by rw [h 0 y (by omega) rfl];decide),idxD_some (l:=l) (q:=q) (z:=z) hz hp (fun j u hj hu=>h (j+1) u (by omega) hu)]
   rfl
def IdxPost (p:Mv→Bool)(ms:List Mv)(w:World)(e:Ending)(w':World):Prop:=((idxD p ms=none∧e = .returned (.int .i64 (-1)))∨∃i,idxD p ms=some i∧i<ms.length∧e = .returned (.int .i64 (i:Int)))∧Below w.heap.size w w'
theorem set5 (m:Mv)(r:List Value)(j:Nat)(v:Value):(m.cells++r).set (j+5) v=m.cells++r.set j v:=rfl
theorem mvs_set:∀(R:List Mv) (i:Nat) (z:Mv),i<R.length→(((((mvs R).set (i * 5) (.int .i64 z.kind)).set (i * 5+1) (.int .i64 z.x)).set (i * 5+2) (.int .i64 z.y)).set (i * 5+3) (.int .i64 z.sign)).set (i * 5+4) (.bool z.over)=mvs (R.set i z)
 | [],i,z,h=>absurd h (by simp)
 | m :: R,0,z,_=>rfl
 | m :: R, i + 1, z, h => by
   have ih:=mvs_set R i z (by simpa using h)
   show (((((m.cells++mvs R).set ((i+1) * 5) (.int .i64 z.kind)).set ((i+1) * 5+1) (.int .i64 z.x)).set ((i+1) * 5+2) (.int .i64 z.y)).set ((i+1) * 5+3) (.int .i64 z.sign)).set ((i+1) * 5+4) (.bool z.over)=m.cells++mvs (R.set i z)
   rw [←ih]
   have a0:(i+1) * 5=i * 5+5:=by omega
   have a1:i * 5+5+1=(i * 5+1)+5:=by omega
   have a2:i * 5+5+2=(i * 5+2)+5:=by omega
   have a3:i * 5+5+3=(i * 5+3)+5:=by omega
   have a4:i * 5+5+4=(i * 5+4)+5:=by omega
   rw [a0,a1,a2,a3,a4,set5,set5,set5,set5,set5]
theorem own_moves_set {W:World}{b g n c:Nat}{R:List Mv}(h:W.ownsRow b 43 5 (.slice (some ⟨g,0,none⟩) n c) n (mvs R))(i:Nat)(z:Mv)(hi:i<R.length) :
 (((((W.setCell ⟨g,i * 5,none⟩ (.int .i64 z.kind)).setCell ⟨g,i * 5+1,none⟩ (.int .i64 z.x)).setCell ⟨g,i * 5+2,none⟩ (.int .i64 z.y)).setCell ⟨g,i * 5+3,none⟩ (.int .i64 z.sign)).setCell ⟨g,i * 5+4,none⟩ (.bool z.over)).ownsRow b 43 5 (.slice (some ⟨g,0,none⟩) n c) n (mvs (R.set i z)):=by
 rw [←mvs_set R i z hi]
 exact ((((h.stored _ _).1.stored _ _).1.stored _ _).1.stored _ _).1.stored _ _ |>.1
theorem own_setCells {b g n c:Nat}:∀(vs:List Value) (o:Nat) (W:World) (xs:List Value),W.ownsRow b 43 5 (.slice (some ⟨g,0,none⟩) n c) n xs→∃ys,(W.setCells g o vs).ownsRow b 43 5 (.slice (some ⟨g,0,none⟩) n c) n ys∧ys.take o=xs.take o
 | [],o,W,xs,h=>⟨xs,h,rfl⟩
 | v :: r, o, W, xs, h => by
   obtain ⟨ys,h1,h2⟩:=own_setCells r (o+1) (W.setCell ⟨g,o,none⟩ v) (xs.set o v) (h.stored o v).1
   refine ⟨ys,h1,?_⟩
   have e:(ys.take (o+1)).take o=((xs.set o v).take (o+1)).take o:=by rw [h2]
   rw [List.take_take,List.take_take,Nat.min_eq_left (by omega)] at e
   rw [e,List.take_set_of_le (Nat.le_refl _)]
theorem own_prefix {W:World}{b g n c i:Nat}{xs:List Value}(h:W.ownsRow b 43 5 (.slice (some ⟨g,0,none⟩) n c) n xs)(hi:i≤n):W.ownsRow b 43 5 (.slice (some ⟨g,0,none⟩) i c) i (xs.take (i * 5)):=by
 have hl:=h.1
 rcases h.2 with ⟨h1,_⟩ | ⟨g',cap,cur,h1,h2,h3,h4,h5,h6,h7⟩
 ·cases h1
 ·injection h1 with e1 e2 e3
  injection e1 with e1
  injection e1 with e1
  subst e1 e3
  refine ⟨by rw [List.length_take];omega,.inr ⟨g,c,cur,rfl,h2,h3,by omega,h5,h6,?_⟩⟩
  rw [←h7,List.take_take,Nat.min_eq_left (by omega)]
theorem mvs_take:∀(R:List Mv) (i:Nat),(mvs R).take (i * 5)=mvs (R.take i)
 | [],i=>by simp [mvs]
 | m :: R,0=>by simp [mvs]
 | m :: R, i + 1 => by
   have ih:=mvs_take R i
   show (m.cells++mvs R).take ((i+1) * 5)=m.cells++mvs (R.take i)
   have e:m.cells.length=5:=rfl
   rw [List.take_append,e,show (i+1) * 5 - 5=i * 5 by omega,ih,List.take_of_length_le (by omega)]
theorem below_cells {B g:Nat}{a:World}(hg:B≤g):∀(vs:List Value) (o:Nat) (W:World),Below B a W→Below B a (W.setCells g o vs)
 | [],_,_,h=>h
 | v :: r,o,W,h=>below_cells hg r (o+1) _ (h.setCell (by show B≤g;exact hg) v)
theorem run_clear_moves (w:World)(ty:TypeId)(g o n c:Nat)(hn:0<n)(hc:∀j,j<n * 5→(w.cell? ⟨g,o+j,none⟩).isSome=true)(hf:∀j,j<n * 5→w.frozen? ⟨g,o+j,none⟩=false) :
 ∃vs:List Value,(Builtin.clear_ #[39] ty #[.slice (some ⟨g,o,none⟩) n c]).run Tryz.prog w = .ok (.tuple #[]) (w.setCells g o vs):=by
 have hzv:(zeroValue 43).run Tryz.prog w = .ok (.agg #[.int .i64 0,.int .i64 0,.int .i64 0,.int .i64 0,.bool false]) w:=by kernel_rfl
 have hz5:∀i,(#[Value.int .i64 0,.int .i64 0,.int .i64 0,.int .i64 0,.bool false][i % 5]!).oneCell'=true:=by
  intro i
  have:i % 5=0∨i % 5=1∨i % 5=2∨i % 5=3∨i % 5=4:=by omega
  rcases this with h | h | h | h | h <;> rw [h] <;> rfl
 have hst:=run_storeCells_cells (P:=Tryz.prog) g o (Builtin.zeroCells #[.int .i64 0,.int .i64 0,.int .i64 0,.int .i64 0,.bool false] n).toList 0 w (by simpa [Builtin.zeroCells] using hc) (by simpa [Builtin.zeroCells] using hf) (by
  intro v hv
  simp only [Builtin.zeroCells,Array.toList_map,List.mem_map] at hv
  obtain ⟨i,_,rfl⟩:=hv
  exact hz5 i)
 simp only [Nat.add_zero] at hst
 refine ⟨(Builtin.zeroCells #[.int .i64 0,.int .i64 0,.int .i64 0,.int .i64 0,.bool false] n).toList,?_⟩
 obtain ⟨m,rfl⟩:∃m,n=m+1:=⟨n - 1,by omega⟩
 unfold Builtin.clear_
 simp [run_underlying Tryz.underlying39,hzv,Value.cells,hst,Result.andThen]
end Go.Proofs.YtdgliimmnnhhjaaGreatDoor
end
section
namespace Go.Proofs.YtdgliimmnnhhjaaGreatDoor
open Go Go.RowKit
attribute [local go_sem ↓] Go.wp_at_zero Go.wp_at_succ
theorem idxD_no {p:Mv→Bool}:∀{l:List Mv},idxD p l=none→∀z,z ∈ l→p z=false
 | [],_,z,h=>by cases h
 | y :: l, h, z, hz => by
   unfold idxD at h
   cases hp:p y with
   | true=>rw [if_pos hp] at h;cases h
   | false =>
     rw [if_neg (by rw [hp];decide)] at h
     have h2:idxD p l=none:=by simpa using h
     rcases List.mem_cons.1 hz with rfl | hz
     ·exact hp
     ·exact idxD_no h2 z hz
theorem idxD_at {p:Mv→Bool}:∀{l:List Mv} {i:Nat},idxD p l=some i→(l.take (i+1)).filter (fun z => !p z)=l.take i
 | [],i,h=>by cases h
 | y :: l, i, h => by
   unfold idxD at h
   cases hp:p y with
   | true =>
     rw [if_pos hp] at h
     obtain rfl:0=i:=by simpa using h
     simp [List.filter_cons,hp]
   | false =>
     rw [if_neg (by rw [hp];decide)] at h
     obtain ⟨k,hk,rfl⟩:=Option.map_eq_some_iff.1 h
     have ih:=idxD_at hk
     rw [List.take_succ_cons,List.filter_cons,if_pos (by rw [hp];rfl),ih,List.take_succ_cons]
section
variable {w W W':World} {B b g N c g1 g2 n j i:Nat} {most:Int} {ms R:List Mv}
theorem row_sets {W:World}{g g':Nat}{t:TypeId}{vs:List Value}(h:Row W g t vs)(hne:g≠g')(a0 a1 a2 a3 a4:Nat)(v0 v1 v2 v3 v4:Value):Row (((((W.setCell ⟨g',a0,none⟩ v0).setCell ⟨g',a1,none⟩ v1).setCell ⟨g',a2,none⟩ v2).setCell ⟨g',a3,none⟩ v3).setCell ⟨g',a4,none⟩ v4) g t vs :=
 ((((h.other hne _).other hne _).other hne _).other hne _).other hne _
end
def DelPost (B b:Nat)(l:List Mv)(w:World)(e:Ending)(w':World):Prop:=∃v,e = .returned v∧w'.ownsRow b 43 5 v l.length (mvs l)∧Below B w w'
theorem own_caps {W:World}{b g n c:Nat}{xs:List Value}(h:W.ownsRow b 43 5 (.slice (some ⟨g,0,none⟩) n c) n xs):n≤c∧c≤maxLen∧b≤g∧g<W.heap.size:=by
 rcases h.2 with ⟨h1,_⟩ | ⟨g',cap,cur,h1,h2,h3,h4,h5,h6,h7⟩
 ·cases h1
 ·injection h1 with e1 e2 e3
  injection e1 with e1
  injection e1 with e1
  subst e1 e3
  exact ⟨h4,h5,h2,lt_of_heap h3⟩
end Go.Proofs.YtdgliimmnnhhjaaGreatDoor
end
section
namespace Go.Proofs.YtdgliimmnnhhjaaGreatDoor
open Go Go.RowKit
attribute [local go_sem ↓] Go.wp_at_zero Go.wp_at_succ
theorem cl0 (A:Option Addr)(c:Nat)(w:World):Calls Tryz.prog 91 #[.slice A 0 c] w fun e w'=>∃(A':Option Addr) (c':Nat),e = .returned (.slice A' 0 c')∧Below w.heap.size w w':=by
 cases A with
 | none =>
   refine (Tryz.slices_Clone_int_nil 0 c w).mono ?_
   rintro e w' ⟨rfl,rfl⟩
   exact ⟨none,0,rfl,Below.refl _ _⟩
 | some a =>
   refine (Tryz.slices_Clone_int_zero a c w).mono ?_
   rintro e w' ⟨v,rfl,own,_,hb⟩
   obtain ⟨A',c',rfl⟩:=owns_slice own
   exact ⟨A',c',rfl,hb⟩
set_option maxRecDepth 100000 in
set_option maxHeartbeats 2000000 in
theorem clone_zero (A B:Option Addr)(cp cq:Nat)(lp:Int)(w:World) :
 Calls Tryz.prog 58 #[.agg #[.slice A 0 cp,.slice B 0 cq,.int .i64 lp]] w fun e w'=>∃(A9 B9:Option Addr) (c8 c9:Nat),e = .returned (.agg #[.slice A9 0 c8,.slice B9 0 c9,.int .i64 lp])∧Below w.heap.size w w':=by
 have HGS:=hide (GS.start w (.slice A 0 cp) (.slice B 0 cq) (.int .i64 lp) (.slice none 0 0) (.slice none 0 0) (.int .i64 0))
 go_enter Tryz.func58,Tryz.ntmps58
 go_wp2_with fail
 obtain ⟨V0,hV0⟩:∃V:World,V=(w.alloc (.cells #[.slice A 0 cp,.slice B 0 cq,.int .i64 lp] 24)).alloc (.cells #[.slice none 0 0,.slice none 0 0,.int .i64 0] 24):=⟨_,rfl⟩
 rw [←hV0] at HGS ⊢
 have hv0:w.heap.size+2≤V0.heap.size:=by rw [hV0];simp
 clear hV0
 obtain ⟨c0,c1,c2,c3,c4,c5,c6,_⟩:=HGS.out.all
 go_region_held3 (fun w'=>w'.cell? ⟨w.heap.size,0,none⟩=some (.slice A 0 cp)∧w'.cell? ⟨w.heap.size,1,none⟩=some (.slice B 0 cq)∧w'.cell? ⟨w.heap.size,2,none⟩=some (.int .i64 lp)∧w'.cell? ⟨w.heap.size+1,0,none⟩=some (cv w' ⟨w.heap.size+1,0,none⟩)∧w'.cell? ⟨w.heap.size+1,1,none⟩=some (cv w' ⟨w.heap.size+1,1,none⟩)∧w'.cell? ⟨w.heap.size+1,2,none⟩=some (cv w' ⟨w.heap.size+1,2,none⟩)∧(∀o,w'.frozen? ⟨w.heap.size+1,o,none⟩=false)∧GS w w.heap.size (.slice A 0 cp) (.slice B 0 cq) (.int .i64 lp) w')
  ((go_split_ands;refine GS.all ?_;(repeat (first | (with_reducible assumption) | (with_reducible exact HGS.out) | (with_reducible refine GS.set ?_ _ _) | (with_reducible refine GS.drew ?_) | (with_reducible refine GS.below ?_ hbb) | (with_reducible refine GS.below ?_ hba)))))
  (first
    | (have hxa := hba
       clear hxa
       go_at_call 91
       refine Calls.mono (cl0 B cq _) ?_
       rintro e wb ⟨Ab,kb,rfl,hbb⟩)
    | (go_at_call 91
       refine Calls.mono (cl0 A cp _) ?_
       rintro e wa ⟨Aa,ka,rfl,hba⟩))
 clear c0 c1 c2 c3 c4 c5 c6
 have G5:=hide ((HGS.out.drew.below hba).below hbb)
 go_wp2
 refine bodyPost_ret (v := .agg #[.slice Aa 0 ka,.slice Ab 0 kb,.int .i64 lp]) ?_ rfl ⟨Aa,Ab,ka,kb,rfl,?_⟩
 ·obtain ⟨e0,e1,e2⟩:=G5.out.fin (.slice Aa 0 ka) (.slice Ab 0 kb) (.int .i64 lp)
  simp [results,Tryz.results58,go_sem,e0,e1,e2]
 ·exact ((G5.out.bel.setCell (by show _≤w.heap.size+1;omega) _).setCell (by show _≤w.heap.size+1;omega) _).setCell (by show _≤w.heap.size+1;omega) _
theorem clone_all (d:Pl.Dg)(A B:Option Addr)(cp cq m:Nat)(w:World)(hm:m=4 * d.n)(hg:DgAt w A B d)(hn:d.n≤64) :
 Calls Tryz.prog 58 #[.agg #[.slice A d.n cp,.slice B m cq,.int .i64 d.lp]] w fun e w'=>∃(A9 B9:Option Addr) (c8 c9:Nat),e = .returned (.agg #[.slice A9 d.n c8,.slice B9 m c9,.int .i64 d.lp])∧DgT w' A9 B9 d∧Below w.heap.size w w':=by
 rcases Nat.eq_zero_or_pos d.n with h0 | h0
 ·have hs:=hg.s.len
  have hmm:=hg.m.len
  subst hm
  rw [h0] at hs hmm
  have:=clone_zero A B cp cq d.lp w
  rw [h0]
  refine this.mono ?_
  rintro e w' ⟨A9,B9,c8,c9,rfl,hb⟩
  exact ⟨A9,B9,c8,c9,rfl,⟨⟨by rw [h0];simpa using hs,fun h=>by omega⟩,⟨by rw [h0];simpa using hmm,fun h=>by omega⟩⟩,hb⟩
 ·refine (clone_any d A B cp cq m w hm hg ⟨h0,hn⟩).mono ?_
  rintro e w' ⟨g1,c1,g2,c2,rfl,o1,o2,_,hb⟩
  exact ⟨_,_,c1,c2,rfl,⟨own_intsT o1,by rw [←hm];exact o2.intsT⟩,hb⟩
end Go.Proofs.YtdgliimmnnhhjaaGreatDoor
end
