/-
  The texts Xt, Xl, Za, Zb, Tb, Xq.
-/
import Derived.Test.YtdgliimmnnhhjaaGreatDoorU08
import Derived.Test.YtdgliimmnnhhjaaGreatDoorU30
import Derived.Test.YtdgliimmnnhhjaaGreatDoorU31
import Derived.Test.YtdgliimmnnhhjaaGreatDoorU32
set_option linter.unusedVariables false
set_option linter.unusedSimpArgs false
section
namespace Go.Proofs.YtdgliimmnnhhjaaGreatDoor
open Go Go.RowKit
attribute [local go_sem ↓] Go.wp_at_zero Go.wp_at_succ
def upY (d:Pl.Dg)(x:Nat):Nat→List Mv
 | 0=>[]
 | k+1=>upY d x k++(if x<k then one (unpC d x k) ⟨4,x,k,0,false⟩ else [])
def upX (d:Pl.Dg):Nat→List Mv
 | 0=>[]
 | k+1=>upX d k++upY d k d.n
theorem upY_none (d:Pl.Dg)(x:Nat):∀k,k≤x+1→upY d x k=[]
 | 0,_=>rfl
 | k + 1, h => by
   show upY d x k++(if x<k then one (unpC d x k) ⟨4,x,k,0,false⟩ else [])=[]
   rw [upY_none d x k (by omega),if_neg (by omega)]
   rfl
theorem upY_len (d:Pl.Dg)(x:Nat):∀k,(upY d x k).length≤k
 | 0=>Nat.le_refl _
 | k + 1 => by
   have a:=upY_len d x k
   have b:=one_len (unpC d x k) ⟨4,x,k,0,false⟩
   show (upY d x k++(if x<k then one (unpC d x k) ⟨4,x,k,0,false⟩ else [])).length≤_
   rw [List.length_append]
   split
   ·omega
   ·simp;omega
theorem upX_len {d:Pl.Dg}(hn:d.n≤64):∀k,(upX d k).length≤64 * k
 | 0=>Nat.le_refl _
 | k + 1 => by
   have a:=upX_len hn k
   have b:=upY_len d k d.n
   show (upX d k++upY d k d.n).length≤_
   rw [List.length_append]
   omega
set_option maxRecDepth 100000 in
set_option maxHeartbeats 4000000 in
theorem upTry_any (d:Pl.Dg)(hd:Pl.Wf d)(A B:Option Addr)(cp cq m gd gl x y:Nat)(v:Value)(ms:List Mv)(w0 w:World)(hm:m=4 * d.n)(hg:DgAt w A B d)(hxy:x<y)(hy:y<d.n)(hms:ms.length≤1000000)
 (hp:MG w0 24 gd gl [.slice A d.n cp,.slice B m cq,.int .i64 (d.lp:Int)] v ms w) :
 Calls Tryz.prog 94 #[.agg #[.int .i64 4,.int .i64 (x:Int),.int .i64 (y:Int),.int .i64 0,.bool false],.pointer (some ⟨gd,0,none⟩),.pointer (some ⟨gl,0,none⟩)] w fun e w'=>e = .returned (.tuple #[])∧∃v',MG w0 24 gd gl [.slice A d.n cp,.slice B m cq,.int .i64 (d.lp:Int)] v' (ms++one (unpC d x y) ⟨4,x,y,0,false⟩) w':=by
 have HM:=hide hm
 have HG:=hide hg
 have hn:=hd.few
 obtain ⟨cc,hcc⟩:∃c',c'=unpC d x y:=⟨_,rfl⟩
 have HC:=hide hcc
 have hb0:Below w.heap.size w (w.alloc (.cells #[.int .i64 4,.int .i64 (x:Int),.int .i64 (y:Int),.int .i64 0,.bool false] 43)):=(Below.refl _ _).alloc (Nat.le_refl _) _
 have HB0:=hide hb0
 have P1:=hide (hp.below hb0)
 have M1:=hide (row_at (W:=w) (g:=w.heap.size) (t:=43) (vs:=[.int .i64 4,.int .i64 (x:Int),.int .i64 (y:Int),.int .i64 0,.bool false]) rfl)
 have hgl:gl<w.heap.size:=hp.big
 have hgd:gd<gl:=hp.lt
 clear hp hb0 hg hm hcc
 obtain ⟨d0,d1,d2,d3⟩:=box3 P1.out.d
 obtain ⟨e0,e1,e2,e3,e4,e5⟩:=box5 M1.out
 go_enter Tryz.func94,Tryz.ntmps94
 go_wp2_with fail
 refine (find_any d hd A B cp cq m x y _ HM.out (HG.out.keep HB0.out) (by omega) hy).mono ?_
 rintro e w1 ⟨he,hb1⟩
 have P2:=hide (P1.out.below hb1)
 have M2:=hide (M1.out.below hb1)
 have HB1:=hide (HB0.out.trans (hb1.mono HB0.out.size))
 have hs2:w.heap.size<w1.heap.size:=M2.out.lt
 have hs3:gl<w1.heap.size:=by omega
 have hs2':w.heap.size<w1.heap.size+1:=by omega
 have hs1d:gd<w1.heap.size:=by omega
 have hs3':gl<w1.heap.size+1:=by omega
 have HE:=hide he
 clear hb1 d0 d1 d2 d3 e0 e1 e2 e3 e4 e5 HB0 P1 M1 he
 obtain ⟨d0,d1,d2,d3⟩:=box3 P2.out.d
 obtain ⟨e0,e1,e2,e3,e4,e5⟩:=box5 M2.out
 obtain ⟨L,hL⟩:∃L,L=lensI d x y:=⟨_,rfl⟩
 have HL:=hide hL
 have HE2:=HE.out
 rw [←hL] at HE2
 clear hL HE
 cases L with
 | some i =>
   unfold findE lensV at HE2
   dsimp only at HE2
   obtain ⟨l0,hl0⟩:∃z:Nat,z=lnH x y i:=⟨_,rfl⟩
   rw [←hl0] at HE2
   obtain ⟨l1,hl1⟩:∃z:Nat,z=d.m (Pl.nx d l0):=⟨_,rfl⟩
   rw [←hl1] at HE2
   obtain ⟨l2,hl2⟩:∃z:Nat,z=Pl.tn l0 2:=⟨_,rfl⟩
   rw [←hl2] at HE2
   obtain ⟨l3,hl3⟩:∃z:Nat,z=Pl.tn l1 2:=⟨_,rfl⟩
   rw [←hl3] at HE2
   obtain ⟨l4,hl4⟩:∃z:Nat,z=Pl.tn (d.m l0) 2:=⟨_,rfl⟩
   rw [←hl4] at HE2
   obtain ⟨l5,hl5⟩:∃z:Nat,z=Pl.nx d l0:=⟨_,rfl⟩
   rw [←hl5] at HE2
   obtain ⟨l6,hl6⟩:∃z:Nat,z=d.m l0:=⟨_,rfl⟩
   rw [←hl6] at HE2
   obtain ⟨l7,hl7⟩:∃z:Nat,z=Pl.tn l5 2:=⟨_,rfl⟩
   rw [←hl7] at HE2
   clear hl0 hl1 hl2 hl3 hl4 hl5 hl6 hl7
   subst HE2
   have PL:=hide (P2.out.alloc (.cells #[.int .i64 (l0:Int),.int .i64 (l1:Int),.int .i64 (l2:Int),.int .i64 (l3:Int),.int .i64 (l4:Int),.int .i64 (l5:Int),.int .i64 (l6:Int),.int .i64 (l7:Int)] 128))
   have ML0:=hide (M2.out.alloc (.cells #[.int .i64 (l0:Int),.int .i64 (l1:Int),.int .i64 (l2:Int),.int .i64 (l3:Int),.int .i64 (l4:Int),.int .i64 (l5:Int),.int .i64 (l6:Int),.int .i64 (l7:Int)] 128))
   have HBL:=hide (HB1.out.alloc HB1.out.size (.cells #[.int .i64 (l0:Int),.int .i64 (l1:Int),.int .i64 (l2:Int),.int .i64 (l3:Int),.int .i64 (l4:Int),.int .i64 (l5:Int),.int .i64 (l6:Int),.int .i64 (l7:Int)] 128))
   go_wp2_with fail
   refine (unpoke_m d hd A B cp cq m x y 4 0 false _ HM.out (HG.out.keep HBL.out) hxy hy).mono ?_
   rintro e w3 ⟨r1,r2,hb3⟩
   have P3:=hide (PL.out.below hb3)
   have M3:=hide (ML0.out.below hb3)
   have hs4:w.heap.size<w3.heap.size:=M3.out.lt
   have hs5:gl<w3.heap.size:=by omega
   rw [←HC.out] at r1 r2
   have R1:=hide r1
   have R2:=hide r2
   clear r1 r2 hb3 d0 d1 d2 d3 e0 e1 e2 e3 e4 e5 HB1 P2 M2 PL ML0 HBL
   obtain ⟨e0,e1,e2,e3,e4,e5⟩:=box5 M3.out
   have hs6:gl<w3.heap.size+1:=by omega
   have hs7:gl<w3.heap.size+1+1:=by omega
   have hs8:w.heap.size<w3.heap.size+1:=by omega
   have hs9:w.heap.size<w3.heap.size+1+1:=by omega
   by_cases h0:cc=0
   ·obtain ⟨A9,B9,c8,c9,k9,x9,y9,s9,o9,hmv,rfl,hT⟩:=ResOk.split (R2.out h0)
    have E:=hide (show one cc ⟨4,x,y,0,false⟩=[⟨4,x,y,0,false⟩] from one_yes h0)
    clear h0 R1 R2 hmv hT
    obtain ⟨N9,hN9⟩:∃n,n=(unpD d x y).n:=⟨_,rfl⟩
    obtain ⟨N4,hN4⟩:∃n,n=4 * (unpD d x y).n:=⟨_,rfl⟩
    obtain ⟨L9,hL9⟩:∃n,n=(unpD d x y).lp:=⟨_,rfl⟩
    rw [←hN4,←hN9,←hL9]
    clear hN9 hN4 hL9
    obtain ⟨q0,q1⟩:=box1 P3.out.l
    obtain ⟨n0,hn0,hz0,hz1,hz2⟩:=info_parts moveInfo
    have PA:=hide ((P3.out.alloc (.cells #[.slice A9 N9 c8,.slice B9 N4 c9,.int .i64 (L9:Int)] 24)).alloc (.cells #[.int .i64 k9,.int .i64 x9,.int .i64 y9,.int .i64 s9,.bool o9] 43))
    have A0:=hide (PA.out.alloc (.cells (Mv.cells ⟨4,x,y,0,false⟩).toArray 43)).o
    have A1:∀u ∈ Mv.cells ⟨4,x,y,0,false⟩,u.oneCell'=true:=by simp [Mv.cells,Value.oneCell']
    have A2:ms.length+1≤maxLen:=by unfold maxLen;omega
    have A3:(ms.length+1) * 40≤140737488355328:=by omega
    have A6:=hide (five_news ((w3.alloc (.cells #[.slice A9 N9 c8,.slice B9 N4 c9,.int .i64 (L9:Int)] 24)).alloc (.cells #[.int .i64 k9,.int .i64 x9,.int .i64 y9,.int .i64 s9,.bool o9] 43)) (w3.heap.size+1+1) (by simp) ⟨4,x,y,0,false⟩)
    go_wp2_with (at_builtin;refine wpList_append_lies _ (by rfl) _ _ 39 (by rfl) (gl+1) 43 n0 (.agg #[.int .i64 0,.int .i64 0,.int .i64 0,.int .i64 0,.bool false]) 5 40 Tryz.underlying39 hn0 hz0 hz1 hz2 rfl (by omega) v ms.length (mvs ms) (by rfl) A0.out ⟨w3.heap.size+1+1,0,none⟩ 1 1 (Mv.cells ⟨4,x,y,0,false⟩) (by rfl) (by rfl) A6.out A1 (by omega) A2 A3 (by simp;omega) (w3.heap.size+1+1+1) (by simp) ?_;intro g2 c2 w2 own2 grow2 at2 lt2;obtain ⟨q2,q3⟩:=box1 ((PA.out.alloc (.cells (Mv.cells ⟨4,x,y,0,false⟩).toArray 43)).l.grown grow2 ((PA.out.alloc (.cells (Mv.cells ⟨4,x,y,0,false⟩).toArray 43)).far (Nat.le_refl _)));have OWN2:=hide own2;have GR2:=hide grow2;clear own2 grow2 at2)
    refine bodyPost_end (results_none rfl _ _ _) rfl ⟨rfl,.slice (some ⟨g2,0,none⟩) (ms.length+1) c2,?_⟩
    rw [←HC.out,E.out]
    exact (PA.out.alloc _).push OWN2.out GR2.out
   ·have E:=hide (show one cc ⟨4,x,y,0,false⟩=[] from one_no h0)
    have hE:=ResErr.split (R1.out h0)
    subst hE
    have t1:(cc == 0)=false:=by rw [beq_eq_false_iff_ne];exact h0
    clear h0 R1 R2
    go_wp2
    refine bodyPost_end (results_none rfl _ _ _) rfl ⟨rfl,v,?_⟩
    rw [←HC.out,E.out,List.append_nil]
    exact (P3.out.alloc _).alloc _
 | none =>
   unfold findE noLens at HE2
   dsimp only at HE2
   have E:=hide (show one cc ⟨4,x,y,0,false⟩=[] from one_no (by
    rw [HC.out]
    unfold unpC
    rw [←HL.out]
    intro h
    cases h))
   subst HE2
   go_wp2
   refine bodyPost_ret (results_none rfl _ _ _) rfl ⟨rfl,v,?_⟩
   rw [←HC.out,E.out,List.append_nil]
   exact P2.out.alloc _
set_option maxRecDepth 100000 in
set_option maxHeartbeats 4000000 in
theorem unpokes_any (d:Pl.Dg)(hd:Pl.Wf d)(A B:Option Addr)(cp cq m:Nat)(w:World)(hm:m=4 * d.n)(hg:DgAt w A B d) :
 Calls Tryz.prog 64 #[.agg #[.slice A d.n cp,.slice B m cq,.int .i64 d.lp]] w fun e w'=>∃v,e = .returned v∧MovesIn w.heap.size w' v (upX d d.n)∧Below w.heap.size w w':=by
 have HM:=hide hm
 have HG:=hide hg
 have hn:=hd.few
 have P0:=hide (show MG w 24 w.heap.size (w.heap.size+1) [.slice A d.n cp,.slice B m cq,.int .i64 (d.lp:Int)] (.slice none 0 0) [] ((w.alloc (.cells #[.slice A d.n cp,.slice B m cq,.int .i64 (d.lp:Int)] 24)).alloc (.cells #[.slice none 0 0] 39)) from
  ⟨(row_at (vs:=[_,_,_]) rfl).alloc _,row_at (vs:=[_]) (by simp),⟨rfl,.inl ⟨rfl,rfl⟩⟩,((Below.refl _ _).alloc (Nat.le_refl _) _).alloc (by simp) _,Nat.le_refl _,by omega⟩)
 clear hg hm
 go_enter Tryz.func64,Tryz.ntmps64
 go_wp2
 go_loopg [5,6,11] d.n (fun g s5 s6 s11 wx=>∃(k:Nat) (v:Value),k+g=d.n∧s11 = .int .i64 (k:Int)∧MG w 24 w.heap.size (w.heap.size+1) [.slice A d.n cp,.slice B m cq,.int .i64 (d.lp:Int)] v (upX d k) wx)
 case atStart=>exact ⟨0,_,by omega,rfl,P0.out⟩
 case round =>
  clear P0
  obtain ⟨k,v,hkg,rfl,hp⟩:=hrel
  obtain ⟨go,rfl⟩:∃go,go=gk:=⟨_,rfl⟩
  have HKG:=hide hkg
  have PK:=hide hp
  have hlen:=upX_len hn k
  clear hp
  by_cases hk:k<d.n
  ·have hki:(k:Int)<(d.n:Int):=by omega
   clear hkg
   go_wp2
   go_loopg [6] (d.n - (k+1)) (fun g s6 wx=>∃(j:Nat) (u:Value),j+g=d.n∧k+1≤j∧s6 = .int .i64 (j:Int)∧MG w 24 w.heap.size (w.heap.size+1) [.slice A d.n cp,.slice B m cq,.int .i64 (d.lp:Int)] u (upX d k++upY d k j) wx)
   case atStart=>exact ⟨k+1,v,by omega,by omega,by go_num,by rw [upY_none d k (k+1) (Nat.le_refl _),List.append_nil];exact PK.out⟩
   case round =>
    clear PK
    obtain ⟨j,u,hjg,hkj,rfl,hq⟩:=hrel
    have HJG:=hide hjg
    have QJ:=hide hq
    have hlen2:=upY_len d k j
    obtain ⟨d0,d1,d2,d3⟩:=box3 hq.d
    clear hq hjg
    by_cases hj:j<d.n
    ·have hji:(j:Int)<(d.n:Int):=by omega
     go_wp2_with fail
     refine (upTry_any d hd A B cp cq m _ _ k j u _ w _ HM.out (HG.out.keep QJ.out.bel) (by omega) hj (by simp only [List.length_append];omega) QJ.out).mono ?_
     rintro e w1 ⟨rfl,u1,hp1⟩
     have Q1:=hide hp1
     clear hp1
     go_wp2
     go_roundg (gk - 1)
     case measure=>have:=HJG.out;omega
     case rel =>
      have e2:upY d k (j+1)=upY d k j++one (unpC d k j) ⟨4,k,j,0,false⟩:=by
       show upY d k j++(if k<j then one (unpC d k j) ⟨4,k,j,0,false⟩ else [])=_
       rw [if_pos (by omega)]
      exact ⟨j+1,u1,by have:=HJG.out;omega,by omega,by go_num,by rw [e2];simpa using Q1.out⟩
    ·have hji:¬((j:Int)<(d.n:Int)):=by omega
     have E2:=hide (show upX d (k+1)=upX d k++upY d k j by
      have:j=d.n:=by have:=HJG.out;omega
      rw [this];rfl)
     go_wp2
     go_roundg (go - 1)
     case measure=>have:=HKG.out;omega
     case rel=>exact ⟨k+1,u,by have:=HKG.out;omega,by go_num,by rw [E2.out];exact QJ.out⟩
  ·have hki:¬((k:Int)<(d.n:Int)):=by omega
   have e:k=d.n:=by omega
   have EL:=hide (show upX d k=upX d d.n by rw [e])
   obtain ⟨q0,q1⟩:=box1 PK.out.l
   clear hkg e
   go_wp2
   go_ret
   exact ⟨v,rfl,⟨w.heap.size+1+1,by omega,PK.out.big,by rw [←EL.out];exact PK.out.o⟩,PK.out.bel⟩
end Go.Proofs.YtdgliimmnnhhjaaGreatDoor
end
section
namespace Go.Proofs.YtdgliimmnnhhjaaGreatDoor
open Go Go.RowKit
def byK (m:Mv)(s:Int):Int:=if m.kind=1 then m.sign else if m.kind=2 then -s else 0
def moreK (m:Mv):Int:=if m.kind=1 then 1 else if m.kind=2 then -1 else if m.kind=3 then 2 else if m.kind=4 then -2 else 0
def Sml (l:List Int):Prop:=∀z,z ∈ l → -1≤z∧z≤1
theorem wf_sml {d:Pl.Dg}(hd:Pl.Wf d):Sml d.sg:=fun z hz=>by
 obtain ⟨k,hk,rfl⟩:=List.getElem_of_mem hz
 have:=hd.sign k hk
 unfold Pl.Dg.s at this
 rw [List.getD_eq_getElem?_getD,List.getElem?_eq_getElem hk] at this
 simp at this
 omega
theorem sml_app {l r:List Int}(h:Sml l)(h':Sml r):Sml (l++r):=fun z hz=>by
 rcases List.mem_append.1 hz with h1 | h1
 ·exact h z h1
 ·exact h' z h1
theorem shr_sml {l:List Int}(h:Sml l)(gs:List Nat):Sml (Pl.shrS gs l):=fun z hz=>by
 unfold Pl.shrS at hz
 obtain ⟨c,_,rfl⟩:=List.mem_map.1 hz
 rw [List.getD_eq_getElem?_getD]
 cases hc:l[c]? with
 | none=>simp
 | some v=>exact h v (List.mem_of_getElem? hc)
theorem sgn2_sml (a b:Nat):-1≤sgn2 a b∧sgn2 a b≤1:=by unfold sgn2;split <;> omega
theorem poke_signs (d:Pl.Dg)(x y:Int)(ov:Bool):sgn2 (un0 d x y ov) (ov0 d x y ov)+sgn2 (un1 d x y ov) (ov1 d x y ov)=0:=by
 unfold sgn2 un0 ov0 un1 ov1 lnS th0 th1 plc
 cases ov <;> cases fwd d y <;> cases fwd d x <;> decide
theorem signs_law {d:Pl.Dg}(hd:Pl.Valid d)(m:Mv)(h:apC d m=0) :
 (apD d m).sg.sum=d.sg.sum+byK m (apI d m).sign∧((apD d m).sg.length:Int)=d.sg.length+moreK m∧Sml (apD d m).sg:=by
 obtain ⟨k,x,y,s,o⟩:=m
 have hs:=wf_sml hd.wf
 by_cases hk:k<1∨5<k
 ·unfold apC at h;rw [if_pos hk] at h;exact absurd h (by decide)
 by_cases hin:inR d.n ⟨k,x,y,s,o⟩
 ·have hv:¬(Pl.vb (inR d.n ⟨k,x,y,s,o⟩)=false):=by rw [Pl.vb_true hin];decide
  have e0:apC d ⟨k,x,y,s,o⟩=if k=1 then curlableC d x else if k=2 then uncC d x.toNat else if k=3 then pkQ d x y s else if k=4 then unpC d x.toNat y.toNat else sldC d x.toNat:=by unfold apC;rw [if_neg hk,if_neg hv]
  rw [e0] at h
  have hk5:k=1∨k=2∨k=3∨k=4∨k=5:=by omega
  rcases hk5 with rfl | rfl | rfl | rfl | rfl
  ·have hsg:s=1∨s = -1:=by have:=hin;unfold inR at this;simp at this;omega
   refine ⟨?_,?_,?_⟩
   ·show (d.sg++[s]).sum=d.sg.sum+s
    simp
   ·show ((d.sg++[s]).length:Int)=d.sg.length+1
    simp
   ·show Sml (d.sg++[s])
    exact sml_app hs (fun z hz=>by simp at hz;subst hz;omega)
  ·obtain ⟨c,rfl⟩:=Int.eq_ofNat_of_zero_le (show 0≤x by have:=hin;unfold inR at this;simp at this;omega)
   have hc:c<d.sg.length:=by have:=hin;unfold inR at this;simp [Pl.Dg.n] at this;omega
   refine ⟨?_,?_,?_⟩
   ·show (Pl.shrS [c] d.sg).sum=d.sg.sum + -(d.s c)
    rw [Pl.shrS_one d.sg hc]
    show _ - d.sg.getD c 0=_ + -(d.sg.getD c 0)
    omega
   ·show ((Pl.shrS [c] d.sg).length:Int)=d.sg.length + -1
    have:=Pl.left_one hc
    rw [Pl.shrS_len]
    omega
   ·show Sml (Pl.shrS [c] d.sg)
    exact shr_sml hs _
  ·refine ⟨?_,?_,?_⟩
   ·show (d.sg++[_,_]).sum=d.sg.sum+0
    have:=poke_signs d x y o
    simp
    omega
   ·show ((d.sg++[_,_]).length:Int)=d.sg.length+2
    simp
   ·show Sml (d.sg++[_,_])
    refine sml_app hs (fun z hz=>?_)
    simp at hz
    rcases hz with rfl | rfl <;> exact sgn2_sml _ _
  ·obtain ⟨a,rfl⟩:=Int.eq_ofNat_of_zero_le (show 0≤x by have:=hin;unfold inR at this;simp at this;omega)
   obtain ⟨b,rfl⟩:=Int.eq_ofNat_of_zero_le (show 0≤y by have:=hin;unfold inR at this;simp at this;omega)
   have hab:a<b∧b<d.n:=by have:=hin;unfold inR at this;simp at this;omega
   have h':unpC d a b=0:=h
   have eD:apD d ⟨4,(a:Int),(b:Int),s,o⟩=unpD d a b:=rfl
   cases hL:lensI d a b with
   | none=>unfold unpC at h';rw [hL] at h';exact absurd (show (6:Int)=0 from h') (by decide)
   | some i =>
     have eS:(unpD d a b).sg=Pl.shrS [a,b] d.sg:=by unfold unpD;rw [hL];rfl
     obtain ⟨h1,h2,h3⟩:=lens_is hL
     have hi:=lens_lt hL
     have hl:lnH a b i<4 * d.n:=by unfold lnH;split <;> omega
     have sg:=Pl.lens_signs hd.wf hl h2 h3
     rw [h1] at sg
     have sab:d.s a+d.s b=0:=by
      unfold lnH lnO at sg
      by_cases h4:i<4
      ·rw [if_pos h4,if_pos h4,show (4 * a+i) / 4=a by omega] at sg
       exact sg
      ·rw [if_neg h4,if_neg h4,show (4 * b+i - 4) / 4=b by omega] at sg
       omega
     have hb:b<d.sg.length:=hab.2
     rw [eD,eS]
     refine ⟨?_,?_,?_⟩
     ·show (Pl.shrS [a,b] d.sg).sum=d.sg.sum+0
      rw [Pl.shrS_two d.sg hab.1 hb]
      unfold Pl.Dg.s at sab
      omega
     ·show ((Pl.shrS [a,b] d.sg).length:Int)=d.sg.length + -2
      have:=Pl.left_two hab.1 hb
      rw [Pl.shrS_len]
      omega
     ·exact shr_sml hs _
  ·refine ⟨?_,?_,?_⟩
   ·show d.sg.sum=d.sg.sum+0
    omega
   ·show (d.sg.length:Int)=d.sg.length+0
    omega
   ·exact hs
 ·unfold apC at h
  rw [if_neg hk,if_pos (Pl.vb_false hin)] at h
  exact absurd h (by decide)
end Go.Proofs.YtdgliimmnnhhjaaGreatDoor
end
section
namespace Go.Proofs.YtdgliimmnnhhjaaGreatDoor
open Go Go.RowKit
theorem apC_zero {d:Pl.Dg}{m:Mv}(h:apC d m=0):(1≤m.kind∧m.kind≤5)∧inR d.n m ∧
 (if m.kind=1 then curlableC d m.x else if m.kind=2 then uncC d m.x.toNat else if m.kind=3 then pkQ d m.x m.y m.sign else if m.kind=4 then unpC d m.x.toNat m.y.toNat else sldC d m.x.toNat)=0:=by
 unfold apC at h
 by_cases hk:m.kind<1∨5<m.kind
 ·rw [if_pos hk] at h;exact absurd h (by decide)
 ·rw [if_neg hk] at h
  by_cases hv:Pl.vb (inR d.n m)=false
  ·rw [if_pos hv] at h;exact absurd h (by decide)
  ·rw [if_neg hv] at h
   exact ⟨by omega,Pl.vb_iff.1 (by simpa using hv),h⟩
theorem crl_ok {d:Pl.Dg}(hd:Pl.Valid d){x s:Int}{ov:Bool}(hx:-1≤x∧x<4 * d.n)(hs:s=1∨s = -1)(h:curlableC d x=0):Pl.Valid (crl d x s ov)∧Pl.Same d (crl d x s ov):=by
 unfold curlableC at h
 obtain ⟨a1,a2,a3,a4,n1,n2,n3,n4,n5,n6⟩:=(kq d.n s ov hs).bd
 have hl:=hd.wf.len
 by_cases hx0:x<0
 ·rw [if_pos hx0] at h
  have hlp:¬d.lp=0:=fun e=>by rw [if_pos e] at h;exact absurd h (by decide)
  rw [if_neg hlp] at h
  have hn:d.n+1≤64:=Nat.le_of_not_lt fun e=>by unfold fullC at h;rw [if_pos e] at h;exact absurd h (by decide)
  have hv:=crl_loop hd (x:=x) (ov:=ov) hs hn hx0
  have hm:=crl_mloop hd.wf (x:=x) (ov:=ov) hs hx0
  refine ⟨hv,Pl.Kd.same0 hd hv (crl_kd hd.wf hs hn ?_ ?_) (fun h hh=>?_) ?_ ?_⟩
  ·rw [hm,if_neg (Ne.symm n1),if_neg n5,if_neg n4,if_pos rfl]
  ·rw [hm,if_neg (Ne.symm n2),if_neg n6,if_pos rfl]
  ·rw [hm,if_neg (by omega),if_neg (by omega),if_neg (by omega),if_neg (by omega),app_m (by omega)];rfl
  ·rw [hm,if_pos rfl]
  ·show d.lp=(if x<0 then d.lp - 1 else d.lp)+1
   rw [if_pos hx0];omega
 ·rw [if_neg hx0] at h
  obtain ⟨k,rfl⟩:=Int.eq_ofNat_of_zero_le (Int.not_lt.1 hx0)
  have hk:k<4 * d.n:=by omega
  rw [Int.toNat_natCast] at h
  by_cases ho:Pl.out d k=true
  ·rw [if_pos ho] at h
   have hn:d.n+1≤64:=Nat.le_of_not_lt fun e=>by unfold fullC at h;rw [if_pos e] at h;exact absurd h (by decide)
   have hv:=crl_edge hd (ov:=ov) hs hn hk ho
   have hy:=hd.wf.lt k hk
   have hne:=hd.wf.ne k hk
   have e:(crl d (k:Int) s ov).mt=jn (jn (jn (d.mt++List.replicate 4 0) (kO0 d.n s ov) (kI1 d.n s ov)) (kO1 d.n s ov) (d.m k)) k (kI0 d.n s ov):=by
    unfold crl;simp only [if_neg (show ¬((k:Int)<0) by omega),Int.toNat_natCast]
   have hm:∀z,(crl d (k:Int) s ov).m z=if z=kI0 d.n s ov then k else if z=k then kI0 d.n s ov else if z=d.m k then kO1 d.n s ov else if z=kO1 d.n s ov then d.m k else if z=kI1 d.n s ov then kO0 d.n s ov else if z=kO0 d.n s ov then kI1 d.n s ov else (d.mt++List.replicate 4 0).getD z z:=fun z=>by
    show (crl d (k:Int) s ov).mt.getD z z=_
    rw [e,jn_m _ _ _ _ _ (by rw [jn_len,jn_len];simp;omega) (by rw [jn_len,jn_len];simp;omega),jn_m _ _ _ _ _ (by rw [jn_len];simp;omega) (by rw [jn_len];simp;omega),jn_m _ _ _ _ _ (by simp;omega) (by simp;omega)]
   refine ⟨hv,Pl.Kd.same hd hv (crl_kd hd.wf hs hn ?_ ?_) hk (fun h hh h1 h2=>?_) ?_ ?_ ?_ ?_ ?_⟩
   ·rw [hm,if_neg (Ne.symm n1),if_neg (by omega),if_neg (by omega),if_neg n5,if_neg n4,if_pos rfl]
   ·rw [hm,if_neg (Ne.symm n2),if_neg (by omega),if_neg (by omega),if_neg n6,if_pos rfl]
   ·rw [hm,if_neg (by omega),if_neg h1,if_neg h2,if_neg (by omega),if_neg (by omega),if_neg (by omega),app_m (by omega)];rfl
   ·rw [hm,if_neg (Ne.symm n3),if_neg (by omega),if_neg (by omega),if_pos rfl]
   ·rw [hm,if_neg (by omega),if_neg hne,if_pos rfl]
   ·rw [hm,if_neg (by omega),if_pos rfl]
   ·rw [hm,if_pos rfl]
   ·show d.lp=if (k:Int)<0 then d.lp - 1 else d.lp
    rw [if_neg (by omega)]
  ·rw [if_neg ho] at h;exact absurd h (by decide)
theorem kk_div (d:Pl.Dg)(c:Nat):kk d c / 4=c:=by unfold kk;split <;> (try split) <;> omega
theorem jn_jl (l:List Nat)(a b:Nat):jn l a b=Pl.jl l a b:=rfl
theorem unD_ok {d:Pl.Dg}(hd:Pl.Valid d){c:Nat}(hc:c<d.n)(h:uncC d c=0):Pl.Valid (unD d c)∧Pl.Same d (unD d c):=by
 have hw:=hd.wf
 have ho:=kk_lt hc
 have hod:=kk_div d c
 unfold uncC at h
 by_cases hk:d.m (kk d c) / 4=c
 ·rw [if_pos hk] at h
  have hk2:d.m (kk d c) / 4=kk d c / 4:=by rw [hod,hk]
  unfold unD unM
  by_cases hn:d.m (kA d c)=kB d c
  ·rw [if_pos hn] at h
   have hl:d.lp+1≤64:=Nat.le_of_not_lt fun e=>by rw [if_pos e] at h;exact absurd h (by decide)
   rw [if_pos hn,if_pos hn]
   have v:=Pl.kink_valid0 hd ho hk2 hn hl
   have s:=Pl.kink_same0 hd ho hk2 hn hl rfl
   rw [hod] at v s
   exact ⟨v,s⟩
  ·rw [if_neg hn,if_neg hn]
   have hA:=kA_lt hc
   have hB:=kB_lt hw hc
   have nAB:d.m (kA d c)≠d.m (kB d c):=fun e=>hw.ne _ ho (Pl.tn_inj (hw.bij.inj _ _ hA hB e).symm)
   have hmt:∀z,z<4 * d.n→(jn d.mt (d.m (kA d c)) (d.m (kB d c))).getD z 0=if z=d.m (kA d c) then d.m (kB d c) else if z=d.m (kB d c) then d.m (kA d c) else d.m z:=fun z hz=>by
    rw [jn_jl,Pl.jl_at (by rw [hw.len];exact hw.lt _ hA) (by rw [hw.len];exact hw.lt _ hB),Pl.dg_m hw hz]
    by_cases z1:z=d.m (kB d c)
    ·rw [if_pos z1,if_neg (fun e=>nAB (e.symm.trans z1)),if_pos z1]
    ·rw [if_neg z1,if_neg z1]
   have v:=Pl.kink_valid hd ho hk2 hn hw.lp hmt
   have s:=Pl.kink_same hd ho hk2 hn hw.lp rfl hmt
   rw [hod] at v s
   exact ⟨v,s⟩
 ·rw [if_neg hk] at h;exact absurd h (by decide)
theorem lens_lens {d:Pl.Dg}(hd:Pl.Wf d){x y i:Nat}(hxy:x<y)(hy:y<d.n)(h:lensI d x y=some i) :
 Pl.Lens d (lnH x y i) (d.m (lnH x y i))∧((x=lnH x y i / 4∧y=d.m (lnH x y i) / 4)∨(x=d.m (lnH x y i) / 4∧y=lnH x y i / 4))∧Pl.nx d (lnH x y i)=Pl.tn (d.m (lnH x y i)) 3∧d.m (Pl.tn (d.m (lnH x y i)) 3)=Pl.tn (lnH x y i) 1:=by
 obtain ⟨h1,h2,h3⟩:=lens_is h
 have hi:=lens_lt h
 have hl:lnH x y i<4 * d.n:=by unfold lnH;split <;> omega
 have hu:=hd.lt _ hl
 have e1:d.m (Pl.tn (d.m (lnH x y i)) 3)=Pl.tn (lnH x y i) 1:=by
  unfold Pl.nx at h2
  unfold Pl.tn at h2 ⊢
  omega
 have e2:Pl.nx d (lnH x y i) / 4=d.m (lnH x y i) / 4:=by unfold Pl.nx;rw [Pl.tn_div]
 have e3:lnH x y i / 4=if i<4 then x else y:=by unfold lnH;split <;> omega
 rw [e2] at h1
 unfold lnO at h1
 have hp:(x=lnH x y i / 4∧y=d.m (lnH x y i) / 4)∨(x=d.m (lnH x y i) / 4∧y=lnH x y i / 4):=by
  by_cases h4:i<4
  ·rw [if_pos h4] at h1 e3;exact .inl ⟨e3.symm,h1.symm⟩
  ·rw [if_neg h4] at h1 e3;exact .inr ⟨h1.symm,e3.symm⟩
 refine ⟨⟨hl,rfl,by rw [←e1,hd.inv _ (Pl.tn_lt hu)],fun e=>?_⟩,hp,rfl,e1⟩
 rcases hp with ⟨a,b⟩ | ⟨a,b⟩ <;> omega
theorem unp_at {d:Pl.Dg}(hd:Pl.Valid d){h u:Nat}(L:Pl.Lens d h u)(l:Ln)(e2:l.p2=Pl.tn h 2)(e3:l.p3=Pl.tn h 3)(f0:l.q0=Pl.tn u 2)(f3:l.q3=Pl.tn u 1) :
 unpL d l=d.lp+(if d.m (Pl.tn h 2)=Pl.tn u 2 then 1 else 0)+(if Pl.lA d h u (Pl.tn h 3)=Pl.tn u 1 then 1 else 0) ∧
 ∀z,z<4 * d.n→z / 4≠h / 4→z / 4≠u / 4→(unpB d l).getD z 0=Pl.lB d h u z:=by
 have hw:=hd.wf
 have hh:=L.hh
 have hu:=L.hu hw
 have A:=L.la hd
 have E:=L.ne
 have hA:Pl.tn h 2<4 * d.n:=Pl.tn_lt hh
 have hB:Pl.tn u 2<4 * d.n:=Pl.tn_lt hu
 have h3:Pl.tn h 3<4 * d.n:=Pl.tn_lt hh
 have u1:Pl.tn u 1<4 * d.n:=Pl.tn_lt hu
 have al:∀z,z<4 * d.n→z≠Pl.tn h 2→z≠Pl.tn u 2→(unpA d l).getD z 0=Pl.lA d h u z:=fun z hz z1 z2=>by
  unfold unpA
  rw [e2,f0,Pl.dg_m hw hA,Pl.dg_m hw hB]
  by_cases c:d.m (Pl.tn h 2)=Pl.tn u 2
  ·rw [if_pos c,Pl.Lens.lA_c c,Pl.dg_m hw hz]
  ·rw [if_neg c,jn_jl,Pl.jl_at (by rw [hw.len];exact hw.lt _ hA) (by rw [hw.len];exact hw.lt _ hB),Pl.dg_m hw hz]
   obtain ⟨b1,b2,b3⟩:=L.lA_e hw c
   by_cases z4:z=d.m (Pl.tn u 2)
   ·rw [if_pos z4,z4,b2]
   ·rw [if_neg z4]
    by_cases z3:z=d.m (Pl.tn h 2)
    ·rw [if_pos z3,z3,b1]
    ·rw [if_neg z3,b3 z z1 z2 z3 z4]
 have alen:(unpA d l).length=4 * d.n:=by unfold unpA;split <;> simp [jn_len,hw.len]
 have a3:=al (Pl.tn h 3) h3 (Pl.tn_ne (by omega)) (Pl.pm E)
 have a1:=al (Pl.tn u 1) u1 (Ne.symm (Pl.pm E)) (Pl.tn_ne (by omega))
 constructor
 ·unfold unpL
  rw [e2,f0,e3,f3,Pl.dg_m hw hA,a3]
 ·intro z hz n1 n2
  have z0:∀k,z≠Pl.tn h k:=fun k e=>n1 (by rw [e,Pl.tn_div])
  have z1:∀k,z≠Pl.tn u k:=fun k e=>n2 (by rw [e,Pl.tn_div])
  unfold unpB
  rw [e3,f3,a3,a1]
  by_cases c:Pl.lA d h u (Pl.tn h 3)=Pl.tn u 1
  ·rw [if_pos c,Pl.Lens.lB_c c,al z hz (z0 2) (z1 2)]
  ·rw [if_neg c,jn_jl,Pl.jl_at (by rw [alen];exact A.hm.ab.maps _ h3) (by rw [alen];exact A.hm.ab.maps _ u1),al z hz (z0 2) (z1 2)]
   obtain ⟨b1,b2,b3⟩:=L.lB_e hd c
   by_cases z4:z=Pl.lA d h u (Pl.tn u 1)
   ·rw [if_pos z4,z4,b2]
   ·rw [if_neg z4]
    by_cases z3:z=Pl.lA d h u (Pl.tn h 3)
    ·rw [if_pos z3,z3,b1]
    ·rw [if_neg z3,b3 z (z0 3) (z1 1) z3 z4]
theorem unpD_ok {d:Pl.Dg}(hd:Pl.Valid d){x y:Nat}(hxy:x<y)(hy:y<d.n)(h:unpC d x y=0):Pl.Valid (unpD d x y)∧Pl.Same d (unpD d x y):=by
 unfold unpC at h
 unfold unpD
 cases hL:lensI d x y with
 | none=>rw [hL] at h;exact absurd (show (6:Int)=0 from h) (by decide)
 | some i =>
   rw [hL] at h
   have h':(if 64<unpL d (lensOf d (lnH x y i)) then (5:Int) else 0)=0:=h
   have hl:unpL d (lensOf d (lnH x y i))≤64:=Nat.le_of_not_lt fun e=>by rw [if_pos e] at h';exact absurd h' (by decide)
   obtain ⟨L,hp,e1,e2⟩:=lens_lens hd.wf hxy hy hL
   obtain ⟨g1,g2⟩:=unp_at hd L (lensOf d (lnH x y i)) rfl (by show Pl.tn (d.m (Pl.nx d (lnH x y i))) 2=_;rw [e1,e2];exact Pl.tn12 _) rfl (by show Pl.tn (Pl.nx d (lnH x y i)) 2=_;rw [e1];exact Pl.tn32 _)
   have hmt:∀z,Pl.stay d [x,y] z→(unpB d (lensOf d (lnH x y i))).getD z 0=Pl.lB d (lnH x y i) (d.m (lnH x y i)) z:=fun z hz=>by
    have hz2:¬(z / 4=x∨z / 4=y):=by have:=hz.2;simpa using this
    refine g2 z hz.1 ?_ ?_ <;> rcases hp with ⟨a,b⟩ | ⟨a,b⟩ <;> omega
   exact ⟨L.valid hd hxy hp hl hmt,L.same hd hxy hp hl g1 hmt⟩
end Go.Proofs.YtdgliimmnnhhjaaGreatDoor
end
section
namespace Go.Proofs.YtdgliimmnnhhjaaGreatDoor
open Go Go.RowKit
theorem fwd_nat (d:Pl.Dg)(x:Nat):fwd d (x:Int)=Pl.out d x:=by
 unfold fwd
 rw [if_neg (by omega),if_pos (by omega),Int.toNat_natCast]
theorem plc_pp (n s t:Nat)(h:s≤4):plc n s t=Pl.pp n (4 - s) t:=by unfold plc Pl.pp;omega
theorem unS_le (d:Pl.Dg)(x y:Int)(ov:Bool):un0 d x y ov≤4∧un1 d x y ov≤4:=by
 unfold un0 un1 lnS th0 th1
 cases ov <;> cases fwd d x <;> cases fwd d y <;> decide
def pkF (d:Pl.Dg)(x y:Int)(ov:Bool):Nat:=4 - un0 d x y ov
def pkG (d:Pl.Dg)(x y:Int)(ov:Bool):Nat:=4 - un1 d x y ov
theorem pP_pp (d:Pl.Dg)(x y:Int)(ov:Bool)(t:Nat):pP d x y ov t=Pl.pp d.n (pkF d x y ov) t:=plc_pp _ _ _ (unS_le d x y ov).1
theorem pQ_pp (d:Pl.Dg)(x y:Int)(ov:Bool)(t:Nat):pQ d x y ov t=Pl.pp (d.n+1) (pkG d x y ov) t:=plc_pp _ _ _ (unS_le d x y ov).2
theorem pk0_l0 (d:Pl.Dg)(x y:Int)(ov:Bool):pk0 d x y ov=Pl.pkL0 d (pkF d x y ov) (pkG d x y ov):=by
 unfold pk0 Pl.pkL0
 rw [pP_pp,pQ_pp,pQ_pp,pP_pp]
 rfl
theorem app_s0 (l:List Int)(a b:Int)(c:Nat)(h:c<l.length):(l++[a,b]).getD c 0=l.getD c 0:=by
 rw [List.getD_eq_getElem?_getD,List.getD_eq_getElem?_getD,List.getElem?_append_left h]
theorem app_s1 (l:List Int)(a b:Int):(l++[a,b]).getD l.length 0=a:=by
 rw [List.getD_eq_getElem?_getD,List.getElem?_append_right (Nat.le_refl _)];simp
theorem app_s2 (l:List Int)(a b:Int):(l++[a,b]).getD (l.length+1) 0=b:=by
 rw [List.getD_eq_getElem?_getD,List.getElem?_append_right (by omega)];simp
theorem out_pp (d:Pl.Dg)(n f t:Nat):Pl.out d (Pl.pp n f t)=((t+f) % 4 == 2 || ((t+f) % 4 == 1 && d.s n == 1) || ((t+f) % 4 == 3 && d.s n == -1)):=by
 unfold Pl.out
 rw [show Pl.pp n f t % 4=(t+f) % 4 by unfold Pl.pp;omega,show Pl.pp n f t / 4=n by unfold Pl.pp;omega]
theorem pk_pd {d:Pl.Dg}(hd:Pl.Valid d)(x y sg:Int)(ov:Bool)(hn:d.n+2≤64)(hl:(pkL d x y sg).toNat≤64):Pl.Pd d (pkD d x y sg ov) (pkF d x y ov) (pkG d x y ov) (fwd d x) (fwd d y):=by
 have s0:(pkD d x y sg ov).s d.n=sgn2 (un0 d x y ov) (ov0 d x y ov):=app_s1 _ _ _
 have s1:(pkD d x y sg ov).s (d.n+1)=sgn2 (un1 d x y ov) (ov1 d x y ov):=app_s2 _ _ _
 refine ⟨hn,by unfold Pl.Dg.n pkD;simp,hl,fun c hc=>app_s0 _ _ _ _ hc,by rw [s0];unfold sgn2;split <;> simp,by rw [s1];unfold sgn2;split <;> simp,?_,?_,?_,?_,?_,?_,?_,?_⟩
 all_goals
  rw [out_pp]
  first
   | rw [s0]
   | rw [s1]
  try unfold pkF
  try unfold pkG
  try unfold sgn2
  try unfold un0
  try unfold un1
  try unfold ov0
  try unfold ov1
  try unfold lnS
  try unfold th0
  try unfold th1
  try unfold plc
  cases ov <;> cases fwd d x <;> cases fwd d y <;> decide
theorem pk_ok {d:Pl.Dg}(hd:Pl.Valid d){x y sg:Int}{ov:Bool}(hin:inR d.n ⟨3,x,y,sg,ov⟩)(h:pkQ d x y sg=0):Pl.Valid (pkD d x y sg ov)∧Pl.Same d (pkD d x y sg ov) ∧
 ∃c1 c2,Pl.Out d (pkD d x y sg ov) (pkF d x y ov) (pkG d x y ov) c1 c2∧d.lp=(pkD d x y sg ov).lp+c1+c2:=by
 have hw:=hd.wf
 have hlp:=hw.lp
 unfold inR at hin
 simp only at hin
 rw [if_neg (by decide),if_neg (by decide),if_neg (by decide),if_neg (by decide)] at hin
 obtain ⟨x1,x2,y1,y2,hs⟩:=hin
 unfold pkQ at h
 have hneed:¬d.lp<needP x y sg:=fun e=>by rw [if_pos e] at h;exact absurd h (by decide)
 rw [if_neg hneed] at h
 have hnear:¬Pl.vb (0≤x∧0≤y∧x≠y∧¬nearP d x.toNat y.toNat)=true:=fun e=>by rw [if_pos e] at h;exact absurd h (by decide)
 rw [if_neg hnear] at h
 have hn:d.n+2≤64:=Nat.le_of_not_lt fun e=>by rw [if_pos e] at h;exact absurd h (by decide)
 rw [Pl.vb_iff] at hnear
 unfold needP at hneed
 have mt:(pkD d x y sg ov).mt=pkM d x y sg ov:=rfl
 have lpe:(pkD d x y sg ov).lp=(pkL d x y sg).toNat:=rfl
 by_cases hs0:sg=0
 ·subst hs0
  have eM:pkM d x y 0 ov=leadM d (leadM d (pk0 d x y ov) y (pQ d x y ov 0) (pP d x y ov 2)) x (pP d x y ov 3) (pQ d x y ov 3):=by
   unfold pkM;rw [if_neg (by simp),if_neg (by decide),if_neg (by decide)]
  rw [eM,pk0_l0,pQ_pp,pP_pp,pP_pp,pQ_pp] at mt
  by_cases hx:x<0 <;> by_cases hy:y<0
  ·rw [if_pos hx,if_pos ⟨hy,rfl⟩] at hneed
   have eL:(pkL d x y 0).toNat=d.lp - 2:=by unfold pkL;simp [hx,hy];try omega
   have K:=pk_pd hd x y 0 ov hn (by rw [eL];omega)
   have mt':=mt
   unfold leadM at mt'
   rw [if_pos hx,if_pos hy] at mt'
   have Y:=K.yloop hd
   have v:=Y.1.xloop hd K mt'
   have O:=K.out_loops hd v mt'
   exact ⟨v,O.same hd v (by rw [lpe,eL];omega),1,1,O,by rw [lpe,eL];omega⟩
  ·obtain ⟨k,rfl⟩:=Int.eq_ofNat_of_zero_le (Int.not_lt.1 hy)
   have hk:k<4 * d.n:=by omega
   rw [if_pos hx,if_neg (fun e=>hy e.1)] at hneed
   have eL:(pkL d x (k:Int) 0).toNat=d.lp - 1:=by unfold pkL;simp [hx,hy];try omega
   have K:=pk_pd hd x (k:Int) 0 ov hn (by rw [eL];omega)
   have mt':=mt
   unfold leadM at mt'
   rw [if_pos hx,if_neg hy,Int.toNat_natCast] at mt'
   obtain ⟨b,Y,_⟩:=K.yedge hd hk (fwd_nat d k).symm
   have v:=Y.xloop hd K mt'
   have O:=K.out_yedge hd v hk mt'
   exact ⟨v,O.same hd v (by rw [lpe,eL];omega),0,1,O,by rw [lpe,eL];omega⟩
  ·obtain ⟨k,rfl⟩:=Int.eq_ofNat_of_zero_le (Int.not_lt.1 hx)
   have hk:k<4 * d.n:=by omega
   rw [if_neg hx,if_pos ⟨hy,rfl⟩] at hneed
   have eL:(pkL d (k:Int) y 0).toNat=d.lp - 1:=by unfold pkL;simp [hx,hy];try omega
   have K:=pk_pd hd (k:Int) y 0 ov hn (by rw [eL];omega)
   have mt':=mt
   unfold leadM at mt'
   rw [if_neg hx,if_pos hy,Int.toNat_natCast] at mt'
   have Y:=K.yloop hd
   have v:=Y.1.xedge0 hd K Y.2 hk (fwd_nat d k).symm mt'
   have O:=K.out_xedge hd v hk mt'
   exact ⟨v,O.same hd v (by rw [lpe,eL];omega),1,0,O,by rw [lpe,eL];omega⟩
  ·obtain ⟨k,rfl⟩:=Int.eq_ofNat_of_zero_le (Int.not_lt.1 hx)
   obtain ⟨j,rfl⟩:=Int.eq_ofNat_of_zero_le (Int.not_lt.1 hy)
   have hk:k<4 * d.n:=by omega
   have hj:j<4 * d.n:=by omega
   have hne:(k:Int)≠(j:Int):=fun e=>by rw [if_neg (fun n=>n e),if_neg hx] at hs;omega
   have hkj:k≠j:=fun e=>hne (by rw [e])
   have near:nearP d k j:=Classical.byContradiction fun e=>hnear ⟨by omega,by omega,hne,by rw [Int.toNat_natCast,Int.toNat_natCast];exact e⟩
   have eL:(pkL d (k:Int) (j:Int) 0).toNat=d.lp:=by unfold pkL;simp [hx,hy]
   have K:=pk_pd hd (k:Int) (j:Int) 0 ov hn (by rw [eL];omega)
   have mt':=mt
   unfold leadM at mt'
   rw [if_neg hx,if_neg hy,Int.toNat_natCast,Int.toNat_natCast] at mt'
   have v:=K.edges hd hk hj (fwd_nat d k).symm (fwd_nat d j).symm hkj near.2 near.1 mt'
   have O:=K.out_edges hd v hk hj hkj near.2 mt'
   exact ⟨v,O.same hd v (by rw [lpe,eL];omega),0,0,O,by rw [lpe,eL];omega⟩
 ·have hxy:x=y:=Classical.byContradiction fun e=>hs0 (by rw [if_pos e] at hs;exact hs)
  subst hxy
  rw [if_neg (by simp)] at hs
  by_cases hx:x<0
  ·rw [if_pos hx] at hs
   have eM:pkM d x x sg ov=jn (jn (pk0 d x x ov) (pQ d x x ov 3) (pQ d x x ov 0)) (pP d x x ov 2) (pP d x x ov 3):=by unfold pkM;rw [if_pos ⟨hs0,hx⟩]
   rw [eM,pk0_l0,pQ_pp,pQ_pp,pP_pp,pP_pp] at mt
   rw [if_pos hx,if_neg (fun e=>hs0 e.2)] at hneed
   have eL:(pkL d x x sg).toNat=d.lp - 1:=by unfold pkL;rw [if_pos ⟨hs0,hx⟩];omega
   have K:=pk_pd hd x x sg ov hn (by rw [eL];omega)
   have v:=K.self0 hd mt
   have O:=K.out_self0 hd v mt
   exact ⟨v,O.same hd v (by rw [lpe,eL];omega),0,1,O,by rw [lpe,eL];omega⟩
  ·rw [if_neg hx] at hs
   obtain ⟨k,rfl⟩:=Int.eq_ofNat_of_zero_le (Int.not_lt.1 hx)
   have hk:k<4 * d.n:=by omega
   have eL:(pkL d (k:Int) (k:Int) sg).toNat=d.lp:=by unfold pkL;rw [if_neg (fun e=>hx e.2),if_neg hs0];omega
   have K:=pk_pd hd (k:Int) (k:Int) sg ov hn (by rw [eL];omega)
   rcases hs with rfl | rfl
   ·have eM : pkM d (k : Int) (k : Int) 1 ov = jn (jn (jn (pk0 d (k : Int) (k : Int) ov) k (pP d (k : Int) (k : Int) ov 3)) (pQ d (k : Int) (k : Int) ov 3) (pQ d (k : Int) (k : Int) ov 0)) (pP d (k : Int) (k : Int) ov 2) (d.m k) := by
     unfold pkM;rw [if_neg (fun e=>hx e.2),if_pos rfl,Int.toNat_natCast]
    rw [eM,pk0_l0,pQ_pp,pQ_pp,pP_pp,pP_pp] at mt
    have v:=K.self1 hd hk (fwd_nat d k).symm mt
    have O:=K.out_self1 hd v hk mt
    exact ⟨v,O.same hd v (by rw [lpe,eL];omega),0,0,O,by rw [lpe,eL];omega⟩
   ·have eM : pkM d (k : Int) (k : Int) (-1) ov = jn (jn (jn (pk0 d (k : Int) (k : Int) ov) k (pQ d (k : Int) (k : Int) ov 0)) (pP d (k : Int) (k : Int) ov 2) (pP d (k : Int) (k : Int) ov 3)) (pQ d (k : Int) (k : Int) ov 3) (d.m k) := by
     unfold pkM;rw [if_neg (fun e=>hx e.2),if_neg (by decide),if_pos rfl,Int.toNat_natCast]
    rw [eM,pk0_l0,pQ_pp,pQ_pp,pP_pp,pP_pp] at mt
    have v:=K.self2 hd hk (fwd_nat d k).symm mt
    have O:=K.out_self2 hd v hk mt
    exact ⟨v,O.same hd v (by rw [lpe,eL];omega),0,0,O,by rw [lpe,eL];omega⟩
theorem ap_ok4 {d:Pl.Dg}(hd:Pl.Valid d){m:Mv}(h5:m.kind≠5)(h:apC d m=0):Pl.Valid (apD d m)∧Pl.Same d (apD d m):=by
 obtain ⟨hk,hin,hc⟩:=apC_zero h
 obtain ⟨k,x,y,s,o⟩:=m
 simp only at hk hc h5
 have hk5:k=1∨k=2∨k=3∨k=4:=by omega
 rcases hk5 with rfl | rfl | rfl | rfl
 ·have hb:(-1≤x∧x<4 * d.n)∧(s=1∨s = -1):=by unfold inR at hin;simp at hin;exact ⟨⟨hin.1,hin.2.1⟩,hin.2.2.2⟩
  exact crl_ok hd hb.1 hb.2 hc
 ·obtain ⟨c,rfl⟩:=Int.eq_ofNat_of_zero_le (show 0≤x by unfold inR at hin;simp at hin;omega)
  have hcn:c<d.n:=by unfold inR at hin;simp at hin;omega
  exact unD_ok hd hcn hc
 ·have:=pk_ok hd hin hc
  exact ⟨this.1,this.2.1⟩
 ·obtain ⟨a,rfl⟩:=Int.eq_ofNat_of_zero_le (show 0≤x by unfold inR at hin;simp at hin;omega)
  obtain ⟨b,rfl⟩:=Int.eq_ofNat_of_zero_le (show 0≤y by unfold inR at hin;simp at hin;omega)
  have hab:a<b∧b<d.n:=by unfold inR at hin;simp at hin;omega
  exact unpD_ok hd hab.1 hab.2 hc
end Go.Proofs.YtdgliimmnnhhjaaGreatDoor
end
section
namespace Go.Proofs.YtdgliimmnnhhjaaGreatDoor
open Go Go.RowKit
attribute [local go_sem ↓] Go.wp_at_zero Go.wp_at_succ
section
variable {w W W':World} {ga k:Nat} {most:Int} {d r:Pl.Dg} {cs:List Int} {l:List Mv} {v:Value} {A9 B9:Option Addr} {n c8 m c9 lp:Nat}
end
theorem own_row_neM {W:World}{base b n:Nat}{t:TypeId}{v:Value}{xs vs:List Value}(h:W.ownsRow base 43 5 v n xs)(hr:Row W b t vs)(ht:43≠t):some b≠v.ownBlock:=by
 intro e
 obtain ⟨cs,fr,h3⟩:=ownsRow_block h b e.symm
 rw [hr] at h3
 injection h3 with h3
 injection h3 with _ h4
 exact ht h4.symm
theorem DgT.grownM {w w':World}{A B:Option Addr}{d:Pl.Dg}{base n:Nat}{v:Value}{xs:List Value}(h:DgT w A B d)(ho:w.ownsRow base 43 5 v n xs)(hg:w.grownBy w' v.ownBlock):DgT w' A B d :=
 ⟨h.s.grown hg (fun g e=>ownsRow_block ho g e) (by decide),h.m.grown hg (fun g e=>ownsRow_block ho g e) (by decide)⟩
end Go.Proofs.YtdgliimmnnhhjaaGreatDoor
end
section
namespace Go.Proofs.YtdgliimmnnhhjaaGreatDoor
open Go Go.RowKit
attribute [local go_sem ↓] Go.wp_at_zero Go.wp_at_succ
def seen (L:List Mv)(x q:Nat):Bool:=(L.take q).any (fun z=>z.x == (x:Int))
end Go.Proofs.YtdgliimmnnhhjaaGreatDoor
end
