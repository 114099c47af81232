/-
  The texts Sa, Lg, Sb.
-/
import Derived.Test.YtdgliimmnnhhjaaGreatDoorU03
import Derived.Test.YtdgliimmnnhhjaaGreatDoorU08
import Derived.Test.YtdgliimmnnhhjaaGreatDoorU13
set_option linter.unusedVariables false
set_option linter.unusedSimpArgs false
section
namespace Go.Proofs.YtdgliimmnnhhjaaGreatDoor
open Go Go.RowKit
theorem r1turn2 (h:Nat)(w:World)(hh:h≤1000000) :
 Calls Tryz.prog 60 #[.int .i64 (h:Int),.int .i64 2] w fun e w'=>e = .returned (.int .i64 (Pl.tn h 2:Nat))∧w'=w:=by
 have t1:decide ((h:Int)<0)=false:=by simp
 go_enter Tryz.func60,Tryz.ntmps60
 go_wp2
 go_ret
 exact ⟨ret_int (by unfold Pl.tn;omega),rfl⟩
theorem r1out_any (d:Pl.Dg)(A:Option Addr)(n cp:Nat)(h:Nat)(w:World)(e:n=d.n)(hh:h<4 * n)(hn:n≤1000)(hs:IntsAt w A n d.sg) :
 Calls Tryz.prog 13 #[.slice A n cp,.int .i64 (h:Int)] w fun e w'=>e = .returned (.bool (Pl.out d h))∧w'=w:=by
 subst e
 obtain ⟨b,o,rfl,hc⟩:=sign_at hs (c:=h / 4) (by omega)
 have h4:h % 4=0∨h % 4=1∨h % 4=2∨h % 4=3:=by omega
 go_enter Tryz.func13,Tryz.ntmps13
 rcases h4 with h4 | h4 | h4 | h4
 ·have E:=out_zero (d:=d) h4
  go_wp2
  all_goals
   go_ret
   refine ⟨ret_bool ?_,rfl⟩
   rw [E]
   first
    | done
    | rfl
    | (simp;done)
    | (simp;omega)
    | simp_all
 ·have E:=out_one (d:=d) h4
  go_wp2
  all_goals
   go_ret
   refine ⟨ret_bool ?_,rfl⟩
   rw [E]
   first
    | done
    | rfl
    | (simp;done)
    | (simp;omega)
    | simp_all
 ·have E:=out_two (d:=d) h4
  go_wp2
  all_goals
   go_ret
   refine ⟨ret_bool ?_,rfl⟩
   rw [E]
   first
    | done
    | rfl
    | (simp;done)
    | (simp;omega)
    | simp_all
 ·have E:=out_three (d:=d) h4
  go_wp2
  all_goals
   go_ret
   refine ⟨ret_bool ?_,rfl⟩
   rw [E]
   first
    | done
    | rfl
    | (simp;done)
    | (simp;omega)
    | simp_all
set_option maxRecDepth 100000 in
set_option maxHeartbeats 2000000 in
theorem rstrand_any (d:Pl.Dg)(hd:Pl.Wf d)(A B:Option Addr)(cp cq m:Nat)(l:Value)(h p:Nat)(w:World)(hm:m=4 * d.n)(hb:IntsAt w B m (nats d.mt))(hh:h<4 * d.n)(hp:Pl.Per (Pl.st d) h p)(hpN:p≤4 * d.n) :
 Calls Tryz.prog 56 #[.agg #[.slice A d.n cp,.slice B m cq,l],.int .i64 (h:Int)] w (fun e w'=>∃(A5:Option Addr) (c5:Nat),e = .returned (.slice A5 p c5)∧w'.ownsRow w.heap.size 3 1 (.slice A5 p c5) p ((Pl.cyc (Pl.st d) h p).map (fun k:Nat=>Value.int .i64 k))∧Below w.heap.size w w'):=by
 have hn:=hd.few
 have HD:=hide hd
 have HP:=hide hp
 have HM:=hide hm
 have HB:=hide hb
 have hp0:=hp.1
 have HPN:=hide hpN
 have hp4:p≤256:=by omega
 have hm4:m≤256:=by omega
 have hpm:p≤m:=by omega
 have hb1:Below w.heap.size w (w.alloc (.cells #[.slice A d.n cp,.slice B m cq,l] 24)):=(Below.refl _ _).alloc (Nat.le_refl _) _
 have B0:=hide hb1
 have X0:=hide (row_at (W:=w) (g:=w.heap.size) (t:=24) (vs:=[.slice A d.n cp,.slice B m cq,l]) rfl)
 clear hp hm hb hd hb1 hpN
 obtain ⟨W1,hW1⟩:∃W1:World,W1=(w.alloc (.cells #[.slice A d.n cp,.slice B m cq,l] 24)).alloc (.cells #[.int .i64 (h:Int)] 3):=⟨_,rfl⟩
 have B1:=hide (show Below w.heap.size w W1 by rw [hW1];exact B0.out.alloc (by simp) _)
 have X1:=hide (show Row W1 w.heap.size 24 [.slice A d.n cp,.slice B m cq,l] by rw [hW1];exact X0.out.alloc _)
 have O1:=hide (show W1.ownsRow (w.heap.size+1) 3 1 (.slice (some ⟨w.heap.size+1,0,none⟩) 1 1) 1 [.int .i64 (h:Int)] by
  rw [hW1]
  have:=own_one (w.alloc (.cells #[.slice A d.n cp,.slice B m cq,l] 24)) (.int .i64 (h:Int))
  simpa using this)
 obtain ⟨d0,d1,d2,_⟩:=box3 X1.out
 have lth:=HD.out.lt h hh
 obtain ⟨mb,mo,rfl,mc⟩:=mate_at (by rw [←HM.out];exact HB.out.keep B1.out) hh
 obtain ⟨u,hu⟩:∃u,u=d.m h:=⟨_,rfl⟩
 have HU:=hide hu
 rw [←hu] at mc lth
 clear hu
 have hhm:h<m:=by rw [HM.out];exact hh
 go_enter Tryz.func56,Tryz.ntmps56
 rw [hW1] at d0 d1 d2 mc
 go_wp2_with fail
 rw [←hW1]
 clear hW1 d0 d1 d2 mc
 refine (r1turn2 u _ (by omega)).mono ?_
 rintro e w2 ⟨rfl,rfl⟩
 go_wp2_with fail
 go_loopg [5,6] (p - 1) (fun g v i wx=>∃j:Nat,j+1+g=p∧i = .int .i64 (Pl.it (Pl.st d) (j+1) h:Nat)∧wx.ownsRow (w.heap.size+1) 3 1 v (j+1) ((Pl.cyc (Pl.st d) h (j+1)).map (fun k:Nat=>Value.int .i64 k))∧Below w.heap.size w wx∧Row wx w.heap.size 24 [.slice A d.n cp,.slice (some ⟨mb,mo,none⟩) m cq,l])
 case atStart=>exact ⟨0,by omega,by rw [HU.out];rfl,O1.out,B1.out,X1.out⟩
 case round =>
  clear B1 X1 O1 X0 B0
  obtain ⟨j,hjg,rfl,own,hb,hx0⟩:=hrel
  have HJ:=hide hjg
  have hjp:j+1≤p:=by omega
  have OWN:=hide own
  have HBL:=hide hb
  have X:=hide hx0
  have hbs:=hb.size
  obtain ⟨x,hx⟩:∃x,x=Pl.it (Pl.st d) (j+1) h:=⟨_,rfl⟩
  rw [←hx]
  have HX:=hide hx
  have hxN:x<4 * d.n:=by rw [hx];exact it_lt (fun y hy=>(Pl.st_bij HD.out).maps y hy) hh (j+1)
  clear hjg own hb hx hx0
  obtain ⟨A0,c0,hv0⟩:=owns_slice OWN.out
  by_cases he:x=h
  ·have hjj:¬j+1<p:=fun hlt=>HP.out.2.2 (j+1) (by omega) hlt (by rw [←HX.out,he])
   have t1:((x:Int) != (h:Int))=false:=by rw [bne_eq_false_iff_eq];omega
   have HE:=hide he
   obtain rfl:j+1=p:=by omega
   subst hv0
   clear he hjj
   go_wp2
   go_ret
   exact ⟨A0,c0,rfl,own_keep OWN.out (Below.refl _ _) (by omega),HBL.out⟩
  ·have t1:((x:Int) != (h:Int))=true:=by rw [bne_iff_ne];omega
   have hjj:j+1<p:=by
    rcases Nat.lt_or_ge (j+1) p with h1 | h1
    ·exact h1
    ·have:j+1=p:=by omega
     exact absurd (by rw [HX.out,this];exact HP.out.2.1) he
   clear he
   subst hv0
   obtain ⟨i0,hi0,hz0,hz1,hz2⟩:=info_parts intInfo
   have hwz1:w.heap.size+1≤wr.heap.size:=X.out.lt
   obtain ⟨e0,e1,e2,e3⟩:=box3 X.out
   go_wp2_with (at_builtin;refine wpList_append_lies _ (by rfl) _ _ 22 (by rfl) (w.heap.size+1) 3 i0 (.int .i64 0) 1 8 Tryz.underlying22 hi0 hz0 hz1 hz2 rfl (by omega) _ (j+1) _ (by rfl) (OWN.out.alloc _) ⟨wr.heap.size,0,none⟩ 1 1 [.int .i64 (x:Int)] (by rfl) (by rfl) (one_news wr (.int .i64 (x:Int))) (by simp [Value.oneCell']) (by omega) (by unfold maxLen;omega) (by omega) (by simp;omega) (wr.heap.size+1) (by simp) ?_;intro g3 c3 w3 own3 grow3 at3 lt3;have OWN3:=hide own3;have GR3:=hide grow3;have X3:=hide (Row.grown (X.out.alloc (.cells #[.int .i64 (x:Int)] 3)) grow3 (fun e=>by have:=(OWN.out.lt _ e.symm).1;omega));have B3:=hide ((HBL.out.alloc hbs (.cells #[.int .i64 (x:Int)] 3)).grown GR3.out (by simp;omega) (fun k hk=>by have:=(OWN.out.lt k hk).1;omega));obtain ⟨d0,d1,d2,_⟩:=box3 X3.out;obtain ⟨mb',mo',e',mc⟩:=mate_at (by rw [←HM.out];exact HB.out.keep B3.out) hxN;injection e' with e';injection e' with e1' e2';subst e1';subst e2';have ltx:=HD.out.lt x hxN;obtain ⟨y,hy⟩:∃y,y=d.m x:=⟨_,rfl⟩;have HY:=hide hy;rw [←hy] at mc ltx;have hxm:x<m:=(by rw [HM.out];exact hxN);clear own3 grow3 at3 hy e0 e1 e2 e3)
   refine (r1turn2 y _ (by omega)).mono ?_
   rintro e w4 ⟨rfl,rfl⟩
   clear d0 d1 d2 mc
   go_wp2_with fail
   go_roundg (gk - 1)
   case measure=>have:=HJ.out;omega
   case rel =>
    refine ⟨j+1,by have:=HJ.out;omega,?_,?_,B3.out,X3.out⟩
    ·rw [HY.out,HX.out];rfl
    ·have:=OWN3.out
     rw [Pl.cyc_succ,List.map_append,←HX.out]
     exact this
noncomputable def strK (d:Pl.Dg)(k:Nat):Nat:=Pl.cnt (Pl.Lst (fun h=>h<4 * d.n∧Pl.out d h=true) (Pl.Orb (Pl.st d))) k
noncomputable def strN (d:Pl.Dg):Nat:=strK d (4 * d.n)
theorem strN_str (d:Pl.Dg)(hd:Pl.Wf d):Pl.Str d (strN d) :=
 Pl.Cls.count (4 * d.n) (fun x hx=>hx.1) ⟨fun x hx=>Pl.Orb.refl _ _,fun x y hx hy e=>(Pl.st_bij hd).symm hx.1 e,fun x y z _ _ _ e e'=>e.trans e'⟩
theorem lst_cyc {d:Pl.Dg}(hd:Pl.Wf d){h p:Nat}(hh:h<4 * d.n)(ho:Pl.out d h=true)(hp:Pl.Per (Pl.st d) h p):Pl.Lst (fun h=>h<4 * d.n∧Pl.out d h=true) (Pl.Orb (Pl.st d)) h↔∀i,i<p→h≤Pl.it (Pl.st d) i h:=by
 constructor
 ·intro hl i _
  exact hl.2 _ ⟨(Pl.st_bij hd).it i h hh,by rw [Pl.out_it hd hh,ho]⟩ ⟨i,rfl⟩
 ·intro hi
  refine ⟨⟨hh,ho⟩,fun g _ e=>?_⟩
  have hm:=(Pl.mem_cyc hp).2 e
  unfold Pl.cyc at hm
  obtain ⟨i,h1,rfl⟩:=List.mem_map.1 hm
  exact hi i (List.mem_range.1 h1)
theorem vb_step {P:Nat→Prop}(j:Nat):Pl.vb (∀i,i<j+1→P i)=(Pl.vb (∀i,i<j→P i) && Pl.vb (P j)):=by
 rw [Bool.eq_iff_iff,Bool.and_eq_true,Pl.vb_iff,Pl.vb_iff,Pl.vb_iff]
 constructor
 ·intro h;exact ⟨fun i hi=>h i (by omega),h j (by omega)⟩
 ·rintro ⟨h1,h2⟩ i hi
  rcases Nat.lt_or_ge i j with h | h
  ·exact h1 i h
  ·rw [show i=j by omega];exact h2
set_option maxRecDepth 100000 in
set_option maxHeartbeats 4000000 in
theorem rstrands_any (d:Pl.Dg)(hd:Pl.Wf d)(A B:Option Addr)(cp cq m:Nat)(l:Value)(w:World)(hm:m=4 * d.n)(hs:IntsAt w A d.n d.sg)(hb:IntsAt w B m (nats d.mt)) :
 Calls Tryz.prog 30 #[.agg #[.slice A d.n cp,.slice B m cq,l]] w (fun e w'=>∃(A5:Option Addr) (c5:Nat),e = .returned (.slice A5 (strN d) c5)∧Below w.heap.size w w'):=by
 have hn:=hd.few
 have HD:=hide hd
 have HM:=hide hm
 have HB:=hide hb
 have HS:=hide hs
 have hm4:m≤256:=by omega
 have X0:=hide (row_at (W:=w) (g:=w.heap.size) (t:=24) (vs:=[.slice A d.n cp,.slice B m cq,l]) rfl)
 have B0:=hide (show Below w.heap.size w (w.alloc (.cells #[.slice A d.n cp,.slice B m cq,l] 24)) from (Below.refl _ _).alloc (Nat.le_refl _) _)
 clear hm hb hd hs
 go_enter Tryz.func30,Tryz.ntmps30
 go_wp2
 go_loopg [3,4] m (fun g v i wx=>∃(k:Nat) (vs:List Value),k+g=m∧i = .int .i64 k∧vs.length=strK d k∧wx.ownsRow (w.heap.size+1) 22 1 v vs.length vs∧Row wx w.heap.size 24 [.slice A d.n cp,.slice B m cq,l]∧Below w.heap.size w wx)
 case atStart=>exact ⟨0,[],by omega,rfl,rfl,World.ownsRow_nil _ _ _ _,X0.out,B0.out⟩
 case round =>
  clear X0 B0
  obtain ⟨k,vs,hkg,rfl,hvl,hown,hx,hb⟩:=hrel
  have HKG:=hide hkg
  have hkm:k≤m:=by omega
  have HVL:=hide hvl
  have OWN:=hide hown
  have X:=hide hx
  have HBL:=hide hb
  have hbs:=hb.size
  obtain ⟨A7,c7,rfl⟩:=owns_slice hown
  clear hkg hvl hown hx hb
  obtain ⟨d0,d1,d2,d3⟩:=box3 X.out
  by_cases hlt:k<m
  ·have hk4:k<4 * d.n:=by have:=HM.out;omega
   go_wp2_with fail
   refine (r1out_any d A d.n cp k _ rfl hk4 (by omega) (HS.out.keep HBL.out)).mono ?_
   rintro e w1 ⟨rfl,rfl⟩
   cases ho:Pl.out d k with
   | false =>
     have E:=hide (show strK d (k+1)=strK d k from Pl.cnt_step_neg (fun h=>by have:=h.1.2;rw [ho] at this;exact absurd this (by decide)))
     clear ho
     go_wp2
     go_roundg (gk - 1)
     case measure=>have:=HKG.out;omega
     case rel=>exact ⟨k+1,vs,by have:=HKG.out;omega,by go_num,by rw [E.out];exact HVL.out,OWN.out,X.out,HBL.out⟩
   | true =>
     obtain ⟨p,hpN,hper⟩:=(Pl.st_bij HD.out).per (x:=k) hk4
     have HPER:=hide hper
     have HL:=hide (lst_cyc HD.out hk4 ho hper)
     have hp0:=hper.1
     clear hper ho
     go_wp2_with fail
     refine (rstrand_any d HD.out A B cp cq m l k p _ HM.out (HB.out.keep HBL.out) hk4 HPER.out hpN).mono ?_
     rintro e w2 ⟨A5,c5,rfl,own5,hb5⟩
     have FA:=hide (show FaceAt w2 (.slice A5 p c5) (Pl.cyc (Pl.st d) k p) from ⟨A5,c5,by rw [Pl.cyc_len],by rw [Pl.cyc_len];exact own_rowT own5⟩)
     have X2:=hide (X.out.below hb5)
     have O2:=hide (own_keep OWN.out hb5 (Nat.le_refl _))
     have B2:=hide (HBL.out.trans (hb5.mono hbs))
     clear d0 d1 d2 d3 own5 hb5
     go_wp2_with fail
     obtain ⟨b5,o5,rfl,_⟩:=nats_at FA.out.ints.2 (k:=0) hp0
     go_loopg [6,7] p (fun g b i wx=>∃j:Nat,j+g=p∧i = .int .i64 j∧b = .bool (Pl.vb (∀i,i<j→k≤Pl.it (Pl.st d) i k))∧wx=w2)
     case atStart=>exact ⟨0,by omega,rfl,by rw [Pl.vb_true (fun i hi=>absurd hi (by omega))],rfl⟩
     case round =>
      obtain ⟨j,hjg,rfl,rfl,rfl⟩:=hrel
      have HJG:=hide hjg
      have hjp:j≤p:=by omega
      clear hjg
      by_cases hlj:j<p
      ·obtain ⟨b',o',e',hcj⟩:=nats_at FA.out.ints.2 (k:=j) hlj
       injection e' with e'
       injection e' with e1 e2
       subst e1
       subst e2
       rw [Pl.cyc_get hlj] at hcj
       obtain ⟨y,hy⟩:∃y,y=Pl.it (Pl.st d) j k:=⟨_,rfl⟩
       rw [←hy] at hcj
       have HS:=hide (vb_step (P:=fun i=>k≤Pl.it (Pl.st d) i k) j)
       have HY:=hide hy
       clear hy
       cases hv:Pl.vb (∀i,i<j→k≤Pl.it (Pl.st d) i k) with
       | false =>
         have HV:=hide hv
         clear hv
         go_wp2
         go_roundg (gk - 1)
         case measure=>have:=HJG.out;omega
         case rel=>exact ⟨j+1,by have:=HJG.out;omega,by go_num,by rw [HS.out,HV.out];rfl,rfl⟩
       | true =>
         have HV:=hide hv
         clear hv
         by_cases hky:k≤y
         ·have t1:decide ((k:Int)≤(y:Int))=true:=by simp;omega
          go_wp2
          go_roundg (gk - 1)
          case measure=>have:=HJG.out;omega
          case rel=>exact ⟨j+1,by have:=HJG.out;omega,by go_num,by rw [HS.out,HV.out,Pl.vb_true (show k≤Pl.it (Pl.st d) j k by rw [←HY.out];exact hky)];rfl,rfl⟩
         ·have t1:decide ((k:Int)≤(y:Int))=false:=by simp;omega
          go_wp2
          go_roundg (gk - 1)
          case measure=>have:=HJG.out;omega
          case rel=>exact ⟨j+1,by have:=HJG.out;omega,by go_num,by rw [HS.out,HV.out,Pl.vb_false (show ¬k≤Pl.it (Pl.st d) j k by rw [←HY.out];exact hky)];rfl,rfl⟩
      ·have hjj:j=p:=by omega
       have HE:=hide hjj
       obtain ⟨b,hb⟩:∃b,b=Pl.vb (∀i,i<j→k≤Pl.it (Pl.st d) i k):=⟨_,rfl⟩
       rw [←hb]
       have HBB:=hide (show (b=true↔Pl.Lst (fun h=>h<4 * d.n∧Pl.out d h=true) (Pl.Orb (Pl.st d)) k) by rw [hb,Pl.vb_iff,HE.out];exact HL.out.symm)
       clear hb hjj
       cases b with
       | false =>
         have HN:=hide (Pl.cnt_step_neg (p:=Pl.Lst (fun h=>h<4 * d.n∧Pl.out d h=true) (Pl.Orb (Pl.st d))) (k:=k) (fun h=>absurd (HBB.out.2 h) (by decide)))
         go_wp2
         go_roundg (m - (k+1))
         case measure=>have:=HKG.out;omega
         case rel=>exact ⟨k+1,vs,by have:=HKG.out;omega,by go_num,by rw [HVL.out];exact HN.out.symm,O2.out,X2.out,B2.out⟩
       | true =>
         have HN:=hide (Pl.cnt_step_pos (p:=Pl.Lst (fun h=>h<4 * d.n∧Pl.out d h=true) (Pl.Orb (Pl.st d))) (k:=k) (HBB.out.1 rfl))
         obtain ⟨i0,hi0,hz0,hz1,hz2⟩:=info_parts rowInfo
         have P1:∀u ∈ [Value.slice (some ⟨b5,o5,none⟩) p c5],u.oneCell'=true:=by simp [Value.oneCell']
         have hvk:vs.length≤4 * d.n:=by have:=HVL.out;have:=Pl.cnt_top (Pl.Lst (fun h=>h<4 * d.n∧Pl.out d h=true) (Pl.Orb (Pl.st d))) k;unfold strK at *;omega
         have hb2s:=B2.out.size
         go_wp2_with (at_builtin;refine wpList_append_lies _ (by rfl) _ _ 46 (by rfl) (w.heap.size+1) 22 i0 (.slice none 0 0) 1 24 Tryz.underlying46 hi0 hz0 hz1 hz2 rfl (by omega) _ vs.length vs (by rfl) (O2.out.alloc _) ⟨wr.heap.size,0,none⟩ 1 1 [.slice (some ⟨b5,o5,none⟩) p c5] (by rfl) (by rfl) (World.news_of_block (cs:=#[.slice (some ⟨b5,o5,none⟩) p c5]) (t:=22) (fr:=(0,0)) (heap_alloc_new wr _)) P1 (by omega) (by unfold maxLen;omega) (by omega) (by have:=X2.out.lt;simp;omega) (wr.heap.size+1) (by simp) ?_;intro g3 c3 w3 own3 grow3 at3 lt3)
         go_roundg (m - (k+1))
         case measure=>have:=HKG.out;omega
         case rel =>
          have hba:Below wr.heap.size wr (wr.alloc (.cells #[.slice (some ⟨b5,o5,none⟩) p c5] 22)):=(Below.refl _ _).alloc (Nat.le_refl _) _
          refine ⟨k+1,vs++[.slice (some ⟨b5,o5,none⟩) p c5],by have:=HKG.out;omega,by go_num,by rw [List.length_append,HVL.out];exact HN.out.symm,by simpa using own3,?_,?_⟩
          ·exact (X2.out.below hba).grown grow3 (fun e=>by have:=(O2.out.lt _ e.symm).1;omega)
          ·exact (B2.out.alloc hb2s _).grown grow3 (by simp;omega) (fun k hk=>by have:=(O2.out.lt k hk).1;omega)
  ·have hkm':k=m:=by omega
   have E:=hide (show strK d k=strN d by rw [hkm',HM.out];rfl)
   go_wp2
   go_ret
   exact ⟨A7,c7,by rw [HVL.out,E.out];rfl,HBL.out⟩
end Go.Proofs.YtdgliimmnnhhjaaGreatDoor
end
section
namespace Go.Proofs.YtdgliimmnnhhjaaGreatDoor
open Go Go.RowKit
theorem r1turn3 (h:Nat)(w:World)(hh:h≤1000000) :
 Calls Tryz.prog 60 #[.int .i64 (h:Int),.int .i64 (-1)] w fun e w'=>e = .returned (.int .i64 (Pl.tn h 3:Nat))∧w'=w:=by
 have t1:decide ((h:Int)<0)=false:=by simp
 have h4:h % 4=0∨h % 4=1∨h % 4=2∨h % 4=3:=by omega
 go_enter Tryz.func60,Tryz.ntmps60
 go_wp2
 go_ret
 refine ⟨ret_int ?_,rfl⟩
 rcases h4 with h4 | h4 | h4 | h4
 ·have e:(h:Int) % 4=0:=by omega
  rw [e,show (wrap64 (((0:Int) + -1).tmod 4+4)).tmod 4=3 by simp [wrap64]]
  unfold Pl.tn wrap64;omega
 ·have e:(h:Int) % 4=1:=by omega
  rw [e,show (wrap64 (((1:Int) + -1).tmod 4+4)).tmod 4=0 by simp [wrap64]]
  unfold Pl.tn wrap64;omega
 ·have e:(h:Int) % 4=2:=by omega
  rw [e,show (wrap64 (((2:Int) + -1).tmod 4+4)).tmod 4=1 by simp [wrap64]]
  unfold Pl.tn wrap64;omega
 ·have e:(h:Int) % 4=3:=by omega
  rw [e,show (wrap64 (((3:Int) + -1).tmod 4+4)).tmod 4=2 by simp [wrap64]]
  unfold Pl.tn wrap64;omega
set_option maxRecDepth 100000 in
set_option maxHeartbeats 2000000 in
theorem r1face_any (d:Pl.Dg)(hd:Pl.Wf d)(B:Option Addr)(cq m:Nat)(h p:Nat)(w:World)(hm:m=4 * d.n)(hb:IntsAt w B m (nats d.mt))(hh:h<4 * d.n)(hp:Pl.Per (Pl.nx d) h p)(hpN:p≤4 * d.n) :
 Calls Tryz.prog 34 #[.slice B m cq,.int .i64 (h:Int)] w (fun e w'=>∃(A5:Option Addr) (c5:Nat),e = .returned (.slice A5 p c5)∧w'.ownsRow w.heap.size 3 1 (.slice A5 p c5) p ((Pl.cyc (Pl.nx d) h p).map (fun k:Nat=>Value.int .i64 k))∧Below w.heap.size w w'):=by
 have hn:=hd.few
 have HD:=hide hd
 have HP:=hide hp
 have HM:=hide hm
 have HB:=hide hb
 have hp0:=hp.1
 have HPN:=hide hpN
 have hp4:p≤256:=by omega
 have hm4:m≤256:=by omega
 have hpm:p≤m:=by omega
 clear hp hm hb hd hpN
 obtain ⟨W1,hW1⟩:∃W1:World,W1=w.alloc (.cells #[.int .i64 (h:Int)] 3):=⟨_,rfl⟩
 have B1:=hide (show Below w.heap.size w W1 by rw [hW1];exact (Below.refl _ _).alloc (Nat.le_refl _) _)
 have O1:=hide (show W1.ownsRow w.heap.size 3 1 (.slice (some ⟨w.heap.size,0,none⟩) 1 1) 1 [.int .i64 (h:Int)] by
  rw [hW1]
  have:=own_one w (.int .i64 (h:Int))
  simpa using this)
 have lth:=HD.out.lt h hh
 obtain ⟨mb,mo,rfl,mc⟩:=mate_at (by rw [←HM.out];exact HB.out.keep B1.out) hh
 obtain ⟨u,hu⟩:∃u,u=d.m h:=⟨_,rfl⟩
 have HU:=hide hu
 rw [←hu] at mc lth
 clear hu
 have hhm:h<m:=by rw [HM.out];exact hh
 go_enter Tryz.func34,Tryz.ntmps34
 rw [hW1] at mc
 go_wp2_with fail
 rw [←hW1]
 clear hW1 mc
 refine (r1turn3 u _ (by omega)).mono ?_
 rintro e w2 ⟨rfl,rfl⟩
 go_wp2_with fail
 go_loopg [5,6] (p - 1) (fun g v i wx=>∃j:Nat,j+1+g=p∧i = .int .i64 (Pl.it (Pl.nx d) (j+1) h:Nat)∧wx.ownsRow w.heap.size 3 1 v (j+1) ((Pl.cyc (Pl.nx d) h (j+1)).map (fun k:Nat=>Value.int .i64 k))∧Below w.heap.size w wx)
 case atStart=>exact ⟨0,by omega,by rw [HU.out];rfl,O1.out,B1.out⟩
 case round =>
  clear B1 O1
  obtain ⟨j,hjg,rfl,own,hb⟩:=hrel
  have HJ:=hide hjg
  have hjp:j+1≤p:=by omega
  have OWN:=hide own
  have HBL:=hide hb
  have hbs:=hb.size
  obtain ⟨x,hx⟩:∃x,x=Pl.it (Pl.nx d) (j+1) h:=⟨_,rfl⟩
  rw [←hx]
  have HX:=hide hx
  have hxN:x<4 * d.n:=by rw [hx];exact it_lt (fun y hy=>HD.out.nxb.maps y hy) hh (j+1)
  clear hjg own hb hx
  obtain ⟨A0,c0,hv0⟩:=owns_slice OWN.out
  by_cases he:x=h
  ·have hjj:¬j+1<p:=fun hlt=>HP.out.2.2 (j+1) (by omega) hlt (by rw [←HX.out,he])
   have t1:((x:Int) != (h:Int))=false:=by rw [bne_eq_false_iff_eq];omega
   have HE:=hide he
   obtain rfl:j+1=p:=by omega
   subst hv0
   clear he hjj
   go_wp2
   go_ret
   exact ⟨A0,c0,rfl,own_keep OWN.out (Below.refl _ _) (by omega),HBL.out⟩
  ·have t1:((x:Int) != (h:Int))=true:=by rw [bne_iff_ne];omega
   have hjj:j+1<p:=by
    rcases Nat.lt_or_ge (j+1) p with h1 | h1
    ·exact h1
    ·have:j+1=p:=by omega
     exact absurd (by rw [HX.out,this];exact HP.out.2.1) he
   clear he
   subst hv0
   obtain ⟨i0,hi0,hz0,hz1,hz2⟩:=info_parts intInfo
   have hwz1:w.heap.size≤wr.heap.size:=hbs
   go_wp2_with (at_builtin;refine wpList_append_lies _ (by rfl) _ _ 22 (by rfl) w.heap.size 3 i0 (.int .i64 0) 1 8 Tryz.underlying22 hi0 hz0 hz1 hz2 rfl (by omega) _ (j+1) _ (by rfl) (OWN.out.alloc _) ⟨wr.heap.size,0,none⟩ 1 1 [.int .i64 (x:Int)] (by rfl) (by rfl) (one_news wr (.int .i64 (x:Int))) (by simp [Value.oneCell']) (by omega) (by unfold maxLen;omega) (by omega) (by simp;omega) (wr.heap.size+1) (by simp) ?_;intro g3 c3 w3 own3 grow3 at3 lt3;have OWN3:=hide own3;have GR3:=hide grow3;have B3:=hide ((HBL.out.alloc hbs (.cells #[.int .i64 (x:Int)] 3)).grown GR3.out (by simp;omega) (fun k hk=>by have:=(OWN.out.lt k hk).1;omega));obtain ⟨mb',mo',e',mc⟩:=mate_at (by rw [←HM.out];exact HB.out.keep B3.out) hxN;injection e' with e';injection e' with e1' e2';subst e1';subst e2';have ltx:=HD.out.lt x hxN;obtain ⟨y,hy⟩:∃y,y=d.m x:=⟨_,rfl⟩;have HY:=hide hy;rw [←hy] at mc ltx;have hxm:x<m:=(by rw [HM.out];exact hxN);clear own3 grow3 at3 hy)
   refine (r1turn3 y _ (by omega)).mono ?_
   rintro e w4 ⟨rfl,rfl⟩
   clear mc
   go_wp2_with fail
   go_roundg (gk - 1)
   case measure=>have:=HJ.out;omega
   case rel =>
    refine ⟨j+1,by have:=HJ.out;omega,?_,?_,B3.out⟩
    ·rw [HY.out,HX.out];rfl
    ·have:=OWN3.out
     rw [Pl.cyc_succ,List.map_append,←HX.out]
     exact this
def FcL (d:Pl.Dg)(k:Nat)(fs:List (List Nat)):Prop:=fs.map (fun l=>l.getD 0 0)=Pl.hds d k∧∀l,l ∈ fs→0<l.length
theorem FcL.len {d:Pl.Dg}{k:Nat}{fs:List (List Nat)}(h:FcL d k fs):fs.length=(Pl.hds d k).length:=by rw [←h.1,List.length_map]
theorem FcL.add {d:Pl.Dg}{k p:Nat}{fs:List (List Nat)}(h:FcL d k fs)(hl:Pl.Least (Pl.nx d) k)(hp:0<p):FcL d (k+1) (fs++[Pl.cyc (Pl.nx d) k p]):=by
 refine ⟨?_,fun l hl2=>?_⟩
 ·rw [List.map_append,h.1,Pl.hds_pos hl,List.map_singleton,Pl.cyc_get hp]
  rfl
 ·rcases List.mem_append.1 hl2 with h2 | h2
  ·exact h.2 l h2
  ·rw [List.mem_singleton] at h2;subst h2;rw [Pl.cyc_len];exact hp
theorem FcL.skip {d:Pl.Dg}{k:Nat}{fs:List (List Nat)}(h:FcL d k fs)(hl:¬Pl.Least (Pl.nx d) k):FcL d (k+1) fs:=⟨by rw [h.1,Pl.hds_neg hl],h.2⟩
set_option maxRecDepth 100000 in
set_option maxHeartbeats 4000000 in
theorem r1faces_any (d:Pl.Dg)(hd:Pl.Wf d)(B:Option Addr)(cq m:Nat)(w:World)(hm:m=4 * d.n)(hb:IntsAt w B m (nats d.mt)) :
 Calls Tryz.prog 15 #[.slice B m cq] w (fun e w'=>∃(A5:Option Addr) (c5:Nat) (vs:List Value) (fs:List (List Nat)),e = .returned (.slice A5 fs.length c5)∧FcL d (4 * d.n) fs∧RowT w' 22 A5 fs.length vs∧Vs w' vs fs∧Below w.heap.size w w'):=by
 have hn:=hd.few
 have HD:=hide hd
 have HM:=hide hm
 have HB:=hide hb
 have hm4:m≤256:=by omega
 clear hm hb hd
 go_enter Tryz.func15,Tryz.ntmps15
 go_wp2
 go_loopg [3,4] m (fun g v i wx=>∃(k:Nat) (vs:List Value) (fs:List (List Nat)),k+g=m∧i = .int .i64 k∧FcL d k fs∧wx.ownsRow w.heap.size 22 1 v fs.length vs∧Vs wx vs fs∧Below w.heap.size w wx)
 case atStart=>exact ⟨0,[],[],by omega,rfl,⟨rfl,fun l h=>by simp at h⟩,World.ownsRow_nil _ _ _ _,Vs.nil _,Below.refl _ _⟩
 case round =>
  obtain ⟨k,vs,fs,hkg,rfl,hfl,hown,hvs,hb⟩:=hrel
  have HKG:=hide hkg
  have hkm:k≤m:=by omega
  have HFL:=hide hfl
  have OWN:=hide hown
  have HVS:=hide hvs
  have HBL:=hide hb
  have hbs:=hb.size
  obtain ⟨A7,c7,rfl⟩:=owns_slice hown
  have hfn:fs.length≤256:=by have:=hfl.len;have:=Pl.hds_len d k;omega
  clear hkg hfl hown hvs hb
  by_cases hlt:k<m
  ·have hk4:k<4 * d.n:=by have:=HM.out;omega
   obtain ⟨p,hpN,hper⟩:=HD.out.nxb.per (x:=k) hk4
   have HPER:=hide hper
   have HL:=hide (Pl.least_cyc HD.out hk4 hper)
   have hp0:=hper.1
   clear hper
   go_wp2_with fail
   refine (r1face_any d HD.out B cq m k p _ HM.out (HB.out.keep HBL.out) hk4 HPER.out hpN).mono ?_
   rintro e w2 ⟨A5,c5,rfl,own5,hb5⟩
   have FA:=hide (show FaceAt w2 (.slice A5 p c5) (Pl.cyc (Pl.nx d) k p) from ⟨A5,c5,by rw [Pl.cyc_len],by rw [Pl.cyc_len];exact own_rowT own5⟩)
   have O2:=hide (own_keep OWN.out hb5 (Nat.le_refl _))
   have V2:=hide (HVS.out.below hb5)
   have B2:=hide (HBL.out.trans (hb5.mono hbs))
   clear own5 hb5
   go_wp2_with fail
   obtain ⟨b5,o5,rfl,_⟩:=nats_at FA.out.ints.2 (k:=0) hp0
   go_loopg [6,7] p (fun g b i wx=>∃j:Nat,j+g=p∧i = .int .i64 j∧b = .bool (Pl.vb (∀i,i<j→k≤Pl.it (Pl.nx d) i k))∧wx=w2)
   case atStart=>exact ⟨0,by omega,rfl,by rw [Pl.vb_true (fun i hi=>absurd hi (by omega))],rfl⟩
   case round =>
    obtain ⟨j,hjg,rfl,rfl,rfl⟩:=hrel
    have HJG:=hide hjg
    have hjp:j≤p:=by omega
    clear hjg
    by_cases hlj:j<p
    ·obtain ⟨b',o',e',hcj⟩:=nats_at FA.out.ints.2 (k:=j) hlj
     injection e' with e'
     injection e' with e1 e2
     subst e1
     subst e2
     rw [Pl.cyc_get hlj] at hcj
     obtain ⟨y,hy⟩:∃y,y=Pl.it (Pl.nx d) j k:=⟨_,rfl⟩
     rw [←hy] at hcj
     have HS:=hide (vb_step (P:=fun i=>k≤Pl.it (Pl.nx d) i k) j)
     have HY:=hide hy
     clear hy
     cases hv:Pl.vb (∀i,i<j→k≤Pl.it (Pl.nx d) i k) with
     | false =>
       have HV:=hide hv
       clear hv
       go_wp2
       go_roundg (gk - 1)
       case measure=>have:=HJG.out;omega
       case rel=>exact ⟨j+1,by have:=HJG.out;omega,by go_num,by rw [HS.out,HV.out];rfl,rfl⟩
     | true =>
       have HV:=hide hv
       clear hv
       by_cases hky:k≤y
       ·have t1:decide ((k:Int)≤(y:Int))=true:=by simp;omega
        go_wp2
        go_roundg (gk - 1)
        case measure=>have:=HJG.out;omega
        case rel=>exact ⟨j+1,by have:=HJG.out;omega,by go_num,by rw [HS.out,HV.out,Pl.vb_true (show k≤Pl.it (Pl.nx d) j k by rw [←HY.out];exact hky)];rfl,rfl⟩
       ·have t1:decide ((k:Int)≤(y:Int))=false:=by simp;omega
        go_wp2
        go_roundg (gk - 1)
        case measure=>have:=HJG.out;omega
        case rel=>exact ⟨j+1,by have:=HJG.out;omega,by go_num,by rw [HS.out,HV.out,Pl.vb_false (show ¬k≤Pl.it (Pl.nx d) j k by rw [←HY.out];exact hky)];rfl,rfl⟩
    ·have hjj:j=p:=by omega
     have HE:=hide hjj
     obtain ⟨b,hb⟩:∃b,b=Pl.vb (∀i,i<j→k≤Pl.it (Pl.nx d) i k):=⟨_,rfl⟩
     rw [←hb]
     have HBB:=hide (show (b=true↔Pl.Least (Pl.nx d) k) by rw [hb,Pl.vb_iff,HE.out];exact HL.out.symm)
     clear hb hjj
     cases b with
     | false =>
       have HN:=hide (HFL.out.skip (fun h=>absurd (HBB.out.2 h) (by decide)))
       go_wp2
       go_roundg (m - (k+1))
       case measure=>have:=HKG.out;omega
       case rel=>exact ⟨k+1,vs,fs,by have:=HKG.out;omega,by go_num,HN.out,O2.out,V2.out,B2.out⟩
     | true =>
       have HN:=hide (HFL.out.add (HBB.out.1 rfl) hp0)
       obtain ⟨i0,hi0,hz0,hz1,hz2⟩:=info_parts rowInfo
       have P1:∀u ∈ [Value.slice (some ⟨b5,o5,none⟩) p c5],u.oneCell'=true:=by simp [Value.oneCell']
       have hb2s:=B2.out.size
       go_wp2_with (at_builtin;refine wpList_append_lies _ (by rfl) _ _ 46 (by rfl) w.heap.size 22 i0 (.slice none 0 0) 1 24 Tryz.underlying46 hi0 hz0 hz1 hz2 rfl (by omega) _ fs.length vs (by rfl) (O2.out.alloc _) ⟨wr.heap.size,0,none⟩ 1 1 [.slice (some ⟨b5,o5,none⟩) p c5] (by rfl) (by rfl) (World.news_of_block (cs:=#[.slice (some ⟨b5,o5,none⟩) p c5]) (t:=22) (fr:=(0,0)) (heap_alloc_new wr _)) P1 (by omega) (by unfold maxLen;omega) (by omega) (by simp;omega) (wr.heap.size+1) (by simp) ?_;intro g3 c3 w3 own3 grow3 at3 lt3)
       go_roundg (m - (k+1))
       case measure=>have:=HKG.out;omega
       case rel =>
        have hbk:=fun g (hg:(Value.slice A7 fs.length c7).ownBlock=some g)=>ownsRow_block (O2.out.alloc (.cells #[.slice (some ⟨b5,o5,none⟩) p c5] 22)) g hg
        have hba:Below wr.heap.size wr (wr.alloc (.cells #[.slice (some ⟨b5,o5,none⟩) p c5] 22)):=(Below.refl _ _).alloc (Nat.le_refl _) _
        refine ⟨k+1,vs++[.slice (some ⟨b5,o5,none⟩) p c5],fs++[Pl.cyc (Pl.nx d) k p],by have:=HKG.out;omega,by go_num,HN.out,by simpa using own3,?_,?_⟩
        ·exact ((V2.out.below hba).grown grow3 hbk (by decide)).add ((FA.out.below hba).grown grow3 hbk (by decide))
        ·exact (B2.out.alloc hb2s _).grown grow3 (by simp;omega) (fun k hk=>by have:=(O2.out.lt k hk).1;omega)
  ·have hkm':k=m:=by omega
   have E:=hide (show FcL d (4 * d.n) fs by rw [←HM.out,←hkm'];exact HFL.out)
   go_wp2
   go_ret
   exact ⟨A7,c7,vs,fs,rfl,E.out,own_rowT OWN.out,HVS.out,HBL.out⟩
end Go.Proofs.YtdgliimmnnhhjaaGreatDoor
end
section
namespace Go.Proofs.YtdgliimmnnhhjaaGreatDoor
open Go Go.RowKit
set_option maxRecDepth 100000 in
set_option maxHeartbeats 1000000 in
theorem rcomps_any (d:Pl.Dg)(hd:Pl.Wf d)(A B:Option Addr)(cp cq m:Nat)(w:World)(hm:m=4 * d.n)(hg:DgAt w A B d) :
 Calls Tryz.prog 11 #[.agg #[.slice A d.n cp,.slice B m cq,.int .i64 d.lp]] w (fun e w'=>e = .returned (.int .i64 ((strN d+d.lp:Nat):Int))∧Below w.heap.size w w'):=by
 have hn:=hd.few
 have hl:=hd.lp
 have HM:=hide hm
 have HG:=hide hg
 have HD:=hide hd
 have hk:=Pl.cnt_top (Pl.Lst (fun h=>h<4 * d.n∧Pl.out d h=true) (Pl.Orb (Pl.st d))) (4 * d.n)
 have X0:=hide (row_at (W:=w) (g:=w.heap.size) (t:=24) (vs:=[.slice A d.n cp,.slice B m cq,.int .i64 d.lp]) rfl)
 have B0:=hide (show Below w.heap.size w (w.alloc (.cells #[.slice A d.n cp,.slice B m cq,.int .i64 d.lp] 24)) from (Below.refl _ _).alloc (Nat.le_refl _) _)
 have hsN:strN d≤1000:=by unfold strN strK;omega
 clear hm hg hd hk
 have D0:=hide (DC.start w (.slice A d.n cp) (.slice B m cq) (.int .i64 d.lp))
 clear X0 B0
 obtain ⟨s,hs⟩:∃s,s=strN d:=⟨_,rfl⟩
 have HS:=hide hs
 rw [←hs] at hsN ⊢
 clear hs
 have hwr:IntKind.i64.wrap ((s:Int)+(d.lp:Int))=(s:Int)+(d.lp:Int):=IntWalk.i64_in _ (by omega)
 go_enter Tryz.func11,Tryz.ntmps11
 go_wp2_with fail
 obtain ⟨c0,c1,c2,_⟩:=D0.out.all
 go_region_held3 (fun w'=>w'.cell? ⟨w.heap.size,0,none⟩=some (.slice A d.n cp)∧w'.cell? ⟨w.heap.size,1,none⟩=some (.slice B m cq)∧w'.cell? ⟨w.heap.size,2,none⟩=some (.int .i64 d.lp)∧DC w [.slice A d.n cp,.slice B m cq,.int .i64 d.lp] w')
  ((go_split_ands;refine DC.all ?_;(repeat (first | (with_reducible assumption) | (with_reducible exact D0.out) | (with_reducible refine DC.drew ?_) | (with_reducible refine DC.below ?_ hb5)))))
  (first
    | (go_at_call 30
       refine Calls.mono (rstrands_any d HD.out A B cp cq m (.int .i64 d.lp) _ HM.out (HG.out.keep D0.out.drew.2).s (by have h:=(HG.out.keep D0.out.drew.2).m;rwa [←HM.out] at h)) ?_
       rintro e w1 ⟨A5,c5,rfl,hb5⟩
       rw [←HS.out]))
 have B1:=hide (D0.out.drew.below hb5).2
 clear hb5 c0 c1 c2
 go_wp2
 go_ret
 exact ⟨ret_int (by omega),B1.out⟩
end Go.Proofs.YtdgliimmnnhhjaaGreatDoor
end
