/-
 The texts Xs, Xu, Xv, Xx, Xw.
-/
import Derived.Test.YtobbepmlmbbamaaE20
import Derived.Test.YtobbepmlmbbamaaE34
set_option linter.unusedVariables false
set_option linter.unusedSimpArgs false
section
namespace Go.Proofs.Ytobbepmlmbbamaa
open Go Go.RowKit
attribute [local go_sem ↓] Go.wp_at_zero Go.wp_at_succ
theorem near_i (d:Pl.Dg) (F P:List Nat) (A B L R:Option Addr) (cp cq cl cr m:Nat) (x y:Int) (w:World) (hm:m = 4 * d.n) (hs:ShAt w A B L R d F P) (hn:d.n ≤ 64) (hx:0 ≤ x ∧ x < 4 * (d.n:Int)) (hy:0 ≤ y ∧ y < 4 * (d.n:Int)) :
 Calls Try.prog 114 #[.agg #[.slice A d.n cp,.slice B m cq,.int .i64 d.lp,.slice L m cl,.slice R d.n cr],.int .i64 x,.int .i64 y] w fun e w' => e = .returned (.bool (nearB F P d x.toNat y.toNat)) ∧ Below w.heap.size w w' := by
 obtain ⟨a,rfl⟩:=Int.eq_ofNat_of_zero_le hx.1
 obtain ⟨b,rfl⟩:=Int.eq_ofNat_of_zero_le hy.1
 exact near_any d F P A B L R cp cq cl cr m a b w hm hs hn (by omega) (by omega)
noncomputable def pkA (d:Pl.Dg) (F P:List Nat) (x y s:Int) (o:Bool):Int := if Pl.vb (inR d.n ⟨3,x,y,s,o⟩) = true then pkC d F P x y s else 2
noncomputable def pkS (d:Pl.Dg) (F P:List Nat) (x y:Int):Nat → List Mv
 | 0 => []
 | j + 1 => pkS d F P x y j ++ (one (pkA d F P x y ((j:Int) - 1) false) ⟨3,x,y,(j:Int) - 1,false⟩ ++ one (pkA d F P x y ((j:Int) - 1) true) ⟨3,x,y,(j:Int) - 1,true⟩)
noncomputable def pkY (d:Pl.Dg) (F P:List Nat) (x:Int):Nat → List Mv
 | 0 => []
 | k + 1 => pkY d F P x k ++ pkS d F P x ((k:Int) - 2) 3
noncomputable def pkX (d:Pl.Dg) (F P:List Nat):Nat → List Mv
 | 0 => []
 | k + 1 => pkX d F P k ++ pkY d F P ((k:Int) - 2) (4 * d.n + 2)
theorem pkS_len (d:Pl.Dg) (F P:List Nat) (x y:Int):∀ k,(pkS d F P x y k).length ≤ 2 * k
 | 0 => Nat.le_refl _
 | j + 1 => by
   have a:=pkS_len d F P x y j
   have b:=one_len (pkA d F P x y ((j:Int) - 1) false) ⟨3,x,y,(j:Int) - 1,false⟩
   have c:=one_len (pkA d F P x y ((j:Int) - 1) true) ⟨3,x,y,(j:Int) - 1,true⟩
   show (pkS d F P x y j ++ (one (pkA d F P x y ((j:Int) - 1) false) ⟨3,x,y,(j:Int) - 1,false⟩ ++ one (pkA d F P x y ((j:Int) - 1) true) ⟨3,x,y,(j:Int) - 1,true⟩)).length ≤ _
   rw [List.length_append,List.length_append]
   omega
theorem pkY_len (d:Pl.Dg) (F P:List Nat) (x:Int):∀ k,(pkY d F P x k).length ≤ 6 * k
 | 0 => Nat.le_refl _
 | k + 1 => by
   have a:=pkY_len d F P x k
   have b:=pkS_len d F P x ((k:Int) - 2) 3
   show (pkY d F P x k ++ pkS d F P x ((k:Int) - 2) 3).length ≤ _
   rw [List.length_append]
   omega
theorem pkX_len {d:Pl.Dg} (hn:d.n ≤ 64) (F P:List Nat):∀ k,(pkX d F P k).length ≤ 1548 * k
 | 0 => Nat.le_refl _
 | k + 1 => by
   have a:=pkX_len hn F P k
   have b:=pkY_len d F P ((k:Int) - 2) (4 * d.n + 2)
   show (pkX d F P k ++ pkY d F P ((k:Int) - 2) (4 * d.n + 2)).length ≤ _
   rw [List.length_append]
   omega
theorem pkA_six {d:Pl.Dg} {F P:List Nat} {x y s:Int} {o:Bool} (h:0 ≤ x ∧ 0 ≤ y ∧ x ≠ y ∧ nearB F P d x.toNat y.toNat = false):¬ pkA d F P x y s o = 0 := by
 unfold pkA
 split
 ·unfold pkC
  split
  ·decide
  ·first | decide | (rw [if_pos h]; decide)
 ·decide
theorem pkS_none {d:Pl.Dg} {F P:List Nat} {x y:Int} (h:0 ≤ x ∧ 0 ≤ y ∧ x ≠ y ∧ nearB F P d x.toNat y.toNat = false):∀ k,pkS d F P x y k = []
 | 0 => rfl
 | k + 1 => by
   show pkS d F P x y k ++ (one (pkA d F P x y ((k:Int) - 1) false) ⟨3,x,y,(k:Int) - 1,false⟩ ++ one (pkA d F P x y ((k:Int) - 1) true) ⟨3,x,y,(k:Int) - 1,true⟩) = []
   rw [pkS_none h k,one_no (pkA_six h),one_no (pkA_six h)]
   rfl
set_option maxRecDepth 100000 in
set_option maxHeartbeats 4000000 in
theorem pkTry_any (d:Pl.Dg) (hd:Pl.Wf d) (F P:List Nat) (A B L R:Option Addr) (cp cq cl cr m gd gl:Nat) (v:Value) (ms:List Mv) (x y s:Int) (o:Bool) (w0 w:World) (hm:m = 4 * d.n) (hs:ShAt w A B L R d F P) (hms:ms.length ≤ 1000000)
 (hp:MG w0 64 gd gl [.slice A d.n cp,.slice B m cq,.int .i64 (d.lp:Int),.slice L m cl,.slice R d.n cr] v ms w) :
 Calls Try.prog 113 #[.agg #[.int .i64 3,.int .i64 x,.int .i64 y,.int .i64 s,.bool o],.pointer (some ⟨gd,0,none⟩),.pointer (some ⟨gl,0,none⟩)] w fun e w' => e = .returned (.tuple #[]) ∧ ∃ v',MG w0 64 gd gl [.slice A d.n cp,.slice B m cq,.int .i64 (d.lp:Int),.slice L m cl,.slice R d.n cr] v' (ms ++ one (pkA d F P x y s o) ⟨3,x,y,s,o⟩) w' := by
 have HM:=hide hm
 have HG:=hide hs
 have hn:=hd.few
 have hlp:=hd.lp
 obtain ⟨cc,hcc⟩:∃ c',c' = pkA d F P x y s o := ⟨_,rfl⟩
 have HC:=hide hcc
 have hb0:Below w.heap.size w (w.alloc (.cells #[.int .i64 3,.int .i64 x,.int .i64 y,.int .i64 s,.bool o] 28)):=(Below.refl _ _).alloc (Nat.le_refl _) _
 have HB0:=hide hb0
 have P1:=hide (hp.below hb0)
 have M1:=hide (row_at (W := w) (g := w.heap.size) (t := 28) (vs := [.int .i64 3,.int .i64 x,.int .i64 y,.int .i64 s,.bool o]) rfl)
 have hgl:gl < w.heap.size:=hp.big
 have hgd:gd < gl:=hp.lt
 clear hp hb0 hs hm hcc
 obtain ⟨d0,d1,d2,d3,d4,d5⟩:=box5 P1.out.d
 obtain ⟨e0,e1,e2,e3,e4,e5⟩:=box5 M1.out
 go_enter Try.func113,Try.ntmps113
 go_wp2_with fail
 refine (inRange_3 d.n x y s o _ (by omega)).mono ?_
 rintro e w1 ⟨rfl,hb1⟩
 have P2:=hide (P1.out.below hb1)
 have M2:=hide (M1.out.below hb1)
 have HB1:=hide (HB0.out.trans (hb1.mono HB0.out.size))
 have hs2:w.heap.size < w1.heap.size:=M2.out.lt
 have hs3:gl < w1.heap.size:=by omega
 clear hb1 d0 d1 d2 d3 d4 d5 e0 e1 e2 e3 e4 e5 HB0 P1 M1
 obtain ⟨d0,d1,d2,d3,d4,d5⟩:=box5 P2.out.d
 obtain ⟨e0,e1,e2,e3,e4,e5⟩:=box5 M2.out
 by_cases hI:inR d.n ⟨3,x,y,s,o⟩
 ·rw [Pl.vb_true hI]
  have hxy:(-2 ≤ x ∧ x < 4 * (d.n:Int)) ∧ (-2 ≤ y ∧ y < 4 * (d.n:Int)):=by unfold inR at hI; simp at hI; omega
  have EC:=hide (show pkC d F P x y s = cc by rw [HC.out]; unfold pkA; rw [if_pos (Pl.vb_true hI)])
  clear hI
  go_wp2_with fail
  refine (pokeable_any d F P A B L R cp cq cl cr m 3 x y s o _ HM.out (HG.out.keep HB1.out) hn hlp hxy.1 hxy.2).mono ?_
  rintro e w3 ⟨rfl,hb3⟩
  have P3:=hide (P2.out.below hb3)
  have M3:=hide (M2.out.below hb3)
  have hs4:w.heap.size < w3.heap.size:=M3.out.lt
  have hs5:gl < w3.heap.size:=by omega
  rw [EC.out]
  clear hb3 d0 d1 d2 d3 d4 d5 e0 e1 e2 e3 e4 e5 HB1 P2 M2 hxy
  obtain ⟨e0,e1,e2,e3,e4,e5⟩:=box5 M3.out
  by_cases h0:cc = 0
  ·have E:=hide (show one cc ⟨3,x,y,s,o⟩ = [⟨3,x,y,s,o⟩] from one_yes h0)
   have t1:(cc == 0) = true:=by rw [beq_iff_eq]; exact h0
   clear h0
   obtain ⟨q0,q1⟩:=box1 P3.out.l
   obtain ⟨n0,hn0,hz0,hz1,hz2⟩:=info_parts moveInfo
   have A0:=hide (P3.out.alloc (.cells (Mv.cells ⟨3,x,y,s,o⟩).toArray 28)).o
   have A1:∀ u ∈ Mv.cells ⟨3,x,y,s,o⟩,u.oneCell' = true:=by simp [Mv.cells,Value.oneCell']
   have A2:ms.length + 1 ≤ maxLen:=by unfold maxLen; omega
   have A3:(ms.length + 1) * 40 ≤ 140737488355328:=by omega
   have A6:=hide (five_news w3 w3.heap.size rfl ⟨3,x,y,s,o⟩)
   go_wp2_with (at_builtin; refine wpList_append_lies _ (by rfl) _ _ 31 (by rfl) (gl + 1) 28 n0 (.agg #[.int .i64 0,.int .i64 0,.int .i64 0,.int .i64 0,.bool false]) 5 40 Try.underlying31 hn0 hz0 hz1 hz2 rfl (by omega) v ms.length (mvs ms) (by rfl) A0.out ⟨w3.heap.size,0,none⟩ 1 1 (Mv.cells ⟨3,x,y,s,o⟩) (by rfl) (by rfl) A6.out A1 (by omega) A2 A3 (by simp; omega) (w3.heap.size + 1) (by simp) ?_; intro g2 c2 w2 own2 grow2 at2 lt2; obtain ⟨q2,q3⟩:=box1 ((P3.out.alloc (.cells (Mv.cells ⟨3,x,y,s,o⟩).toArray 28)).l.grown grow2 ((P3.out.alloc (.cells (Mv.cells ⟨3,x,y,s,o⟩).toArray 28)).far (Nat.le_refl _))); have OWN2 := hide own2; have GR2 := hide grow2; clear own2 grow2 at2)
   refine bodyPost_end (results_none rfl _ _ _) rfl ⟨rfl,.slice (some ⟨g2,0,none⟩) (ms.length + 1) c2,?_⟩
   rw [← HC.out,E.out]
   exact (P3.out.alloc _).push OWN2.out GR2.out
  ·have E:=hide (show one cc ⟨3,x,y,s,o⟩ = [] from one_no h0)
   have t1:(cc == 0) = false:=by rw [beq_eq_false_iff_ne]; exact h0
   clear h0
   go_wp2
   refine bodyPost_end (results_none rfl _ _ _) rfl ⟨rfl,v,?_⟩
   rw [← HC.out,E.out,List.append_nil]
   exact P3.out
 ·rw [Pl.vb_false hI]
  have E:=hide (show one cc ⟨3,x,y,s,o⟩ = [] from one_no (by
   rw [HC.out]
   unfold pkA
   rw [Pl.vb_false hI,if_neg (by decide)]
   decide))
  clear hI
  go_wp2
  refine bodyPost_end (results_none rfl _ _ _) rfl ⟨rfl,v,?_⟩
  rw [← HC.out,E.out,List.append_nil]
  exact P2.out
set_option maxRecDepth 100000 in
set_option maxHeartbeats 8000000 in
theorem pokes_any (d:Pl.Dg) (hd:Pl.Wf d) (F P:List Nat) (A B L R:Option Addr) (cp cq cl cr m:Nat) (w:World) (hm:m = 4 * d.n) (hs:ShAt w A B L R d F P) :
 Calls Try.prog 67 #[.agg #[.slice A d.n cp,.slice B m cq,.int .i64 d.lp,.slice L m cl,.slice R d.n cr]] w fun e w' => ∃ v,e = .returned v ∧ MovesIn w.heap.size w' v (if 64 < d.n + 2 then [] else pkX d F P (m + 2)) ∧ Below w.heap.size w w' := by
 have HM:=hide hm
 have HG:=hide hs
 have hn:=hd.few
 have hm2:m ≤ 256:=by omega
 have D0:=hide (row_at (W := w) (g := w.heap.size) (t := 64) (vs := [.slice A d.n cp,.slice B m cq,.int .i64 (d.lp:Int),.slice L m cl,.slice R d.n cr]) rfl)
 have BB0:=hide (show Below w.heap.size w (w.alloc (.cells #[.slice A d.n cp,.slice B m cq,.int .i64 (d.lp:Int),.slice L m cl,.slice R d.n cr] 64)) from (Below.refl _ _).alloc (Nat.le_refl _) _)
 have P0:=hide (show MG w 64 w.heap.size (w.heap.size + 1) [.slice A d.n cp,.slice B m cq,.int .i64 (d.lp:Int),.slice L m cl,.slice R d.n cr] (.slice none 0 0) [] ((w.alloc (.cells #[.slice A d.n cp,.slice B m cq,.int .i64 (d.lp:Int),.slice L m cl,.slice R d.n cr] 64)).alloc (.cells #[.slice none 0 0] 31)) from
  ⟨(row_at (vs := [_,_,_,_,_]) rfl).alloc _,row_at (vs := [_]) (by simp),⟨rfl,.inl ⟨rfl,rfl⟩⟩,((Below.refl _ _).alloc (Nat.le_refl _) _).alloc (by simp) _,Nat.le_refl _,by omega⟩)
 clear hs hm
 by_cases hF:(64:Int) < (d.n:Int) + 2
 ·have E:=hide (show (if 64 < d.n + 2 then [] else pkX d F P (m + 2)) = [] from if_pos (by omega))
  go_enter Try.func67,Try.ntmps67
  go_wp2
  go_ret
  exact ⟨_,rfl,⟨w.heap.size,Nat.le_refl _,by simp,by first | exact ⟨rfl,.inl ⟨rfl,rfl⟩⟩ | (rw [E.out]; exact ⟨rfl,.inl ⟨rfl,rfl⟩⟩)⟩,BB0.out⟩
 ·have E:=hide (show (if 64 < d.n + 2 then [] else pkX d F P (m + 2)) = pkX d F P (m + 2) from if_neg (by omega))
  clear D0 BB0
  go_enter Try.func67,Try.ntmps67
  go_wp2
  go_loopg [5,6,7] (m + 2) (fun g s5 s6 s7 wx => ∃ (k:Nat) (v:Value),k + g = m + 2 ∧ s5 = .int .i64 ((k:Int) - 2) ∧ MG w 64 w.heap.size (w.heap.size + 1) [.slice A d.n cp,.slice B m cq,.int .i64 (d.lp:Int),.slice L m cl,.slice R d.n cr] v (pkX d F P k) wx)
  case atStart => exact ⟨0,_,by omega,rfl,P0.out⟩
  case round =>
   clear P0
   obtain ⟨k,v,hkg,rfl,hp⟩:=hrel
   obtain ⟨go,rfl⟩:∃ go,go = gk := ⟨_,rfl⟩
   have HKG:=hide hkg
   have PK:=hide hp
   have hlen:=pkX_len hn F P k
   obtain ⟨x,hx⟩:∃ x:Int,x = (k:Int) - 2 := ⟨_,rfl⟩
   have HX:=hide hx
   rw [← hx]
   obtain ⟨d0,d1,d2,d3,d4,d5⟩:=box5 hp.d
   clear hp hx
   by_cases hk:k < m + 2
   ·have hki:x < (m:Int):=by have := HX.out; omega
    have x0:-2 ≤ x:=by have := HX.out; omega
    have x1:x < 4 * (d.n:Int):=by have := HM.out; omega
    clear hkg
    go_wp2
    go_loopg [6,7] (m + 2) (fun g s6 s7 wx => ∃ (j:Nat) (u:Value),j + g = m + 2 ∧ s6 = .int .i64 ((j:Int) - 2) ∧ MG w 64 w.heap.size (w.heap.size + 1) [.slice A d.n cp,.slice B m cq,.int .i64 (d.lp:Int),.slice L m cl,.slice R d.n cr] u (pkX d F P k ++ pkY d F P x j) wx)
    case atStart => exact ⟨0,v,by omega,rfl,by rw [show pkY d F P x 0 = [] from rfl,List.append_nil]; exact PK.out⟩
    case round =>
     clear PK d0 d1 d2 d3 d4 d5
     obtain ⟨j,u,hjg,rfl,hq⟩:=hrel
     obtain ⟨g1,rfl⟩:∃ g1,g1 = gk := ⟨_,rfl⟩
     have HJG:=hide hjg
     have QJ:=hide hq
     have hlen2:=pkY_len d F P x j
     obtain ⟨y,hy⟩:∃ y:Int,y = (j:Int) - 2 := ⟨_,rfl⟩
     have HY:=hide hy
     rw [← hy]
     obtain ⟨d0,d1,d2,d3,d4,d5⟩:=box5 hq.d
     clear hq hy
     by_cases hj:j < m + 2
     ·have hji:y < (m:Int):=by have := HY.out; omega
      have y0:-2 ≤ y:=by have := HY.out; omega
      have y1:y < 4 * (d.n:Int):=by have := HM.out; omega
      clear hjg
      by_cases cx:0 ≤ x
      ·by_cases cy:0 ≤ y
       ·by_cases cxy:x = y
        ·subst cxy
         go_wp2
         go_loopg [7] 3 (fun g s7 wx => ∃ (i:Nat) (u':Value),i + g = 3 ∧ s7 = .int .i64 ((i:Int) - 1) ∧ MG w 64 w.heap.size (w.heap.size + 1) [.slice A d.n cp,.slice B m cq,.int .i64 (d.lp:Int),.slice L m cl,.slice R d.n cr] u' (pkX d F P k ++ pkY d F P x j ++ pkS d F P x x i) wx)
         case atStart => exact ⟨0,u,by omega,rfl,by rw [show pkS d F P x x 0 = [] from rfl,List.append_nil]; exact QJ.out⟩
         case round =>
          clear QJ
          obtain ⟨i,u',hig,rfl,hq⟩:=hrel
          have HIG:=hide hig
          have QI:=hide hq
          have hlen3:=pkS_len d F P x x i
          obtain ⟨s,hs⟩:∃ s:Int,s = (i:Int) - 1 := ⟨_,rfl⟩
          have HS:=hide hs
          rw [← hs]
          clear hq hs
          by_cases hi:i < 3
          ·have s0:-1 ≤ s:=by have := HS.out; omega
           have s1:s ≤ 1:=by have := HS.out; omega
           clear hig
           go_wp2_with fail
           refine (pkTry_any d hd F P A B L R cp cq cl cr m _ _ u' _ x x s false w _ HM.out (HG.out.keep QI.out.bel) (by simp only [List.length_append]; omega) QI.out).mono ?_
           rintro e w1 ⟨rfl,u1,hp1⟩
           have Q1:=hide hp1
           clear hp1
           go_wp2_with fail
           refine (pkTry_any d hd F P A B L R cp cq cl cr m _ _ u1 _ x x s true w _ HM.out (HG.out.keep Q1.out.bel) (by have := one_len (pkA d F P x x s false) ⟨3,x,x,s,false⟩; simp only [List.length_append]; omega) Q1.out).mono ?_
           rintro e w2 ⟨rfl,u2,hp2⟩
           have Q2:=hide hp2
           clear hp2
           go_wp2
           go_roundg (gk - 1)
           case measure => have := HIG.out; omega
           case rel =>
            have e1:s + 1 = ((i + 1:Nat):Int) - 1:=by have := HS.out; omega
            have e2:pkS d F P x x (i + 1) = pkS d F P x x i ++ (one (pkA d F P x x s false) ⟨3,x,x,s,false⟩ ++ one (pkA d F P x x s true) ⟨3,x,x,s,true⟩):=by rw [HS.out]; rfl
            exact ⟨i + 1,u2,by have := HIG.out; omega,by rw [e1],by rw [e2]; simpa using Q2.out⟩
          ·have s1:¬ (s ≤ 1):=by have := HS.out; omega
           have ei:i = 3:=by omega
           have E3:=hide (show pkY d F P x (j + 1) = pkY d F P x j ++ pkS d F P x x i by rw [HY.out,ei]; rfl)
           have EY:=hide (show x + 1 = ((j + 1:Nat):Int) - 2 by have := HY.out; omega)
           clear hig ei
           go_wp2
           go_roundg (g1 - 1)
           case measure => have := HJG.out; omega
           case rel => exact ⟨j + 1,u',by have := HJG.out; omega,by rw [EY.out],by rw [E3.out]; simpa using QI.out⟩
        ·have t0:(x != y) = true:=by rw [bne_iff_ne]; exact cxy
         have CXY:=hide cxy
         clear cxy
         go_wp2_with fail
         refine (near_i d F P A B L R cp cq cl cr m x y _ HM.out (HG.out.keep QJ.out.bel) hn ⟨cx,x1⟩ ⟨cy,y1⟩).mono ?_
         rintro e wn ⟨rfl,hbn⟩
         have QN:=hide (QJ.out.below hbn)
         clear hbn d0 d1 d2 d3 d4 d5 QJ
         obtain ⟨nb,hnb⟩:∃ b,b = nearB F P d x.toNat y.toNat := ⟨_,rfl⟩
         rw [← hnb]
         have HNB:=hide hnb
         clear hnb
         cases nb with
         | true =>
           have QJ:=hide QN.out
           clear QN
           go_wp2
           go_loopg [7] 3 (fun g s7 wx => ∃ (i:Nat) (u':Value),i + g = 3 ∧ s7 = .int .i64 ((i:Int) - 1) ∧ MG w 64 w.heap.size (w.heap.size + 1) [.slice A d.n cp,.slice B m cq,.int .i64 (d.lp:Int),.slice L m cl,.slice R d.n cr] u' (pkX d F P k ++ pkY d F P x j ++ pkS d F P x y i) wx)
           case atStart => exact ⟨0,u,by omega,rfl,by rw [show pkS d F P x y 0 = [] from rfl,List.append_nil]; exact QJ.out⟩
           case round =>
            clear QJ
            obtain ⟨i,u',hig,rfl,hq⟩:=hrel
            have HIG:=hide hig
            have QI:=hide hq
            have hlen3:=pkS_len d F P x y i
            obtain ⟨s,hs⟩:∃ s:Int,s = (i:Int) - 1 := ⟨_,rfl⟩
            have HS:=hide hs
            rw [← hs]
            clear hq hs
            by_cases hi:i < 3
            ·have s0:-1 ≤ s:=by have := HS.out; omega
             have s1:s ≤ 1:=by have := HS.out; omega
             clear hig
             go_wp2_with fail
             refine (pkTry_any d hd F P A B L R cp cq cl cr m _ _ u' _ x y s false w _ HM.out (HG.out.keep QI.out.bel) (by simp only [List.length_append]; omega) QI.out).mono ?_
             rintro e w1 ⟨rfl,u1,hp1⟩
             have Q1:=hide hp1
             clear hp1
             go_wp2_with fail
             refine (pkTry_any d hd F P A B L R cp cq cl cr m _ _ u1 _ x y s true w _ HM.out (HG.out.keep Q1.out.bel) (by have := one_len (pkA d F P x y s false) ⟨3,x,y,s,false⟩; simp only [List.length_append]; omega) Q1.out).mono ?_
             rintro e w2 ⟨rfl,u2,hp2⟩
             have Q2:=hide hp2
             clear hp2
             go_wp2
             go_roundg (gk - 1)
             case measure => have := HIG.out; omega
             case rel =>
              have e1:s + 1 = ((i + 1:Nat):Int) - 1:=by have := HS.out; omega
              have e2:pkS d F P x y (i + 1) = pkS d F P x y i ++ (one (pkA d F P x y s false) ⟨3,x,y,s,false⟩ ++ one (pkA d F P x y s true) ⟨3,x,y,s,true⟩):=by rw [HS.out]; rfl
              exact ⟨i + 1,u2,by have := HIG.out; omega,by rw [e1],by rw [e2]; simpa using Q2.out⟩
            ·have s1:¬ (s ≤ 1):=by have := HS.out; omega
             have ei:i = 3:=by omega
             have E3:=hide (show pkY d F P x (j + 1) = pkY d F P x j ++ pkS d F P x y i by rw [HY.out,ei]; rfl)
             have EY:=hide (show y + 1 = ((j + 1:Nat):Int) - 2 by have := HY.out; omega)
             clear hig ei
             go_wp2
             go_roundg (g1 - 1)
             case measure => have := HJG.out; omega
             case rel => exact ⟨j + 1,u',by have := HJG.out; omega,by rw [EY.out],by rw [E3.out]; simpa using QI.out⟩
         | false =>
           have E3:=hide (show pkY d F P x (j + 1) = pkY d F P x j by
            show pkY d F P x j ++ pkS d F P x ((j:Int) - 2) 3 = _
            rw [← HY.out,pkS_none ⟨cx,cy,CXY.out,HNB.out.symm⟩,List.append_nil])
           have EY:=hide (show y + 1 = ((j + 1:Nat):Int) - 2 by have := HY.out; omega)
           go_wp2
           go_roundg (g1 - 1)
           case measure => have := HJG.out; omega
           case rel => exact ⟨j + 1,u,by have := HJG.out; omega,by rw [EY.out],by rw [E3.out]; exact QN.out⟩
       ·have cy1:y < 0:=by omega
        go_wp2
        go_loopg [7] 3 (fun g s7 wx => ∃ (i:Nat) (u':Value),i + g = 3 ∧ s7 = .int .i64 ((i:Int) - 1) ∧ MG w 64 w.heap.size (w.heap.size + 1) [.slice A d.n cp,.slice B m cq,.int .i64 (d.lp:Int),.slice L m cl,.slice R d.n cr] u' (pkX d F P k ++ pkY d F P x j ++ pkS d F P x y i) wx)
        case atStart => exact ⟨0,u,by omega,rfl,by rw [show pkS d F P x y 0 = [] from rfl,List.append_nil]; exact QJ.out⟩
        case round =>
         clear QJ
         obtain ⟨i,u',hig,rfl,hq⟩:=hrel
         have HIG:=hide hig
         have QI:=hide hq
         have hlen3:=pkS_len d F P x y i
         obtain ⟨s,hs⟩:∃ s:Int,s = (i:Int) - 1 := ⟨_,rfl⟩
         have HS:=hide hs
         rw [← hs]
         clear hq hs
         by_cases hi:i < 3
         ·have s0:-1 ≤ s:=by have := HS.out; omega
          have s1:s ≤ 1:=by have := HS.out; omega
          clear hig
          go_wp2_with fail
          refine (pkTry_any d hd F P A B L R cp cq cl cr m _ _ u' _ x y s false w _ HM.out (HG.out.keep QI.out.bel) (by simp only [List.length_append]; omega) QI.out).mono ?_
          rintro e w1 ⟨rfl,u1,hp1⟩
          have Q1:=hide hp1
          clear hp1
          go_wp2_with fail
          refine (pkTry_any d hd F P A B L R cp cq cl cr m _ _ u1 _ x y s true w _ HM.out (HG.out.keep Q1.out.bel) (by have := one_len (pkA d F P x y s false) ⟨3,x,y,s,false⟩; simp only [List.length_append]; omega) Q1.out).mono ?_
          rintro e w2 ⟨rfl,u2,hp2⟩
          have Q2:=hide hp2
          clear hp2
          go_wp2
          go_roundg (gk - 1)
          case measure => have := HIG.out; omega
          case rel =>
           have e1:s + 1 = ((i + 1:Nat):Int) - 1:=by have := HS.out; omega
           have e2:pkS d F P x y (i + 1) = pkS d F P x y i ++ (one (pkA d F P x y s false) ⟨3,x,y,s,false⟩ ++ one (pkA d F P x y s true) ⟨3,x,y,s,true⟩):=by rw [HS.out]; rfl
           exact ⟨i + 1,u2,by have := HIG.out; omega,by rw [e1],by rw [e2]; simpa using Q2.out⟩
         ·have s1:¬ (s ≤ 1):=by have := HS.out; omega
          have ei:i = 3:=by omega
          have E3:=hide (show pkY d F P x (j + 1) = pkY d F P x j ++ pkS d F P x y i by rw [HY.out,ei]; rfl)
          have EY:=hide (show y + 1 = ((j + 1:Nat):Int) - 2 by have := HY.out; omega)
          clear hig ei
          go_wp2
          go_roundg (g1 - 1)
          case measure => have := HJG.out; omega
          case rel => exact ⟨j + 1,u',by have := HJG.out; omega,by rw [EY.out],by rw [E3.out]; simpa using QI.out⟩
      ·have cx1:x < 0:=by omega
       go_wp2
       go_loopg [7] 3 (fun g s7 wx => ∃ (i:Nat) (u':Value),i + g = 3 ∧ s7 = .int .i64 ((i:Int) - 1) ∧ MG w 64 w.heap.size (w.heap.size + 1) [.slice A d.n cp,.slice B m cq,.int .i64 (d.lp:Int),.slice L m cl,.slice R d.n cr] u' (pkX d F P k ++ pkY d F P x j ++ pkS d F P x y i) wx)
       case atStart => exact ⟨0,u,by omega,rfl,by rw [show pkS d F P x y 0 = [] from rfl,List.append_nil]; exact QJ.out⟩
       case round =>
        clear QJ
        obtain ⟨i,u',hig,rfl,hq⟩:=hrel
        have HIG:=hide hig
        have QI:=hide hq
        have hlen3:=pkS_len d F P x y i
        obtain ⟨s,hs⟩:∃ s:Int,s = (i:Int) - 1 := ⟨_,rfl⟩
        have HS:=hide hs
        rw [← hs]
        clear hq hs
        by_cases hi:i < 3
        ·have s0:-1 ≤ s:=by have := HS.out; omega
         have s1:s ≤ 1:=by have := HS.out; omega
         clear hig
         go_wp2_with fail
         refine (pkTry_any d hd F P A B L R cp cq cl cr m _ _ u' _ x y s false w _ HM.out (HG.out.keep QI.out.bel) (by simp only [List.length_append]; omega) QI.out).mono ?_
         rintro e w1 ⟨rfl,u1,hp1⟩
         have Q1:=hide hp1
         clear hp1
         go_wp2_with fail
         refine (pkTry_any d hd F P A B L R cp cq cl cr m _ _ u1 _ x y s true w _ HM.out (HG.out.keep Q1.out.bel) (by have := one_len (pkA d F P x y s false) ⟨3,x,y,s,false⟩; simp only [List.length_append]; omega) Q1.out).mono ?_
         rintro e w2 ⟨rfl,u2,hp2⟩
         have Q2:=hide hp2
         clear hp2
         go_wp2
         go_roundg (gk - 1)
         case measure => have := HIG.out; omega
         case rel =>
          have e1:s + 1 = ((i + 1:Nat):Int) - 1:=by have := HS.out; omega
          have e2:pkS d F P x y (i + 1) = pkS d F P x y i ++ (one (pkA d F P x y s false) ⟨3,x,y,s,false⟩ ++ one (pkA d F P x y s true) ⟨3,x,y,s,true⟩):=by rw [HS.out]; rfl
          exact ⟨i + 1,u2,by have := HIG.out; omega,by rw [e1],by rw [e2]; simpa using Q2.out⟩
        ·have s1:¬ (s ≤ 1):=by have := HS.out; omega
         have ei:i = 3:=by omega
         have E3:=hide (show pkY d F P x (j + 1) = pkY d F P x j ++ pkS d F P x y i by rw [HY.out,ei]; rfl)
         have EY:=hide (show y + 1 = ((j + 1:Nat):Int) - 2 by have := HY.out; omega)
         clear hig ei
         go_wp2
         go_roundg (g1 - 1)
         case measure => have := HJG.out; omega
         case rel => exact ⟨j + 1,u',by have := HJG.out; omega,by rw [EY.out],by rw [E3.out]; simpa using QI.out⟩
     ·have hji:¬ (y < (m:Int)):=by have := HY.out; omega
      have ej:j = 4 * d.n + 2:=by have := HM.out; omega
      have E2:=hide (show pkX d F P (k + 1) = pkX d F P k ++ pkY d F P x j by rw [HX.out,ej]; rfl)
      have EX:=hide (show x + 1 = ((k + 1:Nat):Int) - 2 by have := HX.out; omega)
      clear hjg ej
      go_wp2
      go_roundg (go - 1)
      case measure => have := HKG.out; omega
      case rel => exact ⟨k + 1,u,by have := HKG.out; omega,by rw [EX.out],by rw [E2.out]; exact QJ.out⟩
   ·have hki:¬ (x < (m:Int)):=by have := HX.out; omega
    have e:k = m + 2:=by omega
    have EE:=hide (show pkX d F P (m + 2) = pkX d F P k by rw [e])
    obtain ⟨q0,q1⟩:=box1 PK.out.l
    clear hkg e
    go_wp2
    go_ret
    exact ⟨v,rfl,⟨w.heap.size + 1 + 1,by omega,PK.out.big,by first | (rw [EE.out]; exact PK.out.o) | (rw [E.out,EE.out]; exact PK.out.o)⟩,PK.out.bel⟩
end Go.Proofs.Ytobbepmlmbbamaa
end
section
namespace Go.Proofs.Ytobbepmlmbbamaa
open Go Go.RowKit
attribute [local go_sem ↓] Go.wp_at_zero Go.wp_at_succ
section
variable {P:Program} (w:World)
def SrcAt (w:World) (A:Option Addr) (m:Nat) (xs:List Value):Prop := xs.length = m * 5 ∧ (0 < m → ∃ b o,A = some ⟨b,o,none⟩ ∧ ∀ (j:Nat) u,xs[j]? = some u → w.cell? ⟨b,o + j,none⟩ = some u) ∧ ∀ u ∈ xs,u.oneCell' = true
theorem mvs_one (ms:List Mv):∀ u ∈ mvs ms,u.oneCell' = true := by
 intro u hu
 unfold mvs at hu
 obtain ⟨m,_,hm⟩:=List.mem_flatMap.1 hu
 simp only [Mv.cells,List.mem_cons,List.not_mem_nil,or_false] at hm
 rcases hm with rfl | rfl | rfl | rfl | rfl <;> rfl
theorem MovesAt.src {w:World} {v:Value} {ms:List Mv} (h:MovesAt w v ms):∃ (A:Option Addr) (c:Nat),v = .slice A ms.length c ∧ SrcAt w A ms.length (mvs ms) := by
 obtain ⟨base,h⟩:=h
 obtain ⟨A,c,rfl⟩:=owns_slice h
 refine ⟨A,c,rfl,h.1,fun hp => ?_,mvs_one ms⟩
 obtain ⟨g,cap,e,_,hg⟩:=World.ownsRow.form h hp
 injection e with e1 _ _
 subst e1
 refine ⟨g,0,rfl,fun j u hu => ?_⟩
 have hj:j < ms.length * 5:=by
  have:=(List.getElem?_eq_some_iff.1 hu).1
  rw [mvs_len] at this
  exact this
 rw [Nat.zero_add,World.ownsRow.cellAt h j hj]
 exact hu
theorem run_append_src (base:Nat) (t ty e:TypeId) (i:TypeInfo) (z:Value) (bytes:Nat) (ht:P.underlying t = some (.slice e)) (hi:P.info? e = some i) (hz:i.zero = some z)
 (hsize:i.size = 5) (hby:i.bytes = bytes) (hzs:z.cells.size = 5)
 (v:Value) (n:Nat) (xs:List Value) (hown:w.ownsRow base e 5 v n xs)
 (A:Option Addr) (m c:Nat) (ys:List Value) (hin:SrcAt w A m ys)
 (h63:n + m ≤ maxLen) (hbytes:(n + m) * bytes ≤ 140737488355328) (hbase:base ≤ w.heap.size) :
 ∃ v' w',(Builtin.append_ #[t,t] ty #[v,.slice A m c]).run P w = .ok v' w' ∧ w'.ownsRow base e 5 v' (n + m) (xs ++ ys) ∧ w.grownBy w' v.ownBlock := by
 have hl:=hin.1
 rcases Nat.eq_zero_or_pos m with h0 | h0
 ·subst h0
  obtain rfl:ys = [] := List.eq_nil_of_length_eq_zero (by omega)
  have hr:(Builtin.append_ #[t,t] ty #[v,.slice A 0 c]).run P w = .ok v w:=by
   rcases hown.2 with ⟨rfl,rfl⟩ | ⟨g,cap,cur,rfl,_,_,hnc,_⟩
   ·cases A <;> simp [Builtin.append_,run_underlying ht,sizeOf,typeInfo,hi,Builtin.lenOf,Builtin.firstCells,loadCells,loadCellsFrom]
   ·cases A <;> simp [Builtin.append_,run_underlying ht,sizeOf,typeInfo,hi,Builtin.lenOf,Builtin.firstCells,hnc,storeCells,loadCells,loadCellsFrom]
  refine ⟨v,w,hr,by simpa using hown,⟨rfl,rfl,rfl,Nat.le_refl _,fun _ _ _ => rfl⟩⟩
 ·obtain ⟨b,o,rfl,hc⟩:=hin.2.1 h0
  obtain ⟨v',w',hr,h2,h3,_⟩:=run_append_own (P := P) w base t ty e i z 5 bytes ht hi hz hsize hby hzs (by omega) v n xs hown ⟨b,o,none⟩ m c ys hl (fun j u hu => by
   have:(⟨b,o,none⟩:Addr).add j = ⟨b,o + j,none⟩:=by unfold Addr.add; split <;> simp_all
   rw [this]; exact hc j u hu) hin.2.2 h63 hbytes hbase
  exact ⟨v',w',hr,h2,h3⟩
theorem wp_append_src {o:Oper} {a:Act} {K:Act → World → Prop} {Q:Exit → Act → World → Prop} (s x:Operand) (t:TypeId)
 (ho:o.op = .call { callee := .builtin .append,args := #[s,x],argTypes := #[t,t] })
 (base:Nat) (e:TypeId) (i:TypeInfo) (z:Value) (bytes:Nat) (ht:P.underlying t = some (.slice e)) (hi:P.info? e = some i) (hz:i.zero = some z)
 (hsize:i.size = 5) (hby:i.bytes = bytes) (hzs:z.cells.size = 5)
 (v:Value) (n:Nat) (xs:List Value) (hs:a.eval s = v) (hown:w.ownsRow base e 5 v n xs)
 (A:Option Addr) (m c:Nat) (ys:List Value) (hx:a.eval x = .slice A m c) (hin:SrcAt w A m ys)
 (h63:n + m ≤ maxLen) (hbytes:(n + m) * bytes ≤ 140737488355328) (hbase:base ≤ w.heap.size)
 (h:∀ v' w',w'.ownsRow base e 5 v' (n + m) (xs ++ ys) → w.grownBy w' v.ownBlock → K (a.put o.dst v') w'):o.wp P a w K Q := by
 obtain ⟨v',w',hr,h2,h3⟩:=run_append_src (P := P) w base t o.type e i z bytes ht hi hz hsize hby hzs v n xs hown A m c ys hin h63 hbytes hbase
 unfold Oper.wp execOp
 simp only [ho,resolve,invoke,builtin,Sem.run_bind,Sem.run_pure,Result.andThen_ok,List.map_toArray,List.map_cons,List.map_nil,hs,hx,hr]
 exact h v' w' h2 h3
theorem wpList_append_src {ops:Array Oper} {rest:List Oper} {o:Oper} {a:Act} {Q:Exit → Act → World → Prop} (hgd:o.guard = none) (s x:Operand) (t:TypeId)
 (ho:o.op = .call { callee := .builtin .append,args := #[s,x],argTypes := #[t,t] })
 (base:Nat) (e:TypeId) (i:TypeInfo) (z:Value) (bytes:Nat) (ht:P.underlying t = some (.slice e)) (hi:P.info? e = some i) (hz:i.zero = some z)
 (hsize:i.size = 5) (hby:i.bytes = bytes) (hzs:z.cells.size = 5)
 (v:Value) (n:Nat) (xs:List Value) (hs:a.eval s = v) (hown:w.ownsRow base e 5 v n xs)
 (A:Option Addr) (m c:Nat) (ys:List Value) (hx:a.eval x = .slice A m c) (hin:SrcAt w A m ys)
 (h63:n + m ≤ maxLen) (hbytes:(n + m) * bytes ≤ 140737488355328) (hbase:base ≤ w.heap.size)
 (h:∀ v' w',w'.ownsRow base e 5 v' (n + m) (xs ++ ys) → w.grownBy w' v.ownBlock → wpList P ops Q rest (a.put o.dst v') w'):wpList P ops Q (o :: rest) a w :=
 wpList_plain hgd fun _ hK => wp_append_src w s x t ho base e i z bytes ht hi hz hsize hby hzs v n xs hs hown A m c ys hx hin h63 hbytes hbase fun v' w' h2 h3 => hK _ _ (h v' w' h2 h3)
theorem step_append_src {ops:Array Oper} {o:Oper} {a:Act} {K:Act → World → Prop} {Q:Exit → Act → World → Prop} {E:Prop} (hgd:o.guard = none) (s x:Operand) (t:TypeId)
 (ho:o.op = .call { callee := .builtin .append,args := #[s,x],argTypes := #[t,t] })
 (base:Nat) (e:TypeId) (i:TypeInfo) (z:Value) (bytes:Nat) (ht:P.underlying t = some (.slice e)) (hi:P.info? e = some i) (hz:i.zero = some z)
 (hsize:i.size = 5) (hby:i.bytes = bytes) (hzs:z.cells.size = 5)
 (v:Value) (n:Nat) (xs:List Value) (hs:a.eval s = v) (hown:w.ownsRow base e 5 v n xs)
 (A:Option Addr) (m c:Nat) (ys:List Value) (hx:a.eval x = .slice A m c) (hin:SrcAt w A m ys)
 (h63:n + m ≤ maxLen) (hbytes:(n + m) * bytes ≤ 140737488355328) (hbase:base ≤ w.heap.size)
 (h:∀ v' w',w'.ownsRow base e 5 v' (n + m) (xs ++ ys) → w.grownBy w' v.ownBlock → K (a.put o.dst v') w') :
 if Region.wanted o (yielded ops a.tmps) = true then Oper.wp P o a w K Q else E := by
 have hw:Region.wanted o (yielded ops a.tmps) = true:=by simp [Region.wanted,hgd]
 rw [if_pos hw]
 exact wp_append_src w s x t ho base e i z bytes ht hi hz hsize hby hzs v n xs hs hown A m c ys hx hin h63 hbytes hbase h
end
def cuN (x:Int):List Mv := [⟨1,x,0,-1,false⟩,⟨1,x,0,-1,true⟩,⟨1,x,0,1,false⟩,⟨1,x,0,1,true⟩]
def cuC:Nat → List Mv
 | 0 => []
 | k + 1 => cuC k ++ cuN ((k:Int) - 1)
def unC:Nat → List Mv
 | 0 => []
 | k + 1 => unC k ++ [⟨2,k,0,0,false⟩]
def pkN (x y:Int):Nat → List Mv
 | 0 => []
 | j + 1 => pkN x y j ++ [⟨3,x,y,(j:Int) - 1,false⟩,⟨3,x,y,(j:Int) - 1,true⟩]
def pkNY (x:Int):Nat → List Mv
 | 0 => []
 | k + 1 => pkNY x k ++ pkN x ((k:Int) - 2) 3
def pkNX (n:Nat):Nat → List Mv
 | 0 => []
 | k + 1 => pkNX n k ++ pkNY ((k:Int) - 2) (4 * n + 2)
def upN (x:Nat):Nat → List Mv
 | 0 => []
 | k + 1 => upN x k ++ (if x < k then [⟨4,x,k,0,false⟩] else [])
def upNX (n:Nat):Nat → List Mv
 | 0 => []
 | k + 1 => upNX n k ++ upN k n
noncomputable def sel (d:Pl.Dg) (l:List Mv):List Mv := l.flatMap (fun m => one (apC d m) m)
theorem sel_nil (d:Pl.Dg):sel d [] = [] := rfl
theorem sel_app (d:Pl.Dg) (l r:List Mv):sel d (l ++ r) = sel d l ++ sel d r := by unfold sel; rw [List.flatMap_append]
theorem sel_cons (d:Pl.Dg) (m:Mv) (l:List Mv):sel d (m :: l) = one (apC d m) m ++ sel d l := by unfold sel; rw [List.flatMap_cons]
theorem mem_one {c:Int} {m z:Mv}:z ∈ one c m ↔ z = m ∧ c = 0 := by
 unfold one
 split
 ·rename_i h; simp [h]
 ·rename_i h; simp [h]
theorem mem_sel {d:Pl.Dg} {l:List Mv} {z:Mv}:z ∈ sel d l ↔ z ∈ l ∧ apC d z = 0 := by
 unfold sel
 rw [List.mem_flatMap]
 constructor
 ·rintro ⟨m,h1,h2⟩
  obtain ⟨rfl,h3⟩:=mem_one.1 h2
  exact ⟨h1,h3⟩
 ·rintro ⟨h1,h2⟩
  exact ⟨z,h1,mem_one.2 ⟨rfl,h2⟩⟩
theorem sel_len (d:Pl.Dg):∀ l,(sel d l).length ≤ l.length
 | [] => Nat.le_refl _
 | m :: l => by
   have a:=sel_len d l
   have b:=one_len (apC d m) m
   rw [sel_cons,List.length_append,List.length_cons]
   omega
theorem apC_in {d:Pl.Dg} {m:Mv} (hk:1 ≤ m.kind ∧ m.kind ≤ 5) (hin:inR d.n m):apC d m = if m.kind = 1 then curlableC d m.x else if m.kind = 2 then uncC d m.x.toNat else if m.kind = 3 then pkQ d m.x m.y m.sign else if m.kind = 4 then unpC d m.x.toNat m.y.toNat else sldC d m.x.toNat := by
 unfold apC
 rw [if_neg (by omega),if_neg (by rw [Pl.vb_true hin]; decide)]
theorem apC_out {d:Pl.Dg} {m:Mv} (hk:1 ≤ m.kind ∧ m.kind ≤ 5) (hin:¬ inR d.n m):apC d m = 2 := by
 unfold apC
 rw [if_neg (by omega),if_pos (Pl.vb_false hin)]
theorem cu_code {d:Pl.Dg} {x s:Int} {o:Bool} (hx:-1 ≤ x ∧ x < 4 * (d.n:Int)) (hs:s = 1 ∨ s = -1):apC d ⟨1,x,0,s,o⟩ = curlableC d x := by
 rw [apC_in (by simp) (by unfold inR; simp; omega)]
 simp
theorem un_code {d:Pl.Dg} {c:Nat} (hc:c < d.n):apC d ⟨2,c,0,0,false⟩ = uncC d c := by
 rw [apC_in (by simp) (by unfold inR; simp; omega)]
 simp
theorem up_code {d:Pl.Dg} {x y:Nat} (hx:x < y) (hy:y < d.n):apC d ⟨4,x,y,0,false⟩ = unpC d x y := by
 rw [apC_in (by simp) (by unfold inR; simp; omega)]
 simp
theorem pk_code {d:Pl.Dg} {F P:List Nat} (hF:∀ x y,x < 4 * d.n → y < 4 * d.n → (F.getD x 0 = F.getD y 0 ↔ Pl.Orb (Pl.nx d) x y)) (hP:∀ x y,x < d.n → y < d.n → (P.getD x 0 = P.getD y 0 ↔ Pl.Comp d x y)) {x y s:Int} {o:Bool} (hx:x < 4 * d.n) (hy:y < 4 * d.n):apC d ⟨3,x,y,s,o⟩ = pkA d F P x y s o := by
 unfold pkA
 by_cases hin:inR d.n ⟨3,x,y,s,o⟩
 ·rw [apC_in (by simp) hin,if_pos (Pl.vb_true hin),pkC_eq hF hP hx hy]
  simp
 ·rw [apC_out (by simp) hin,if_neg (by rw [Pl.vb_false hin]; decide)]
theorem cu_sel (d:Pl.Dg):∀ k,k ≤ 4 * d.n + 1 → cuL d k = sel d (cuC k)
 | 0,_ => rfl
 | k + 1, h => by
   show cuL d k ++ cuX d ((k:Int) - 1) = sel d (cuC k ++ cuN ((k:Int) - 1))
   rw [sel_app,cu_sel d k (by omega)]
   congr 1
   unfold cuX cuN
   simp only [sel_cons,sel_nil]
   rw [cu_code (by omega) (.inr rfl),cu_code (by omega) (.inr rfl),cu_code (by omega) (.inl rfl),cu_code (by omega) (.inl rfl)]
   simp
theorem un_sel (d:Pl.Dg):∀ k,k ≤ d.n → unL d k = sel d (unC k)
 | 0,_ => rfl
 | k + 1, h => by
   show unL d k ++ one (uncC d k) ⟨2,k,0,0,false⟩ = sel d (unC k ++ [⟨2,k,0,0,false⟩])
   rw [sel_app,un_sel d k (by omega),sel_cons,sel_nil,un_code (by omega),List.append_nil]
theorem upY_sel (d:Pl.Dg) (x:Nat):∀ k,k ≤ d.n → upY d x k = sel d (upN x k)
 | 0,_ => rfl
 | k + 1, h => by
   show upY d x k ++ (if x < k then one (unpC d x k) ⟨4,x,k,0,false⟩ else []) = sel d (upN x k ++ (if x < k then [⟨4,x,k,0,false⟩] else []))
   rw [sel_app,upY_sel d x k (by omega)]
   congr 1
   split
   ·rename_i hx; rw [sel_cons,sel_nil,up_code hx (by omega),List.append_nil]
   ·rfl
theorem up_sel (d:Pl.Dg):∀ k,upX d k = sel d (upNX d.n k)
 | 0 => rfl
 | k + 1 => by
   show upX d k ++ upY d k d.n = sel d (upNX d.n k ++ upN k d.n)
   rw [sel_app,up_sel d k,upY_sel d k d.n (Nat.le_refl _)]
section
variable {d:Pl.Dg} {F P:List Nat}
theorem pkS_sel (hF:∀ x y,x < 4 * d.n → y < 4 * d.n → (F.getD x 0 = F.getD y 0 ↔ Pl.Orb (Pl.nx d) x y)) (hP:∀ x y,x < d.n → y < d.n → (P.getD x 0 = P.getD y 0 ↔ Pl.Comp d x y)) {x y:Int} (hx:x < 4 * d.n) (hy:y < 4 * d.n):∀ k,pkS d F P x y k = sel d (pkN x y k)
 | 0 => rfl
 | k + 1 => by
   show pkS d F P x y k ++ (one (pkA d F P x y ((k:Int) - 1) false) ⟨3,x,y,(k:Int) - 1,false⟩ ++ one (pkA d F P x y ((k:Int) - 1) true) ⟨3,x,y,(k:Int) - 1,true⟩) = sel d (pkN x y k ++ [⟨3,x,y,(k:Int) - 1,false⟩,⟨3,x,y,(k:Int) - 1,true⟩])
   rw [sel_app,pkS_sel hF hP hx hy k,sel_cons,sel_cons,sel_nil,pk_code hF hP hx hy,pk_code hF hP hx hy,List.append_nil]
theorem pkY_sel (hF:∀ x y,x < 4 * d.n → y < 4 * d.n → (F.getD x 0 = F.getD y 0 ↔ Pl.Orb (Pl.nx d) x y)) (hP:∀ x y,x < d.n → y < d.n → (P.getD x 0 = P.getD y 0 ↔ Pl.Comp d x y)) {x:Int} (hx:x < 4 * d.n):∀ k,k ≤ 4 * d.n + 2 → pkY d F P x k = sel d (pkNY x k)
 | 0,_ => rfl
 | k + 1, h => by
   show pkY d F P x k ++ pkS d F P x ((k:Int) - 2) 3 = sel d (pkNY x k ++ pkN x ((k:Int) - 2) 3)
   rw [sel_app,pkY_sel hF hP hx k (by omega),pkS_sel hF hP hx (by omega)]
theorem pkX_sel (hF:∀ x y,x < 4 * d.n → y < 4 * d.n → (F.getD x 0 = F.getD y 0 ↔ Pl.Orb (Pl.nx d) x y)) (hP:∀ x y,x < d.n → y < d.n → (P.getD x 0 = P.getD y 0 ↔ Pl.Comp d x y)):∀ k,k ≤ 4 * d.n + 2 → pkX d F P k = sel d (pkNX d.n k)
 | 0,_ => rfl
 | k + 1, h => by
   show pkX d F P k ++ pkY d F P ((k:Int) - 2) (4 * d.n + 2) = sel d (pkNX d.n k ++ pkNY ((k:Int) - 2) (4 * d.n + 2))
   rw [sel_app,pkX_sel hF hP k (by omega),pkY_sel hF hP (by omega) _ (Nat.le_refl _)]
end
theorem pkNY_kind {x:Int}:∀ {k:Nat} {z:Mv},z ∈ pkNY x k → z.kind = 3
 | 0,z,h => by cases h
 | k + 1, z, h => by
   have h:z ∈ pkNY x k ++ pkN x ((k:Int) - 2) 3:=h
   rw [List.mem_append] at h
   rcases h with h | h
   ·exact pkNY_kind h
   ·simp only [pkN,List.mem_append,List.mem_cons,List.not_mem_nil,or_false,false_or] at h
    rcases h with ((rfl | rfl) | rfl | rfl) | rfl | rfl <;> rfl
theorem pkNX_kind {n:Nat}:∀ {k:Nat} {z:Mv},z ∈ pkNX n k → z.kind = 3
 | 0,z,h => by cases h
 | k + 1, z, h => by
   have h:z ∈ pkNX n k ++ pkNY ((k:Int) - 2) (4 * n + 2):=h
   rw [List.mem_append] at h
   rcases h with h | h
   ·exact pkNX_kind h
   ·exact pkNY_kind h
theorem pk_full {d:Pl.Dg} (h:64 < d.n + 2) (k:Nat):sel d (pkNX d.n k) = [] := by
 refine List.eq_nil_iff_forall_not_mem.2 fun z hz => ?_
 obtain ⟨h1,h2⟩:=mem_sel.1 hz
 have hk:=pkNX_kind h1
 by_cases hin:inR d.n z
 ·rw [apC_in (by omega) hin,if_neg (by omega),if_neg (by omega),if_pos hk] at h2
  unfold pkQ at h2
  rw [if_pos h] at h2
  split at h2
  ·cases h2
  ·split at h2 <;> cases h2
 ·rw [apC_out (by omega) hin] at h2
  cases h2
noncomputable def remL (d:Pl.Dg):List Mv := sel d (unC d.n) ++ sel d (upNX d.n d.n)
noncomputable def allL (d:Pl.Dg):List Mv := sel d (cuC (4 * d.n + 1)) ++ sel d (unC d.n) ++ sel d (pkNX d.n (4 * d.n + 2)) ++ sel d (upNX d.n d.n) ++ slL d (4 * d.n)
end Go.Proofs.Ytobbepmlmbbamaa
end
section
namespace Go.Proofs.Ytobbepmlmbbamaa
open Go Go.RowKit
attribute [local go_sem ↓] Go.wp_at_zero Go.wp_at_succ
theorem mvs_apps (ms r:List Mv):mvs (ms ++ r) = mvs ms ++ mvs r := by unfold mvs; rw [List.flatMap_append]
structure AL (w:World) (dv:List Value) (b:Nat) (v:Value) (ms:List Mv) (W:World):Prop where
 d:Row W w.heap.size 24 dv
 o:W.ownsRow b 28 5 v ms.length (mvs ms)
 bel:Below w.heap.size w W
 lo:w.heap.size < b
 lo2:b ≤ W.heap.size
section
variable {w W W' W2:World} {dv:List Value} {b:Nat} {v v':Value} {ms r:List Mv}
theorem AL.below (h:AL w dv b v ms W) (hb:Below W.heap.size W W'):AL w dv b v ms W' :=
 ⟨h.d.below hb,own_below h.o hb,h.bel.trans (hb.mono h.bel.size),h.lo,Nat.le_trans h.lo2 hb.size⟩
theorem AL.far (h:AL w dv b v ms W):some w.heap.size ≠ v.ownBlock := fun e => by have := (h.o.lt _ e.symm).1; have := h.lo; omega
theorem AL.app (h:AL w dv b v ms W) (own:W2.ownsRow b 28 5 v' (ms.length + r.length) (mvs ms ++ mvs r)) (gr:W.grownBy W2 v.ownBlock):AL w dv b v' (ms ++ r) W2 := by
 refine ⟨h.d.grown gr h.far,?_,h.bel.grown gr h.bel.size (fun k hk => by have := (h.o.lt k hk).1; have := h.lo; omega),h.lo,Nat.le_trans h.lo2 gr.size⟩
 rw [mvs_apps,List.length_append]
 exact own
end
theorem cu_le {d:Pl.Dg} (hn:d.n ≤ 64):(sel d (cuC (4 * d.n + 1))).length ≤ 1028 := by
 have a:=cuL_len d (4 * d.n + 1)
 rw [cu_sel d _ (Nat.le_refl _)] at a
 omega
theorem un_le {d:Pl.Dg} (hn:d.n ≤ 64):(sel d (unC d.n)).length ≤ 64 := by
 have a:=unL_len d d.n
 rw [un_sel d _ (Nat.le_refl _)] at a
 omega
theorem up_le {d:Pl.Dg} (hn:d.n ≤ 64):(sel d (upNX d.n d.n)).length ≤ 4096 := by
 have a:=upX_len hn d.n
 rw [up_sel d _] at a
 omega
theorem pk_all {d:Pl.Dg} (hn:d.n ≤ 64) {F P:List Nat} (hF:∀ x y,x < 4 * d.n → y < 4 * d.n → (F.getD x 0 = F.getD y 0 ↔ Pl.Orb (Pl.nx d) x y)) (hP:∀ x y,x < d.n → y < d.n → (P.getD x 0 = P.getD y 0 ↔ Pl.Comp d x y)) :
 (if 64 < d.n + 2 then [] else pkX d F P (4 * d.n + 2)) = sel d (pkNX d.n (4 * d.n + 2)) ∧ (sel d (pkNX d.n (4 * d.n + 2))).length ≤ 399384 := by
 have a:=pkX_len hn F P (4 * d.n + 2)
 rw [pkX_sel hF hP _ (Nat.le_refl _)] at a
 refine ⟨?_,by omega⟩
 split
 ·rename_i h
  rw [pk_full h]
 ·exact pkX_sel hF hP _ (Nat.le_refl _)
set_option maxRecDepth 100000 in
set_option maxHeartbeats 8000000 in
theorem All_any (d:Pl.Dg) (hd:Pl.Valid d) (A B:Option Addr) (cp cq m:Nat) (w:World) (hm:m = 4 * d.n) (hg:DgAt w A B d) :
 Calls Try.prog 30 #[.agg #[.slice A d.n cp,.slice B m cq,.int .i64 d.lp]] w fun e w' => ∃ v,e = .returned v ∧ MovesIn w.heap.size w' v (allL d) ∧ Below w.heap.size w w' := by
 have HM:=hide hm
 have HG:=hide hg
 have HW:=hide (Pl.Valid.iff.1 hd).1
 have hn:=hd.wf.few
 clear hg hm
 have R0:=hide (row_at (W := w) (g := w.heap.size) (t := 24) (vs := [.slice A d.n cp,.slice B m cq,.int .i64 (d.lp:Int)]) rfl)
 have B0:=hide (show Below w.heap.size w (w.alloc (.cells #[.slice A d.n cp,.slice B m cq,.int .i64 (d.lp:Int)] 24)) from (Below.refl _ _).alloc (Nat.le_refl _) _)
 go_enter Try.func30,Try.ntmps30
 go_wp2_with fail
 refine (valid_yes d hd A B cp cq m _ HM.out (HG.out.keep B0.out)).mono ?_
 rintro e w1 ⟨rfl,hb1⟩
 have R1:=hide (R0.out.below hb1)
 have B1:=hide (B0.out.trans (hb1.mono B0.out.size))
 clear hb1
 obtain ⟨d0,d1,d2,d3⟩:=box3 R1.out
 go_wp2_with fail
 refine (curls_any d HW.out A B cp cq m _ HM.out (HG.out.keep B1.out)).mono ?_
 rintro e w2 ⟨v2,rfl,⟨b,hlb,hlb2,own2⟩,hb2⟩
 have hw1:w.heap.size < w1.heap.size:=R1.out.lt
 have Q2:=hide (show AL w [.slice A d.n cp,.slice B m cq,.int .i64 (d.lp:Int)] b v2 (sel d (cuC (4 * d.n + 1))) w2 from
  ⟨R1.out.below hb2,by rw [HM.out] at own2; rw [cu_sel d _ (Nat.le_refl _)] at own2; exact own2,B1.out.trans (hb2.mono B1.out.size),by omega,hlb2⟩)
 clear hb2 own2 R1 B1 R0 B0 d0 d1 d2 d3
 obtain ⟨d0,d1,d2,d3⟩:=box3 Q2.out.d
 go_wp2_with fail
 refine (uncurls_any d HW.out A B cp cq m _ HM.out (HG.out.keep Q2.out.bel)).mono ?_
 rintro e w3 ⟨v3,rfl,hv3,hb3⟩
 rw [un_sel d _ (Nat.le_refl _)] at hv3
 obtain ⟨A3,c3,rfl,src3⟩:=hv3.at.src
 have Q3:=hide (Q2.out.below hb3)
 have S3:=hide src3
 have lcu:=cu_le (d := d) hn
 have lun:=un_le (d := d) hn
 have lup:=up_le (d := d) hn
 have B3:(sel d (cuC (4 * d.n + 1))).length + (sel d (unC d.n)).length ≤ maxLen:=by unfold maxLen; omega
 have C3:((sel d (cuC (4 * d.n + 1))).length + (sel d (unC d.n)).length) * 40 ≤ 140737488355328:=by omega
 have D3:b ≤ w3.heap.size:=Q3.out.lo2
 obtain ⟨n0,hn0,hz0,hz1,hz2⟩:=info_parts moveInfo
 clear hb3 hv3 src3 d0 d1 d2 d3 Q2
 go_wp2_with (at_builtin; refine wpList_append_src _ (by rfl) _ _ 31 (by rfl) b 28 n0 (.agg #[.int .i64 0,.int .i64 0,.int .i64 0,.int .i64 0,.bool false]) 40 Try.underlying31 hn0 hz0 hz1 hz2 rfl v2 _ _ (by rfl) Q3.out.o A3 _ c3 _ (by rfl) S3.out B3 C3 D3 ?_; intro v4 w4 own4 grow4; obtain ⟨d0,d1,d2,d3⟩:=box3 (Q3.out.app own4 grow4).d; have Q4 := hide (Q3.out.app own4 grow4); clear own4 grow4)
 clear Q3 S3 B3 C3 D3
 refine (survey_any d hd A B cp cq m _ HM.out (HG.out.keep Q4.out.bel)).mono ?_
 rintro e w5 ⟨L,R,cl,cr,F,P,he,hsh,hF,hP,hb5⟩
 have Q5:=hide (Q4.out.below hb5)
 have HSH:=hide hsh
 obtain ⟨pe,pl⟩:=pk_all hn hF hP
 have PE:=hide pe
 rw [← HM.out] at he
 unfold sheetV at he
 subst he
 have hb5s:=hb5.size
 clear hb5 hsh hF hP pe d0 d1 d2 d3 Q4
 obtain ⟨d0,d1,d2,d3⟩:=box3 Q5.out.d
 go_wp2_with fail
 refine (pokes_any d HW.out F P A B L R cp cq cl cr m _ HM.out HSH.out).mono ?_
 rintro e w6 ⟨v6,rfl,hv6,hb6⟩
 rw [HM.out,PE.out] at hv6
 obtain ⟨A6,c6,rfl,src6⟩:=hv6.at.src
 have Q6:=hide (Q5.out.below hb6)
 have S6:=hide src6
 have B6:(sel d (cuC (4 * d.n + 1)) ++ sel d (unC d.n)).length + (sel d (pkNX d.n (4 * d.n + 2))).length ≤ maxLen:=by unfold maxLen; rw [List.length_append]; omega
 have C6:((sel d (cuC (4 * d.n + 1)) ++ sel d (unC d.n)).length + (sel d (pkNX d.n (4 * d.n + 2))).length) * 40 ≤ 140737488355328:=by rw [List.length_append]; omega
 have D6:b ≤ w6.heap.size:=Q6.out.lo2
 clear hb6 hv6 src6 d0 d1 d2 d3 Q5 HSH PE
 go_wp2_with (at_builtin; refine wpList_append_src _ (by rfl) _ _ 31 (by rfl) b 28 n0 (.agg #[.int .i64 0,.int .i64 0,.int .i64 0,.int .i64 0,.bool false]) 40 Try.underlying31 hn0 hz0 hz1 hz2 rfl v4 _ _ (by rfl) Q6.out.o A6 _ c6 _ (by rfl) S6.out B6 C6 D6 ?_; intro v7 w7 own7 grow7; obtain ⟨d0,d1,d2,d3⟩:=box3 (Q6.out.app own7 grow7).d; have Q7 := hide (Q6.out.app own7 grow7); clear own7 grow7)
 clear Q6 S6 B6 C6 D6
 refine (unpokes_any d HW.out A B cp cq m _ HM.out (HG.out.keep Q7.out.bel)).mono ?_
 rintro e w8 ⟨v8,rfl,hv8,hb8⟩
 rw [up_sel] at hv8
 obtain ⟨A8,c8,rfl,src8⟩:=hv8.at.src
 have Q8:=hide (Q7.out.below hb8)
 have S8:=hide src8
 have B8:(sel d (cuC (4 * d.n + 1)) ++ sel d (unC d.n) ++ sel d (pkNX d.n (4 * d.n + 2))).length + (sel d (upNX d.n d.n)).length ≤ maxLen:=by unfold maxLen; simp only [List.length_append]; omega
 have C8:((sel d (cuC (4 * d.n + 1)) ++ sel d (unC d.n) ++ sel d (pkNX d.n (4 * d.n + 2))).length + (sel d (upNX d.n d.n)).length) * 40 ≤ 140737488355328:=by simp only [List.length_append]; omega
 have D8:b ≤ w8.heap.size:=Q8.out.lo2
 clear hb8 hv8 src8 d0 d1 d2 d3 Q7
 go_wp2_with (at_builtin; refine wpList_append_src _ (by rfl) _ _ 31 (by rfl) b 28 n0 (.agg #[.int .i64 0,.int .i64 0,.int .i64 0,.int .i64 0,.bool false]) 40 Try.underlying31 hn0 hz0 hz1 hz2 rfl v7 _ _ (by rfl) Q8.out.o A8 _ c8 _ (by rfl) S8.out B8 C8 D8 ?_; intro v9 w9 own9 grow9; obtain ⟨d0,d1,d2,d3⟩:=box3 (Q8.out.app own9 grow9).d; have Q9 := hide (Q8.out.app own9 grow9); clear own9 grow9)
 clear Q8 S8 B8 C8 D8
 refine (slides_any d HW.out A B cp cq m _ HM.out (HG.out.keep Q9.out.bel)).mono ?_
 rintro e w10 ⟨v10,rfl,hv10,hb10⟩
 rw [HM.out] at hv10
 have lsl:=slL_len d (4 * d.n)
 obtain ⟨A10,c10,rfl,src10⟩:=hv10.src
 have Q10:=hide (Q9.out.below hb10)
 have S10:=hide src10
 have B10:(sel d (cuC (4 * d.n + 1)) ++ sel d (unC d.n) ++ sel d (pkNX d.n (4 * d.n + 2)) ++ sel d (upNX d.n d.n)).length + (slL d (4 * d.n)).length ≤ maxLen:=by unfold maxLen; simp only [List.length_append]; omega
 have C10:((sel d (cuC (4 * d.n + 1)) ++ sel d (unC d.n) ++ sel d (pkNX d.n (4 * d.n + 2)) ++ sel d (upNX d.n d.n)).length + (slL d (4 * d.n)).length) * 40 ≤ 140737488355328:=by simp only [List.length_append]; omega
 have D10:b ≤ w10.heap.size:=Q10.out.lo2
 clear hb10 hv10 src10 d0 d1 d2 d3 Q9
 go_wp2_with (at_builtin; refine wpList_append_src _ (by rfl) _ _ 31 (by rfl) b 28 n0 (.agg #[.int .i64 0,.int .i64 0,.int .i64 0,.int .i64 0,.bool false]) 40 Try.underlying31 hn0 hz0 hz1 hz2 rfl v9 _ _ (by rfl) Q10.out.o A10 _ c10 _ (by rfl) S10.out B10 C10 D10 ?_; intro v11 w11 own11 grow11; obtain ⟨d0,d1,d2,d3⟩:=box3 (Q10.out.app own11 grow11).d; have Q11 := hide (Q10.out.app own11 grow11); clear own11 grow11)
 go_ret
 exact ⟨v11,rfl,⟨b,by have := Q11.out.lo; omega,Q11.out.lo2,Q11.out.o⟩,Q11.out.bel⟩
end Go.Proofs.Ytobbepmlmbbamaa
end
section
namespace Go.Proofs.Ytobbepmlmbbamaa
open Go Go.RowKit
attribute [local go_sem ↓] Go.wp_at_zero Go.wp_at_succ
theorem mv_get:∀ (ms:List Mv) (j:Nat) (z:Mv),ms[j]? = some z → ∀ (i:Nat) (u:Value),z.cells[i]? = some u → (mvs ms)[j * 5 + i]? = some u
 | [],j,z,h,_,_,_ => by cases h
 | m :: ms, 0, z, h, i, u, hu => by
   obtain rfl:m = z := by simpa using h
   have hi:i < m.cells.length:=(List.getElem?_eq_some_iff.1 hu).1
   show (m.cells ++ mvs ms)[0 * 5 + i]? = some u
   rw [Nat.zero_mul,Nat.zero_add,List.getElem?_append_left hi,hu]
 | m :: ms, j + 1, z, h, i, u, hu => by
   have ih:=mv_get ms j z (by simpa using h) i u hu
   show (m.cells ++ mvs ms)[(j + 1) * 5 + i]? = some u
   have e:m.cells.length = 5:=rfl
   rw [List.getElem?_append_right (by rw [e]; omega),e,← ih]
   congr 1
   omega
theorem mv_val {w:World} {v:Value} {ms:List Mv} (h:MovesAt w v ms):∃ (A:Option Addr) (c:Nat),v = .slice A ms.length c ∧ (0 < ms.length → ∃ g,A = some ⟨g,0,none⟩ ∧ g < w.heap.size ∧ ∀ (j:Nat) (z:Mv),ms[j]? = some z → ∀ (i:Nat) (u:Value),z.cells[i]? = some u → w.cell? ⟨g,j * 5 + i,none⟩ = some u) := by
 obtain ⟨base,h⟩:=h
 obtain ⟨A,c,rfl⟩:=owns_slice h
 refine ⟨A,c,rfl,fun hp => ?_⟩
 obtain ⟨g,cap,e,_,hg⟩:=World.ownsRow.form h hp
 injection e with e1 _ _
 subst e1
 refine ⟨g,rfl,hg,fun j z hz i u hu => ?_⟩
 have hj:j < ms.length:=(List.getElem?_eq_some_iff.1 hz).1
 have hi:i < 5:=(List.getElem?_eq_some_iff.1 hu).1
 rw [World.ownsRow.cellAt h (j * 5 + i) (by omega)]
 exact mv_get ms j z hz i u hu
def MovesV (w:World) (A:Option Addr) (n:Nat) (ms:List Mv):Prop := n = ms.length ∧ (0 < n → ∃ g,A = some ⟨g,0,none⟩ ∧ g < w.heap.size ∧ ∀ (j:Nat) (z:Mv),ms[j]? = some z → ∀ (i:Nat) (u:Value),z.cells[i]? = some u → w.cell? ⟨g,j * 5 + i,none⟩ = some u)
theorem MovesV.keep {w w':World} {A:Option Addr} {n:Nat} {ms:List Mv} (h:MovesV w A n ms) (hb:Below w.heap.size w w'):MovesV w' A n ms :=
 ⟨h.1,fun hp => let ⟨g,e,hl,hc⟩:=h.2 hp; ⟨g,e,Nat.lt_of_lt_of_le hl hb.size,fun j z hz i u hu => cell_below (hc j z hz i u hu) hb⟩⟩
theorem MovesAt.mv {w:World} {v:Value} {ms:List Mv} (h:MovesAt w v ms):∃ (A:Option Addr) (c:Nat),v = .slice A ms.length c ∧ MovesV w A ms.length ms := by
 obtain ⟨A,c,e,h2⟩:=mv_val h
 exact ⟨A,c,e,rfl,h2⟩
theorem MovesV.at_ {w:World} {A:Option Addr} {n j:Nat} {ms:List Mv} (h:MovesV w A n ms) (hj:j < n):∃ g k x y s o,A = some ⟨g,0,none⟩ ∧ g < w.heap.size ∧ ms[j]? = some ⟨k,x,y,s,o⟩ ∧ w.cell? ⟨g,j * 5,none⟩ = some (.int .i64 k) ∧ w.cell? ⟨g,j * 5 + 1,none⟩ = some (.int .i64 x) ∧ w.cell? ⟨g,j * 5 + 2,none⟩ = some (.int .i64 y) ∧ w.cell? ⟨g,j * 5 + 3,none⟩ = some (.int .i64 s) ∧ w.cell? ⟨g,j * 5 + 4,none⟩ = some (.bool o) := by
 obtain ⟨g,e,hl,hc⟩:=h.2 (by omega)
 obtain ⟨z,hz⟩:∃ z,ms[j]? = some z := ⟨_,List.getElem?_eq_getElem (by rw [← h.1]; exact hj)⟩
 obtain ⟨k,x,y,s,o⟩:=z
 exact ⟨g,k,x,y,s,o,e,hl,hz,hc j _ hz 0 _ rfl,hc j _ hz 1 _ rfl,hc j _ hz 2 _ rfl,hc j _ hz 3 _ rfl,hc j _ hz 4 _ rfl⟩
set_option maxRecDepth 100000 in
set_option maxHeartbeats 4000000 in
theorem same_moves (ms:List Mv) (A B:Option Addr) (n c c2:Nat) (w:World) (hA:MovesV w A n ms) (hB:MovesV w B n ms) (hn:n ≤ 1000000) :
 Calls Try.prog 32 #[.slice A n c,.slice B n c2] w fun e w' => e = .returned (.bool true) ∧ Below w.heap.size w w' := by
 have HA:=hide hA
 have HB:=hide hB
 clear hA hB
 go_enter Try.func32,Try.ntmps32
 go_wp2
 go_loopg [5] n (fun g i wx => ∃ k:Nat,k + g = n ∧ i = .int .i64 k ∧ Below w.heap.size w wx)
 case atStart => exact ⟨0,by omega,rfl,Below.refl _ _⟩
 case round =>
  obtain ⟨q,hkg,rfl,hb⟩:=hrel
  have HBW:=hide hb
  have HKG:=hide hkg
  clear hb
  by_cases hk:q < n
  ·have hki:(q:Int) < (n:Int):=by omega
   have k0:(0:Int) ≤ (q:Int):=by omega
   obtain ⟨ga,k,x,y,s,o,rfl,_,hz,a0,a1,a2,a3,a4⟩:=(HA.out.keep HBW.out).at_ hk
   obtain ⟨gb,k',x',y',s',o',rfl,_,hz',b0,b1,b2,b3,b4⟩:=(HB.out.keep HBW.out).at_ hk
   rw [hz] at hz'
   obtain ⟨rfl,rfl,rfl,rfl,rfl⟩:k = k' ∧ x = x' ∧ y = y' ∧ s = s' ∧ o = o' := by simpa using hz'
   clear hz hz' hkg
   go_upto_region 6 with fail
   go_quiet (fail)
   go_wp2
   go_roundg (gk - 1)
   case measure => have := HKG.out; omega
   case rel => exact ⟨q + 1,by have := HKG.out; omega,by go_num,below_drewN HBW.out _⟩
  ·have hki:¬ ((q:Int) < (n:Int)):=by omega
   clear hkg
   go_wp2
   go_ret
   exact ⟨rfl,HBW.out⟩
set_option maxRecDepth 100000 in
set_option maxHeartbeats 4000000 in
theorem Removing_any (d:Pl.Dg) (hd:Pl.Valid d) (A B:Option Addr) (cp cq m:Nat) (w:World) (hm:m = 4 * d.n) (hg:DgAt w A B d) :
 Calls Try.prog 31 #[.agg #[.slice A d.n cp,.slice B m cq,.int .i64 d.lp]] w fun e w' => ∃ v,e = .returned v ∧ MovesIn w.heap.size w' v (remL d) ∧ Below w.heap.size w w' := by
 have HM:=hide hm
 have HG:=hide hg
 have HW:=hide (Pl.Valid.iff.1 hd).1
 have hn:=hd.wf.few
 clear hg hm
 have R0:=hide (row_at (W := w) (g := w.heap.size) (t := 24) (vs := [.slice A d.n cp,.slice B m cq,.int .i64 (d.lp:Int)]) rfl)
 have B0:=hide (show Below w.heap.size w (w.alloc (.cells #[.slice A d.n cp,.slice B m cq,.int .i64 (d.lp:Int)] 24)) from (Below.refl _ _).alloc (Nat.le_refl _) _)
 go_enter Try.func31,Try.ntmps31
 go_wp2_with fail
 refine (valid_yes d hd A B cp cq m _ HM.out (HG.out.keep B0.out)).mono ?_
 rintro e w1 ⟨rfl,hb1⟩
 have R1:=hide (R0.out.below hb1)
 have B1:=hide (B0.out.trans (hb1.mono B0.out.size))
 clear hb1
 obtain ⟨d0,d1,d2,d3⟩:=box3 R1.out
 go_wp2_with fail
 have lun:=un_le (d := d) hn
 have lup:=up_le (d := d) hn
 have B3:(sel d (unC d.n)).length + (sel d (upNX d.n d.n)).length ≤ maxLen:=by unfold maxLen; omega
 have C3:((sel d (unC d.n)).length + (sel d (upNX d.n d.n)).length) * 40 ≤ 140737488355328:=by omega
 obtain ⟨n0,hn0,hz0,hz1,hz2⟩:=info_parts moveInfo
 have hw1:w.heap.size < w1.heap.size:=R1.out.lt
 have HG1:=hide (show DgAt w1.drew A B d from ⟨(HG.out.keep B1.out).s,(HG.out.keep B1.out).m⟩)
 go_region_law
  (first
    | (refine step_append_src _ ?_ (.tmp 7) (.tmp 9) 31 ?_ b 28 n0 (.agg #[.int .i64 0, .int .i64 0, .int .i64 0, .int .i64 0, .bool false]) 40 Try.underlying31 hn0 hz0 hz1 hz2 rfl v3 _ _ ?_ Q4.out.o A4 _ c4 _ ?_ S4.out B3 C3 Q4.out.lo2 ?_
       ·rfl
       ·rfl
       ·rfl
       ·rfl
       intro v5 w5 own5 grow5
       have Q5:=hide (Q4.out.app own5 grow5)
       clear own5 grow5)
    | (go_simp
       go_wp2_with (first
        | ((go_at_call 66); refine Calls.mono (uncurls_any d HW.out A B cp cq m _ HM.out HG1.out) ?_; rintro e w3 ⟨v3,rfl,⟨b,hlb,hlb2,own3⟩,hb3⟩; rw [un_sel d _ (Nat.le_refl _)] at own3; have Q3 := hide (show AL w [.slice A d.n cp,.slice B m cq,.int .i64 (d.lp:Int)] b v3 (sel d (unC d.n)) w3 from ⟨R1.out.drew.below hb3,own3,B1.out.drew.trans (hb3.mono B1.out.size),Nat.lt_of_lt_of_le hw1 hlb,hlb2⟩); obtain ⟨e0,e1,e2,e3⟩:=box3 Q3.out.d; clear own3 hb3)
        | ((go_at_call 68); refine Calls.mono (unpokes_any d HW.out A B cp cq m _ HM.out (HG.out.keep Q3.out.bel)) ?_; rintro e w4 ⟨v4,rfl,hv4,hb4⟩; rw [up_sel] at hv4; obtain ⟨A4,c4,rfl,src4⟩:=hv4.at.src; have Q4 := hide (Q3.out.below hb4); have S4 := hide src4; clear hb4 hv4 src4))))
 all_goals
  go_wp2
  go_ret
  exact ⟨v5,rfl,⟨b,by have := Q5.out.lo; omega,Q5.out.lo2,Q5.out.o⟩,Q5.out.bel⟩
end Go.Proofs.Ytobbepmlmbbamaa
end
section
namespace Go.Proofs.Ytobbepmlmbbamaa
open Go Go.RowKit
theorem mem_unC {n:Nat} {z:Mv}:∀ k,k ≤ n → (z ∈ unC k ↔ z.kind = 2 ∧ inR n z ∧ z.x < (k:Int))
 | 0, _ => by
   constructor
   ·intro h; cases h
   ·rintro ⟨h1,h2,h3⟩
    unfold inR at h2
    rw [if_neg (by omega),if_pos h1] at h2
    omega
 | k + 1, h => by
   show z ∈ unC k ++ [⟨2,k,0,0,false⟩] ↔ _
   rw [List.mem_append,mem_unC (n := n) k (by omega)]
   obtain ⟨zk,zx,zy,zs,zo⟩:=z
   constructor
   ·rintro (⟨h1,h2,h3⟩ | h1)
    ·exact ⟨h1,h2,by simp only at h3 ⊢; omega⟩
    ·simp only [List.mem_cons,List.not_mem_nil,or_false,Mv.mk.injEq] at h1
     obtain ⟨rfl,rfl,rfl,rfl,rfl⟩:=h1
     refine ⟨rfl,?_,by simp only; omega⟩
     unfold inR
     simp
     omega
   ·rintro ⟨h1,h2,h3⟩
    by_cases hx:zx < (k:Int)
    ·exact .inl ⟨h1,h2,hx⟩
    ·right
     unfold inR at h2
     rw [if_neg (by omega),if_pos h1] at h2
     simp only at h1 h2 h3
     simp only [List.mem_cons,List.not_mem_nil,or_false,Mv.mk.injEq]
     exact ⟨h1,by omega,h2.2.2.1,h2.2.2.2.1,h2.2.2.2.2⟩
theorem mem_upN {n x:Nat} {z:Mv}:∀ k,k ≤ n → (z ∈ upN x k ↔ z.kind = 4 ∧ inR n z ∧ z.x = (x:Int) ∧ z.y < (k:Int))
 | 0, _ => by
   constructor
   ·intro h; cases h
   ·rintro ⟨h1,h2,h3,h4⟩
    unfold inR at h2
    rw [if_neg (by omega),if_neg (by omega),if_pos h1] at h2
    omega
 | k + 1, h => by
   show z ∈ upN x k ++ (if x < k then [⟨4,x,k,0,false⟩] else []) ↔ _
   rw [List.mem_append,mem_upN (n := n) k (by omega)]
   obtain ⟨zk,zx,zy,zs,zo⟩:=z
   constructor
   ·rintro (⟨h1,h2,h3,h4⟩ | h1)
    ·exact ⟨h1,h2,h3,by simp only at h4 ⊢; omega⟩
    ·split at h1
     ·simp only [List.mem_cons,List.not_mem_nil,or_false,Mv.mk.injEq] at h1
      obtain ⟨rfl,rfl,rfl,rfl,rfl⟩:=h1
      refine ⟨rfl,?_,rfl,by simp only; omega⟩
      unfold inR
      simp
      omega
     ·cases h1
   ·rintro ⟨h1,h2,h3,h4⟩
    by_cases hx:zy < (k:Int)
    ·exact .inl ⟨h1,h2,h3,hx⟩
    ·right
     unfold inR at h2
     rw [if_neg (by omega),if_neg (by omega),if_pos h1] at h2
     simp only at h1 h2 h3 h4
     rw [if_pos (by omega)]
     simp only [List.mem_cons,List.not_mem_nil,or_false,Mv.mk.injEq]
     exact ⟨h1,h3,by omega,h2.2.2.2.1,h2.2.2.2.2⟩
theorem mem_upNX {n:Nat} {z:Mv}:∀ k,k ≤ n → (z ∈ upNX n k ↔ z.kind = 4 ∧ inR n z ∧ z.x < (k:Int))
 | 0, _ => by
   constructor
   ·intro h; cases h
   ·rintro ⟨h1,h2,h3⟩
    unfold inR at h2
    rw [if_neg (by omega),if_neg (by omega),if_pos h1] at h2
    omega
 | k + 1, h => by
   show z ∈ upNX n k ++ upN k n ↔ _
   rw [List.mem_append,mem_upNX (n := n) k (by omega),mem_upN (n := n) n (Nat.le_refl _)]
   constructor
   ·rintro (⟨h1,h2,h3⟩ | ⟨h1,h2,h3,h4⟩)
    ·exact ⟨h1,h2,by omega⟩
    ·exact ⟨h1,h2,by omega⟩
   ·rintro ⟨h1,h2,h3⟩
    by_cases hx:z.x < (k:Int)
    ·exact .inl ⟨h1,h2,hx⟩
    ·right
     refine ⟨h1,h2,by omega,?_⟩
     unfold inR at h2
     rw [if_neg (by omega),if_neg (by omega),if_pos h1] at h2
     omega
theorem filter_none {p:Mv → Bool} {l:List Mv} (h:∀ z,z ∈ l → p z = false):l.filter p = [] := by
 rw [List.filter_eq_nil_iff]
 intro z hz
 rw [h z hz]
 decide
theorem filter_every {p:Mv → Bool} {l:List Mv} (h:∀ z,z ∈ l → p z = true):l.filter p = l := List.filter_eq_self.2 h
theorem un_kind {d:Pl.Dg} {z:Mv} (h:z ∈ sel d (unC d.n)):z.kind = 2 := ((mem_unC _ (Nat.le_refl _)).1 (mem_sel.1 h).1).1
theorem up_kind {d:Pl.Dg} {z:Mv} (h:z ∈ sel d (upNX d.n d.n)):z.kind = 4 := ((mem_upNX _ (Nat.le_refl _)).1 (mem_sel.1 h).1).1
end Go.Proofs.Ytobbepmlmbbamaa
end
