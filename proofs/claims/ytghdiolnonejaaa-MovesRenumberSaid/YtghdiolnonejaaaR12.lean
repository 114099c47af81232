/-
 The texts Xs, Xu, Xv, Xx, Xy, Dm, Ya, Ua, Vb, Vc, Vd, Ve, Vg, Vi, Vj, Ma, Md, Open.
-/
import Derived.Test.YtghdiolnonejaaaR11
import Derived.Test.YtghdiolnonejaaaR13
import Derived.Test.YtghdiolnonejaaaR16
set_option linter.unusedVariables false
set_option linter.unusedSimpArgs false
section
namespace Go.Proofs.Ytghdiolnonejaaa
open Go Go.RowKit
attribute [local go_sem ↓] Go.wp_at_zero Go.wp_at_succ
theorem near_i (d:Pl.Dg) (F P:List Nat) (A B L R:Option Addr) (cp cq cl cr m:Nat) (x y:Int) (w:World) (hm:m = 4 * d.n) (hs:ShAt w A B L R d F P) (hn:d.n ≤ 64) (hx:0 ≤ x ∧ x < 4 * (d.n:Int)) (hy:0 ≤ y ∧ y < 4 * (d.n:Int)) :
 Calls Try.prog 105 #[.agg #[.slice A d.n cp,.slice B m cq,.int .i64 d.lp,.slice L m cl,.slice R d.n cr],.int .i64 x,.int .i64 y] w fun e w' => e = .returned (.bool (nearB F P d x.toNat y.toNat)) ∧ Below w.heap.size w w' := by
 obtain ⟨a,rfl⟩:=Int.eq_ofNat_of_zero_le hx.1
 obtain ⟨b,rfl⟩:=Int.eq_ofNat_of_zero_le hy.1
 exact near_any d F P A B L R cp cq cl cr m a b w hm hs hn (by omega) (by omega)
noncomputable def pkA (d:Pl.Dg) (F P:List Nat) (x y s:Int) (o:Bool):Int := if Pl.vb (inR d.n ⟨3,x,y,s,o⟩) = true then pkC d F P x y s else 2
noncomputable def pkS (d:Pl.Dg) (F P:List Nat) (x y:Int):Nat → List Mv
 | 0 => []
 | j + 1 => pkS d F P x y j ++ (one (pkA d F P x y ((j:Int) - 1) false) ⟨3,x,y,(j:Int) - 1,false⟩ ++ one (pkA d F P x y ((j:Int) - 1) true) ⟨3,x,y,(j:Int) - 1,true⟩)
noncomputable def pkY (d:Pl.Dg) (F P:List Nat) (x:Int):Nat → List Mv
 | 0 => []
 | k + 1 => pkY d F P x k ++ pkS d F P x ((k:Int) - 2) 3
noncomputable def pkX (d:Pl.Dg) (F P:List Nat):Nat → List Mv
 | 0 => []
 | k + 1 => pkX d F P k ++ pkY d F P ((k:Int) - 2) (4 * d.n + 2)
theorem pkS_len (d:Pl.Dg) (F P:List Nat) (x y:Int):∀ k,(pkS d F P x y k).length ≤ 2 * k
 | 0 => Nat.le_refl _
 | j + 1 => by
   have a:=pkS_len d F P x y j
   have b:=one_len (pkA d F P x y ((j:Int) - 1) false) ⟨3,x,y,(j:Int) - 1,false⟩
   have c:=one_len (pkA d F P x y ((j:Int) - 1) true) ⟨3,x,y,(j:Int) - 1,true⟩
   show (pkS d F P x y j ++ (one (pkA d F P x y ((j:Int) - 1) false) ⟨3,x,y,(j:Int) - 1,false⟩ ++ one (pkA d F P x y ((j:Int) - 1) true) ⟨3,x,y,(j:Int) - 1,true⟩)).length ≤ _
   rw [List.length_append,List.length_append]
   omega
theorem pkY_len (d:Pl.Dg) (F P:List Nat) (x:Int):∀ k,(pkY d F P x k).length ≤ 6 * k
 | 0 => Nat.le_refl _
 | k + 1 => by
   have a:=pkY_len d F P x k
   have b:=pkS_len d F P x ((k:Int) - 2) 3
   show (pkY d F P x k ++ pkS d F P x ((k:Int) - 2) 3).length ≤ _
   rw [List.length_append]
   omega
theorem pkX_len {d:Pl.Dg} (hn:d.n ≤ 64) (F P:List Nat):∀ k,(pkX d F P k).length ≤ 1548 * k
 | 0 => Nat.le_refl _
 | k + 1 => by
   have a:=pkX_len hn F P k
   have b:=pkY_len d F P ((k:Int) - 2) (4 * d.n + 2)
   show (pkX d F P k ++ pkY d F P ((k:Int) - 2) (4 * d.n + 2)).length ≤ _
   rw [List.length_append]
   omega
theorem pkA_six {d:Pl.Dg} {F P:List Nat} {x y s:Int} {o:Bool} (h:0 ≤ x ∧ 0 ≤ y ∧ x ≠ y ∧ nearB F P d x.toNat y.toNat = false):¬ pkA d F P x y s o = 0 := by
 unfold pkA
 split
 ·unfold pkC
  split
  ·decide
  ·first | decide | (rw [if_pos h]; decide)
 ·decide
theorem pkS_none {d:Pl.Dg} {F P:List Nat} {x y:Int} (h:0 ≤ x ∧ 0 ≤ y ∧ x ≠ y ∧ nearB F P d x.toNat y.toNat = false):∀ k,pkS d F P x y k = []
 | 0 => rfl
 | k + 1 => by
   show pkS d F P x y k ++ (one (pkA d F P x y ((k:Int) - 1) false) ⟨3,x,y,(k:Int) - 1,false⟩ ++ one (pkA d F P x y ((k:Int) - 1) true) ⟨3,x,y,(k:Int) - 1,true⟩) = []
   rw [pkS_none h k,one_no (pkA_six h),one_no (pkA_six h)]
   rfl
set_option maxRecDepth 100000 in
set_option maxHeartbeats 4000000 in
theorem pkTry_any (d:Pl.Dg) (hd:Pl.Wf d) (F P:List Nat) (A B L R:Option Addr) (cp cq cl cr m gd gl:Nat) (v:Value) (ms:List Mv) (x y s:Int) (o:Bool) (w0 w:World) (hm:m = 4 * d.n) (hs:ShAt w A B L R d F P) (hms:ms.length ≤ 1000000)
 (hp:MG w0 67 gd gl [.slice A d.n cp,.slice B m cq,.int .i64 (d.lp:Int),.slice L m cl,.slice R d.n cr] v ms w) :
 Calls Try.prog 104 #[.agg #[.int .i64 3,.int .i64 x,.int .i64 y,.int .i64 s,.bool o],.pointer (some ⟨gd,0,none⟩),.pointer (some ⟨gl,0,none⟩)] w fun e w' => e = .returned (.tuple #[]) ∧ ∃ v',MG w0 67 gd gl [.slice A d.n cp,.slice B m cq,.int .i64 (d.lp:Int),.slice L m cl,.slice R d.n cr] v' (ms ++ one (pkA d F P x y s o) ⟨3,x,y,s,o⟩) w' := by
 have HM:=hide hm
 have HG:=hide hs
 have hn:=hd.few
 have hlp:=hd.lp
 obtain ⟨cc,hcc⟩:∃ c',c' = pkA d F P x y s o := ⟨_,rfl⟩
 have HC:=hide hcc
 have hb0:Below w.heap.size w (w.alloc (.cells #[.int .i64 3,.int .i64 x,.int .i64 y,.int .i64 s,.bool o] 37)):=(Below.refl _ _).alloc (Nat.le_refl _) _
 have HB0:=hide hb0
 have P1:=hide (hp.below hb0)
 have M1:=hide (row_at (W := w) (g := w.heap.size) (t := 37) (vs := [.int .i64 3,.int .i64 x,.int .i64 y,.int .i64 s,.bool o]) rfl)
 have hgl:gl < w.heap.size:=hp.big
 have hgd:gd < gl:=hp.lt
 clear hp hb0 hs hm hcc
 obtain ⟨d0,d1,d2,d3,d4,d5⟩:=box5 P1.out.d
 obtain ⟨e0,e1,e2,e3,e4,e5⟩:=box5 M1.out
 go_enter Try.func104,Try.ntmps104
 go_wp2_with fail
 refine (inRange_3 d.n x y s o _ (by omega)).mono ?_
 rintro e w1 ⟨rfl,hb1⟩
 have P2:=hide (P1.out.below hb1)
 have M2:=hide (M1.out.below hb1)
 have HB1:=hide (HB0.out.trans (hb1.mono HB0.out.size))
 have hs2:w.heap.size < w1.heap.size:=M2.out.lt
 have hs3:gl < w1.heap.size:=by omega
 clear hb1 d0 d1 d2 d3 d4 d5 e0 e1 e2 e3 e4 e5 HB0 P1 M1
 obtain ⟨d0,d1,d2,d3,d4,d5⟩:=box5 P2.out.d
 obtain ⟨e0,e1,e2,e3,e4,e5⟩:=box5 M2.out
 by_cases hI:inR d.n ⟨3,x,y,s,o⟩
 ·rw [Pl.vb_true hI]
  have hxy:(-2 ≤ x ∧ x < 4 * (d.n:Int)) ∧ (-2 ≤ y ∧ y < 4 * (d.n:Int)):=by unfold inR at hI; simp at hI; omega
  have EC:=hide (show pkC d F P x y s = cc by rw [HC.out]; unfold pkA; rw [if_pos (Pl.vb_true hI)])
  clear hI
  go_wp2_with fail
  refine (pokeable_any d F P A B L R cp cq cl cr m 3 x y s o _ HM.out (HG.out.keep HB1.out) hn hlp hxy.1 hxy.2).mono ?_
  rintro e w3 ⟨rfl,hb3⟩
  have P3:=hide (P2.out.below hb3)
  have M3:=hide (M2.out.below hb3)
  have hs4:w.heap.size < w3.heap.size:=M3.out.lt
  have hs5:gl < w3.heap.size:=by omega
  rw [EC.out]
  clear hb3 d0 d1 d2 d3 d4 d5 e0 e1 e2 e3 e4 e5 HB1 P2 M2 hxy
  obtain ⟨e0,e1,e2,e3,e4,e5⟩:=box5 M3.out
  by_cases h0:cc = 0
  ·have E:=hide (show one cc ⟨3,x,y,s,o⟩ = [⟨3,x,y,s,o⟩] from one_yes h0)
   have t1:(cc == 0) = true:=by rw [beq_iff_eq]; exact h0
   clear h0
   obtain ⟨q0,q1⟩:=box1 P3.out.l
   obtain ⟨n0,hn0,hz0,hz1,hz2⟩:=info_parts moveInfo
   have A0:=hide (P3.out.alloc (.cells (Mv.cells ⟨3,x,y,s,o⟩).toArray 37)).o
   have A1:∀ u ∈ Mv.cells ⟨3,x,y,s,o⟩,u.oneCell' = true:=by simp [Mv.cells,Value.oneCell']
   have A2:ms.length + 1 ≤ maxLen:=by unfold maxLen; omega
   have A3:(ms.length + 1) * 40 ≤ 140737488355328:=by omega
   have A6:=hide (five_news w3 w3.heap.size rfl ⟨3,x,y,s,o⟩)
   go_wp2_with (at_builtin; refine wpList_append_lies _ (by rfl) _ _ 27 (by rfl) (gl + 1) 37 n0 (.agg #[.int .i64 0,.int .i64 0,.int .i64 0,.int .i64 0,.bool false]) 5 40 Try.underlying27 hn0 hz0 hz1 hz2 rfl (by omega) v ms.length (mvs ms) (by rfl) A0.out ⟨w3.heap.size,0,none⟩ 1 1 (Mv.cells ⟨3,x,y,s,o⟩) (by rfl) (by rfl) A6.out A1 (by omega) A2 A3 (by simp; omega) (w3.heap.size + 1) (by simp) ?_; intro g2 c2 w2 own2 grow2 at2 lt2; obtain ⟨q2,q3⟩:=box1 ((P3.out.alloc (.cells (Mv.cells ⟨3,x,y,s,o⟩).toArray 37)).l.grown grow2 ((P3.out.alloc (.cells (Mv.cells ⟨3,x,y,s,o⟩).toArray 37)).far (Nat.le_refl _))); have OWN2 := hide own2; have GR2 := hide grow2; clear own2 grow2 at2)
   refine bodyPost_end (results_none rfl _ _ _) rfl ⟨rfl,.slice (some ⟨g2,0,none⟩) (ms.length + 1) c2,?_⟩
   rw [← HC.out,E.out]
   exact (P3.out.alloc _).push OWN2.out GR2.out
  ·have E:=hide (show one cc ⟨3,x,y,s,o⟩ = [] from one_no h0)
   have t1:(cc == 0) = false:=by rw [beq_eq_false_iff_ne]; exact h0
   clear h0
   go_wp2
   refine bodyPost_end (results_none rfl _ _ _) rfl ⟨rfl,v,?_⟩
   rw [← HC.out,E.out,List.append_nil]
   exact P3.out
 ·rw [Pl.vb_false hI]
  have E:=hide (show one cc ⟨3,x,y,s,o⟩ = [] from one_no (by
   rw [HC.out]
   unfold pkA
   rw [Pl.vb_false hI,if_neg (by decide)]
   decide))
  clear hI
  go_wp2
  refine bodyPost_end (results_none rfl _ _ _) rfl ⟨rfl,v,?_⟩
  rw [← HC.out,E.out,List.append_nil]
  exact P2.out
set_option maxRecDepth 100000 in
set_option maxHeartbeats 8000000 in
theorem pokes_any (d:Pl.Dg) (hd:Pl.Wf d) (F P:List Nat) (A B L R:Option Addr) (cp cq cl cr m:Nat) (w:World) (hm:m = 4 * d.n) (hs:ShAt w A B L R d F P) :
 Calls Try.prog 60 #[.agg #[.slice A d.n cp,.slice B m cq,.int .i64 d.lp,.slice L m cl,.slice R d.n cr]] w fun e w' => ∃ v,e = .returned v ∧ MovesIn w.heap.size w' v (if 64 < d.n + 2 then [] else pkX d F P (m + 2)) ∧ Below w.heap.size w w' := by
 have HM:=hide hm
 have HG:=hide hs
 have hn:=hd.few
 have hm2:m ≤ 256:=by omega
 have D0:=hide (row_at (W := w) (g := w.heap.size) (t := 67) (vs := [.slice A d.n cp,.slice B m cq,.int .i64 (d.lp:Int),.slice L m cl,.slice R d.n cr]) rfl)
 have BB0:=hide (show Below w.heap.size w (w.alloc (.cells #[.slice A d.n cp,.slice B m cq,.int .i64 (d.lp:Int),.slice L m cl,.slice R d.n cr] 67)) from (Below.refl _ _).alloc (Nat.le_refl _) _)
 have P0:=hide (show MG w 67 w.heap.size (w.heap.size + 1) [.slice A d.n cp,.slice B m cq,.int .i64 (d.lp:Int),.slice L m cl,.slice R d.n cr] (.slice none 0 0) [] ((w.alloc (.cells #[.slice A d.n cp,.slice B m cq,.int .i64 (d.lp:Int),.slice L m cl,.slice R d.n cr] 67)).alloc (.cells #[.slice none 0 0] 27)) from
  ⟨(row_at (vs := [_,_,_,_,_]) rfl).alloc _,row_at (vs := [_]) (by simp),⟨rfl,.inl ⟨rfl,rfl⟩⟩,((Below.refl _ _).alloc (Nat.le_refl _) _).alloc (by simp) _,Nat.le_refl _,by omega⟩)
 clear hs hm
 by_cases hF:(64:Int) < (d.n:Int) + 2
 ·have E:=hide (show (if 64 < d.n + 2 then [] else pkX d F P (m + 2)) = [] from if_pos (by omega))
  go_enter Try.func60,Try.ntmps60
  go_wp2
  go_ret
  exact ⟨_,rfl,⟨w.heap.size,Nat.le_refl _,by simp,by first | exact ⟨rfl,.inl ⟨rfl,rfl⟩⟩ | (rw [E.out]; exact ⟨rfl,.inl ⟨rfl,rfl⟩⟩)⟩,BB0.out⟩
 ·have E:=hide (show (if 64 < d.n + 2 then [] else pkX d F P (m + 2)) = pkX d F P (m + 2) from if_neg (by omega))
  clear D0 BB0
  go_enter Try.func60,Try.ntmps60
  go_wp2
  go_loopg [5,6,7] (m + 2) (fun g s5 s6 s7 wx => ∃ (k:Nat) (v:Value),k + g = m + 2 ∧ s5 = .int .i64 ((k:Int) - 2) ∧ MG w 67 w.heap.size (w.heap.size + 1) [.slice A d.n cp,.slice B m cq,.int .i64 (d.lp:Int),.slice L m cl,.slice R d.n cr] v (pkX d F P k) wx)
  case atStart => exact ⟨0,_,by omega,rfl,P0.out⟩
  case round =>
   clear P0
   obtain ⟨k,v,hkg,rfl,hp⟩:=hrel
   obtain ⟨go,rfl⟩:∃ go,go = gk := ⟨_,rfl⟩
   have HKG:=hide hkg
   have PK:=hide hp
   have hlen:=pkX_len hn F P k
   obtain ⟨x,hx⟩:∃ x:Int,x = (k:Int) - 2 := ⟨_,rfl⟩
   have HX:=hide hx
   rw [← hx]
   obtain ⟨d0,d1,d2,d3,d4,d5⟩:=box5 hp.d
   clear hp hx
   by_cases hk:k < m + 2
   ·have hki:x < (m:Int):=by have := HX.out; omega
    have x0:-2 ≤ x:=by have := HX.out; omega
    have x1:x < 4 * (d.n:Int):=by have := HM.out; omega
    clear hkg
    go_wp2
    go_loopg [6,7] (m + 2) (fun g s6 s7 wx => ∃ (j:Nat) (u:Value),j + g = m + 2 ∧ s6 = .int .i64 ((j:Int) - 2) ∧ MG w 67 w.heap.size (w.heap.size + 1) [.slice A d.n cp,.slice B m cq,.int .i64 (d.lp:Int),.slice L m cl,.slice R d.n cr] u (pkX d F P k ++ pkY d F P x j) wx)
    case atStart => exact ⟨0,v,by omega,rfl,by rw [show pkY d F P x 0 = [] from rfl,List.append_nil]; exact PK.out⟩
    case round =>
     clear PK d0 d1 d2 d3 d4 d5
     obtain ⟨j,u,hjg,rfl,hq⟩:=hrel
     obtain ⟨g1,rfl⟩:∃ g1,g1 = gk := ⟨_,rfl⟩
     have HJG:=hide hjg
     have QJ:=hide hq
     have hlen2:=pkY_len d F P x j
     obtain ⟨y,hy⟩:∃ y:Int,y = (j:Int) - 2 := ⟨_,rfl⟩
     have HY:=hide hy
     rw [← hy]
     obtain ⟨d0,d1,d2,d3,d4,d5⟩:=box5 hq.d
     clear hq hy
     by_cases hj:j < m + 2
     ·have hji:y < (m:Int):=by have := HY.out; omega
      have y0:-2 ≤ y:=by have := HY.out; omega
      have y1:y < 4 * (d.n:Int):=by have := HM.out; omega
      clear hjg
      by_cases cx:0 ≤ x
      ·by_cases cy:0 ≤ y
       ·by_cases cxy:x = y
        ·subst cxy
         go_wp2
         go_loopg [7] 3 (fun g s7 wx => ∃ (i:Nat) (u':Value),i + g = 3 ∧ s7 = .int .i64 ((i:Int) - 1) ∧ MG w 67 w.heap.size (w.heap.size + 1) [.slice A d.n cp,.slice B m cq,.int .i64 (d.lp:Int),.slice L m cl,.slice R d.n cr] u' (pkX d F P k ++ pkY d F P x j ++ pkS d F P x x i) wx)
         case atStart => exact ⟨0,u,by omega,rfl,by rw [show pkS d F P x x 0 = [] from rfl,List.append_nil]; exact QJ.out⟩
         case round =>
          clear QJ
          obtain ⟨i,u',hig,rfl,hq⟩:=hrel
          have HIG:=hide hig
          have QI:=hide hq
          have hlen3:=pkS_len d F P x x i
          obtain ⟨s,hs⟩:∃ s:Int,s = (i:Int) - 1 := ⟨_,rfl⟩
          have HS:=hide hs
          rw [← hs]
          clear hq hs
          by_cases hi:i < 3
          ·have s0:-1 ≤ s:=by have := HS.out; omega
           have s1:s ≤ 1:=by have := HS.out; omega
           clear hig
           go_wp2_with fail
           refine (pkTry_any d hd F P A B L R cp cq cl cr m _ _ u' _ x x s false w _ HM.out (HG.out.keep QI.out.bel) (by simp only [List.length_append]; omega) QI.out).mono ?_
           rintro e w1 ⟨rfl,u1,hp1⟩
           have Q1:=hide hp1
           clear hp1
           go_wp2_with fail
           refine (pkTry_any d hd F P A B L R cp cq cl cr m _ _ u1 _ x x s true w _ HM.out (HG.out.keep Q1.out.bel) (by have := one_len (pkA d F P x x s false) ⟨3,x,x,s,false⟩; simp only [List.length_append]; omega) Q1.out).mono ?_
           rintro e w2 ⟨rfl,u2,hp2⟩
           have Q2:=hide hp2
           clear hp2
           go_wp2
           go_roundg (gk - 1)
           case measure => have := HIG.out; omega
           case rel =>
            have e1:s + 1 = ((i + 1:Nat):Int) - 1:=by have := HS.out; omega
            have e2:pkS d F P x x (i + 1) = pkS d F P x x i ++ (one (pkA d F P x x s false) ⟨3,x,x,s,false⟩ ++ one (pkA d F P x x s true) ⟨3,x,x,s,true⟩):=by rw [HS.out]; rfl
            exact ⟨i + 1,u2,by have := HIG.out; omega,by rw [e1],by rw [e2]; simpa using Q2.out⟩
          ·have s1:¬ (s ≤ 1):=by have := HS.out; omega
           have ei:i = 3:=by omega
           have E3:=hide (show pkY d F P x (j + 1) = pkY d F P x j ++ pkS d F P x x i by rw [HY.out,ei]; rfl)
           have EY:=hide (show x + 1 = ((j + 1:Nat):Int) - 2 by have := HY.out; omega)
           clear hig ei
           go_wp2
           go_roundg (g1 - 1)
           case measure => have := HJG.out; omega
           case rel => exact ⟨j + 1,u',by have := HJG.out; omega,by rw [EY.out],by rw [E3.out]; simpa using QI.out⟩
        ·have t0:(x != y) = true:=by rw [bne_iff_ne]; exact cxy
         have CXY:=hide cxy
         clear cxy
         go_wp2_with fail
         refine (near_i d F P A B L R cp cq cl cr m x y _ HM.out (HG.out.keep QJ.out.bel) hn ⟨cx,x1⟩ ⟨cy,y1⟩).mono ?_
         rintro e wn ⟨rfl,hbn⟩
         have QN:=hide (QJ.out.below hbn)
         clear hbn d0 d1 d2 d3 d4 d5 QJ
         obtain ⟨nb,hnb⟩:∃ b,b = nearB F P d x.toNat y.toNat := ⟨_,rfl⟩
         rw [← hnb]
         have HNB:=hide hnb
         clear hnb
         cases nb with
         | true =>
           have QJ:=hide QN.out
           clear QN
           go_wp2
           go_loopg [7] 3 (fun g s7 wx => ∃ (i:Nat) (u':Value),i + g = 3 ∧ s7 = .int .i64 ((i:Int) - 1) ∧ MG w 67 w.heap.size (w.heap.size + 1) [.slice A d.n cp,.slice B m cq,.int .i64 (d.lp:Int),.slice L m cl,.slice R d.n cr] u' (pkX d F P k ++ pkY d F P x j ++ pkS d F P x y i) wx)
           case atStart => exact ⟨0,u,by omega,rfl,by rw [show pkS d F P x y 0 = [] from rfl,List.append_nil]; exact QJ.out⟩
           case round =>
            clear QJ
            obtain ⟨i,u',hig,rfl,hq⟩:=hrel
            have HIG:=hide hig
            have QI:=hide hq
            have hlen3:=pkS_len d F P x y i
            obtain ⟨s,hs⟩:∃ s:Int,s = (i:Int) - 1 := ⟨_,rfl⟩
            have HS:=hide hs
            rw [← hs]
            clear hq hs
            by_cases hi:i < 3
            ·have s0:-1 ≤ s:=by have := HS.out; omega
             have s1:s ≤ 1:=by have := HS.out; omega
             clear hig
             go_wp2_with fail
             refine (pkTry_any d hd F P A B L R cp cq cl cr m _ _ u' _ x y s false w _ HM.out (HG.out.keep QI.out.bel) (by simp only [List.length_append]; omega) QI.out).mono ?_
             rintro e w1 ⟨rfl,u1,hp1⟩
             have Q1:=hide hp1
             clear hp1
             go_wp2_with fail
             refine (pkTry_any d hd F P A B L R cp cq cl cr m _ _ u1 _ x y s true w _ HM.out (HG.out.keep Q1.out.bel) (by have := one_len (pkA d F P x y s false) ⟨3,x,y,s,false⟩; simp only [List.length_append]; omega) Q1.out).mono ?_
             rintro e w2 ⟨rfl,u2,hp2⟩
             have Q2:=hide hp2
             clear hp2
             go_wp2
             go_roundg (gk - 1)
             case measure => have := HIG.out; omega
             case rel =>
              have e1:s + 1 = ((i + 1:Nat):Int) - 1:=by have := HS.out; omega
              have e2:pkS d F P x y (i + 1) = pkS d F P x y i ++ (one (pkA d F P x y s false) ⟨3,x,y,s,false⟩ ++ one (pkA d F P x y s true) ⟨3,x,y,s,true⟩):=by rw [HS.out]; rfl
              exact ⟨i + 1,u2,by have := HIG.out; omega,by rw [e1],by rw [e2]; simpa using Q2.out⟩
            ·have s1:¬ (s ≤ 1):=by have := HS.out; omega
             have ei:i = 3:=by omega
             have E3:=hide (show pkY d F P x (j + 1) = pkY d F P x j ++ pkS d F P x y i by rw [HY.out,ei]; rfl)
             have EY:=hide (show y + 1 = ((j + 1:Nat):Int) - 2 by have := HY.out; omega)
             clear hig ei
             go_wp2
             go_roundg (g1 - 1)
             case measure => have := HJG.out; omega
             case rel => exact ⟨j + 1,u',by have := HJG.out; omega,by rw [EY.out],by rw [E3.out]; simpa using QI.out⟩
         | false =>
           have E3:=hide (show pkY d F P x (j + 1) = pkY d F P x j by
            show pkY d F P x j ++ pkS d F P x ((j:Int) - 2) 3 = _
            rw [← HY.out,pkS_none ⟨cx,cy,CXY.out,HNB.out.symm⟩,List.append_nil])
           have EY:=hide (show y + 1 = ((j + 1:Nat):Int) - 2 by have := HY.out; omega)
           go_wp2
           go_roundg (g1 - 1)
           case measure => have := HJG.out; omega
           case rel => exact ⟨j + 1,u,by have := HJG.out; omega,by rw [EY.out],by rw [E3.out]; exact QN.out⟩
       ·have cy1:y < 0:=by omega
        go_wp2
        go_loopg [7] 3 (fun g s7 wx => ∃ (i:Nat) (u':Value),i + g = 3 ∧ s7 = .int .i64 ((i:Int) - 1) ∧ MG w 67 w.heap.size (w.heap.size + 1) [.slice A d.n cp,.slice B m cq,.int .i64 (d.lp:Int),.slice L m cl,.slice R d.n cr] u' (pkX d F P k ++ pkY d F P x j ++ pkS d F P x y i) wx)
        case atStart => exact ⟨0,u,by omega,rfl,by rw [show pkS d F P x y 0 = [] from rfl,List.append_nil]; exact QJ.out⟩
        case round =>
         clear QJ
         obtain ⟨i,u',hig,rfl,hq⟩:=hrel
         have HIG:=hide hig
         have QI:=hide hq
         have hlen3:=pkS_len d F P x y i
         obtain ⟨s,hs⟩:∃ s:Int,s = (i:Int) - 1 := ⟨_,rfl⟩
         have HS:=hide hs
         rw [← hs]
         clear hq hs
         by_cases hi:i < 3
         ·have s0:-1 ≤ s:=by have := HS.out; omega
          have s1:s ≤ 1:=by have := HS.out; omega
          clear hig
          go_wp2_with fail
          refine (pkTry_any d hd F P A B L R cp cq cl cr m _ _ u' _ x y s false w _ HM.out (HG.out.keep QI.out.bel) (by simp only [List.length_append]; omega) QI.out).mono ?_
          rintro e w1 ⟨rfl,u1,hp1⟩
          have Q1:=hide hp1
          clear hp1
          go_wp2_with fail
          refine (pkTry_any d hd F P A B L R cp cq cl cr m _ _ u1 _ x y s true w _ HM.out (HG.out.keep Q1.out.bel) (by have := one_len (pkA d F P x y s false) ⟨3,x,y,s,false⟩; simp only [List.length_append]; omega) Q1.out).mono ?_
          rintro e w2 ⟨rfl,u2,hp2⟩
          have Q2:=hide hp2
          clear hp2
          go_wp2
          go_roundg (gk - 1)
          case measure => have := HIG.out; omega
          case rel =>
           have e1:s + 1 = ((i + 1:Nat):Int) - 1:=by have := HS.out; omega
           have e2:pkS d F P x y (i + 1) = pkS d F P x y i ++ (one (pkA d F P x y s false) ⟨3,x,y,s,false⟩ ++ one (pkA d F P x y s true) ⟨3,x,y,s,true⟩):=by rw [HS.out]; rfl
           exact ⟨i + 1,u2,by have := HIG.out; omega,by rw [e1],by rw [e2]; simpa using Q2.out⟩
         ·have s1:¬ (s ≤ 1):=by have := HS.out; omega
          have ei:i = 3:=by omega
          have E3:=hide (show pkY d F P x (j + 1) = pkY d F P x j ++ pkS d F P x y i by rw [HY.out,ei]; rfl)
          have EY:=hide (show y + 1 = ((j + 1:Nat):Int) - 2 by have := HY.out; omega)
          clear hig ei
          go_wp2
          go_roundg (g1 - 1)
          case measure => have := HJG.out; omega
          case rel => exact ⟨j + 1,u',by have := HJG.out; omega,by rw [EY.out],by rw [E3.out]; simpa using QI.out⟩
      ·have cx1:x < 0:=by omega
       go_wp2
       go_loopg [7] 3 (fun g s7 wx => ∃ (i:Nat) (u':Value),i + g = 3 ∧ s7 = .int .i64 ((i:Int) - 1) ∧ MG w 67 w.heap.size (w.heap.size + 1) [.slice A d.n cp,.slice B m cq,.int .i64 (d.lp:Int),.slice L m cl,.slice R d.n cr] u' (pkX d F P k ++ pkY d F P x j ++ pkS d F P x y i) wx)
       case atStart => exact ⟨0,u,by omega,rfl,by rw [show pkS d F P x y 0 = [] from rfl,List.append_nil]; exact QJ.out⟩
       case round =>
        clear QJ
        obtain ⟨i,u',hig,rfl,hq⟩:=hrel
        have HIG:=hide hig
        have QI:=hide hq
        have hlen3:=pkS_len d F P x y i
        obtain ⟨s,hs⟩:∃ s:Int,s = (i:Int) - 1 := ⟨_,rfl⟩
        have HS:=hide hs
        rw [← hs]
        clear hq hs
        by_cases hi:i < 3
        ·have s0:-1 ≤ s:=by have := HS.out; omega
         have s1:s ≤ 1:=by have := HS.out; omega
         clear hig
         go_wp2_with fail
         refine (pkTry_any d hd F P A B L R cp cq cl cr m _ _ u' _ x y s false w _ HM.out (HG.out.keep QI.out.bel) (by simp only [List.length_append]; omega) QI.out).mono ?_
         rintro e w1 ⟨rfl,u1,hp1⟩
         have Q1:=hide hp1
         clear hp1
         go_wp2_with fail
         refine (pkTry_any d hd F P A B L R cp cq cl cr m _ _ u1 _ x y s true w _ HM.out (HG.out.keep Q1.out.bel) (by have := one_len (pkA d F P x y s false) ⟨3,x,y,s,false⟩; simp only [List.length_append]; omega) Q1.out).mono ?_
         rintro e w2 ⟨rfl,u2,hp2⟩
         have Q2:=hide hp2
         clear hp2
         go_wp2
         go_roundg (gk - 1)
         case measure => have := HIG.out; omega
         case rel =>
          have e1:s + 1 = ((i + 1:Nat):Int) - 1:=by have := HS.out; omega
          have e2:pkS d F P x y (i + 1) = pkS d F P x y i ++ (one (pkA d F P x y s false) ⟨3,x,y,s,false⟩ ++ one (pkA d F P x y s true) ⟨3,x,y,s,true⟩):=by rw [HS.out]; rfl
          exact ⟨i + 1,u2,by have := HIG.out; omega,by rw [e1],by rw [e2]; simpa using Q2.out⟩
        ·have s1:¬ (s ≤ 1):=by have := HS.out; omega
         have ei:i = 3:=by omega
         have E3:=hide (show pkY d F P x (j + 1) = pkY d F P x j ++ pkS d F P x y i by rw [HY.out,ei]; rfl)
         have EY:=hide (show y + 1 = ((j + 1:Nat):Int) - 2 by have := HY.out; omega)
         clear hig ei
         go_wp2
         go_roundg (g1 - 1)
         case measure => have := HJG.out; omega
         case rel => exact ⟨j + 1,u',by have := HJG.out; omega,by rw [EY.out],by rw [E3.out]; simpa using QI.out⟩
     ·have hji:¬ (y < (m:Int)):=by have := HY.out; omega
      have ej:j = 4 * d.n + 2:=by have := HM.out; omega
      have E2:=hide (show pkX d F P (k + 1) = pkX d F P k ++ pkY d F P x j by rw [HX.out,ej]; rfl)
      have EX:=hide (show x + 1 = ((k + 1:Nat):Int) - 2 by have := HX.out; omega)
      clear hjg ej
      go_wp2
      go_roundg (go - 1)
      case measure => have := HKG.out; omega
      case rel => exact ⟨k + 1,u,by have := HKG.out; omega,by rw [EX.out],by rw [E2.out]; exact QJ.out⟩
   ·have hki:¬ (x < (m:Int)):=by have := HX.out; omega
    have e:k = m + 2:=by omega
    have EE:=hide (show pkX d F P (m + 2) = pkX d F P k by rw [e])
    obtain ⟨q0,q1⟩:=box1 PK.out.l
    clear hkg e
    go_wp2
    go_ret
    exact ⟨v,rfl,⟨w.heap.size + 1 + 1,by omega,PK.out.big,by first | (rw [EE.out]; exact PK.out.o) | (rw [E.out,EE.out]; exact PK.out.o)⟩,PK.out.bel⟩
end Go.Proofs.Ytghdiolnonejaaa
end
section
namespace Go.Proofs.Ytghdiolnonejaaa
open Go Go.RowKit
attribute [local go_sem ↓] Go.wp_at_zero Go.wp_at_succ
section
variable {P:Program} (w:World)
def SrcAt (w:World) (A:Option Addr) (m:Nat) (xs:List Value):Prop := xs.length = m * 5 ∧ (0 < m → ∃ b o,A = some ⟨b,o,none⟩ ∧ ∀ (j:Nat) u,xs[j]? = some u → w.cell? ⟨b,o + j,none⟩ = some u) ∧ ∀ u ∈ xs,u.oneCell' = true
theorem mvs_one (ms:List Mv):∀ u ∈ mvs ms,u.oneCell' = true := by
 intro u hu
 unfold mvs at hu
 obtain ⟨m,_,hm⟩:=List.mem_flatMap.1 hu
 simp only [Mv.cells,List.mem_cons,List.not_mem_nil,or_false] at hm
 rcases hm with rfl | rfl | rfl | rfl | rfl <;> rfl
theorem MovesAt.src {w:World} {v:Value} {ms:List Mv} (h:MovesAt w v ms):∃ (A:Option Addr) (c:Nat),v = .slice A ms.length c ∧ SrcAt w A ms.length (mvs ms) := by
 obtain ⟨base,h⟩:=h
 obtain ⟨A,c,rfl⟩:=owns_slice h
 refine ⟨A,c,rfl,h.1,fun hp => ?_,mvs_one ms⟩
 obtain ⟨g,cap,e,_,hg⟩:=World.ownsRow.form h hp
 injection e with e1 _ _
 subst e1
 refine ⟨g,0,rfl,fun j u hu => ?_⟩
 have hj:j < ms.length * 5:=by
  have:=(List.getElem?_eq_some_iff.1 hu).1
  rw [mvs_len] at this
  exact this
 rw [Nat.zero_add,World.ownsRow.cellAt h j hj]
 exact hu
theorem run_append_src (base:Nat) (t ty e:TypeId) (i:TypeInfo) (z:Value) (bytes:Nat) (ht:P.underlying t = some (.slice e)) (hi:P.info? e = some i) (hz:i.zero = some z)
 (hsize:i.size = 5) (hby:i.bytes = bytes) (hzs:z.cells.size = 5)
 (v:Value) (n:Nat) (xs:List Value) (hown:w.ownsRow base e 5 v n xs)
 (A:Option Addr) (m c:Nat) (ys:List Value) (hin:SrcAt w A m ys)
 (h63:n + m ≤ maxLen) (hbytes:(n + m) * bytes ≤ 140737488355328) (hbase:base ≤ w.heap.size) :
 ∃ v' w',(Builtin.append_ #[t,t] ty #[v,.slice A m c]).run P w = .ok v' w' ∧ w'.ownsRow base e 5 v' (n + m) (xs ++ ys) ∧ w.grownBy w' v.ownBlock := by
 have hl:=hin.1
 rcases Nat.eq_zero_or_pos m with h0 | h0
 ·subst h0
  obtain rfl:ys = [] := List.eq_nil_of_length_eq_zero (by omega)
  have hr:(Builtin.append_ #[t,t] ty #[v,.slice A 0 c]).run P w = .ok v w:=by
   rcases hown.2 with ⟨rfl,rfl⟩ | ⟨g,cap,cur,rfl,_,_,hnc,_⟩
   ·cases A <;> simp [Builtin.append_,run_underlying ht,sizeOf,typeInfo,hi,Builtin.lenOf,Builtin.firstCells,loadCells,loadCellsFrom]
   ·cases A <;> simp [Builtin.append_,run_underlying ht,sizeOf,typeInfo,hi,Builtin.lenOf,Builtin.firstCells,hnc,storeCells,loadCells,loadCellsFrom]
  refine ⟨v,w,hr,by simpa using hown,⟨rfl,rfl,rfl,Nat.le_refl _,fun _ _ _ => rfl⟩⟩
 ·obtain ⟨b,o,rfl,hc⟩:=hin.2.1 h0
  obtain ⟨v',w',hr,h2,h3,_⟩:=run_append_own (P := P) w base t ty e i z 5 bytes ht hi hz hsize hby hzs (by omega) v n xs hown ⟨b,o,none⟩ m c ys hl (fun j u hu => by
   have:(⟨b,o,none⟩:Addr).add j = ⟨b,o + j,none⟩:=by unfold Addr.add; split <;> simp_all
   rw [this]; exact hc j u hu) hin.2.2 h63 hbytes hbase
  exact ⟨v',w',hr,h2,h3⟩
theorem wp_append_src {o:Oper} {a:Act} {K:Act → World → Prop} {Q:Exit → Act → World → Prop} (s x:Operand) (t:TypeId)
 (ho:o.op = .call { callee := .builtin .append,args := #[s,x],argTypes := #[t,t] })
 (base:Nat) (e:TypeId) (i:TypeInfo) (z:Value) (bytes:Nat) (ht:P.underlying t = some (.slice e)) (hi:P.info? e = some i) (hz:i.zero = some z)
 (hsize:i.size = 5) (hby:i.bytes = bytes) (hzs:z.cells.size = 5)
 (v:Value) (n:Nat) (xs:List Value) (hs:a.eval s = v) (hown:w.ownsRow base e 5 v n xs)
 (A:Option Addr) (m c:Nat) (ys:List Value) (hx:a.eval x = .slice A m c) (hin:SrcAt w A m ys)
 (h63:n + m ≤ maxLen) (hbytes:(n + m) * bytes ≤ 140737488355328) (hbase:base ≤ w.heap.size)
 (h:∀ v' w',w'.ownsRow base e 5 v' (n + m) (xs ++ ys) → w.grownBy w' v.ownBlock → K (a.put o.dst v') w'):o.wp P a w K Q := by
 obtain ⟨v',w',hr,h2,h3⟩:=run_append_src (P := P) w base t o.type e i z bytes ht hi hz hsize hby hzs v n xs hown A m c ys hin h63 hbytes hbase
 unfold Oper.wp execOp
 simp only [ho,resolve,invoke,builtin,Sem.run_bind,Sem.run_pure,Result.andThen_ok,List.map_toArray,List.map_cons,List.map_nil,hs,hx,hr]
 exact h v' w' h2 h3
theorem wpList_append_src {ops:Array Oper} {rest:List Oper} {o:Oper} {a:Act} {Q:Exit → Act → World → Prop} (hgd:o.guard = none) (s x:Operand) (t:TypeId)
 (ho:o.op = .call { callee := .builtin .append,args := #[s,x],argTypes := #[t,t] })
 (base:Nat) (e:TypeId) (i:TypeInfo) (z:Value) (bytes:Nat) (ht:P.underlying t = some (.slice e)) (hi:P.info? e = some i) (hz:i.zero = some z)
 (hsize:i.size = 5) (hby:i.bytes = bytes) (hzs:z.cells.size = 5)
 (v:Value) (n:Nat) (xs:List Value) (hs:a.eval s = v) (hown:w.ownsRow base e 5 v n xs)
 (A:Option Addr) (m c:Nat) (ys:List Value) (hx:a.eval x = .slice A m c) (hin:SrcAt w A m ys)
 (h63:n + m ≤ maxLen) (hbytes:(n + m) * bytes ≤ 140737488355328) (hbase:base ≤ w.heap.size)
 (h:∀ v' w',w'.ownsRow base e 5 v' (n + m) (xs ++ ys) → w.grownBy w' v.ownBlock → wpList P ops Q rest (a.put o.dst v') w'):wpList P ops Q (o :: rest) a w :=
 wpList_plain hgd fun _ hK => wp_append_src w s x t ho base e i z bytes ht hi hz hsize hby hzs v n xs hs hown A m c ys hx hin h63 hbytes hbase fun v' w' h2 h3 => hK _ _ (h v' w' h2 h3)
end
def cuN (x:Int):List Mv := [⟨1,x,0,-1,false⟩,⟨1,x,0,-1,true⟩,⟨1,x,0,1,false⟩,⟨1,x,0,1,true⟩]
def cuC:Nat → List Mv
 | 0 => []
 | k + 1 => cuC k ++ cuN ((k:Int) - 1)
def unC:Nat → List Mv
 | 0 => []
 | k + 1 => unC k ++ [⟨2,k,0,0,false⟩]
def pkN (x y:Int):Nat → List Mv
 | 0 => []
 | j + 1 => pkN x y j ++ [⟨3,x,y,(j:Int) - 1,false⟩,⟨3,x,y,(j:Int) - 1,true⟩]
def pkNY (x:Int):Nat → List Mv
 | 0 => []
 | k + 1 => pkNY x k ++ pkN x ((k:Int) - 2) 3
def pkNX (n:Nat):Nat → List Mv
 | 0 => []
 | k + 1 => pkNX n k ++ pkNY ((k:Int) - 2) (4 * n + 2)
def upN (x:Nat):Nat → List Mv
 | 0 => []
 | k + 1 => upN x k ++ (if x < k then [⟨4,x,k,0,false⟩] else [])
def upNX (n:Nat):Nat → List Mv
 | 0 => []
 | k + 1 => upNX n k ++ upN k n
noncomputable def sel (d:Pl.Dg) (l:List Mv):List Mv := l.flatMap (fun m => one (apC d m) m)
theorem sel_nil (d:Pl.Dg):sel d [] = [] := rfl
theorem sel_app (d:Pl.Dg) (l r:List Mv):sel d (l ++ r) = sel d l ++ sel d r := by unfold sel; rw [List.flatMap_append]
theorem sel_cons (d:Pl.Dg) (m:Mv) (l:List Mv):sel d (m :: l) = one (apC d m) m ++ sel d l := by unfold sel; rw [List.flatMap_cons]
theorem mem_one {c:Int} {m z:Mv}:z ∈ one c m ↔ z = m ∧ c = 0 := by
 unfold one
 split
 ·rename_i h; simp [h]
 ·rename_i h; simp [h]
theorem mem_sel {d:Pl.Dg} {l:List Mv} {z:Mv}:z ∈ sel d l ↔ z ∈ l ∧ apC d z = 0 := by
 unfold sel
 rw [List.mem_flatMap]
 constructor
 ·rintro ⟨m,h1,h2⟩
  obtain ⟨rfl,h3⟩:=mem_one.1 h2
  exact ⟨h1,h3⟩
 ·rintro ⟨h1,h2⟩
  exact ⟨z,h1,mem_one.2 ⟨rfl,h2⟩⟩
theorem sel_len (d:Pl.Dg):∀ l,(sel d l).length ≤ l.length
 | [] => Nat.le_refl _
 | m :: l => by
   have a:=sel_len d l
   have b:=one_len (apC d m) m
   rw [sel_cons,List.length_append,List.length_cons]
   omega
theorem apC_in {d:Pl.Dg} {m:Mv} (hk:1 ≤ m.kind ∧ m.kind ≤ 5) (hin:inR d.n m):apC d m = if m.kind = 1 then curlableC d m.x else if m.kind = 2 then uncC d m.x.toNat else if m.kind = 3 then pkQ d m.x m.y m.sign else if m.kind = 4 then unpC d m.x.toNat m.y.toNat else sldC d m.x.toNat := by
 unfold apC
 rw [if_neg (by omega),if_neg (by rw [Pl.vb_true hin]; decide)]
theorem apC_out {d:Pl.Dg} {m:Mv} (hk:1 ≤ m.kind ∧ m.kind ≤ 5) (hin:¬ inR d.n m):apC d m = 2 := by
 unfold apC
 rw [if_neg (by omega),if_pos (Pl.vb_false hin)]
theorem cu_code {d:Pl.Dg} {x s:Int} {o:Bool} (hx:-1 ≤ x ∧ x < 4 * (d.n:Int)) (hs:s = 1 ∨ s = -1):apC d ⟨1,x,0,s,o⟩ = curlableC d x := by
 rw [apC_in (by simp) (by unfold inR; simp; omega)]
 simp
theorem un_code {d:Pl.Dg} {c:Nat} (hc:c < d.n):apC d ⟨2,c,0,0,false⟩ = uncC d c := by
 rw [apC_in (by simp) (by unfold inR; simp; omega)]
 simp
theorem up_code {d:Pl.Dg} {x y:Nat} (hx:x < y) (hy:y < d.n):apC d ⟨4,x,y,0,false⟩ = unpC d x y := by
 rw [apC_in (by simp) (by unfold inR; simp; omega)]
 simp
theorem pk_code {d:Pl.Dg} {F P:List Nat} (hF:∀ x y,x < 4 * d.n → y < 4 * d.n → (F.getD x 0 = F.getD y 0 ↔ Pl.Orb (Pl.nx d) x y)) (hP:∀ x y,x < d.n → y < d.n → (P.getD x 0 = P.getD y 0 ↔ Pl.Comp d x y)) {x y s:Int} {o:Bool} (hx:x < 4 * d.n) (hy:y < 4 * d.n):apC d ⟨3,x,y,s,o⟩ = pkA d F P x y s o := by
 unfold pkA
 by_cases hin:inR d.n ⟨3,x,y,s,o⟩
 ·rw [apC_in (by simp) hin,if_pos (Pl.vb_true hin),pkC_eq hF hP hx hy]
  simp
 ·rw [apC_out (by simp) hin,if_neg (by rw [Pl.vb_false hin]; decide)]
theorem cu_sel (d:Pl.Dg):∀ k,k ≤ 4 * d.n + 1 → cuL d k = sel d (cuC k)
 | 0,_ => rfl
 | k + 1, h => by
   show cuL d k ++ cuX d ((k:Int) - 1) = sel d (cuC k ++ cuN ((k:Int) - 1))
   rw [sel_app,cu_sel d k (by omega)]
   congr 1
   unfold cuX cuN
   simp only [sel_cons,sel_nil]
   rw [cu_code (by omega) (.inr rfl),cu_code (by omega) (.inr rfl),cu_code (by omega) (.inl rfl),cu_code (by omega) (.inl rfl)]
   simp
theorem un_sel (d:Pl.Dg):∀ k,k ≤ d.n → unL d k = sel d (unC k)
 | 0,_ => rfl
 | k + 1, h => by
   show unL d k ++ one (uncC d k) ⟨2,k,0,0,false⟩ = sel d (unC k ++ [⟨2,k,0,0,false⟩])
   rw [sel_app,un_sel d k (by omega),sel_cons,sel_nil,un_code (by omega),List.append_nil]
theorem upY_sel (d:Pl.Dg) (x:Nat):∀ k,k ≤ d.n → upY d x k = sel d (upN x k)
 | 0,_ => rfl
 | k + 1, h => by
   show upY d x k ++ (if x < k then one (unpC d x k) ⟨4,x,k,0,false⟩ else []) = sel d (upN x k ++ (if x < k then [⟨4,x,k,0,false⟩] else []))
   rw [sel_app,upY_sel d x k (by omega)]
   congr 1
   split
   ·rename_i hx; rw [sel_cons,sel_nil,up_code hx (by omega),List.append_nil]
   ·rfl
theorem up_sel (d:Pl.Dg):∀ k,upX d k = sel d (upNX d.n k)
 | 0 => rfl
 | k + 1 => by
   show upX d k ++ upY d k d.n = sel d (upNX d.n k ++ upN k d.n)
   rw [sel_app,up_sel d k,upY_sel d k d.n (Nat.le_refl _)]
section
variable {d:Pl.Dg} {F P:List Nat}
theorem pkS_sel (hF:∀ x y,x < 4 * d.n → y < 4 * d.n → (F.getD x 0 = F.getD y 0 ↔ Pl.Orb (Pl.nx d) x y)) (hP:∀ x y,x < d.n → y < d.n → (P.getD x 0 = P.getD y 0 ↔ Pl.Comp d x y)) {x y:Int} (hx:x < 4 * d.n) (hy:y < 4 * d.n):∀ k,pkS d F P x y k = sel d (pkN x y k)
 | 0 => rfl
 | k + 1 => by
   show pkS d F P x y k ++ (one (pkA d F P x y ((k:Int) - 1) false) ⟨3,x,y,(k:Int) - 1,false⟩ ++ one (pkA d F P x y ((k:Int) - 1) true) ⟨3,x,y,(k:Int) - 1,true⟩) = sel d (pkN x y k ++ [⟨3,x,y,(k:Int) - 1,false⟩,⟨3,x,y,(k:Int) - 1,true⟩])
   rw [sel_app,pkS_sel hF hP hx hy k,sel_cons,sel_cons,sel_nil,pk_code hF hP hx hy,pk_code hF hP hx hy,List.append_nil]
theorem pkY_sel (hF:∀ x y,x < 4 * d.n → y < 4 * d.n → (F.getD x 0 = F.getD y 0 ↔ Pl.Orb (Pl.nx d) x y)) (hP:∀ x y,x < d.n → y < d.n → (P.getD x 0 = P.getD y 0 ↔ Pl.Comp d x y)) {x:Int} (hx:x < 4 * d.n):∀ k,k ≤ 4 * d.n + 2 → pkY d F P x k = sel d (pkNY x k)
 | 0,_ => rfl
 | k + 1, h => by
   show pkY d F P x k ++ pkS d F P x ((k:Int) - 2) 3 = sel d (pkNY x k ++ pkN x ((k:Int) - 2) 3)
   rw [sel_app,pkY_sel hF hP hx k (by omega),pkS_sel hF hP hx (by omega)]
theorem pkX_sel (hF:∀ x y,x < 4 * d.n → y < 4 * d.n → (F.getD x 0 = F.getD y 0 ↔ Pl.Orb (Pl.nx d) x y)) (hP:∀ x y,x < d.n → y < d.n → (P.getD x 0 = P.getD y 0 ↔ Pl.Comp d x y)):∀ k,k ≤ 4 * d.n + 2 → pkX d F P k = sel d (pkNX d.n k)
 | 0,_ => rfl
 | k + 1, h => by
   show pkX d F P k ++ pkY d F P ((k:Int) - 2) (4 * d.n + 2) = sel d (pkNX d.n k ++ pkNY ((k:Int) - 2) (4 * d.n + 2))
   rw [sel_app,pkX_sel hF hP k (by omega),pkY_sel hF hP (by omega) _ (Nat.le_refl _)]
end
theorem pkNY_kind {x:Int}:∀ {k:Nat} {z:Mv},z ∈ pkNY x k → z.kind = 3
 | 0,z,h => by cases h
 | k + 1, z, h => by
   have h:z ∈ pkNY x k ++ pkN x ((k:Int) - 2) 3:=h
   rw [List.mem_append] at h
   rcases h with h | h
   ·exact pkNY_kind h
   ·simp only [pkN,List.mem_append,List.mem_cons,List.not_mem_nil,or_false,false_or] at h
    rcases h with ((rfl | rfl) | rfl | rfl) | rfl | rfl <;> rfl
theorem pkNX_kind {n:Nat}:∀ {k:Nat} {z:Mv},z ∈ pkNX n k → z.kind = 3
 | 0,z,h => by cases h
 | k + 1, z, h => by
   have h:z ∈ pkNX n k ++ pkNY ((k:Int) - 2) (4 * n + 2):=h
   rw [List.mem_append] at h
   rcases h with h | h
   ·exact pkNX_kind h
   ·exact pkNY_kind h
theorem pk_full {d:Pl.Dg} (h:64 < d.n + 2) (k:Nat):sel d (pkNX d.n k) = [] := by
 refine List.eq_nil_iff_forall_not_mem.2 fun z hz => ?_
 obtain ⟨h1,h2⟩:=mem_sel.1 hz
 have hk:=pkNX_kind h1
 by_cases hin:inR d.n z
 ·rw [apC_in (by omega) hin,if_neg (by omega),if_neg (by omega),if_pos hk] at h2
  unfold pkQ at h2
  rw [if_pos h] at h2
  split at h2
  ·cases h2
  ·split at h2 <;> cases h2
 ·rw [apC_out (by omega) hin] at h2
  cases h2
noncomputable def allL (d:Pl.Dg):List Mv := sel d (cuC (4 * d.n + 1)) ++ sel d (unC d.n) ++ sel d (pkNX d.n (4 * d.n + 2)) ++ sel d (upNX d.n d.n) ++ slL d (4 * d.n)
end Go.Proofs.Ytghdiolnonejaaa
end
section
namespace Go.Proofs.Ytghdiolnonejaaa
open Go Go.RowKit
attribute [local go_sem ↓] Go.wp_at_zero Go.wp_at_succ
theorem mvs_apps (ms r:List Mv):mvs (ms ++ r) = mvs ms ++ mvs r := by unfold mvs; rw [List.flatMap_append]
structure AL (w:World) (dv:List Value) (b:Nat) (v:Value) (ms:List Mv) (W:World):Prop where
 d:Row W w.heap.size 24 dv
 o:W.ownsRow b 37 5 v ms.length (mvs ms)
 bel:Below w.heap.size w W
 lo:w.heap.size < b
 lo2:b ≤ W.heap.size
section
variable {w W W' W2:World} {dv:List Value} {b:Nat} {v v':Value} {ms r:List Mv}
theorem AL.below (h:AL w dv b v ms W) (hb:Below W.heap.size W W'):AL w dv b v ms W' :=
 ⟨h.d.below hb,own_below h.o hb,h.bel.trans (hb.mono h.bel.size),h.lo,Nat.le_trans h.lo2 hb.size⟩
theorem AL.far (h:AL w dv b v ms W):some w.heap.size ≠ v.ownBlock := fun e => by have := (h.o.lt _ e.symm).1; have := h.lo; omega
theorem AL.app (h:AL w dv b v ms W) (own:W2.ownsRow b 37 5 v' (ms.length + r.length) (mvs ms ++ mvs r)) (gr:W.grownBy W2 v.ownBlock):AL w dv b v' (ms ++ r) W2 := by
 refine ⟨h.d.grown gr h.far,?_,h.bel.grown gr h.bel.size (fun k hk => by have := (h.o.lt k hk).1; have := h.lo; omega),h.lo,Nat.le_trans h.lo2 gr.size⟩
 rw [mvs_apps,List.length_append]
 exact own
end
theorem cu_le {d:Pl.Dg} (hn:d.n ≤ 64):(sel d (cuC (4 * d.n + 1))).length ≤ 1028 := by
 have a:=cuL_len d (4 * d.n + 1)
 rw [cu_sel d _ (Nat.le_refl _)] at a
 omega
theorem un_le {d:Pl.Dg} (hn:d.n ≤ 64):(sel d (unC d.n)).length ≤ 64 := by
 have a:=unL_len d d.n
 rw [un_sel d _ (Nat.le_refl _)] at a
 omega
theorem up_le {d:Pl.Dg} (hn:d.n ≤ 64):(sel d (upNX d.n d.n)).length ≤ 4096 := by
 have a:=upX_len hn d.n
 rw [up_sel d _] at a
 omega
theorem pk_all {d:Pl.Dg} (hn:d.n ≤ 64) {F P:List Nat} (hF:∀ x y,x < 4 * d.n → y < 4 * d.n → (F.getD x 0 = F.getD y 0 ↔ Pl.Orb (Pl.nx d) x y)) (hP:∀ x y,x < d.n → y < d.n → (P.getD x 0 = P.getD y 0 ↔ Pl.Comp d x y)) :
 (if 64 < d.n + 2 then [] else pkX d F P (4 * d.n + 2)) = sel d (pkNX d.n (4 * d.n + 2)) ∧ (sel d (pkNX d.n (4 * d.n + 2))).length ≤ 399384 := by
 have a:=pkX_len hn F P (4 * d.n + 2)
 rw [pkX_sel hF hP _ (Nat.le_refl _)] at a
 refine ⟨?_,by omega⟩
 split
 ·rename_i h
  rw [pk_full h]
 ·exact pkX_sel hF hP _ (Nat.le_refl _)
set_option maxRecDepth 100000 in
set_option maxHeartbeats 8000000 in
theorem All_any (d:Pl.Dg) (hd:Pl.Valid d) (A B:Option Addr) (cp cq m:Nat) (w:World) (hm:m = 4 * d.n) (hg:DgAt w A B d) :
 Calls Try.prog 33 #[.agg #[.slice A d.n cp,.slice B m cq,.int .i64 d.lp]] w fun e w' => ∃ v,e = .returned v ∧ MovesIn w.heap.size w' v (allL d) ∧ Below w.heap.size w w' := by
 have HM:=hide hm
 have HG:=hide hg
 have HW:=hide (Pl.Valid.iff.1 hd).1
 have hn:=hd.wf.few
 clear hg hm
 have R0:=hide (row_at (W := w) (g := w.heap.size) (t := 24) (vs := [.slice A d.n cp,.slice B m cq,.int .i64 (d.lp:Int)]) rfl)
 have B0:=hide (show Below w.heap.size w (w.alloc (.cells #[.slice A d.n cp,.slice B m cq,.int .i64 (d.lp:Int)] 24)) from (Below.refl _ _).alloc (Nat.le_refl _) _)
 go_enter Try.func33,Try.ntmps33
 go_wp2_with fail
 refine (valid_yes d hd A B cp cq m _ HM.out (HG.out.keep B0.out)).mono ?_
 rintro e w1 ⟨rfl,hb1⟩
 have R1:=hide (R0.out.below hb1)
 have B1:=hide (B0.out.trans (hb1.mono B0.out.size))
 clear hb1
 obtain ⟨d0,d1,d2,d3⟩:=box3 R1.out
 go_wp2_with fail
 refine (curls_any d HW.out A B cp cq m _ HM.out (HG.out.keep B1.out)).mono ?_
 rintro e w2 ⟨v2,rfl,⟨b,hlb,hlb2,own2⟩,hb2⟩
 have hw1:w.heap.size < w1.heap.size:=R1.out.lt
 have Q2:=hide (show AL w [.slice A d.n cp,.slice B m cq,.int .i64 (d.lp:Int)] b v2 (sel d (cuC (4 * d.n + 1))) w2 from
  ⟨R1.out.below hb2,by rw [HM.out] at own2; rw [cu_sel d _ (Nat.le_refl _)] at own2; exact own2,B1.out.trans (hb2.mono B1.out.size),by omega,hlb2⟩)
 clear hb2 own2 R1 B1 R0 B0 d0 d1 d2 d3
 obtain ⟨d0,d1,d2,d3⟩:=box3 Q2.out.d
 go_wp2_with fail
 refine (uncurls_any d HW.out A B cp cq m _ HM.out (HG.out.keep Q2.out.bel)).mono ?_
 rintro e w3 ⟨v3,rfl,hv3,hb3⟩
 rw [un_sel d _ (Nat.le_refl _)] at hv3
 obtain ⟨A3,c3,rfl,src3⟩:=hv3.at.src
 have Q3:=hide (Q2.out.below hb3)
 have S3:=hide src3
 have lcu:=cu_le (d := d) hn
 have lun:=un_le (d := d) hn
 have lup:=up_le (d := d) hn
 have B3:(sel d (cuC (4 * d.n + 1))).length + (sel d (unC d.n)).length ≤ maxLen:=by unfold maxLen; omega
 have C3:((sel d (cuC (4 * d.n + 1))).length + (sel d (unC d.n)).length) * 40 ≤ 140737488355328:=by omega
 have D3:b ≤ w3.heap.size:=Q3.out.lo2
 obtain ⟨n0,hn0,hz0,hz1,hz2⟩:=info_parts moveInfo
 clear hb3 hv3 src3 d0 d1 d2 d3 Q2
 go_wp2_with (at_builtin; refine wpList_append_src _ (by rfl) _ _ 27 (by rfl) b 37 n0 (.agg #[.int .i64 0,.int .i64 0,.int .i64 0,.int .i64 0,.bool false]) 40 Try.underlying27 hn0 hz0 hz1 hz2 rfl v2 _ _ (by rfl) Q3.out.o A3 _ c3 _ (by rfl) S3.out B3 C3 D3 ?_; intro v4 w4 own4 grow4; obtain ⟨d0,d1,d2,d3⟩:=box3 (Q3.out.app own4 grow4).d; have Q4 := hide (Q3.out.app own4 grow4); clear own4 grow4)
 clear Q3 S3 B3 C3 D3
 refine (survey_any d hd A B cp cq m _ HM.out (HG.out.keep Q4.out.bel)).mono ?_
 rintro e w5 ⟨L,R,cl,cr,F,P,he,hsh,hF,hP,hb5⟩
 have Q5:=hide (Q4.out.below hb5)
 have HSH:=hide hsh
 obtain ⟨pe,pl⟩:=pk_all hn hF hP
 have PE:=hide pe
 rw [← HM.out] at he
 unfold sheetV at he
 subst he
 have hb5s:=hb5.size
 clear hb5 hsh hF hP pe d0 d1 d2 d3 Q4
 obtain ⟨d0,d1,d2,d3⟩:=box3 Q5.out.d
 go_wp2_with fail
 refine (pokes_any d HW.out F P A B L R cp cq cl cr m _ HM.out HSH.out).mono ?_
 rintro e w6 ⟨v6,rfl,hv6,hb6⟩
 rw [HM.out,PE.out] at hv6
 obtain ⟨A6,c6,rfl,src6⟩:=hv6.at.src
 have Q6:=hide (Q5.out.below hb6)
 have S6:=hide src6
 have B6:(sel d (cuC (4 * d.n + 1)) ++ sel d (unC d.n)).length + (sel d (pkNX d.n (4 * d.n + 2))).length ≤ maxLen:=by unfold maxLen; rw [List.length_append]; omega
 have C6:((sel d (cuC (4 * d.n + 1)) ++ sel d (unC d.n)).length + (sel d (pkNX d.n (4 * d.n + 2))).length) * 40 ≤ 140737488355328:=by rw [List.length_append]; omega
 have D6:b ≤ w6.heap.size:=Q6.out.lo2
 clear hb6 hv6 src6 d0 d1 d2 d3 Q5 HSH PE
 go_wp2_with (at_builtin; refine wpList_append_src _ (by rfl) _ _ 27 (by rfl) b 37 n0 (.agg #[.int .i64 0,.int .i64 0,.int .i64 0,.int .i64 0,.bool false]) 40 Try.underlying27 hn0 hz0 hz1 hz2 rfl v4 _ _ (by rfl) Q6.out.o A6 _ c6 _ (by rfl) S6.out B6 C6 D6 ?_; intro v7 w7 own7 grow7; obtain ⟨d0,d1,d2,d3⟩:=box3 (Q6.out.app own7 grow7).d; have Q7 := hide (Q6.out.app own7 grow7); clear own7 grow7)
 clear Q6 S6 B6 C6 D6
 refine (unpokes_any d HW.out A B cp cq m _ HM.out (HG.out.keep Q7.out.bel)).mono ?_
 rintro e w8 ⟨v8,rfl,hv8,hb8⟩
 rw [up_sel] at hv8
 obtain ⟨A8,c8,rfl,src8⟩:=hv8.at.src
 have Q8:=hide (Q7.out.below hb8)
 have S8:=hide src8
 have B8:(sel d (cuC (4 * d.n + 1)) ++ sel d (unC d.n) ++ sel d (pkNX d.n (4 * d.n + 2))).length + (sel d (upNX d.n d.n)).length ≤ maxLen:=by unfold maxLen; simp only [List.length_append]; omega
 have C8:((sel d (cuC (4 * d.n + 1)) ++ sel d (unC d.n) ++ sel d (pkNX d.n (4 * d.n + 2))).length + (sel d (upNX d.n d.n)).length) * 40 ≤ 140737488355328:=by simp only [List.length_append]; omega
 have D8:b ≤ w8.heap.size:=Q8.out.lo2
 clear hb8 hv8 src8 d0 d1 d2 d3 Q7
 go_wp2_with (at_builtin; refine wpList_append_src _ (by rfl) _ _ 27 (by rfl) b 37 n0 (.agg #[.int .i64 0,.int .i64 0,.int .i64 0,.int .i64 0,.bool false]) 40 Try.underlying27 hn0 hz0 hz1 hz2 rfl v7 _ _ (by rfl) Q8.out.o A8 _ c8 _ (by rfl) S8.out B8 C8 D8 ?_; intro v9 w9 own9 grow9; obtain ⟨d0,d1,d2,d3⟩:=box3 (Q8.out.app own9 grow9).d; have Q9 := hide (Q8.out.app own9 grow9); clear own9 grow9)
 clear Q8 S8 B8 C8 D8
 refine (slides_any d HW.out A B cp cq m _ HM.out (HG.out.keep Q9.out.bel)).mono ?_
 rintro e w10 ⟨v10,rfl,hv10,hb10⟩
 rw [HM.out] at hv10
 have lsl:=slL_len d (4 * d.n)
 obtain ⟨A10,c10,rfl,src10⟩:=hv10.src
 have Q10:=hide (Q9.out.below hb10)
 have S10:=hide src10
 have B10:(sel d (cuC (4 * d.n + 1)) ++ sel d (unC d.n) ++ sel d (pkNX d.n (4 * d.n + 2)) ++ sel d (upNX d.n d.n)).length + (slL d (4 * d.n)).length ≤ maxLen:=by unfold maxLen; simp only [List.length_append]; omega
 have C10:((sel d (cuC (4 * d.n + 1)) ++ sel d (unC d.n) ++ sel d (pkNX d.n (4 * d.n + 2)) ++ sel d (upNX d.n d.n)).length + (slL d (4 * d.n)).length) * 40 ≤ 140737488355328:=by simp only [List.length_append]; omega
 have D10:b ≤ w10.heap.size:=Q10.out.lo2
 clear hb10 hv10 src10 d0 d1 d2 d3 Q9
 go_wp2_with (at_builtin; refine wpList_append_src _ (by rfl) _ _ 27 (by rfl) b 37 n0 (.agg #[.int .i64 0,.int .i64 0,.int .i64 0,.int .i64 0,.bool false]) 40 Try.underlying27 hn0 hz0 hz1 hz2 rfl v9 _ _ (by rfl) Q10.out.o A10 _ c10 _ (by rfl) S10.out B10 C10 D10 ?_; intro v11 w11 own11 grow11; obtain ⟨d0,d1,d2,d3⟩:=box3 (Q10.out.app own11 grow11).d; have Q11 := hide (Q10.out.app own11 grow11); clear own11 grow11)
 go_ret
 exact ⟨v11,rfl,⟨b,by have := Q11.out.lo; omega,Q11.out.lo2,Q11.out.o⟩,Q11.out.bel⟩
end Go.Proofs.Ytghdiolnonejaaa
end
section
namespace Go.Proofs.Ytghdiolnonejaaa
open Go Go.RowKit
attribute [local go_sem ↓] Go.wp_at_zero Go.wp_at_succ
theorem mv_get:∀ (ms:List Mv) (j:Nat) (z:Mv),ms[j]? = some z → ∀ (i:Nat) (u:Value),z.cells[i]? = some u → (mvs ms)[j * 5 + i]? = some u
 | [],j,z,h,_,_,_ => by cases h
 | m :: ms, 0, z, h, i, u, hu => by
   obtain rfl:m = z := by simpa using h
   have hi:i < m.cells.length:=(List.getElem?_eq_some_iff.1 hu).1
   show (m.cells ++ mvs ms)[0 * 5 + i]? = some u
   rw [Nat.zero_mul,Nat.zero_add,List.getElem?_append_left hi,hu]
 | m :: ms, j + 1, z, h, i, u, hu => by
   have ih:=mv_get ms j z (by simpa using h) i u hu
   show (m.cells ++ mvs ms)[(j + 1) * 5 + i]? = some u
   have e:m.cells.length = 5:=rfl
   rw [List.getElem?_append_right (by rw [e]; omega),e,← ih]
   congr 1
   omega
theorem mv_val {w:World} {v:Value} {ms:List Mv} (h:MovesAt w v ms):∃ (A:Option Addr) (c:Nat),v = .slice A ms.length c ∧ (0 < ms.length → ∃ g,A = some ⟨g,0,none⟩ ∧ g < w.heap.size ∧ ∀ (j:Nat) (z:Mv),ms[j]? = some z → ∀ (i:Nat) (u:Value),z.cells[i]? = some u → w.cell? ⟨g,j * 5 + i,none⟩ = some u) := by
 obtain ⟨base,h⟩:=h
 obtain ⟨A,c,rfl⟩:=owns_slice h
 refine ⟨A,c,rfl,fun hp => ?_⟩
 obtain ⟨g,cap,e,_,hg⟩:=World.ownsRow.form h hp
 injection e with e1 _ _
 subst e1
 refine ⟨g,rfl,hg,fun j z hz i u hu => ?_⟩
 have hj:j < ms.length:=(List.getElem?_eq_some_iff.1 hz).1
 have hi:i < 5:=(List.getElem?_eq_some_iff.1 hu).1
 rw [World.ownsRow.cellAt h (j * 5 + i) (by omega)]
 exact mv_get ms j z hz i u hu
def MovesV (w:World) (A:Option Addr) (n:Nat) (ms:List Mv):Prop := n = ms.length ∧ (0 < n → ∃ g,A = some ⟨g,0,none⟩ ∧ g < w.heap.size ∧ ∀ (j:Nat) (z:Mv),ms[j]? = some z → ∀ (i:Nat) (u:Value),z.cells[i]? = some u → w.cell? ⟨g,j * 5 + i,none⟩ = some u)
theorem MovesV.keep {w w':World} {A:Option Addr} {n:Nat} {ms:List Mv} (h:MovesV w A n ms) (hb:Below w.heap.size w w'):MovesV w' A n ms :=
 ⟨h.1,fun hp => let ⟨g,e,hl,hc⟩:=h.2 hp; ⟨g,e,Nat.lt_of_lt_of_le hl hb.size,fun j z hz i u hu => cell_below (hc j z hz i u hu) hb⟩⟩
theorem MovesAt.mv {w:World} {v:Value} {ms:List Mv} (h:MovesAt w v ms):∃ (A:Option Addr) (c:Nat),v = .slice A ms.length c ∧ MovesV w A ms.length ms := by
 obtain ⟨A,c,e,h2⟩:=mv_val h
 exact ⟨A,c,e,rfl,h2⟩
theorem MovesV.at_ {w:World} {A:Option Addr} {n j:Nat} {ms:List Mv} (h:MovesV w A n ms) (hj:j < n):∃ g k x y s o,A = some ⟨g,0,none⟩ ∧ g < w.heap.size ∧ ms[j]? = some ⟨k,x,y,s,o⟩ ∧ w.cell? ⟨g,j * 5,none⟩ = some (.int .i64 k) ∧ w.cell? ⟨g,j * 5 + 1,none⟩ = some (.int .i64 x) ∧ w.cell? ⟨g,j * 5 + 2,none⟩ = some (.int .i64 y) ∧ w.cell? ⟨g,j * 5 + 3,none⟩ = some (.int .i64 s) ∧ w.cell? ⟨g,j * 5 + 4,none⟩ = some (.bool o) := by
 obtain ⟨g,e,hl,hc⟩:=h.2 (by omega)
 obtain ⟨z,hz⟩:∃ z,ms[j]? = some z := ⟨_,List.getElem?_eq_getElem (by rw [← h.1]; exact hj)⟩
 obtain ⟨k,x,y,s,o⟩:=z
 exact ⟨g,k,x,y,s,o,e,hl,hz,hc j _ hz 0 _ rfl,hc j _ hz 1 _ rfl,hc j _ hz 2 _ rfl,hc j _ hz 3 _ rfl,hc j _ hz 4 _ rfl⟩
end Go.Proofs.Ytghdiolnonejaaa
end
section
namespace Go.Proofs.Ytghdiolnonejaaa
open Go Go.RowKit
attribute [local go_sem ↓] Go.wp_at_zero Go.wp_at_succ
section
variable {w W W' W2:World} {vR vS:Value} {rs ss:List Mv} {m:Mv} {g n c:Nat}
theorem apart {v u:Value} (ne:∀ g,v.ownBlock = some g → u.ownBlock = some g → False):u.ownBlock = none ∨ u.ownBlock ≠ v.ownBlock := by
 cases hu:u.ownBlock with
 | none => exact .inl rfl
 | some g => exact .inr (fun e => ne g e.symm hu)
end
theorem pkN_len (x y:Int):∀ k,(pkN x y k).length ≤ 2 * k
 | 0 => Nat.le_refl _
 | k + 1 => by
   have a:=pkN_len x y k
   show (pkN x y k ++ [_,_]).length ≤ _
   rw [List.length_append]
   simp only [List.length_cons,List.length_nil]
   omega
theorem pkNY_len (x:Int):∀ k,(pkNY x k).length ≤ 6 * k
 | 0 => Nat.le_refl _
 | k + 1 => by
   have a:=pkNY_len x k
   have b:=pkN_len x ((k:Int) - 2) 3
   show (pkNY x k ++ pkN x ((k:Int) - 2) 3).length ≤ _
   rw [List.length_append]
   omega
theorem pkNX_len {n:Nat} (hn:n ≤ 64):∀ k,(pkNX n k).length ≤ 1548 * k
 | 0 => Nat.le_refl _
 | k + 1 => by
   have a:=pkNX_len hn k
   have b:=pkNY_len ((k:Int) - 2) (4 * n + 2)
   show (pkNX n k ++ pkNY ((k:Int) - 2) (4 * n + 2)).length ≤ _
   rw [List.length_append]
   omega
theorem allL_le {d:Pl.Dg} (hn:d.n ≤ 64):(allL d).length ≤ 500000 := by
 have a:=cu_le (d := d) hn
 have b:=un_le (d := d) hn
 have c:=sel_len d (pkNX d.n (4 * d.n + 2))
 have c2:=pkNX_len hn (4 * d.n + 2)
 have e:=up_le (d := d) hn
 have f:=slL_len d (4 * d.n)
 unfold allL
 simp only [List.length_append]
 omega
end Go.Proofs.Ytghdiolnonejaaa
end
section
namespace Go.Proofs.Ytghdiolnonejaaa
open Go Go.RowKit
open Classical in
noncomputable def fF (d:Pl.Dg) (a a' b b':Nat):Nat :=
 (if d.m a = a' then 1 else 0) + (if d.m b = b' then 1 else 0) + (if d.m a = b ∧ d.m a' = b' then 1 else 0) + (if d.m a = b' ∧ d.m a' = b then 1 else 0)
theorem mt_m {d:Pl.Dg} (hd:Pl.Wf d) {h:Nat} (hh:h < 4 * d.n):d.mt.getD h 0 = d.m h := by
 have hl:=hd.len
 unfold Pl.Dg.m
 rw [List.getD_eq_getElem?_getD,List.getD_eq_getElem?_getD,List.getElem?_eq_getElem (by omega)]
 rfl
theorem unpL_f {d:Pl.Dg} (hd:Pl.Wf d) {h:Nat} (hh:h < 4 * d.n) (hne:h / 4 ≠ d.m h / 4) (hc:d.m (Pl.nx d h) = Pl.tn h 1) :
 unpL d (lensOf d h) = d.lp + fF d (Pl.tn h 2) (Pl.tn (d.m h) 2) (Pl.tn h 3) (Pl.tn (d.m h) 1) := by
 have hk:=hd.lt h hh
 have e1:(lensOf d h).p2 = Pl.tn h 2:=rfl
 have e2:(lensOf d h).q0 = Pl.tn (d.m h) 2:=rfl
 have e3:(lensOf d h).p3 = Pl.tn h 3:=by show Pl.tn (d.m (Pl.nx d h)) 2 = _; rw [hc,Pl.tn_tn]
 have e4:(lensOf d h).q3 = Pl.tn (d.m h) 1:=by show Pl.tn (Pl.tn (d.m h) 3) 2 = _; rw [Pl.tn_tn,← Pl.tn_mod4]
 unfold unpL unpA
 rw [e1,e2,e3,e4]
 obtain ⟨a,ha⟩:∃ a,a = Pl.tn h 2 := ⟨_,rfl⟩
 obtain ⟨a',ha'⟩:∃ a,a = Pl.tn (d.m h) 2 := ⟨_,rfl⟩
 obtain ⟨b,hb⟩:∃ a,a = Pl.tn h 3 := ⟨_,rfl⟩
 obtain ⟨b',hb'⟩:∃ a,a = Pl.tn (d.m h) 1 := ⟨_,rfl⟩
 have la:a < 4 * d.n:=by rw [ha]; exact Pl.tn_lt hh
 have la':a' < 4 * d.n:=by rw [ha']; exact Pl.tn_lt hk
 have lb:b < 4 * d.n:=by rw [hb]; exact Pl.tn_lt hh
 have lb':b' < 4 * d.n:=by rw [hb']; exact Pl.tn_lt hk
 have n1:a ≠ b:=by rw [ha,hb]; unfold Pl.tn; omega
 have n2:a' ≠ b':=by rw [ha',hb']; unfold Pl.tn; omega
 have n3:a ≠ a':=by rw [ha,ha']; intro e; apply hne; rw [← Pl.tn_div h 2,e,Pl.tn_div]
 have n4:a ≠ b':=by rw [ha,hb']; intro e; apply hne; rw [← Pl.tn_div h 2,e,Pl.tn_div]
 have n5:b ≠ a':=by rw [hb,ha']; intro e; apply hne; rw [← Pl.tn_div h 3,e,Pl.tn_div]
 have n6:b ≠ b':=by rw [hb,hb']; intro e; apply hne; rw [← Pl.tn_div h 3,e,Pl.tn_div]
 rw [← ha,← ha',← hb,← hb',mt_m hd la,mt_m hd la']
 have iv:∀ {p q:Nat},p < 4 * d.n → d.m p = q → d.m q = p:=fun hp e => by rw [← e]; exact hd.inv _ hp
 have lma:=hd.lt a la
 have lma':=hd.lt a' la'
 unfold fF
 by_cases h1:d.m a = a'
 ·rw [if_pos h1,if_pos h1,mt_m hd lb,if_neg (show ¬ (d.m a = b ∧ d.m a' = b') from fun e => n5 (by rw [← e.1,h1])),if_neg (show ¬ (d.m a = b' ∧ d.m a' = b) from fun e => n2 (by rw [← e.1,h1]))]
  omega
 ·rw [if_neg h1,if_neg h1,jn_get (by rw [hd.len]; exact lma) (by rw [hd.len]; exact lma')]
  by_cases h2:b = d.m a'
  ·rw [if_pos h2]
   have h2':=iv la' h2.symm
   rw [if_neg (show ¬ d.m b = b' from fun e => n2 (by rw [← h2',e])),if_neg (show ¬ (d.m a = b ∧ d.m a' = b') from fun e => n6 (by rw [← e.2,h2]))]
   by_cases h3:d.m a = b'
   ·rw [if_pos h3,if_pos ⟨h3,h2.symm⟩]
   ·rw [if_neg h3,if_neg (fun e => h3 e.1)]
  ·rw [if_neg h2,if_neg (show ¬ (d.m a = b' ∧ d.m a' = b) from fun e => h2 e.2.symm)]
   by_cases h3:b = d.m a
   ·rw [if_pos h3]
    have h3':=iv la h3.symm
    rw [if_neg (show ¬ d.m b = b' from fun e => n4 (by rw [← h3',e]))]
    by_cases h4:d.m a' = b'
    ·rw [if_pos h4,if_pos ⟨h3.symm,h4⟩]
    ·rw [if_neg h4,if_neg (fun e => h4 e.2)]
   ·rw [if_neg h3,mt_m hd lb,if_neg (show ¬ (d.m a = b ∧ d.m a' = b') from fun e => h3 e.1.symm)]
    omega
def Ls (d:Pl.Dg) (x y h:Nat):Prop := h / 4 = x ∧ d.m h / 4 = y ∧ d.m (Pl.tn (d.m h) 3) = Pl.tn h 1 ∧ h % 2 = d.m h % 2
theorem ls_of {d:Pl.Dg} (hd:Pl.Wf d) {h y:Nat} (hh:h < 4 * d.n):(Pl.nx d h / 4 = y ∧ Pl.nx d (Pl.nx d h) = h ∧ h % 2 = d.m h % 2) ↔ Ls d (h / 4) y h := by
 unfold Ls Pl.nx
 rw [Pl.tn_div]
 constructor
 ·rintro ⟨h1,h2,h3⟩
  refine ⟨rfl,h1,?_,h3⟩
  have:Pl.tn (d.m (Pl.tn (d.m h) 3)) 3 = Pl.tn (Pl.tn h 1) 3:=by rw [h2,Pl.tn_tn,Pl.tn_four]
  exact Pl.tn_inj this
 ·rintro ⟨_,h1,h2,h3⟩
  exact ⟨h1,by rw [h2,Pl.tn_tn,Pl.tn_four],h3⟩
noncomputable def lpF (d:Pl.Dg) (h:Nat):Nat := fF d (Pl.tn h 2) (Pl.tn (d.m h) 2) (Pl.tn h 3) (Pl.tn (d.m h) 1)
theorem ls_turn {d:Pl.Dg} (hd:Pl.Wf d) {x y h:Nat} (hh:h < 4 * d.n) (L:Ls d x y h):Ls d y x (Pl.tn (d.m h) 3) ∧ lpF d (Pl.tn (d.m h) 3) = lpF d h := by
 obtain ⟨h1,h2,h3,h4⟩:=L
 have hk:=hd.lt h hh
 have iv:∀ {p q:Nat},p < 4 * d.n → d.m p = q → d.m q = p:=fun hp e => by rw [← e]; exact hd.inv _ hp
 obtain ⟨k,hk2⟩:∃ k,k = d.m h := ⟨_,rfl⟩
 have hik:=iv hh hk2.symm
 rw [← hk2] at h2 h3 h4 hk ⊢
 refine ⟨⟨by rw [Pl.tn_div]; exact h2,by rw [h3,Pl.tn_div]; exact h1,?_,by rw [h3]; unfold Pl.tn; omega⟩,?_⟩
 ·rw [h3,Pl.tn_tn,Pl.tn_four,Pl.tn_tn,Pl.tn_four,← hk2]
 ·have l1:∀ j,Pl.tn h j < 4 * d.n:=fun j => Pl.tn_lt hh
  have l2:∀ j,Pl.tn k j < 4 * d.n:=fun j => Pl.tn_lt hk
  have t5:Pl.tn k 5 = Pl.tn k 1:=by rw [← Pl.tn_mod4]
  have t6:Pl.tn k 6 = Pl.tn k 2:=by rw [← Pl.tn_mod4]
  unfold lpF
  rw [h3,← hk2,Pl.tn_tn,Pl.tn_tn,Pl.tn_tn,Pl.tn_tn,t5,t6]
  unfold fF
  have s1:(d.m (Pl.tn k 1) = Pl.tn h 3) = (d.m (Pl.tn h 3) = Pl.tn k 1):=propext ⟨iv (l2 1),iv (l1 3)⟩
  have s2:(d.m (Pl.tn k 2) = Pl.tn h 2) = (d.m (Pl.tn h 2) = Pl.tn k 2):=propext ⟨iv (l2 2),iv (l1 2)⟩
  have s3:(d.m (Pl.tn k 1) = Pl.tn k 2 ∧ d.m (Pl.tn h 3) = Pl.tn h 2) = (d.m (Pl.tn h 2) = Pl.tn h 3 ∧ d.m (Pl.tn k 2) = Pl.tn k 1):=propext ⟨fun e => ⟨iv (l1 3) e.2,iv (l2 1) e.1⟩,fun e => ⟨iv (l2 2) e.2,iv (l1 2) e.1⟩⟩
  have s4:(d.m (Pl.tn k 1) = Pl.tn h 2 ∧ d.m (Pl.tn h 3) = Pl.tn k 2) = (d.m (Pl.tn h 2) = Pl.tn k 1 ∧ d.m (Pl.tn k 2) = Pl.tn h 3):=propext ⟨fun e => ⟨iv (l2 1) e.1,iv (l1 3) e.2⟩,fun e => ⟨iv (l1 2) e.1,iv (l2 2) e.2⟩⟩
  simp only [s1,s2,s3,s4]
  omega
theorem ls_same {d:Pl.Dg} (hd:Pl.Wf d) {x y h g:Nat} (hxy:x ≠ y) (hh:h < 4 * d.n) (hg:g < 4 * d.n) (L:Ls d x y h) (M:Ls d x y g):lpF d g = lpF d h := by
 obtain ⟨h1,h2,h3,h4⟩:=L
 obtain ⟨g1,g2,g3,g4⟩:=M
 have hk:=hd.lt h hh
 have iv:∀ {p q:Nat},p < 4 * d.n → d.m p = q → d.m q = p:=fun hp e => by rw [← e]; exact hd.inv _ hp
 obtain ⟨k,hk2⟩:∃ k,k = d.m h := ⟨_,rfl⟩
 have hik:=iv hh hk2.symm
 rw [← hk2] at h2 h3 h4 hk
 have l1:∀ j,Pl.tn h j < 4 * d.n:=fun j => Pl.tn_lt hh
 have l2:∀ j,Pl.tn k j < 4 * d.n:=fun j => Pl.tn_lt hk
 have t5:∀ z,Pl.tn z 5 = Pl.tn z 1:=fun z => by rw [← Pl.tn_mod4]
 have t6:∀ z,Pl.tn z 6 = Pl.tn z 2:=fun z => by rw [← Pl.tn_mod4]
 have ne:∀ i j,Pl.tn h i ≠ Pl.tn k j:=fun i j e => hxy (by rw [← h1,← h2,← Pl.tn_div h i,e,Pl.tn_div])
 have ne2:∀ i j,Pl.tn k i ≠ Pl.tn h j:=fun i j e => ne j i e.symm
 have nk:∀ i j,i % 4 ≠ j % 4 → Pl.tn k i ≠ Pl.tn k j:=fun i j e => Pl.tn_ne e
 have cases4:g = Pl.tn h 0 ∨ g = Pl.tn h 1 ∨ g = Pl.tn h 2 ∨ g = Pl.tn h 3:=by unfold Pl.tn; omega
 have m1:d.m (Pl.tn h 1) = Pl.tn k 3:=iv (l2 3) h3
 rcases cases4 with e | e | e | e
 ·rw [e,Pl.tn_zero]
 ·-- the corner behind: strand 1 closes at once
  rw [e,m1] at g3
  rw [Pl.tn_tn,Pl.tn_tn,t6] at g3
  have m2:d.m (Pl.tn h 2) = Pl.tn k 2:=iv (l2 2) g3
  unfold lpF
  rw [e,m1,← hk2,Pl.tn_tn,Pl.tn_tn,Pl.tn_tn,Pl.tn_tn,t5,Pl.tn_four,Pl.tn_four]
  unfold fF
  have z1:¬ (d.m (Pl.tn h 3) = h ∧ d.m (Pl.tn k 1) = k):=fun f => by
   have:=iv (l1 3) f.1
   rw [← hk2] at this
   exact ne 3 0 (by rw [Pl.tn_zero]; exact this.symm)
  have z2:¬ (d.m (Pl.tn h 3) = k ∧ d.m (Pl.tn k 1) = h):=fun f => by
   have:=iv (l1 3) f.1
   rw [hik] at this
   exact (Pl.tn_ne (h := h) (j := 0) (k := 3) (by omega)) (by rw [Pl.tn_zero]; exact this)
  rw [if_neg z1,if_neg z2,if_pos hk2.symm,if_pos m2,if_neg (show ¬ (d.m (Pl.tn h 2) = Pl.tn h 3 ∧ d.m (Pl.tn k 2) = Pl.tn k 1) from fun f => ne2 2 3 (by rw [← m2]; exact f.1)),if_neg (show ¬ (d.m (Pl.tn h 2) = Pl.tn k 1 ∧ d.m (Pl.tn k 2) = Pl.tn h 3) from fun f => nk 2 1 (by omega) (by rw [← m2]; exact f.1))]
  simp only [Nat.reduceAdd]
  omega
 ·-- the opposite corner: both strands close
  obtain ⟨u,hu⟩:∃ u,u = d.m (Pl.tn h 2) := ⟨_,rfl⟩
  rw [e,← hu] at g2 g3
  rw [Pl.tn_tn] at g3
  have hu0:u = Pl.tn k 0 ∨ u = Pl.tn k 1 ∨ u = Pl.tn k 2 ∨ u = Pl.tn k 3:=by
   have:u / 4 = k / 4:=by rw [g2,h2]
   unfold Pl.tn; omega
  have lu:u < 4 * d.n:=by rw [hu]; exact hd.lt _ (l1 2)
  rcases hu0 with f | f | f | f
  ·exfalso
   have:=iv (l1 2) (hu.symm.trans f)
   rw [Pl.tn_zero,hik] at this
   exact (Pl.tn_ne (h := h) (j := 0) (k := 2) (by omega)) (by rw [Pl.tn_zero]; exact this)
  ·exfalso
   rw [f,Pl.tn_tn,Pl.tn_four,hik] at g3
   exact (Pl.tn_ne (h := h) (j := 0) (k := 3) (by omega)) (by rw [Pl.tn_zero]; exact g3)
  ·rw [f,Pl.tn_tn,t5] at g3
   have m2:d.m (Pl.tn h 2) = Pl.tn k 2:=by rw [← hu,f]
   have m3:d.m (Pl.tn h 3) = Pl.tn k 1:=iv (l2 1) g3
   unfold lpF
   rw [e,m2,← hk2,Pl.tn_tn,Pl.tn_tn,Pl.tn_tn,Pl.tn_tn,t5,Pl.tn_four,Pl.tn_four]
   unfold fF
   rw [if_pos hk2.symm,if_pos m1,if_pos m2,if_pos m3,if_neg (show ¬ (d.m h = Pl.tn h 1 ∧ d.m k = Pl.tn k 3) from fun q => ne2 0 1 (by rw [Pl.tn_zero,hk2]; exact q.1)),if_neg (show ¬ (d.m h = Pl.tn k 3 ∧ d.m k = Pl.tn h 1) from fun q => nk 0 3 (by omega) (by rw [Pl.tn_zero]; exact hk2.trans q.1)),if_neg (show ¬ (d.m (Pl.tn h 2) = Pl.tn h 3 ∧ d.m (Pl.tn k 2) = Pl.tn k 1) from fun q => ne2 2 3 (by rw [← m2]; exact q.1)),if_neg (show ¬ (d.m (Pl.tn h 2) = Pl.tn k 1 ∧ d.m (Pl.tn k 2) = Pl.tn h 3) from fun q => nk 2 1 (by omega) (by rw [← m2]; exact q.1))]
  ·exfalso
   have:=iv (l1 2) (hu.symm.trans f)
   rw [h3] at this
   exact (Pl.tn_ne (h := h) (j := 1) (k := 2) (by omega)) this
 ·-- the corner ahead: strand 2 closes at once
  obtain ⟨u,hu⟩:∃ u,u = d.m (Pl.tn h 3) := ⟨_,rfl⟩
  rw [e,← hu] at g3
  rw [Pl.tn_tn,Pl.tn_four] at g3
  have lu:u < 4 * d.n:=by rw [hu]; exact hd.lt _ (l1 3)
  have e2:=iv (Pl.tn_lt lu) g3
  rw [← hk2] at e2
  have f:u = Pl.tn k 1:=by rw [e2,Pl.tn_tn,Pl.tn_four]
  have m3:d.m (Pl.tn h 3) = Pl.tn k 1:=by rw [← hu,f]
  unfold lpF
  rw [e,m3,← hk2,Pl.tn_tn,Pl.tn_tn,Pl.tn_tn,Pl.tn_tn,t5,t6]
  unfold fF
  rw [if_pos m1,if_pos m3,if_neg (show ¬ (d.m (Pl.tn h 1) = Pl.tn h 2 ∧ d.m (Pl.tn k 3) = Pl.tn k 2) from fun q => ne2 3 2 (by rw [← m1]; exact q.1)),if_neg (show ¬ (d.m (Pl.tn h 1) = Pl.tn k 2 ∧ d.m (Pl.tn k 3) = Pl.tn h 2) from fun q => nk 3 2 (by omega) (by rw [← m1]; exact q.1)),if_neg (show ¬ (d.m (Pl.tn h 2) = Pl.tn h 3 ∧ d.m (Pl.tn k 2) = Pl.tn k 1) from fun q => ne2 1 2 (by rw [← m3]; exact iv (l1 2) q.1)),if_neg (show ¬ (d.m (Pl.tn h 2) = Pl.tn k 1 ∧ d.m (Pl.tn k 2) = Pl.tn h 3) from fun q => (Pl.tn_ne (h := h) (j := 2) (k := 3) (by omega)) ((iv (l1 2) q.1).symm.trans (iv (l1 3) m3)))]
  simp only [Nat.reduceAdd]
  omega
theorem ls_loops {d:Pl.Dg} (hd:Pl.Wf d) {x y h:Nat} (hxy:x ≠ y) (hh:h < 4 * d.n) (L:Ls d x y h):unpL d (lensOf d h) = d.lp + lpF d h :=
 unpL_f hd hh (by rw [L.1,L.2.1]; exact hxy) L.2.2.1
theorem isl_ls {d:Pl.Dg} (hd:Pl.Wf d) {x y i:Nat} (hxy:x ≠ y) (hx:x < d.n) (hy:y < d.n) (hi:i < 8) (h:isL d x y i):∃ g,g < 4 * d.n ∧ Ls d x y g ∧ unpL d (lensOf d (lnH x y i)) = d.lp + lpF d g := by
 unfold isL at h
 by_cases h4:i < 4
 ·have e1:lnH x y i = 4 * x + i:=if_pos h4
  have e2:lnO x y i = y:=if_pos h4
  rw [e1,e2] at h
  have hl:4 * x + i < 4 * d.n:=by omega
  have L:=(ls_of hd hl).1 h
  rw [show (4 * x + i) / 4 = x by omega] at L
  rw [e1]
  exact ⟨_,hl,L,ls_loops hd hxy hl L⟩
 ·have e1:lnH x y i = 4 * y + i - 4:=if_neg h4
  have e2:lnO x y i = x:=if_neg h4
  rw [e1,e2] at h
  have hl:4 * y + i - 4 < 4 * d.n:=by omega
  have L:=(ls_of hd hl).1 h
  rw [show (4 * y + i - 4) / 4 = y by omega] at L
  obtain ⟨T1,T2⟩:=ls_turn hd hl L
  rw [e1]
  exact ⟨_,Pl.tn_lt (hd.lt _ hl),T1,by rw [ls_loops hd (Ne.symm hxy) hl L,T2]⟩
theorem up_zero {d:Pl.Dg} (hd:Pl.Wf d) {x y:Nat} (hxy:x ≠ y) (hx:x < d.n) (hy:y < d.n):unpC d x y = 0 ↔ ∃ h,h < 4 * d.n ∧ Ls d x y h ∧ d.lp + lpF d h ≤ 64 := by
 unfold unpC
 cases hL:lensI d x y with
 | none =>
   constructor
   ·intro h; exact absurd h (show ¬ (6:Int) = 0 by decide)
   ·rintro ⟨h,hh,L,_⟩
    exfalso
    unfold lensI at hL
    have h1:=List.find?_eq_none.1 hL (h % 4) (List.mem_range.2 (by omega))
    apply h1
    rw [decide_eq_true_iff]
    unfold isL
    have e1:lnH x y (h % 4) = h:=by unfold lnH; rw [if_pos (by omega),← L.1]; omega
    have e2:lnO x y (h % 4) = y:=if_pos (by omega)
    rw [e1,e2]
    have L2:=L
    rw [← L.1] at L2
    exact (ls_of hd hh).2 L2
 | some i =>
   have hi:i < 8:=lens_lt hL
   have hI:isL d x y i:=by
    unfold lensI at hL
    have:=List.find?_some hL
    exact of_decide_eq_true this
   obtain ⟨g,g1,g2,g3⟩:=isl_ls hd hxy hx hy hi hI
   show (if 64 < unpL d (lensOf d (lnH x y i)) then (5:Int) else 0) = 0 ↔ _
   rw [g3]
   constructor
   ·intro h
    by_cases h6:64 < d.lp + lpF d g
    ·rw [if_pos h6] at h; exact absurd h (by decide)
    ·exact ⟨g,g1,g2,by omega⟩
   ·rintro ⟨h,hh,L,h6⟩
    rw [ls_same hd hxy g1 hh g2 L] at h6
    rw [if_neg (by omega)]
section
variable {a b:Pl.Dg} {σ:Nat → Nat}
theorem iso_hf (I:Pl.Iso a b σ) {g h:Nat} (hg:g < 4 * a.n) (hh:h < 4 * a.n):(Pl.hf σ g = Pl.hf σ h) = (g = h) := propext ⟨fun e => I.hinj hg hh e,fun e => by rw [e]⟩
theorem iso_m (I:Pl.Iso a b σ) (ha:Pl.Wf a) {g h:Nat} (hg:g < 4 * a.n) (hh:h < 4 * a.n):(b.m (Pl.hf σ g) = Pl.hf σ h) = (a.m g = h) := by
 rw [I.m g hg,iso_hf I (ha.lt g hg) hh]
theorem iso_c (I:Pl.Iso a b σ) {g c:Nat} (hg:g < 4 * a.n) (hc:c < a.n):(Pl.hf σ g / 4 = σ c) = (g / 4 = c) := by
 rw [Pl.hf_div]
 exact propext ⟨fun e => I.inj _ _ (by omega) hc e,fun e => by rw [e]⟩
theorem iso_ls (I:Pl.Iso a b σ) (ha:Pl.Wf a) {x y h:Nat} (hh:h < 4 * a.n) (hx:x < a.n) (hy:y < a.n):Ls b (σ x) (σ y) (Pl.hf σ h) ↔ Ls a x y h := by
 have hk:=ha.lt h hh
 unfold Ls
 rw [I.m h hh,← Pl.hf_tn,← Pl.hf_tn,iso_m I ha (Pl.tn_lt hk) (Pl.tn_lt hh),iso_c I hh hx,iso_c I hk hy]
 have e1:=Pl.hf_mod σ h
 have e2:=Pl.hf_mod σ (a.m h)
 constructor
 ·rintro ⟨h1,h2,h3,h4⟩; exact ⟨h1,h2,h3,by omega⟩
 ·rintro ⟨h1,h2,h3,h4⟩; exact ⟨h1,h2,h3,by omega⟩
theorem iso_lpF (I:Pl.Iso a b σ) (ha:Pl.Wf a) {h:Nat} (hh:h < 4 * a.n):lpF b (Pl.hf σ h) = lpF a h := by
 have hk:=ha.lt h hh
 unfold lpF fF
 rw [I.m h hh,← Pl.hf_tn,← Pl.hf_tn,← Pl.hf_tn,← Pl.hf_tn]
 simp only [iso_m I ha (Pl.tn_lt hh (k := 2)) (Pl.tn_lt hk (k := 2)),iso_m I ha (Pl.tn_lt hh (k := 3)) (Pl.tn_lt hk (k := 1)),iso_m I ha (Pl.tn_lt hh (k := 2)) (Pl.tn_lt hh (k := 3)),iso_m I ha (Pl.tn_lt hk (k := 2)) (Pl.tn_lt hk (k := 1)),iso_m I ha (Pl.tn_lt hh (k := 2)) (Pl.tn_lt hk (k := 1)),iso_m I ha (Pl.tn_lt hk (k := 2)) (Pl.tn_lt hh (k := 3))]
theorem iso_up (I:Pl.Iso a b σ) (ha:Pl.Wf a) (hb:Pl.Wf b) {x y:Nat} (hxy:x ≠ y) (hx:x < a.n) (hy:y < a.n) (h:unpC a x y = 0):unpC b (σ x) (σ y) = 0 := by
 obtain ⟨h,hh,L,h6⟩:=(up_zero ha hxy hx hy).1 h
 have hn:=I.n
 refine (up_zero hb (fun e => hxy (I.inj _ _ hx hy e)) (by rw [← hn]; exact I.lt x hx) (by rw [← hn]; exact I.lt y hy)).2 ⟨Pl.hf σ h,by rw [← hn]; exact I.hlt hh,(iso_ls I ha hh hx hy).2 L,?_⟩
 rw [iso_lpF I ha hh,← I.lp]
 exact h6
theorem up_comm {d:Pl.Dg} (hd:Pl.Wf d) {x y:Nat} (hxy:x ≠ y) (hx:x < d.n) (hy:y < d.n) (h:unpC d x y = 0):unpC d y x = 0 := by
 obtain ⟨h,hh,L,h6⟩:=(up_zero hd hxy hx hy).1 h
 obtain ⟨T1,T2⟩:=ls_turn hd hh L
 exact (up_zero hd (Ne.symm hxy) hy hx).2 ⟨_,Pl.tn_lt (hd.lt _ hh),T1,by rw [T2]; exact h6⟩
theorem iso_kk (I:Pl.Iso a b σ) (ha:Pl.Wf a) {c:Nat} (hc:c < a.n):kk b (σ c) = Pl.hf σ (kk a c) := by
 have h2:4 * c + 2 < 4 * a.n:=by omega
 have e2:=Pl.hf_at σ c (t := 2) (by omega)
 have e1:=Pl.hf_at σ c (t := 1) (by omega)
 have e3:=Pl.hf_at σ c (t := 3) (by omega)
 unfold kk
 rw [← e2,I.m _ h2,I.s c hc]
 simp only [iso_c I (ha.lt _ h2) hc]
 split
 ·rw [e2]
 ·split
  ·rw [e1]
  ·rw [e3]
theorem iso_un (I:Pl.Iso a b σ) (ha:Pl.Wf a) {c:Nat} (hc:c < a.n):uncC b (σ c) = uncC a c := by
 have hk:=kk_lt (d := a) hc
 have hm:=ha.lt _ hk
 have eA:kA b (σ c) = Pl.hf σ (kA a c):=by unfold kA; rw [iso_kk I ha hc,Pl.hf_tn]
 have eB:kB b (σ c) = Pl.hf σ (kB a c):=by unfold kB; rw [iso_kk I ha hc,I.m _ hk,Pl.hf_tn]
 unfold uncC
 rw [eA,eB,iso_kk I ha hc,I.m _ hk,← I.lp]
 simp only [iso_c I hm hc,iso_m I ha (kA_lt hc) (kB_lt ha hc)]
end
theorem rm_unC {z:Mv}:∀ {k:Nat},z ∈ unC k ↔ ∃ c,c < k ∧ z = ⟨2,(c:Nat),0,0,false⟩
 | 0 => by simp [unC]
 | k + 1 => by
   unfold unC
   rw [List.mem_append,rm_unC,List.mem_singleton]
   constructor
   ·rintro (⟨c,h1,h2⟩ | h)
    ·exact ⟨c,by omega,h2⟩
    ·exact ⟨k,by omega,h⟩
   ·rintro ⟨c,h1,h2⟩
    by_cases e:c = k
    ·right; rw [h2,e]
    ·left; exact ⟨c,by omega,h2⟩
theorem rm_upN {x:Nat} {z:Mv}:∀ {k:Nat},z ∈ upN x k ↔ ∃ y,x < y ∧ y < k ∧ z = ⟨4,(x:Nat),(y:Nat),0,false⟩
 | 0 => by simp [upN]
 | k + 1 => by
   unfold upN
   rw [List.mem_append,rm_upN]
   constructor
   ·rintro (⟨c,h1,h2,h3⟩ | h)
    ·exact ⟨c,h1,by omega,h3⟩
    ·by_cases e:x < k
     ·rw [if_pos e,List.mem_singleton] at h; exact ⟨k,e,by omega,h⟩
     ·rw [if_neg e] at h; cases h
   ·rintro ⟨c,h1,h2,h3⟩
    by_cases e:c = k
    ·right; subst e; rw [if_pos h1,List.mem_singleton]; exact h3
    ·left; exact ⟨c,h1,by omega,h3⟩
theorem rm_upNX {n:Nat} {z:Mv}:∀ {k:Nat},z ∈ upNX n k ↔ ∃ x y,x < k ∧ x < y ∧ y < n ∧ z = ⟨4,(x:Nat),(y:Nat),0,false⟩
 | 0 => by simp [upNX]
 | k + 1 => by
   unfold upNX
   rw [List.mem_append,rm_upNX,rm_upN]
   constructor
   ·rintro (⟨x,y,h1,h2⟩ | ⟨y,h1,h2,h3⟩)
    ·exact ⟨x,y,by omega,h2⟩
    ·exact ⟨k,y,by omega,h1,h2,h3⟩
   ·rintro ⟨x,y,h1,h2,h3,h4⟩
    by_cases e:x = k
    ·right; subst e; exact ⟨y,h2,h3,h4⟩
    ·left; exact ⟨x,y,by omega,h2,h3,h4⟩
end Go.Proofs.Ytghdiolnonejaaa
end
section
namespace Go.Proofs.Ytghdiolnonejaaa
open Go Go.RowKit
attribute [local go_sem ↓] Go.wp_at_zero Go.wp_at_succ
structure CB (W:World) (g1 g2:Nat) (n:Nat) (most:Int):Prop where
 n:Row W g1 3 [.int .i64 (n:Int)]
 m:Row W g2 3 [.int .i64 most]
end Go.Proofs.Ytghdiolnonejaaa
end
section
namespace Go.Proofs.Ytghdiolnonejaaa
open Go Go.RowKit
attribute [local go_sem ↓] Go.wp_at_zero Go.wp_at_succ
theorem elemI:Try.prog.underlying 22 = some (.slice (Try.prog.elem 22)) := by kernel_rfl
theorem sizeI (W:World):(sizeOf (Try.prog.elem 22)).run Try.prog W = .ok 1 W := by kernel_rfl
theorem cut_hi {w:World} {A:Option Addr} {n c:Nat} {xs:List Int} (h:IntsAt w A n xs) {k:Nat} (hk:k ≤ n) (hc:n ≤ c) :
 ∃ A1:Option Addr,IntsAt w A1 (n - k) (xs.drop k) ∧ ∀ W:World,(Instr.slice 22 (.slice A n c) (some (.int .i64 (k:Int))) none none).run Try.prog W = .ok (.slice A1 (n - k) (c - k)) W := by
 have hl:=h.len
 refine ⟨if c = k then A else A.map (·.add (k * 1)),⟨by simp; omega,fun hp => ?_⟩,fun W => ?_⟩
 ·obtain ⟨b,o,rfl,hx⟩:=h.2 (by omega)
  rw [if_neg (by omega)]
  refine ⟨b,o + k,by simp [Addr.add_lit],fun j u hu => ?_⟩
  rw [List.map_drop,List.getElem?_drop] at hu
  rw [Nat.add_assoc]
  exact hx _ u hu
 ·rw [run_slice_l W 22 A n c elemI .i64 (k:Int) (by omega) (by omega),sizeI]
  rfl
section
variable {P:Program} (w:World)
end
end Go.Proofs.Ytghdiolnonejaaa
end
section
namespace Go.Proofs.Ytghdiolnonejaaa
open Go Go.RowKit
attribute [local go_sem ↓] Go.wp_at_zero Go.wp_at_succ
structure NK (w:World) (dv:List Value) (vO vC:Value) (ns:List Int) (o:List Nat) (cs:List Int) (W:World):Prop where
 d:Row W w.heap.size 24 dv
 nu:IRow W (w.heap.size + 1) ns
 o:W.ownsRow (w.heap.size + 2) 3 1 vO o.length (o.map (fun k:Nat => Value.int .i64 k))
 c:W.ownsRow (w.heap.size + 2) 3 1 vC cs.length (cs.map (.int .i64))
 ne:∀ k,vO.ownBlock = some k → vC.ownBlock ≠ some k
 bel:Below w.heap.size w W
section
variable {w W W2:World} {dv:List Value} {vO vC:Value} {ns:List Int} {o:List Nat} {cs:List Int}
theorem NK.big (h:NK w dv vO vC ns o cs W):w.heap.size + 2 ≤ W.heap.size := by have := Row.lt h.nu; omega
theorem NK.below (h:NK w dv vO vC ns o cs W) (hb:Below W.heap.size W W2):NK w dv vO vC ns o cs W2 :=
 ⟨h.d.below hb,Row.below h.nu hb,own_keep h.o hb (Nat.le_refl _),own_keep h.c hb (Nat.le_refl _),h.ne,h.bel.trans (hb.mono (by have := h.big; omega))⟩
theorem NK.alloc (h:NK w dv vO vC ns o cs W) (b:Obj):NK w dv vO vC ns o cs (W.alloc b) := h.below ((Below.refl _ _).alloc (Nat.le_refl _) b)
theorem NK.setN (h:NK w dv vO vC ns o cs W) (i:Nat) (v:Int):NK w dv vO vC (ns.set i v) o cs (W.setCell ⟨w.heap.size + 1,i,none⟩ (.int .i64 v)) :=
 ⟨h.d.other (by show _ ≠ w.heap.size + 1; omega) _,h.nu.set i v,ownsRow_setCell_below h.o (by show w.heap.size + 1 < w.heap.size + 2; omega) _,ownsRow_setCell_below h.c (by show w.heap.size + 1 < w.heap.size + 2; omega) _,h.ne,h.bel.setCell (by show _ ≤ w.heap.size + 1; omega) _⟩
theorem own_hat {g:Nat} {v:Value} {W:World} {base n:Nat} {xs:List Value} {t:TypeId} (h:W.ownsRow base t 1 v n xs) (hat:v.ownBlock = some g ∨ g = W.heap.size) {u:Value} {m:Nat} {ys:List Value} (hu:W.ownsRow base t 1 u m ys) (ne:∀ k,v.ownBlock = some k → u.ownBlock ≠ some k):u.ownBlock ≠ some g := by
 rcases hat with e | e
 ·exact ne g e
 ·intro e2
  have:=(hu.lt g e2).2
  omega
theorem NK.appO (h:NK w dv vO vC ns o cs W) {g c n:Nat} {o':List Nat} (own:W2.ownsRow (w.heap.size + 2) 3 1 (.slice (some ⟨g,0,none⟩) n c) n (o'.map (fun k:Nat => Value.int .i64 k))) (gr:W.grownBy W2 vO.ownBlock) (hat:vO.ownBlock = some g ∨ g = W.heap.size):NK w dv (.slice (some ⟨g,0,none⟩) n c) vC ns o' cs W2 := by
 have hn:n = o'.length:=by have := own.1; simpa using this.symm
 have hne:=own_hat h.o hat h.c h.ne
 have hle:=h.big
 refine ⟨h.d.grown gr (own_row_ne h.o h.d (by decide)),Row.grown h.nu gr (fun e => ?_),by rw [← hn]; exact own,h.c.kept gr ?_,fun k hk => ?_,h.bel.grown gr (by omega) (fun k hk => by have := (h.o.lt k hk).1; omega)⟩
 ·have:=(h.o.lt _ e.symm).1; omega
 ·cases hm:vC.ownBlock with
  | none => exact .inl rfl
  | some x => exact .inr (fun e => h.ne x e.symm hm)
 ·have e:g = k:=by injection hk
  subst e
  exact hne
theorem NK.appC (h:NK w dv vO vC ns o cs W) {g c n:Nat} {cs':List Int} (own:W2.ownsRow (w.heap.size + 2) 3 1 (.slice (some ⟨g,0,none⟩) n c) n (cs'.map (.int .i64))) (gr:W.grownBy W2 vC.ownBlock) (hat:vC.ownBlock = some g ∨ g = W.heap.size):NK w dv vO (.slice (some ⟨g,0,none⟩) n c) ns o cs' W2 := by
 have hn:n = cs'.length:=by have := own.1; simpa using this.symm
 have hne:=own_hat h.c hat h.o (fun k hk e => h.ne k e hk)
 have hle:=h.big
 refine ⟨h.d.grown gr (own_row_ne h.c h.d (by decide)),Row.grown h.nu gr (fun e => ?_),h.o.kept gr ?_,by rw [← hn]; exact own,fun k hk e => ?_,h.bel.grown gr (by omega) (fun k hk => by have := (h.c.lt k hk).1; omega)⟩
 ·have:=(h.c.lt _ e.symm).1; omega
 ·cases hm:vO.ownBlock with
  | none => exact .inl rfl
  | some x => exact .inr (fun e => h.ne x hm e.symm)
 ·have e:g = k:=by injection e
  subst e
  exact hne hk
end
theorem rep_step (k n:Nat) (h:k < n):(List.replicate k (-1:Int) ++ List.replicate (n - k) 0).set k (-1) = List.replicate (k + 1) (-1) ++ List.replicate (n - (k + 1)) 0 := by
 have e:n - k = (n - (k + 1)) + 1:=by omega
 rw [e,List.replicate_succ,List.set_append_right _ _ (by simp),List.length_replicate,Nat.sub_self,List.set_cons_zero,List.replicate_succ' ,List.append_assoc]
 rfl
theorem cut_mid {w:World} {A:Option Addr} {n c:Nat} {xs:List Int} (h:IntsAt w A n xs) {k:Nat} (hk:k + 5 ≤ n) (hc:n ≤ c) :
 ∃ (A1:Option Addr) (c1:Nat),IntsAt w A1 5 ((xs.drop k).take 5) ∧ ∀ W:World,(Instr.slice 22 (.slice A n c) (some (.int .i64 (k:Int))) (some (.int .i64 ((k + 5:Nat):Int))) none).run Try.prog W = .ok (.slice A1 5 c1) W := by
 have hl:=h.len
 obtain ⟨b,o,rfl,hx⟩:=h.2 (by omega)
 refine ⟨some ⟨b,o + k,none⟩,c - k,⟨by simp; omega,fun hp => ⟨b,o + k,rfl,fun j u hu => ?_⟩⟩,fun W => ?_⟩
 ·rw [List.map_take,List.getElem?_take] at hu
  split at hu
  ·rw [List.map_drop,List.getElem?_drop] at hu
   rw [Nat.add_assoc]
   exact hx _ u hu
  ·cases hu
 ·rw [run_slice_lh W 22 (some ⟨b,o,none⟩) n c elemI .i64 .i64 (k:Int) ((k + 5:Nat):Int) (by omega) (by omega) (by omega),sizeI]
  simp only [Result.andThen_ok]
  unfold sliced
  rw [Int.toNat_natCast,Int.toNat_natCast,if_neg (show ¬ c = k by omega),show k + 5 - k = 5 by omega]
  simp [Addr.add_lit]
end Go.Proofs.Ytghdiolnonejaaa
end
section
namespace Go.Proofs.Ytghdiolnonejaaa
open Go Go.RowKit
attribute [local go_sem ↓] Go.wp_at_zero Go.wp_at_succ
def BestAt (w:World) (v:Value) (k:Nat):Option (List Int) → Prop
 | none => v = .slice none 0 0
 | some bl => ∃ b o c,v = .slice (some ⟨b,o,none⟩) bl.length c ∧ IntsAt w (some ⟨b,o,none⟩) bl.length bl ∧ bl.length = k ∧ bl.length ≤ c
def NumPost (d:Pl.Dg) (r:Nat) (best:Option (List Int)) (w:World) (e:Ending) (w':World):Prop :=
 (0 < Pl.vall best (Pl.code d r) → e = .returned (.tuple #[.slice none 0 0,.slice none 0 0,.int .i64 1])) ∧
 (¬ 0 < Pl.vall best (Pl.code d r) → ∃ vC vO,e = .returned (.tuple #[vC,vO,.int .i64 (Pl.vall best (Pl.code d r))]) ∧ w'.ownsRow w.heap.size 3 1 vC (Pl.code d r).length ((Pl.code d r).map (.int .i64)) ∧ w'.ownsRow w.heap.size 3 1 vO (Pl.ord d r).length ((Pl.ord d r).map (fun k:Nat => Value.int .i64 k))) ∧
 Below w.heap.size w w'
theorem nums_cell {W:World} {g n b:Nat} {o:List Nat} (h:IRow W g (Pl.nums n o)) (hb:b < n):W.cell? ⟨g,b,none⟩ = some (.int .i64 (if b ∈ o then ((o.idxOf b:Nat):Int) else -1)) := by
 rw [h.cell (i := b) (by rw [Pl.nums_len]; exact hb)]
 unfold Pl.pv
 rw [List.getD_eq_getElem?_getD,Pl.nums_get _ hb]
 rfl
theorem one_newsG {g:Nat} (W:World) (x:Value) (h:g = W.heap.size):∀ j u,[x][j]? = some u → (W.alloc (.cells #[x] 3)).cell? ((⟨g,0,none⟩:Addr).add j) = some u := by
 subst h
 exact one_news W x
theorem own_cap {W:World} {base n c:Nat} {e:TypeId} {A:Option Addr} {xs:List Value} (h:W.ownsRow base e 1 (.slice A n c) n xs):n ≤ c := by
 rcases h.2 with ⟨h1,h2⟩ | ⟨g,cap,cur,h1,_,_,h4,_⟩
 ·omega
 ·injection h1 with _ _ h1
  omega
theorem eq_nil (W:World):(binOp BinOp.eql 22 (.slice none 0 0) (.slice none 0 0)).run Try.prog W = .ok (.bool true) W := by kernel_rfl
theorem eq_some (W:World) (a:Addr) (n c:Nat):(binOp BinOp.eql 22 (.slice (some a) n c) (.slice none 0 0)).run Try.prog W = .ok (.bool false) W := by kernel_rfl
set_option maxRecDepth 100000 in
set_option maxHeartbeats 8000000 in
theorem number_any (d:Pl.Dg) (hd:Pl.Wf d) (A B:Option Addr) (cp cq m r:Nat) (vB:Value) (best:Option (List Int)) (w:World) (hm:m = 4 * d.n) (hg:DgAt w A B d) (hr:r < d.n) (hb:BestAt w vB (Pl.code d r).length best) :
 Calls Try.prog 138 #[.agg #[.slice A d.n cp,.slice B m cq,.int .i64 d.lp],.int .i64 (r:Int),vB] w (NumPost d r best w) := by
 have hn:=hd.few
 have HM:=hide hm
 have HG:=hide hg
 have HB:=hide hb
 have HD:=hide hd
 have HOL:=hide (Pl.ord_len hd hr)
 clear hm hg hb
 have X0:=hide (row_at (W := w) (g := w.heap.size) (t := 24) (vs := [.slice A d.n cp,.slice B m cq,.int .i64 d.lp]) rfl)
 have B0:=hide (show Below w.heap.size w (w.alloc (.cells #[.slice A d.n cp,.slice B m cq,.int .i64 d.lp] 24)) from (Below.refl _ _).alloc (Nat.le_refl _) _)
 have hmk:=fun W:World => run_ints d.n (by omega) W
 obtain ⟨d0,d1,d2,d3⟩:=box3 X0.out
 have Y0:=hide (show Row ((w.alloc (.cells #[.slice A d.n cp,.slice B m cq,.int .i64 d.lp] 24)).alloc (.cells (Array.replicate d.n (Value.int .i64 0)) 3)) w.heap.size 24 [.slice A d.n cp,.slice B m cq,.int .i64 d.lp] ∧ IRow ((w.alloc (.cells #[.slice A d.n cp,.slice B m cq,.int .i64 d.lp] 24)).alloc (.cells (Array.replicate d.n (Value.int .i64 0)) 3)) (w.heap.size + 1) (List.replicate 0 (-1) ++ List.replicate (d.n - 0) 0) ∧ Below w.heap.size w ((w.alloc (.cells #[.slice A d.n cp,.slice B m cq,.int .i64 d.lp] 24)).alloc (.cells (Array.replicate d.n (Value.int .i64 0)) 3)) from by
  refine ⟨X0.out.alloc _,?_,B0.out.alloc B0.out.size _⟩
  have h:=IRow.made (w.alloc (.cells #[.slice A d.n cp,.slice B m cq,.int .i64 d.lp] 24)) d.n
  simpa using h)
 go_enter Try.func138,Try.ntmps138
 go_wp2
 clear hmk d0 d1 d2 d3 X0 B0
 go_loopg [10,24] d.n (fun g s10 i wx => ∃ k:Nat,k + g = d.n ∧ i = .int .i64 k ∧ Row wx w.heap.size 24 [.slice A d.n cp,.slice B m cq,.int .i64 d.lp] ∧ IRow wx (w.heap.size + 1) (List.replicate k (-1) ++ List.replicate (d.n - k) 0) ∧ Below w.heap.size w wx)
 case atStart => exact ⟨0,by omega,rfl,Y0.out.1,Y0.out.2.1,Y0.out.2.2⟩
 case round =>
  clear Y0
  obtain ⟨k,hkg,rfl,h1,h2,h3⟩:=hrel
  have HKG:=hide hkg
  have H1:=hide h1
  have H2:=hide h2
  have H3:=hide h3
  clear h1 h2 h3
  by_cases hk:k < d.n
  ·have hki:(k:Int) < (d.n:Int):=by omega
   have k0:(0:Int) ≤ (k:Int):=by omega
   have c1:=H2.out.cell (i := k) (by simp; omega)
   have f1:=Row.free H2.out k
   have hl:=Row.lt H2.out
   clear hkg
   go_wp2
   go_roundg (gk - 1)
   case measure => have := HKG.out; omega
   case rel =>
    refine ⟨k + 1,by have := HKG.out; omega,by go_num,H1.out.other (by show _ ≠ w.heap.size + 1; omega) _,?_,H3.out.setCell (by show _ ≤ w.heap.size + 1; omega) _⟩
    have:=H2.out.set k (-1)
    rw [rep_step k d.n hk] at this
    exact this
  ·have hki:¬ ((k:Int) < (d.n:Int)):=by omega
   have hkn:k = d.n:=by omega
   subst hkn
   clear hkg HKG
   have hl:=Row.lt H2.out
   have K1:=hide (show NK w [.slice A d.n cp,.slice B m cq,.int .i64 d.lp] (.slice (some ⟨wr.heap.size,0,none⟩) 1 1) (.slice none 0 0) (Pl.nums d.n [r]) [r] [] ((wr.setCell ⟨w.heap.size + 1,r,none⟩ (.int .i64 0)).alloc (.cells #[.int .i64 (r:Int)] 3)) from by
    have hs:(wr.setCell ⟨w.heap.size + 1,r,none⟩ (.int .i64 0)).heap.size = wr.heap.size:=by simp
    refine ⟨(H1.out.other (by show _ ≠ w.heap.size + 1; omega) _).alloc _,?_,?_,World.ownsRow_nil _ _ _ _,fun k hk => by simp [Value.ownBlock],(H3.out.setCell (by show _ ≤ w.heap.size + 1; omega) _).alloc (by rw [hs]; exact H3.out.size) _⟩
    ·have h:=H2.out.set r 0
     rw [Nat.sub_self,List.replicate_zero,List.append_nil,← Pl.nums_one hr] at h
     exact Row.alloc h _
    ·have h:=own_one (wr.setCell ⟨w.heap.size + 1,r,none⟩ (.int .i64 0)) (.int .i64 (r:Int))
     rw [hs] at h
     exact ⟨h.1,h.2.imp id (fun ⟨g,cap,cur,r1,r2,r3⟩ => ⟨g,cap,cur,r1,by omega,r3⟩)⟩)
   have r0:(0:Int) ≤ (r:Int):=by omega
   have r1:(r:Int) < (d.n:Int):=by omega
   have c1:=IRow.cell H2.out (i := r) (by simp; omega)
   have f1:=Row.free H2.out r
   clear H1 H2 H3
   go_upto_region 11 with fail
   obtain ⟨V,hV⟩:∃ V,V = (wr.setCell ⟨w.heap.size + 1,r,none⟩ (.int .i64 0)).alloc (.cells #[.int .i64 (r:Int)] 3) := ⟨_,rfl⟩
   obtain ⟨g0,hg0⟩:∃ g,g = wr.heap.size := ⟨_,rfl⟩
   rw [← hV,← hg0] at K1 ⊢
   clear hV hg0 c1 f1 r0 r1 hl
   obtain ⟨L,hL⟩:∃ L,L = (Pl.ord d r).length := ⟨_,rfl⟩
   have HL:=hide hL
   have hLn:L ≤ d.n:=by rw [hL]; exact HOL.out
   have HCL:=hide (show (Pl.code d r).length = 5 * L by rw [hL]; exact Pl.code_len r)
   clear hL
   have hsp:(best = none ∧ vB = .slice none 0 0 ∧ Pl.vdt best (Pl.code d r) 0 = -1) ∨ (∃ b o n c,vB = .slice (some ⟨b,o,none⟩) n c ∧ Pl.vdt best (Pl.code d r) 0 = 0):=by
    cases best with
    | none => exact .inl ⟨rfl,HB.out,rfl⟩
    | some bl =>
      obtain ⟨b,o,c,e,_⟩:=HB.out
      exact .inr ⟨b,o,_,c,e,by simp [Pl.vdt,Pl.lx]⟩
   rcases hsp with ⟨hb0,rfl,hv0⟩ | ⟨bb,bo,bn,bc,rfl,hv0⟩
   all_goals
    have HV0:=hide hv0
    clear hv0
   ·have hq:=eq_nil
    have HB0:=hide hb0
    clear hb0
    go_wp2_with fail
    clear hq
    go_loopg [11,12,13,14,15,16,17,56] L (fun g s11 s12 s13 s14 s15 s16 s17 s56 wx => ∃ (i:Nat) (v:Int),i + g = L ∧ s14 = .int .i64 (i:Int) ∧ s13 = .int .i64 v ∧ v = Pl.vdt best (Pl.code d r) (5 * i) ∧ v ≤ 0 ∧ NK w [.slice A d.n cp,.slice B m cq,.int .i64 d.lp] s11 s12 (Pl.nums d.n (Pl.ordK d r i)) (Pl.ordK d r i) ((Pl.code d r).take (5 * i)) wx)
    case atStart => exact ⟨0,_,by omega,rfl,rfl,HV0.out.symm,by omega,K1.out⟩
    case round =>
     clear K1 HV0
     obtain ⟨i,v,hig,rfl,rfl,hv,hv0,hk⟩:=hrel
     have HIG:=hide hig
     have HV:=hide hv
     have hiL:i ≤ L:=by omega
     obtain ⟨o,ho⟩:∃ o,o = Pl.ordK d r i := ⟨_,rfl⟩
     obtain ⟨cs,hcs⟩:∃ cs,cs = (Pl.code d r).take (5 * i) := ⟨_,rfl⟩
     rw [← ho,← hcs] at hk
     have K0:=hide hk
     have HO:=hide ho
     have HCS:=hide hcs
     have hl5:o.length ≤ 64:=by rw [ho]; have := (Pl.ordK_ok HD.out hr i).len; omega
     have hl6:cs.length ≤ 320:=by rw [hcs,List.length_take]; omega
     clear hk hv ho hcs
     obtain ⟨go,rfl⟩:∃ go,go = gk := ⟨_,rfl⟩
     obtain ⟨A5,c5,rfl⟩:=owns_slice K0.out.o
     obtain ⟨A6,c6,rfl⟩:=owns_slice K0.out.c
     by_cases hi:i < L
     ·have hil:i < o.length:=by rw [HO.out]; exact Pl.order_lt (by omega) (by rw [← HL.out]; exact hi)
      have hki:(i:Int) < ((o.length:Nat):Int):=by omega
      have k0:(0:Int) ≤ (i:Int):=by omega
      obtain ⟨c,hc⟩:∃ c,o[i]? = some c := ⟨_,List.getElem?_eq_getElem hil⟩
      have HC:=hide (show (Pl.ordK d r i)[i]? = some c by rw [← HO.out]; exact hc)
      have hcn:c < d.n:=((Pl.ordK_ok HD.out hr i).mem c (List.mem_of_getElem? HC.out)).1
      have HS:=hide (Pl.code_sgn (Pl.pre_get (Pl.ordK_ord r (by omega)) HC.out))
      have hO:IntsAt wr A5 o.length (nats o):=own_ints' (by rw [map_nats]; exact K0.out.o)
      obtain ⟨b5,o5,rfl,x5⟩:=nats_at hO hil
      have hcg:o.getD i 0 = c:=by rw [List.getD_eq_getElem?_getD,hc]; rfl
      rw [hcg] at x5
      obtain ⟨b1,o1,rfl,x1⟩:=sign_at (HG.out.keep K0.out.bel).s hcn
      obtain ⟨d0,d1,d2,d3⟩:=box3 K0.out.d
      have c0:(0:Int) ≤ (c:Int):=by omega
      have c1:(c:Int) < (d.n:Int):=by omega
      clear hc hO hcg hig
      obtain ⟨i0,hi0,hz0,hz1,hz2⟩:=info_parts intInfo
      obtain ⟨sv,hsv⟩:∃ x,x = d.s c := ⟨_,rfl⟩
      rw [← hsv] at x1
      have HSV:=hide hsv
      clear hsv
      have KA:=hide (K0.out.alloc (.cells #[.int .i64 sv] 3))
      go_upto_region 18 with (at_builtin; refine wpList_append_lies _ (by rfl) _ _ 22 (by rfl) (w.heap.size + 2) 3 i0 (.int .i64 0) 1 8 Try.underlying22 hi0 hz0 hz1 hz2 rfl (by omega) _ cs.length _ (by rfl) KA.out.c ⟨wr.heap.size,0,none⟩ 1 1 [.int .i64 sv] (by rfl) (by rfl) (one_news _ _) (by simp [Value.oneCell']) (by omega) (by unfold maxLen; omega) (by omega) KA.out.big (wr.heap.size + 1) (by simp) ?_; intro g3 c3 w3 own3 grow3 at3 lt3; have OWN3 := hide own3; have GR3 := hide grow3; have AT3 := hide at3; clear own3 grow3 at3)
      have KB:=hide (show NK w [.slice (some ⟨b1,o1,none⟩) d.n cp,.slice B m cq,.int .i64 d.lp] (.slice (some ⟨b5,o5,none⟩) o.length c5) (.slice (some ⟨g3,0,none⟩) (cs.length + 1) c3) (Pl.nums d.n o) o ((Pl.code d r).take (5 * i + 1)) w3 from by
       rw [Pl.take_one HS.out,← HCS.out,← HSV.out]
       exact KA.out.appC (by rw [List.map_append]; exact OWN3.out) GR3.out (by simpa using AT3.out))
      clear KA OWN3 GR3 AT3 K0 x5 x1 d0 d1 d2 d3 hki k0 hil
      go_wp2_with fail
      go_loopg [11,12,16,17,56] 4 (fun g s11 s12 s16 s17 s56 wx => ∃ s:Nat,s + g = 4 ∧ s56 = .int .i64 (s:Int) ∧ NK w [.slice (some ⟨b1,o1,none⟩) d.n cp,.slice B m cq,.int .i64 d.lp] s11 s12 (Pl.nums d.n (Pl.addS d o c s)) (Pl.addS d o c s) ((Pl.code d r).take (5 * i + 1 + s)) wx)
      case atStart => exact ⟨0,rfl,rfl,KB.out⟩
      case round =>
       clear KB
       obtain ⟨s,hsg,rfl,hk⟩:=hrel
       have HSG:=hide hsg
       obtain ⟨q,hq⟩:∃ q,q = Pl.addS d o c s := ⟨_,rfl⟩
       obtain ⟨cs,hcs⟩:∃ cs,cs = (Pl.code d r).take (5 * i + 1 + s) := ⟨_,rfl⟩
       rw [← hq,← hcs] at hk
       have K0:=hide hk
       have HQ:=hide hq
       have HCS:=hide hcs
       have hs4:s ≤ 4:=by omega
       have hl5:q.length ≤ 64:=by
        have h:=(Pl.add_ord (d := d) (r := r) (i := i) (s := s) (by omega) HC.out hs4).length_le
        have:=HOL.out
        rw [hq,HO.out]
        omega
       have hl6:cs.length ≤ 330:=by rw [hcs,List.length_take]; omega
       clear hk hq hcs
       obtain ⟨A5,c5,rfl⟩:=owns_slice K0.out.o
       obtain ⟨A6,c6,rfl⟩:=owns_slice K0.out.c
       obtain ⟨gi,rfl⟩:∃ gi,gi = gk := ⟨_,rfl⟩
       by_cases hs:s < 4
       ·have hsi:(s:Int) < 4:=by omega
        have s0:(0:Int) ≤ (s:Int):=by omega
        have hh:4 * c + s < 4 * d.n:=by omega
        have hlt:=HD.out.lt (4 * c + s) hh
        have HX:=hide (Pl.code_step (d := d) (r := r) (i := i) (c := c) (s := s) (by omega) HC.out hs)
        rw [← HO.out] at HX
        obtain ⟨b2,o2,rfl,x2⟩:=mate_at (d := d) (by rw [← HM.out]; have := (HG.out.keep K0.out.bel).m; rwa [← HM.out] at this) hh
        have hmm:m = 4 * d.n:=HM.out
        have i2:(4:Int) * (c:Int) + (s:Int) < (m:Int):=by omega
        clear hmm
        obtain ⟨u,hu⟩:∃ u,u = d.m (4 * c + s) := ⟨_,rfl⟩
        rw [← hu] at x2 hlt
        obtain ⟨b,hb⟩:∃ b,b = u / 4 := ⟨_,rfl⟩
        obtain ⟨t,ht⟩:∃ t,t = u % 4 := ⟨_,rfl⟩
        have hbn:b < d.n:=by omega
        have ht4:t < 4:=by omega
        have q1:(u:Int).tdiv 4 = (b:Int):=by rw [hb]; rfl
        have q2:(u:Int).tmod 4 = (t:Int):=by rw [ht]; rfl
        have q3:(u:Int) / 4 = (b:Int):=by omega
        have q4:(u:Int) % 4 = (t:Int):=by omega
        have HBB:=hide (show Pl.nb d c s = b by unfold Pl.nb; rw [← hu,hb])
        have HT:=hide (show d.m (4 * c + s) % 4 = t by rw [← hu,ht])
        clear hu hb ht hh hsg
        obtain ⟨d0,d1,d2,d3⟩:=box3 K0.out.d
        have bi0:(0:Int) ≤ (b:Int):=by omega
        have bi1:(b:Int) < (d.n:Int):=by omega
        have hnc:=nums_cell K0.out.nu hbn
        have hl0:w.heap.size + 1 < wr.heap.size:=Row.lt K0.out.nu
        by_cases hbq:b ∈ q
        ·have HBQ:=hide hbq
         rw [if_pos hbq] at hnc
         obtain ⟨j,hj⟩:∃ j,j = q.idxOf b := ⟨_,rfl⟩
         rw [← hj] at hnc
         have hjl:j < 64:=by rw [hj]; have := List.idxOf_lt_length_of_mem hbq; omega
         have HJ:=hide hj
         clear hbq hj
         have j0:¬ ((j:Int) < 0):=by omega
         have KA:=hide (K0.out.alloc (.cells #[.int .i64 (4 * (j:Int) + (t:Int))] 3))
         go_wp2_with (first | (at_builtin; refine wpList_append_lies _ (by rfl) _ _ 22 (by rfl) (w.heap.size + 2) 3 i0 (.int .i64 0) 1 8 Try.underlying22 hi0 hz0 hz1 hz2 rfl (by omega) _ cs.length _ (by rfl) KA.out.c ⟨wr.heap.size,0,none⟩ 1 1 [.int .i64 (4 * (j:Int) + (t:Int))] (by rfl) (by rfl) (one_news _ _) (by simp [Value.oneCell']) (by omega) (by unfold maxLen; omega) (by omega) KA.out.big (wr.heap.size + 1) (by simp) ?_; intro g3 c3 w3 own3 grow3 at3 lt3; have OWN3 := hide own3; have GR3 := hide grow3; have AT3 := hide at3; clear own3 grow3 at3))
         go_roundg (gi - 1)
         case measure => have := HSG.out; omega
         case rel =>
          refine ⟨s + 1,by have := HSG.out; omega,by go_num,?_⟩
          have e1:Pl.addS d o c (s + 1) = q:=by
           show Pl.addN (Pl.addS d o c s) (Pl.nb d c s) = q
           rw [← HQ.out,HBB.out]
           unfold Pl.addN
           rw [if_pos HBQ.out]
          have e2:(Pl.code d r).take (5 * i + 1 + (s + 1)) = cs ++ [4 * (j:Int) + (t:Int)]:=by
           have hx:=HX.out
           rw [e1,HBB.out,HT.out,← HJ.out] at hx
           rw [show 5 * i + 1 + (s + 1) = 5 * i + 1 + s + 1 by omega,Pl.take_one hx,← HCS.out]
           congr 2
          rw [e1,e2]
          exact KA.out.appC (by rw [List.map_append]; exact OWN3.out) GR3.out (by simpa using AT3.out)
        ·have HBQ:=hide hbq
         rw [if_neg hbq] at hnc
         have f1:=Row.free K0.out.nu b
         have K1:=hide (K0.out.setN b (q.length:Int))
         rw [← Pl.nums_add hbn hbq] at K1
         have KA:=hide (K1.out.alloc (.cells #[.int .i64 (b:Int)] 3))
         clear hbq
         go_upto_region 25 with (at_builtin; refine wpList_append_lies _ (by rfl) _ _ 22 (by rfl) (w.heap.size + 2) 3 i0 (.int .i64 0) 1 8 Try.underlying22 hi0 hz0 hz1 hz2 rfl (by omega) _ q.length _ (by rfl) KA.out.o ⟨wr.heap.size,0,none⟩ 1 1 [.int .i64 (b:Int)] (by rfl) (by rfl) (one_newsG _ _ (by simp)) (by simp [Value.oneCell']) (by omega) (by unfold maxLen; omega) (by omega) KA.out.big (wr.heap.size + 1) (by simp) ?_; intro g3 c3 w3 own3 grow3 at3 lt3; have OWN3 := hide own3; have GR3 := hide grow3; have AT3 := hide at3; clear own3 grow3 at3)
         have KB:=hide (KA.out.appO (o' := q ++ [b]) (by rw [List.map_append]; exact OWN3.out) GR3.out (by simpa using AT3.out))
         clear KA K1 K0 OWN3 GR3 AT3 hnc f1 d0 d1 d2 d3 x2
         have hnc:=nums_cell KB.out.nu hbn
         have hin:b ∈ q ++ [b]:=by simp
         have hix:(q ++ [b]).idxOf b = q.length:=by rw [List.idxOf_append,if_neg HBQ.out]; simp
         rw [if_pos hin,hix] at hnc
         clear hin
         have HIX:=hide hix
         clear hix
         have KC:=hide (KB.out.alloc (.cells #[.int .i64 (4 * (q.length:Int) + (t:Int))] 3))
         go_wp2_with (at_builtin; refine wpList_append_lies _ (by rfl) _ _ 22 (by rfl) (w.heap.size + 2) 3 i0 (.int .i64 0) 1 8 Try.underlying22 hi0 hz0 hz1 hz2 rfl (by omega) _ cs.length _ (by rfl) KC.out.c ⟨w3.heap.size,0,none⟩ 1 1 [.int .i64 (4 * (q.length:Int) + (t:Int))] (by rfl) (by rfl) (one_news _ _) (by simp [Value.oneCell']) (by omega) (by unfold maxLen; omega) (by omega) KC.out.big (w3.heap.size + 1) (by simp) ?_; intro g4 c4 w4 own3 grow3 at3 lt4; have OWN3 := hide own3; have GR3 := hide grow3; have AT3 := hide at3; clear own3 grow3 at3)
         go_roundg (gi - 1)
         case measure => have := HSG.out; omega
         case rel =>
          refine ⟨s + 1,by have := HSG.out; omega,by go_num,?_⟩
          have e1:Pl.addS d o c (s + 1) = q ++ [b]:=by
           show Pl.addN (Pl.addS d o c s) (Pl.nb d c s) = q ++ [b]
           rw [← HQ.out,HBB.out]
           unfold Pl.addN
           rw [if_neg HBQ.out]
          have e2:(Pl.code d r).take (5 * i + 1 + (s + 1)) = cs ++ [4 * (q.length:Int) + (t:Int)]:=by
           have hx:=HX.out
           rw [e1,HBB.out,HT.out,HIX.out] at hx
           rw [show 5 * i + 1 + (s + 1) = 5 * i + 1 + s + 1 by omega,Pl.take_one hx,← HCS.out]
           congr 2
          rw [e1,e2]
          exact KC.out.appC (by rw [List.map_append]; exact OWN3.out) GR3.out (by simpa using AT3.out)
       ·have hsi:¬ ((s:Int) < 4):=by omega
        have hs5:s = 4:=by omega
        have K5:=hide (show NK w [.slice (some ⟨b1,o1,none⟩) d.n cp,.slice B m cq,.int .i64 d.lp] (.slice A5 q.length c5) (.slice A6 cs.length c6) (Pl.nums d.n (Pl.ordK d r (i + 1))) (Pl.ordK d r (i + 1)) ((Pl.code d r).take (5 * (i + 1))) wr from by
         rw [Pl.ordK_some HC.out,← HO.out,← hs5,← HQ.out,show 5 * (i + 1) = 5 * i + 1 + s by omega,← HCS.out]
         exact K0.out)
        clear hs5
        have hvm:v = -1:=by rw [HV.out,HB0.out]; rfl
        have HVN:=hide (show (-1:Int) = Pl.vdt best (Pl.code d r) (5 * (i + 1)) by rw [HB0.out]; rfl)
        subst hvm
        clear hsg
        go_wp2
        go_roundg (go - 1)
        case measure => have := HIG.out; omega
        case rel => exact ⟨i + 1,-1,by have := HIG.out; omega,by go_num,rfl,HVN.out,by omega,K5.out⟩
     ·have hki : ¬ ((i : Int) < ((o.length : Nat) : Int)) := by
       have h1:=(Pl.ordK_ord (d := d) r (k := i) (by omega)).length_le
       have h2:=HL.out
       rw [HO.out]
       omega
      have hiL2:i = L:=by omega
      have HE:=hide (show o = Pl.ord d r ∧ cs = Pl.code d r by
       have h1:=(Pl.ordK_ord (d := d) r (k := i) (by omega)).length_le
       have h2:=HL.out
       rw [HO.out,HCS.out]
       exact ⟨Pl.ord_eq (by omega) (by omega),List.take_of_length_le (by rw [HCL.out]; omega)⟩)
      have HVE:=hide (show v = Pl.vall best (Pl.code d r) by
       rw [HV.out]
       refine (Pl.vdt_all (by rw [HCL.out]; omega) (fun b e => ?_))
       have h:=HB.out
       rw [e] at h
       obtain ⟨_,_,_,_,_,h3,_⟩:=h
       rw [h3,HCL.out]; omega)
      clear hig hiL2
      go_wp2
      refine bodyPost_ret (v := .tuple #[.slice A6 cs.length c6,.slice A5 o.length c5,.int .i64 v]) ?_ rfl ⟨fun h => ?_,fun _ => ⟨_,_,by rw [← HVE.out],?_,?_⟩,K0.out.bel⟩
      ·simp [results,Try.results138,go_sem]
      ·rw [← HVE.out] at h; omega
      ·have h:=K0.out.c
       rw [HE.out.2] at h
       rw [HE.out.2]
       exact own_base h (by omega)
      ·have h:=K0.out.o
       rw [HE.out.1] at h
       rw [HE.out.1]
       exact own_base h (by omega)
   ·have hq:=fun W => eq_some W ⟨bb,bo,none⟩ bn bc
    go_wp2_with fail
    clear hq
    go_loopg [11,12,13,14,15,16,17,56] L (fun g s11 s12 s13 s14 s15 s16 s17 s56 wx => ∃ (i:Nat) (v:Int),i + g = L ∧ s14 = .int .i64 (i:Int) ∧ s13 = .int .i64 v ∧ v = Pl.vdt best (Pl.code d r) (5 * i) ∧ v ≤ 0 ∧ NK w [.slice A d.n cp,.slice B m cq,.int .i64 d.lp] s11 s12 (Pl.nums d.n (Pl.ordK d r i)) (Pl.ordK d r i) ((Pl.code d r).take (5 * i)) wx)
    case atStart => exact ⟨0,_,by omega,rfl,rfl,HV0.out.symm,by omega,K1.out⟩
    case round =>
     clear K1 HV0
     obtain ⟨i,v,hig,rfl,rfl,hv,hv0,hk⟩:=hrel
     have HIG:=hide hig
     have HV:=hide hv
     have hiL:i ≤ L:=by omega
     obtain ⟨o,ho⟩:∃ o,o = Pl.ordK d r i := ⟨_,rfl⟩
     obtain ⟨cs,hcs⟩:∃ cs,cs = (Pl.code d r).take (5 * i) := ⟨_,rfl⟩
     rw [← ho,← hcs] at hk
     have K0:=hide hk
     have HO:=hide ho
     have HCS:=hide hcs
     have hl5:o.length ≤ 64:=by rw [ho]; have := (Pl.ordK_ok HD.out hr i).len; omega
     have hl6:cs.length ≤ 320:=by rw [hcs,List.length_take]; omega
     clear hk hv ho hcs
     obtain ⟨go,rfl⟩:∃ go,go = gk := ⟨_,rfl⟩
     obtain ⟨A5,c5,rfl⟩:=owns_slice K0.out.o
     obtain ⟨A6,c6,rfl⟩:=owns_slice K0.out.c
     by_cases hi:i < L
     ·have hil:i < o.length:=by rw [HO.out]; exact Pl.order_lt (by omega) (by rw [← HL.out]; exact hi)
      have hki:(i:Int) < ((o.length:Nat):Int):=by omega
      have k0:(0:Int) ≤ (i:Int):=by omega
      obtain ⟨c,hc⟩:∃ c,o[i]? = some c := ⟨_,List.getElem?_eq_getElem hil⟩
      have HC:=hide (show (Pl.ordK d r i)[i]? = some c by rw [← HO.out]; exact hc)
      have hcn:c < d.n:=((Pl.ordK_ok HD.out hr i).mem c (List.mem_of_getElem? HC.out)).1
      have HS:=hide (Pl.code_sgn (Pl.pre_get (Pl.ordK_ord r (by omega)) HC.out))
      have hO:IntsAt wr A5 o.length (nats o):=own_ints' (by rw [map_nats]; exact K0.out.o)
      obtain ⟨b5,o5,rfl,x5⟩:=nats_at hO hil
      have hcg:o.getD i 0 = c:=by rw [List.getD_eq_getElem?_getD,hc]; rfl
      rw [hcg] at x5
      obtain ⟨b1,o1,rfl,x1⟩:=sign_at (HG.out.keep K0.out.bel).s hcn
      obtain ⟨d0,d1,d2,d3⟩:=box3 K0.out.d
      have c0:(0:Int) ≤ (c:Int):=by omega
      have c1:(c:Int) < (d.n:Int):=by omega
      clear hc hO hcg hig
      obtain ⟨i0,hi0,hz0,hz1,hz2⟩:=info_parts intInfo
      obtain ⟨sv,hsv⟩:∃ x,x = d.s c := ⟨_,rfl⟩
      rw [← hsv] at x1
      have HSV:=hide hsv
      clear hsv
      have KA:=hide (K0.out.alloc (.cells #[.int .i64 sv] 3))
      go_upto_region 18 with (at_builtin; refine wpList_append_lies _ (by rfl) _ _ 22 (by rfl) (w.heap.size + 2) 3 i0 (.int .i64 0) 1 8 Try.underlying22 hi0 hz0 hz1 hz2 rfl (by omega) _ cs.length _ (by rfl) KA.out.c ⟨wr.heap.size,0,none⟩ 1 1 [.int .i64 sv] (by rfl) (by rfl) (one_news _ _) (by simp [Value.oneCell']) (by omega) (by unfold maxLen; omega) (by omega) KA.out.big (wr.heap.size + 1) (by simp) ?_; intro g3 c3 w3 own3 grow3 at3 lt3; have OWN3 := hide own3; have GR3 := hide grow3; have AT3 := hide at3; clear own3 grow3 at3)
      have KB:=hide (show NK w [.slice (some ⟨b1,o1,none⟩) d.n cp,.slice B m cq,.int .i64 d.lp] (.slice (some ⟨b5,o5,none⟩) o.length c5) (.slice (some ⟨g3,0,none⟩) (cs.length + 1) c3) (Pl.nums d.n o) o ((Pl.code d r).take (5 * i + 1)) w3 from by
       rw [Pl.take_one HS.out,← HCS.out,← HSV.out]
       exact KA.out.appC (by rw [List.map_append]; exact OWN3.out) GR3.out (by simpa using AT3.out))
      clear KA OWN3 GR3 AT3 K0 x5 x1 d0 d1 d2 d3 hki k0 hil
      go_wp2_with fail
      go_loopg [11,12,16,17,56] 4 (fun g s11 s12 s16 s17 s56 wx => ∃ s:Nat,s + g = 4 ∧ s56 = .int .i64 (s:Int) ∧ NK w [.slice (some ⟨b1,o1,none⟩) d.n cp,.slice B m cq,.int .i64 d.lp] s11 s12 (Pl.nums d.n (Pl.addS d o c s)) (Pl.addS d o c s) ((Pl.code d r).take (5 * i + 1 + s)) wx)
      case atStart => exact ⟨0,rfl,rfl,KB.out⟩
      case round =>
       clear KB
       obtain ⟨s,hsg,rfl,hk⟩:=hrel
       have HSG:=hide hsg
       obtain ⟨q,hq⟩:∃ q,q = Pl.addS d o c s := ⟨_,rfl⟩
       obtain ⟨cs,hcs⟩:∃ cs,cs = (Pl.code d r).take (5 * i + 1 + s) := ⟨_,rfl⟩
       rw [← hq,← hcs] at hk
       have K0:=hide hk
       have HQ:=hide hq
       have HCS:=hide hcs
       have hs4:s ≤ 4:=by omega
       have hl5:q.length ≤ 64:=by
        have h:=(Pl.add_ord (d := d) (r := r) (i := i) (s := s) (by omega) HC.out hs4).length_le
        have:=HOL.out
        rw [hq,HO.out]
        omega
       have hl6:cs.length ≤ 330:=by rw [hcs,List.length_take]; omega
       clear hk hq hcs
       obtain ⟨A5,c5,rfl⟩:=owns_slice K0.out.o
       obtain ⟨A6,c6,rfl⟩:=owns_slice K0.out.c
       obtain ⟨gi,rfl⟩:∃ gi,gi = gk := ⟨_,rfl⟩
       by_cases hs:s < 4
       ·have hsi:(s:Int) < 4:=by omega
        have s0:(0:Int) ≤ (s:Int):=by omega
        have hh:4 * c + s < 4 * d.n:=by omega
        have hlt:=HD.out.lt (4 * c + s) hh
        have HX:=hide (Pl.code_step (d := d) (r := r) (i := i) (c := c) (s := s) (by omega) HC.out hs)
        rw [← HO.out] at HX
        obtain ⟨b2,o2,rfl,x2⟩:=mate_at (d := d) (by rw [← HM.out]; have := (HG.out.keep K0.out.bel).m; rwa [← HM.out] at this) hh
        have hmm:m = 4 * d.n:=HM.out
        have i2:(4:Int) * (c:Int) + (s:Int) < (m:Int):=by omega
        clear hmm
        obtain ⟨u,hu⟩:∃ u,u = d.m (4 * c + s) := ⟨_,rfl⟩
        rw [← hu] at x2 hlt
        obtain ⟨b,hb⟩:∃ b,b = u / 4 := ⟨_,rfl⟩
        obtain ⟨t,ht⟩:∃ t,t = u % 4 := ⟨_,rfl⟩
        have hbn:b < d.n:=by omega
        have ht4:t < 4:=by omega
        have q1:(u:Int).tdiv 4 = (b:Int):=by rw [hb]; rfl
        have q2:(u:Int).tmod 4 = (t:Int):=by rw [ht]; rfl
        have q3:(u:Int) / 4 = (b:Int):=by omega
        have q4:(u:Int) % 4 = (t:Int):=by omega
        have HBB:=hide (show Pl.nb d c s = b by unfold Pl.nb; rw [← hu,hb])
        have HT:=hide (show d.m (4 * c + s) % 4 = t by rw [← hu,ht])
        clear hu hb ht hh hsg
        obtain ⟨d0,d1,d2,d3⟩:=box3 K0.out.d
        have bi0:(0:Int) ≤ (b:Int):=by omega
        have bi1:(b:Int) < (d.n:Int):=by omega
        have hnc:=nums_cell K0.out.nu hbn
        have hl0:w.heap.size + 1 < wr.heap.size:=Row.lt K0.out.nu
        by_cases hbq:b ∈ q
        ·have HBQ:=hide hbq
         rw [if_pos hbq] at hnc
         obtain ⟨j,hj⟩:∃ j,j = q.idxOf b := ⟨_,rfl⟩
         rw [← hj] at hnc
         have hjl:j < 64:=by rw [hj]; have := List.idxOf_lt_length_of_mem hbq; omega
         have HJ:=hide hj
         clear hbq hj
         have j0:¬ ((j:Int) < 0):=by omega
         have KA:=hide (K0.out.alloc (.cells #[.int .i64 (4 * (j:Int) + (t:Int))] 3))
         go_wp2_with (first | (at_builtin; refine wpList_append_lies _ (by rfl) _ _ 22 (by rfl) (w.heap.size + 2) 3 i0 (.int .i64 0) 1 8 Try.underlying22 hi0 hz0 hz1 hz2 rfl (by omega) _ cs.length _ (by rfl) KA.out.c ⟨wr.heap.size,0,none⟩ 1 1 [.int .i64 (4 * (j:Int) + (t:Int))] (by rfl) (by rfl) (one_news _ _) (by simp [Value.oneCell']) (by omega) (by unfold maxLen; omega) (by omega) KA.out.big (wr.heap.size + 1) (by simp) ?_; intro g3 c3 w3 own3 grow3 at3 lt3; have OWN3 := hide own3; have GR3 := hide grow3; have AT3 := hide at3; clear own3 grow3 at3))
         go_roundg (gi - 1)
         case measure => have := HSG.out; omega
         case rel =>
          refine ⟨s + 1,by have := HSG.out; omega,by go_num,?_⟩
          have e1:Pl.addS d o c (s + 1) = q:=by
           show Pl.addN (Pl.addS d o c s) (Pl.nb d c s) = q
           rw [← HQ.out,HBB.out]
           unfold Pl.addN
           rw [if_pos HBQ.out]
          have e2:(Pl.code d r).take (5 * i + 1 + (s + 1)) = cs ++ [4 * (j:Int) + (t:Int)]:=by
           have hx:=HX.out
           rw [e1,HBB.out,HT.out,← HJ.out] at hx
           rw [show 5 * i + 1 + (s + 1) = 5 * i + 1 + s + 1 by omega,Pl.take_one hx,← HCS.out]
           congr 2
          rw [e1,e2]
          exact KA.out.appC (by rw [List.map_append]; exact OWN3.out) GR3.out (by simpa using AT3.out)
        ·have HBQ:=hide hbq
         rw [if_neg hbq] at hnc
         have f1:=Row.free K0.out.nu b
         have K1:=hide (K0.out.setN b (q.length:Int))
         rw [← Pl.nums_add hbn hbq] at K1
         have KA:=hide (K1.out.alloc (.cells #[.int .i64 (b:Int)] 3))
         clear hbq
         go_upto_region 25 with (at_builtin; refine wpList_append_lies _ (by rfl) _ _ 22 (by rfl) (w.heap.size + 2) 3 i0 (.int .i64 0) 1 8 Try.underlying22 hi0 hz0 hz1 hz2 rfl (by omega) _ q.length _ (by rfl) KA.out.o ⟨wr.heap.size,0,none⟩ 1 1 [.int .i64 (b:Int)] (by rfl) (by rfl) (one_newsG _ _ (by simp)) (by simp [Value.oneCell']) (by omega) (by unfold maxLen; omega) (by omega) KA.out.big (wr.heap.size + 1) (by simp) ?_; intro g3 c3 w3 own3 grow3 at3 lt3; have OWN3 := hide own3; have GR3 := hide grow3; have AT3 := hide at3; clear own3 grow3 at3)
         have KB:=hide (KA.out.appO (o' := q ++ [b]) (by rw [List.map_append]; exact OWN3.out) GR3.out (by simpa using AT3.out))
         clear KA K1 K0 OWN3 GR3 AT3 hnc f1 d0 d1 d2 d3 x2
         have hnc:=nums_cell KB.out.nu hbn
         have hin:b ∈ q ++ [b]:=by simp
         have hix:(q ++ [b]).idxOf b = q.length:=by rw [List.idxOf_append,if_neg HBQ.out]; simp
         rw [if_pos hin,hix] at hnc
         clear hin
         have HIX:=hide hix
         clear hix
         have KC:=hide (KB.out.alloc (.cells #[.int .i64 (4 * (q.length:Int) + (t:Int))] 3))
         go_wp2_with (at_builtin; refine wpList_append_lies _ (by rfl) _ _ 22 (by rfl) (w.heap.size + 2) 3 i0 (.int .i64 0) 1 8 Try.underlying22 hi0 hz0 hz1 hz2 rfl (by omega) _ cs.length _ (by rfl) KC.out.c ⟨w3.heap.size,0,none⟩ 1 1 [.int .i64 (4 * (q.length:Int) + (t:Int))] (by rfl) (by rfl) (one_news _ _) (by simp [Value.oneCell']) (by omega) (by unfold maxLen; omega) (by omega) KC.out.big (w3.heap.size + 1) (by simp) ?_; intro g4 c4 w4 own3 grow3 at3 lt4; have OWN3 := hide own3; have GR3 := hide grow3; have AT3 := hide at3; clear own3 grow3 at3)
         go_roundg (gi - 1)
         case measure => have := HSG.out; omega
         case rel =>
          refine ⟨s + 1,by have := HSG.out; omega,by go_num,?_⟩
          have e1:Pl.addS d o c (s + 1) = q ++ [b]:=by
           show Pl.addN (Pl.addS d o c s) (Pl.nb d c s) = q ++ [b]
           rw [← HQ.out,HBB.out]
           unfold Pl.addN
           rw [if_neg HBQ.out]
          have e2:(Pl.code d r).take (5 * i + 1 + (s + 1)) = cs ++ [4 * (q.length:Int) + (t:Int)]:=by
           have hx:=HX.out
           rw [e1,HBB.out,HT.out,HIX.out] at hx
           rw [show 5 * i + 1 + (s + 1) = 5 * i + 1 + s + 1 by omega,Pl.take_one hx,← HCS.out]
           congr 2
          rw [e1,e2]
          exact KC.out.appC (by rw [List.map_append]; exact OWN3.out) GR3.out (by simpa using AT3.out)
       ·have hsi:¬ ((s:Int) < 4):=by omega
        have hs5:s = 4:=by omega
        have K5:=hide (show NK w [.slice (some ⟨b1,o1,none⟩) d.n cp,.slice B m cq,.int .i64 d.lp] (.slice A5 q.length c5) (.slice A6 cs.length c6) (Pl.nums d.n (Pl.ordK d r (i + 1))) (Pl.ordK d r (i + 1)) ((Pl.code d r).take (5 * (i + 1))) wr from by
         rw [Pl.ordK_some HC.out,← HO.out,← hs5,← HQ.out,show 5 * (i + 1) = 5 * i + 1 + s by omega,← HCS.out]
         exact K0.out)
        clear hs5
        have hbs:∃ bl,best = some bl ∧ IntsAt w (some ⟨bb,bo,none⟩) bn bl ∧ bn = 5 * L ∧ bl.length = 5 * L ∧ bn ≤ bc:=by
         have h:=HB.out
         cases best with
         | none => exact absurd (show Value.slice (some ⟨bb,bo,none⟩) bn bc = .slice none 0 0 from h) (by simp)
         | some bl =>
           obtain ⟨b',o',c',e,h2,h3,h4⟩:=h
           injection e with e1 e2 e3
           rw [← e1,← e2] at h2
           exact ⟨bl,rfl,h2,by rw [e2,h3,HCL.out],by rw [h3,HCL.out],by omega⟩
        obtain ⟨bl,hbe,hbl,hb5,hb6,hbc⟩:=hbs
        have hs4':s = 4:=by omega
        have hcd:cs.drop (5 * i) = ((Pl.code d r).drop (5 * i)).take 5:=by
         rw [HCS.out,List.drop_take,hs4']
         congr 1
         omega
        have hcl:cs.length = 5 * i + 5:=by rw [HCS.out,List.length_take,HCL.out,hs4']; omega
        have HSTEP:=hide (show Pl.vdt best (Pl.code d r) (5 * (i + 1)) = if v = 0 then Pl.lx (cs.drop (5 * i)) ((bl.drop (5 * i)).take 5) else v by
         rw [HV.out,hbe,hcd,show 5 * (i + 1) = 5 * i + 5 by omega]
         exact Pl.vdt_step (by rw [HCL.out]; omega) (by omega))
        by_cases hvz:v = 0
        ·obtain ⟨C1,hc1,hr1⟩:=cut_hi (own_ints' K0.out.c) (k := 5 * i) (by omega) (own_cap K0.out.c)
         obtain ⟨C2,k2,hc2,hr2⟩:=cut_mid (hbl.keep K0.out.bel) (k := 5 * i) (by omega) hbc
         have e1:((5 * i:Nat):Int) = 5 * (i:Int):=by omega
         have e2:((5 * i + 5:Nat):Int) = 5 * (i:Int) + 5:=by omega
         rw [e1] at hr1 hr2
         rw [e2] at hr2
         have hq1:cs.length - 5 * i ≤ 1000000:=by omega
         have hq2:5 ≤ 1000000:=by omega
         have HST:=hide (show Pl.vdt best (Pl.code d r) (5 * (i + 1)) = Pl.lx (cs.drop (5 * i)) ((bl.drop (5 * i)).take 5) by rw [HSTEP.out,if_pos hvz])
         have HKP:=hide (show Pl.vdt best (Pl.code d r) (5 * (i + 1)) ≠ 0 → Pl.vall best (Pl.code d r) = Pl.vdt best (Pl.code d r) (5 * (i + 1)) from by
          intro h
          rw [hbe] at h ⊢
          exact Pl.vdt_keep (by rw [HCL.out,hb6]) h)
         obtain ⟨ys,hys⟩:∃ ys,ys = (bl.drop (5 * i)).take 5 := ⟨_,rfl⟩
         obtain ⟨xs,hxs⟩:∃ xs,xs = cs.drop (5 * i) := ⟨_,rfl⟩
         rw [← hys] at hc2 HST
         rw [← hxs] at hc1 HST
         have HC1:=hide hc1
         have HC2:=hide hc2
         subst hvz
         clear hys hxs hbe hbl hb5 hb6 hbc hs4' hcd hcl HSTEP e1 e2 hsg hc1 hc2
         by_cases hx0:(0:Int) < Pl.lx xs ys
         ·go_upto_region 28 with fail
          go_quiet ((go_at_call 141; exact Calls.quiet_of_same (compare_any xs ys _ _ _ _ _ _ _ (show IntsAt _ _ _ _ from HC1.out) (show IntsAt _ _ _ _ from HC2.out) hq1 hq2)))
          go_wp2
          refine bodyPost_ret (v := .tuple #[.slice none 0 0,.slice none 0 0,.int .i64 1]) ?_ rfl ⟨fun _ => rfl,fun h => absurd ?_ h,below_drewN K0.out.bel _⟩
          ·simp [results,Try.results138,go_sem]
          ·rw [HKP.out (by rw [HST.out]; omega),HST.out]; exact hx0
         ·have hx1:Pl.lx xs ys ≤ 0:=by omega
          go_upto_region 28 with fail
          go_quiet ((go_at_call 141; exact Calls.quiet_of_same (compare_any xs ys _ _ _ _ _ _ _ (show IntsAt _ _ _ _ from HC1.out) (show IntsAt _ _ _ _ from HC2.out) hq1 hq2)))
          go_wp2
          go_roundg (go - 1)
          case measure => have := HIG.out; omega
          case rel => exact ⟨i + 1,Pl.lx xs ys,by have := HIG.out; omega,by go_num,rfl,HST.out.symm,hx1,K5.out.below (below_drewN (Below.refl _ _) _)⟩
        ·have HST:=hide (show v = Pl.vdt best (Pl.code d r) (5 * (i + 1)) by rw [HSTEP.out,if_neg hvz])
         have hvb:(v == 0) = false:=by simpa using hvz
         have hvn:¬ (0 < v):=by omega
         clear hbe hbl hb5 hb6 hbc hs4' hcd hcl HSTEP hsg
         go_wp2
         go_roundg (go - 1)
         case measure => have := HIG.out; omega
         case rel => exact ⟨i + 1,v,by have := HIG.out; omega,by go_num,rfl,HST.out,hv0,K5.out⟩
     ·have hki : ¬ ((i : Int) < ((o.length : Nat) : Int)) := by
       have h1:=(Pl.ordK_ord (d := d) r (k := i) (by omega)).length_le
       have h2:=HL.out
       rw [HO.out]
       omega
      have hiL2:i = L:=by omega
      have HE:=hide (show o = Pl.ord d r ∧ cs = Pl.code d r by
       have h1:=(Pl.ordK_ord (d := d) r (k := i) (by omega)).length_le
       have h2:=HL.out
       rw [HO.out,HCS.out]
       exact ⟨Pl.ord_eq (by omega) (by omega),List.take_of_length_le (by rw [HCL.out]; omega)⟩)
      have HVE:=hide (show v = Pl.vall best (Pl.code d r) by
       rw [HV.out]
       refine (Pl.vdt_all (by rw [HCL.out]; omega) (fun b e => ?_))
       have h:=HB.out
       rw [e] at h
       obtain ⟨_,_,_,_,_,h3,_⟩:=h
       rw [h3,HCL.out]; omega)
      clear hig hiL2
      go_wp2
      refine bodyPost_ret (v := .tuple #[.slice A6 cs.length c6,.slice A5 o.length c5,.int .i64 v]) ?_ rfl ⟨fun h => ?_,fun _ => ⟨_,_,by rw [← HVE.out],?_,?_⟩,K0.out.bel⟩
      ·simp [results,Try.results138,go_sem]
      ·rw [← HVE.out] at h; omega
      ·have h:=K0.out.c
       rw [HE.out.2] at h
       rw [HE.out.2]
       exact own_base h (by omega)
      ·have h:=K0.out.o
       rw [HE.out.1] at h
       rw [HE.out.1]
       exact own_base h (by omega)
end Go.Proofs.Ytghdiolnonejaaa
end
section
namespace Go.Proofs.Ytghdiolnonejaaa
open Go Go.RowKit
def IntT (W:World) (v:Value) (xs:List Int):Prop := ∃ A c,v = .slice A xs.length c ∧ xs.length ≤ c ∧ RowT W 3 A xs.length (xs.map (.int .i64))
theorem IntT.below {W W':World} {v:Value} {xs:List Int} (h:IntT W v xs) (hb:Below W.heap.size W W'):IntT W' v xs := let ⟨A,c,e,h1,h2⟩:=h; ⟨A,c,e,h1,h2.keep hb⟩
theorem IntT.grown {W W':World} {v:Value} {xs:List Int} {row:Option Nat} {t':TypeId} (h:IntT W v xs) (hg:W.grownBy W' row) (hr:∀ g,row = some g → ∃ cs fr,W.heap[g]? = some (.cells cs t' fr)) (hne:3 ≠ t'):IntT W' v xs := let ⟨A,c,e,h1,h2⟩:=h; ⟨A,c,e,h1,h2.grown hg hr hne⟩
theorem IntT.store {W:World} {v:Value} {xs:List Int} {g i:Nat} {us:List Value} {t':TypeId} (h:IntT W v xs) (hr:Row W g t' us) (hne:3 ≠ t') (u:Value):IntT (W.setCell ⟨g,i,none⟩ u) v xs := let ⟨A,c,e,h1,h2⟩:=h; ⟨A,c,e,h1,h2.store hr hne _⟩
theorem own_intT {W:World} {base:Nat} {v:Value} {xs:List Int} (h:W.ownsRow base 3 1 v xs.length (xs.map (.int .i64))):IntT W v xs := by
 obtain ⟨A,c,rfl⟩:=owns_slice h
 exact ⟨A,c,rfl,own_cap h,own_rowT h⟩
structure PcV (W:World) (vC vO:Value) (x:Int) (p:Pl.Pc):Prop where
 c:IntT W vC p.code
 o:IntT W vO (nats p.order)
 r:x = p.roots
section
variable {W W':World} {vC vO:Value} {x:Int} {p:Pl.Pc}
theorem PcV.below (h:PcV W vC vO x p) (hb:Below W.heap.size W W'):PcV W' vC vO x p := ⟨h.c.below hb,h.o.below hb,h.r⟩
theorem PcV.grown {row:Option Nat} {t':TypeId} (h:PcV W vC vO x p) (hg:W.grownBy W' row) (hr:∀ g,row = some g → ∃ cs fr,W.heap[g]? = some (.cells cs t' fr)) (hne:3 ≠ t'):PcV W' vC vO x p := ⟨h.c.grown hg hr hne,h.o.grown hg hr hne,h.r⟩
theorem PcV.store {g i:Nat} {us:List Value} {t':TypeId} (h:PcV W vC vO x p) (hr:Row W g t' us) (hne:3 ≠ t') (u:Value):PcV (W.setCell ⟨g,i,none⟩ u) vC vO x p := ⟨h.c.store hr hne u,h.o.store hr hne u,h.r⟩
end
def PBox (d:Pl.Dg) (l:List Nat) (k:Nat) (W:World) (vC vO:Value) (x:Int):Prop :=
 (k = 0 ∧ vC = .slice none 0 0 ∧ vO = .slice none 0 0 ∧ x = 0) ∨ ∃ p,PcV W vC vO x p ∧ Pl.Lst5 d (l.take k) p ∧ 0 ≤ x ∧ x ≤ k
theorem PBox.below {d:Pl.Dg} {l:List Nat} {k:Nat} {W W':World} {vC vO:Value} {x:Int} (h:PBox d l k W vC vO x) (hb:Below W.heap.size W W'):PBox d l k W' vC vO x := by
 rcases h with h | ⟨p,h1,h2⟩
 ·exact .inl h
 ·exact .inr ⟨p,h1.below hb,h2⟩
theorem PBox.best {d:Pl.Dg} (hd:Pl.Wf d) {l:List Nat} {k q:Nat} {W:World} {vC vO:Value} {x:Int} (h:PBox d l k W vC vO x) (hq:q < d.n) (hl:∀ c,c ∈ l → c < d.n ∧ Pl.Comp d c q) :
 (k = 0 ∧ BestAt W vC (Pl.code d q).length none) ∨ ∃ p,PcV W vC vO x p ∧ Pl.Lst5 d (l.take k) p ∧ 0 ≤ x ∧ x ≤ k ∧ BestAt W vC (Pl.code d q).length (some p.code) := by
 rcases h with ⟨h0,h1,h2,_⟩ | ⟨p,h1,h2,h3,h4⟩
 ·exact .inl ⟨h0,h1⟩
 ·refine .inr ⟨p,h1,h2,h3,h4,?_⟩
  obtain ⟨r,hr,hc,ho⟩:=h2.is
  have hm:=hl r (List.mem_of_mem_take hr)
  obtain ⟨A,c,e,hcap,ht⟩:=h1.c
  have hlen:p.code.length = (Pl.code d q).length:=by rw [hc]; exact Pl.code_len_eq hd hm.1 hq hm.2
  have hpos:0 < p.code.length:=by
   rw [hlen,Pl.code_len]
   have:=(Pl.ord_ok hd hq).root
   have:=List.length_pos_of_mem this
   omega
  obtain ⟨b,o,cs,fr,hA,_⟩:=ht.2 hpos
  subst hA
  exact ⟨b,o,c,e,ht.row,hlen,hcap⟩
end Go.Proofs.Ytghdiolnonejaaa
end
section
namespace Go.Proofs.Ytghdiolnonejaaa
open Go Go.RowKit
attribute [local go_sem ↓] Go.wp_at_zero Go.wp_at_succ
theorem own_setNe {W:World} {base b n s:Nat} {e:TypeId} {v:Value} {xs:List Value} (h:W.ownsRow base e s v n xs) (hne:v.ownBlock ≠ some b) (o:Nat) (u:Value):(W.setCell ⟨b,o,none⟩ u).ownsRow base e s v n xs := by
 refine ⟨h.1,?_⟩
 rcases h.2 with hz | ⟨g,cap,cur,r1,r2,r3,r4⟩
 ·exact .inl hz
 ·refine .inr ⟨g,cap,cur,r1,r2,?_,r4⟩
  have hgb:g ≠ b:=fun e => hne (by rw [r1,e]; rfl)
  exact (Below.heap_setCell W ⟨b,o,none⟩ u g hgb).trans r3
def PcsV (W:World):List Value → List Pl.Pc → Prop
 | [],[] => True
 | vC :: vO :: .int .i64 x :: r,p :: ps => PcV W vC vO x p ∧ PcsV W r ps
 | _,_ => False
theorem PcsV.map {W W':World} (f:∀ {vC vO:Value} {x:Int} {p:Pl.Pc},PcV W vC vO x p → PcV W' vC vO x p):∀ {cs:List Value} {ps:List Pl.Pc},PcsV W cs ps → PcsV W' cs ps
 | [],[],_ => trivial
 | vC :: vO :: .int .i64 x :: r,p :: ps,h => ⟨f h.1,PcsV.map f h.2⟩
theorem PcsV.add {W:World} {vC vO:Value} {x:Int} {p:Pl.Pc} (hp:PcV W vC vO x p):∀ {cs:List Value} {ps:List Pl.Pc},PcsV W cs ps → PcsV W (cs ++ [vC,vO,.int .i64 x]) (ps ++ [p])
 | [],[],_ => ⟨hp,trivial⟩
 | vC' :: vO' :: .int .i64 x' :: r,p' :: ps,h => ⟨h.1,PcsV.add hp h.2⟩
structure GRf (d:Pl.Dg) (ls:List Int) (P:Nat) (A:Option Addr) (vs:List Value) (W:World):Prop where
 r:RowT W 22 A P vs
 v:Vs W vs ((List.range P).map (Gl ls d.n))
structure PL (w:World) (d:Pl.Dg) (ls:List Int) (P:Nat) (A:Option Addr) (vs dv:List Value) (j:Nat) (vL:Value) (cs:List Value) (ps:List Pl.Pc) (W:World):Prop where
 bx:Row W w.heap.size 24 dv
 gr:GRf d ls P A vs W
 own:W.ownsRow (w.heap.size + 1) 116 3 vL j cs
 pv:PcsV W cs ps
 len:ps.length = j
 is:∀ (i:Nat) (p:Pl.Pc),ps[i]? = some p → Pl.Lst5 d (Gl ls d.n i) p
 bel:Below w.heap.size w W
section
variable {w W W':World} {d:Pl.Dg} {ls:List Int} {P:Nat} {A:Option Addr} {vs dv:List Value} {j:Nat} {vL:Value} {cs:List Value} {ps:List Pl.Pc}
theorem PL.big (h:PL w d ls P A vs dv j vL cs ps W):w.heap.size + 1 ≤ W.heap.size := by have := h.bx.lt; omega
theorem PL.below (h:PL w d ls P A vs dv j vL cs ps W) (hb:Below W.heap.size W W'):PL w d ls P A vs dv j vL cs ps W' :=
 ⟨h.bx.below hb,⟨h.gr.r.keep hb,h.gr.v.below hb⟩,own_below h.own hb,h.pv.map (fun p => p.below hb),h.len,h.is,h.bel.trans (hb.mono h.bel.size)⟩
theorem PL.alloc (h:PL w d ls P A vs dv j vL cs ps W) (o:Obj):PL w d ls P A vs dv j vL cs ps (W.alloc o) := h.below ((Below.refl _ _).alloc (Nat.le_refl _) o)
theorem PL.setB (h:PL w d ls P A vs dv j vL cs ps W) {g:Nat} {us:List Value} (hr:Row W g 116 us) (hg:w.heap.size < g) (hne:vL.ownBlock ≠ some g) (o:Nat) (u:Value):PL w d ls P A vs dv j vL cs ps (W.setCell ⟨g,o,none⟩ u) :=
 ⟨h.bx.other (by show _ ≠ g; omega) _,⟨h.gr.r.store hr (by decide) u,h.gr.v.store hr (by decide) u⟩,own_setNe h.own hne o u,h.pv.map (fun p => p.store hr (by decide) u),h.len,h.is,h.bel.setCell (by show _ ≤ g; omega) _⟩
theorem PL.app (h:PL w d ls P A vs dv j vL cs ps W) {g c n:Nat} {vC vO:Value} {x:Int} {p:Pl.Pc} (own:W'.ownsRow (w.heap.size + 1) 116 3 (.slice (some ⟨g,0,none⟩) n c) n (cs ++ [vC,vO,.int .i64 x])) (gr:W.grownBy W' vL.ownBlock) (hn:n = j + 1) (hp:PcV W vC vO x p) (hi:Pl.Lst5 d (Gl ls d.n j) p) :
 PL w d ls P A vs dv n (.slice (some ⟨g,0,none⟩) n c) (cs ++ [vC,vO,.int .i64 x]) (ps ++ [p]) W' := by
 have hbk:=fun g (hg:vL.ownBlock = some g) => ownsRow_block h.own g hg
 refine ⟨h.bx.grown gr (fun e => ?_),⟨h.gr.r.grown gr hbk (by decide),h.gr.v.grown gr hbk (by decide)⟩,own,PcsV.add (hp.grown gr hbk (by decide)) (h.pv.map (fun q => q.grown gr hbk (by decide))),by rw [List.length_append,h.len,hn]; rfl,fun i q hq => ?_,h.bel.grown gr h.bel.size (fun k hk => by have := (h.own.lt k hk).1; omega)⟩
 ·have:=(h.own.lt _ e.symm).1
  omega
 ·rw [List.getElem?_append] at hq
  split at hq
  ·exact h.is i q hq
  ·have h1:=(List.getElem?_eq_some_iff.1 hq).1
   have h2:i = j:=by have := h.len; simp at h1; omega
   subst h2
   rw [h.len,Nat.sub_self] at hq
   injection hq with hq
   subst hq
   exact hi
end
end Go.Proofs.Ytghdiolnonejaaa
end
section
namespace Go.Proofs.Ytghdiolnonejaaa
open Go Go.RowKit
attribute [local go_sem ↓] Go.wp_at_zero Go.wp_at_succ
theorem PL.setB3 {w W:World} {d:Pl.Dg} {ls:List Int} {P:Nat} {A:Option Addr} {vs dv:List Value} {j:Nat} {vL:Value} {cs:List Value} {ps:List Pl.Pc} (h:PL w d ls P A vs dv j vL cs ps W) {g:Nat} {us:List Value} (hr:Row W g 116 us) (hg:w.heap.size < g) (hne:vL.ownBlock ≠ some g) (y0 y1 y2:Value) :
 PL w d ls P A vs dv j vL cs ps (((W.setCell ⟨g,0,none⟩ y0).setCell ⟨g,1,none⟩ y1).setCell ⟨g,2,none⟩ y2) :=
 ((h.setB hr hg hne 0 y0).setB (hr.set 0 y0) hg hne 1 y1).setB ((hr.set 0 y0).set 1 y1) hg hne 2 y2
theorem IntT.store3 {W:World} {v:Value} {xs:List Int} (h:IntT W v xs) {g:Nat} {us:List Value} (hr:Row W g 116 us) (y0 y1 y2:Value) :
 IntT (((W.setCell ⟨g,0,none⟩ y0).setCell ⟨g,1,none⟩ y1).setCell ⟨g,2,none⟩ y2) v xs :=
 ((h.store hr (by decide) y0).store (hr.set 0 y0) (by decide) y1).store ((hr.set 0 y0).set 1 y1) (by decide) y2
theorem own_natT {W:World} {base:Nat} {v:Value} {l:List Nat} (h:W.ownsRow base 3 1 v l.length (l.map (fun k:Nat => Value.int .i64 k))):IntT W v (nats l) := by
 refine own_intT (base := base) ?_
 rw [map_nats]
 have e:(nats l).length = l.length:=by unfold nats; simp
 rw [e]
 exact h
structure PI (w:World) (d:Pl.Dg) (ls:List Int) (P:Nat) (A:Option Addr) (vs dv:List Value) (j:Nat) (vL:Value) (cs:List Value) (ps:List Pl.Pc) (g6 k:Nat) (vC vO:Value) (x:Int) (W:World):Prop where
 p:PL w d ls P A vs dv j vL cs ps W
 r:Row W g6 116 [vC,vO,.int .i64 x]
 b:PBox d (Gl ls d.n j) k W vC vO x
 lo:w.heap.size < g6
 ne:vL.ownBlock ≠ some g6
section
variable {w W W':World} {d:Pl.Dg} {ls:List Int} {P:Nat} {A:Option Addr} {vs dv:List Value} {j g6 k:Nat} {vL vC vO:Value} {x:Int} {cs:List Value} {ps:List Pl.Pc}
theorem PI.below (h:PI w d ls P A vs dv j vL cs ps g6 k vC vO x W) (hb:Below W.heap.size W W'):PI w d ls P A vs dv j vL cs ps g6 k vC vO x W' :=
 ⟨h.p.below hb,h.r.below hb,h.b.below hb,h.lo,h.ne⟩
theorem PI.put (h:PI w d ls P A vs dv j vL cs ps g6 k vC vO x W) {p:Pl.Pc} {vC' vO':Value} (hp:PcV W vC' vO' 1 p) (hl:Pl.Lst5 d ((Gl ls d.n j).take (k + 1)) p) :
 PI w d ls P A vs dv j vL cs ps g6 (k + 1) vC' vO' 1 (((W.setCell ⟨g6,0,none⟩ vC').setCell ⟨g6,1,none⟩ vO').setCell ⟨g6,2,none⟩ (.int .i64 1)) :=
 ⟨h.p.setB3 h.r h.lo h.ne _ _ _,row3 h.r rfl _ _ _,.inr ⟨p,⟨hp.c.store3 h.r _ _ _,hp.o.store3 h.r _ _ _,hp.r⟩,hl,by omega,by omega⟩,h.lo,h.ne⟩
theorem PI.more (h:PI w d ls P A vs dv j vL cs ps g6 k vC vO x W) {p:Pl.Pc} (hp:PcV W vC vO x p) (hl:Pl.Lst5 d ((Gl ls d.n j).take (k + 1)) ⟨p.code,p.order,x + 1⟩) (h0:0 ≤ x) (h1:x ≤ k) :
 PI w d ls P A vs dv j vL cs ps g6 (k + 1) vC vO (x + 1) (W.setCell ⟨g6,2,none⟩ (.int .i64 (x + 1))) :=
 ⟨h.p.setB h.r h.lo h.ne _ _,h.r.set 2 (.int .i64 (x + 1)),.inr ⟨⟨p.code,p.order,x + 1⟩,⟨hp.c.store h.r (by decide) _,hp.o.store h.r (by decide) _,rfl⟩,hl,by omega,by omega⟩,h.lo,h.ne⟩
theorem PI.skip (h:PI w d ls P A vs dv j vL cs ps g6 k vC vO x W) {p:Pl.Pc} (hp:PcV W vC vO x p) (hl:Pl.Lst5 d ((Gl ls d.n j).take (k + 1)) ⟨p.code,p.order,x⟩) (h0:0 ≤ x) (h1:x ≤ k) :
 PI w d ls P A vs dv j vL cs ps g6 (k + 1) vC vO x W :=
 ⟨h.p,h.r,.inr ⟨⟨p.code,p.order,x⟩,⟨hp.c,hp.o,rfl⟩,hl,by omega,by omega⟩,h.lo,h.ne⟩
end
theorem gl_comp {d:Pl.Dg} {ls:List Int} {P:Nat} (h:Pl.LB d ls P) (hp:∀ a,a < d.n → 0 ≤ Pl.pv ls a) {j a b:Nat} (ha:a ∈ Gl ls d.n j) (hb:b ∈ Gl ls d.n j):a < d.n ∧ Pl.Comp d a b := by
 rw [mem_Gl] at ha hb
 exact ⟨ha.1,h.conn a b ha.1 hb.1 (hp a ha.1) (by rw [ha.2,hb.2])⟩
theorem gl_at {P j:Nat} (ls:List Int) (n:Nat) (hj:j < P):((List.range P).map (Gl ls n))[j]? = some (Gl ls n j) := by
 rw [List.getElem?_map,List.getElem?_range hj]; rfl
end Go.Proofs.Ytghdiolnonejaaa
end
section
namespace Go.Proofs.Ytghdiolnonejaaa
open Go Go.RowKit
attribute [local go_sem ↓] Go.wp_at_zero Go.wp_at_succ
def cmpP (p q:Pl.Pc):Int := if p.order.length = q.order.length then Pl.lx p.code q.code else (p.order.length:Int) - (q.order.length:Int)
set_option maxRecDepth 100000 in
set_option maxHeartbeats 2000000 in
theorem cmp_pieces (vC vO vC' vO':Value) (x x':Int) (p q:Pl.Pc) (w:World) (hp:PcV w vC vO x p) (hq:PcV w vC' vO' x' q) (lp:p.order.length ≤ 64) (lq:q.order.length ≤ 64) (cp:p.code.length ≤ 320) (cq:q.code.length ≤ 320) :
 Calls Try.prog 140 #[.agg #[vC,vO,.int .i64 x],.agg #[vC',vO',.int .i64 x']] w fun e w' => e = .returned (.int .i64 (cmpP p q)) ∧ Below w.heap.size w w' := by
 obtain ⟨A1,e1,h1,h1c,h1b⟩:=hp.c
 obtain ⟨A2,e2,h2,_,h2b⟩:=hp.o
 obtain ⟨A3,e3,h3,h3c,h3b⟩:=hq.c
 obtain ⟨A4,e4,h4,_,h4b⟩:=hq.o
 subst h1; subst h2; subst h3; subst h4
 rw [nats_len,nats_len]
 have H1:=hide (show IntsAt w A1 p.code.length p.code from h1b.row)
 have H3:=hide (show IntsAt w A3 q.code.length q.code from h3b.row)
 clear h1b h2b h3b h4b hp hq h1c h3c
 obtain ⟨m,hm⟩:∃ m,m = p.order.length := ⟨_,rfl⟩
 obtain ⟨n,hn⟩:∃ n,n = q.order.length := ⟨_,rfl⟩
 have HMN:=hide (show cmpP p q = if m = n then Pl.lx p.code q.code else (m:Int) - (n:Int) by unfold cmpP; rw [hm,hn])
 rw [← hm,← hn]
 rw [← hm] at lp
 rw [← hn] at lq
 clear hm hn
 have B0:=hide (show Below w.heap.size w ((w.alloc (.cells #[.slice A1 p.code.length e1,.slice A2 m e2,.int .i64 x] 116)).alloc (.cells #[.slice A3 q.code.length e3,.slice A4 n e4,.int .i64 x'] 116)) from ((Below.refl _ _).alloc (Nat.le_refl _) _).alloc (by simp) _)
 by_cases he:m = n
 ·subst he
  have HR:=hide (show cmpP p q = Pl.lx p.code q.code by rw [HMN.out,if_pos rfl])
  go_enter Try.func140,Try.ntmps140
  go_wp2_with fail
  refine (compare_any p.code q.code A1 A3 _ _ e1 e3 _ (H1.out.keep B0.out) (H3.out.keep B0.out) (by omega) (by omega)).mono ?_
  rintro e w1 ⟨rfl,rfl⟩
  go_wp2
  go_ret
  exact ⟨by rw [HR.out]; rfl,B0.out⟩
 ·have HR:=hide (show cmpP p q = (m:Int) - (n:Int) by rw [HMN.out,if_neg he])
  have hei:¬ ((m:Int) = (n:Int)):=by omega
  have heb:((m:Int) != (n:Int)) = true:=by rw [bne_iff_ne]; exact hei
  clear he
  go_enter Try.func140,Try.ntmps140
  go_wp2
  go_ret
  exact ⟨ret_int (by rw [HR.out]),B0.out⟩
end Go.Proofs.Ytghdiolnonejaaa
end
section
namespace Go.Proofs.Ytghdiolnonejaaa
open Go Go.RowKit
attribute [local go_sem ↓] Go.wp_at_zero Go.wp_at_succ
theorem cmp_kle {p q:Pl.Pc} (hp:p.code.length = 5 * p.order.length) (hq:q.code.length = 5 * q.order.length):cmpP p q < 0 ↔ ¬ Pl.leP q p := by
 unfold cmpP Pl.leP Pl.kle
 by_cases h:p.order.length = q.order.length
 ·rw [if_pos h]
  have:=Pl.lx_neg p.code q.code
  constructor
  ·rintro h1 (h2 | ⟨_,h2⟩) <;> omega
  ·intro h1
   rcases Int.lt_or_le (Pl.lx p.code q.code) 0 with h2 | h2
   ·exact h2
   ·exact absurd (.inr ⟨by omega,by omega⟩) h1
 ·rw [if_neg h]
  constructor
  ·rintro h1 (h2 | ⟨h2,_⟩) <;> omega
  ·intro h1
   rcases Nat.lt_or_ge p.order.length q.order.length with h2 | h2
   ·omega
   ·exact absurd (.inl (by omega)) h1
theorem PcsV.at_ {W:World}:∀ {cs:List Value} {ps:List Pl.Pc},PcsV W cs ps → ∀ {j:Nat} {p:Pl.Pc},ps[j]? = some p → ∃ vC vO x,PcV W vC vO x p ∧ cs[j * 3]? = some vC ∧ cs[j * 3 + 1]? = some vO ∧ cs[j * 3 + 2]? = some (.int .i64 x)
 | [],[],_,j,p,h => by simp at h
 | vC :: vO :: .int .i64 x :: r, q :: ps, hv, 0, p, h => by
   obtain rfl:q = p := by simpa using h
   exact ⟨vC,vO,x,hv.1,rfl,rfl,rfl⟩
 | vC :: vO :: .int .i64 x :: r, q :: ps, hv, j + 1, p, h => by
   obtain ⟨a,b,y,h1,h2,h3,h4⟩:=PcsV.at_ hv.2 (j := j) (p := p) (by simpa using h)
   refine ⟨a,b,y,h1,?_,?_,?_⟩
   ·rw [show (j + 1) * 3 = j * 3 + 3 by omega]; exact h2
   ·rw [show (j + 1) * 3 + 1 = j * 3 + 1 + 3 by omega]; exact h3
   ·rw [show (j + 1) * 3 + 2 = j * 3 + 2 + 3 by omega]; exact h4
theorem PcsV.put {W:World} {vC vO:Value} {x:Int} {p:Pl.Pc} (hp:PcV W vC vO x p):∀ {cs:List Value} {ps:List Pl.Pc},PcsV W cs ps → ∀ (j:Nat),j < ps.length → PcsV W (((cs.set (j * 3) vC).set (j * 3 + 1) vO).set (j * 3 + 2) (.int .i64 x)) (ps.set j p)
 | [],[],_,j,h => by simp at h
 | vC' :: vO' :: .int .i64 x' :: r,q :: ps,hv,0,h => ⟨hp,hv.2⟩
 | vC' :: vO' :: .int .i64 x' :: r, q :: ps, hv, j + 1, h => by
   have ih:=PcsV.put hp hv.2 j (by simpa using h)
   rw [show (j + 1) * 3 = j * 3 + 3 by omega,show j * 3 + 3 + 1 = (j * 3 + 1) + 3 by omega,show j * 3 + 3 + 2 = (j * 3 + 2) + 3 by omega]
   exact ⟨hv.1,ih⟩
end Go.Proofs.Ytghdiolnonejaaa
end
section
namespace Go.Proofs.Ytghdiolnonejaaa
open Go Go.RowKit
attribute [local go_sem ↓] Go.wp_at_zero Go.wp_at_succ
structure BB (w W:World):Prop where
 b:Below w.heap.size w W
theorem BB.refl (w:World):BB w w := ⟨Below.refl _ _⟩
theorem row_new3 (W:World) (g:Nat) (a b c:Value) (h:g = W.heap.size):Row (W.alloc (.cells #[a,b,c] 24)) g 24 [a,b,c] := row_at (vs := [a,b,c]) h
theorem BB.drew {w W:World} (h:BB w W):BB w W.drew := ⟨h.b.drew⟩
theorem BB.alloc {w W:World} (h:BB w W) (o:Obj):BB w (W.alloc o) := ⟨h.b.alloc h.b.size o⟩
section
variable {w W W':World} {A B:Option Addr} {d r:Pl.Dg} {l:List Mv} {v:Value} {A9 B9:Option Addr} {n c8 m c9 lp:Nat}
end
end Go.Proofs.Ytghdiolnonejaaa
end
section
namespace Go.Proofs.Ytghdiolnonejaaa
open Go Go.RowKit
attribute [local go_sem ↓] Go.wp_at_zero Go.wp_at_succ
theorem IRow.T {w:World} {g n:Nat} {zs:List Int} (h:IRow w g zs) (hn:zs.length = n):RowT w 3 (some ⟨g,0,none⟩) n (zs.map (.int .i64)) := by
 subst hn
 refine ⟨by simp,fun _ => ⟨g,0,_,(0,0),rfl,h,fun j u hu => ?_⟩⟩
 rw [Nat.zero_add,List.getElem?_toArray]
 exact hu
structure NQ (w:World) (dv:List Value) (gn:Nat) (num:List Int) (W:World):Prop where
 box:Row W w.heap.size 24 dv
 res:Row W (w.heap.size + 1) 24 [.slice none 0 0,.slice none 0 0,.int .i64 0]
 nr:IRow W gn num
 bel:Below w.heap.size w W
 lo:w.heap.size + 1 < gn
section
variable {w W W':World} {dv:List Value} {gn:Nat} {num:List Int}
theorem NQ.below (h:NQ w dv gn num W) (hb:Below W.heap.size W W'):NQ w dv gn num W' := ⟨h.box.below hb,h.res.below hb,Row.below h.nr hb,h.bel.trans (hb.mono h.bel.size),h.lo⟩
theorem NQ.setN (h:NQ w dv gn num W) (i:Nat) (v:Int):NQ w dv gn (num.set i v) (W.setCell ⟨gn,i,none⟩ (.int .i64 v)) := by
 have a:=h.lo
 exact ⟨h.box.other (by show _ ≠ gn; omega) _,h.res.other (by show _ ≠ gn; omega) _,h.nr.set i v,h.bel.setCell (by show _ ≤ gn; omega) _,h.lo⟩
end
theorem irow_new (W:World) (n g:Nat) (h:g = W.heap.size):IRow (W.alloc (.cells (Array.replicate n (Value.int .i64 0)) 3)) g (List.replicate n 0) := by subst h; exact IRow.made W n
theorem IRow.al {W:World} {g:Nat} {zs:List Int} (h:IRow W g zs) (o:Obj):IRow (W.alloc o) g zs := Row.alloc h o
theorem IRow.dr {W:World} {g:Nat} {zs:List Int} (h:IRow W g zs):IRow W.drew g zs := Row.drew h
structure RQ (w:World) (dv:List Value) (gn gr gs gm n:Nat) (lp:Int) (num ss ms:List Int) (W:World):Prop where
 q:NQ w dv gn num W
 r:Row W gr 24 [.slice (some ⟨gs,0,none⟩) n n,.slice (some ⟨gm,0,none⟩) (4 * n) (4 * n),.int .i64 lp]
 s:IRow W gs ss
 m:IRow W gm ms
 n1:gs ≠ gm
 n2:gr ≠ gs
 n3:gr ≠ gm
 l1:gn < gr
 l2:gn < gs
 l3:gn < gm
 lo:w.heap.size + 1 < gn
section
variable {w W W':World} {dv:List Value} {gn gr gs gm n:Nat} {lp:Int} {num ss ms:List Int}
theorem NQ.other (h:NQ w dv gn num W) (g:Nat) (hg:w.heap.size + 1 < g) (ne:gn ≠ g) (i:Nat) (v:Value):NQ w dv gn num (W.setCell ⟨g,i,none⟩ v) :=
 ⟨h.box.other (by show _ ≠ g; omega) _,h.res.other (by show _ ≠ g; omega) _,Row.other h.nr ne _,h.bel.setCell (by show _ ≤ g; omega) _,h.lo⟩
theorem RQ.below (h:RQ w dv gn gr gs gm n lp num ss ms W) (hb:Below W.heap.size W W'):RQ w dv gn gr gs gm n lp num ss ms W' :=
 ⟨h.q.below hb,h.r.below hb,Row.below h.s hb,Row.below h.m hb,h.n1,h.n2,h.n3,h.l1,h.l2,h.l3,h.lo⟩
theorem RQ.setS (h:RQ w dv gn gr gs gm n lp num ss ms W) (i:Nat) (v:Int):RQ w dv gn gr gs gm n lp num (ss.set i v) ms (W.setCell ⟨gs,i,none⟩ (.int .i64 v)) := by
 have a:=h.lo
 have b:=h.l2
 exact ⟨h.q.other gs (by omega) (by omega) _ _,h.r.other (show _ ≠ gs from h.n2) _,IRow.set h.s i v,Row.other h.m (show _ ≠ gs from fun e => h.n1 e.symm) _,h.n1,h.n2,h.n3,h.l1,h.l2,h.l3,h.lo⟩
theorem RQ.setM (h:RQ w dv gn gr gs gm n lp num ss ms W) (i:Nat) (v:Int):RQ w dv gn gr gs gm n lp num ss (ms.set i v) (W.setCell ⟨gm,i,none⟩ (.int .i64 v)) := by
 have a:=h.lo
 have b:=h.l3
 exact ⟨h.q.other gm (by omega) (by omega) _ _,h.r.other (show _ ≠ gm from h.n3) _,Row.other h.s (show _ ≠ gm from h.n1) _,IRow.set h.m i v,h.n1,h.n2,h.n3,h.l1,h.l2,h.l3,h.lo⟩
end
end Go.Proofs.Ytghdiolnonejaaa
end
section
namespace Go.Proofs.Ytghdiolnonejaaa
open Go.ChangeShapes Go.WideShapes Go.ChangeAt Go.RowKit Go.Deep
section
variable {H:Type} {enc:TypeId × Value → H} {P:Program} {w:World} {base:Nat} {spare:Nat → Bool} {held:Bool}
theorem post_of_below {f:Func} {s:ChangeSpec} {apart fresh handsOn again:Bool} {W W':World} {args:Array Value} {v:Value} {ds gs:List (DataW H)} {before pa pv:List MemPlace}
 (hW:DataW.Whole enc P f.params.toList s.vars apart W args.toList ds gs before)
 (hres:∀ (b:Nat) (sp:Nat → Bool) (hd:Bool),DataW.TrodAll enc P W' b sp hd f.resultTypes.toList (v.resultList f.resultTypes.size) (s.fn H (ds ++ gs)).results [])
 (hargs:∀ sp:Nat → Bool,(∀ p ∈ before,sp p.block = true) → DataW.TrodAll enc P W' 0 sp true f.params.toList args.toList (s.fn H (ds ++ gs)).args pa)
 (hvars:∀ sp:Nat → Bool,(∀ p ∈ before,sp p.block = true) → DataW.TrodVars enc P W' sp s.vars (s.fn H (ds ++ gs)).vars pv)
 (hps:before = pa ++ pv) (hb:Below W.heap.size W W')
 (hok:∀ (j:Nat) (t:TypeId) (r:Value),f.resultTypes[j]? = some t → (v.resultList f.resultTypes.size)[j]? = some r → Value.okWide P W' .any 0 t r) :
 s.post enc P f apart fresh handsOn again W args v W' := by
 have hlt:∀ p ∈ before,p.block < W.heap.size:=fun p hp => hW.lt p hp
 have hold:∀ p ∈ before,(fun b => decide (b < W.heap.size)) p.block = true:=fun p hp => by simpa using hlt p hp
 refine ⟨ds,gs,before,[],pa,pv,hW,hres _ _ _,hargs _ hold,hvars _ hold,World.keptBut_mono (fun p hp => ⟨hp,?_⟩) (hb.frame (· ∈ before)),fun _ => ?_⟩
 ·rw [hps,List.mem_append] at hp
  exact Or.inr hp
 ·obtain ⟨_,_,_,_,_,hz,hn⟩:=hW
  refine ⟨hok,_,_,([] ++ pa) ++ pv,⟨[] ++ pa,pv,trodAll_append (hargs _ (fun _ _ => rfl)) (hres _ _ _),hvars _ (fun _ _ => rfl),rfl,?_,?_⟩,?_⟩
  ·intro b off hp
   have hin:MemPlace.cell b off ∈ before:=by rw [hps]; simpa using hp
   rw [hb.frozen (hlt _ hin)]
   exact hz b off hin
  ·intro ha
   have:=hn ha
   rw [hps] at this
   simpa using this
  ·intro p hp _
   rw [hps]
   simpa using hp
end
end Go.Proofs.Ytghdiolnonejaaa
end
