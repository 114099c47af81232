/-
 The texts Xt, Tb.
-/
import Derived.Test.YtghdiolnonejaaaGreatDoorS00
import Derived.Test.YtghdiolnonejaaaGreatDoorS01
import Derived.Test.YtghdiolnonejaaaGreatDoorS02
import Derived.Test.YtghdiolnonejaaaGreatDoorS03
import Derived.Test.YtghdiolnonejaaaGreatDoorS04
import Derived.Test.YtghdiolnonejaaaGreatDoorS05
import Derived.Test.YtghdiolnonejaaaGreatDoorS07
import Derived.Test.YtghdiolnonejaaaGreatDoorU00
import Derived.BigQuiet
import Derived.Deep.AppendLies
import Derived.Deep.CutBlock
import Derived.Deep.DeepCutAuto
import Derived.Deep.DrawnRows
import Derived.Deep.Light
import Derived.Deep.LoopGhost
import Derived.Deep.QuietTactic
import Derived.Deep.RegionHeld3
import Derived.Deep.RegionLaw
import Derived.Deep.RegionWith
import Derived.Laws.AppendOwn
import Derived.Laws.MakeOwn
import Derived.Laws.OwnMore
import Derived.Laws.Rows
import Derived.Maps.AppendAt
import Derived.Outline
import Derived.RegionTactic
import Derived.Shelf.Spec.SlicesGrow
import Derived.StillTailTactics
import Derived.Test.YtghdiolnonejaaaGreatDoorRows
import Derived.Test.YtghdiolnonejaaaGreatDoorShelf
import Derived.WalkKit
import Derived.WalkLawsBesides
import Derived.WalkSpells
set_option linter.unusedVariables false
set_option linter.unusedSimpArgs false
section
namespace Go.Proofs.YtghdiolnonejaaaGreatDoor
open Go Go.RowKit
attribute [local go_sem ↓] Go.wp_at_zero Go.wp_at_succ
def upY (d:Pl.Dg) (x:Nat):Nat → List Mv
 | 0 => []
 | k + 1 => upY d x k ++ (if x < k then one (unpC d x k) ⟨4,x,k,0,false⟩ else [])
def upX (d:Pl.Dg):Nat → List Mv
 | 0 => []
 | k + 1 => upX d k ++ upY d k d.n
theorem upY_none (d:Pl.Dg) (x:Nat):∀ k,k ≤ x + 1 → upY d x k = []
 | 0,_ => rfl
 | k + 1, h => by
   show upY d x k ++ (if x < k then one (unpC d x k) ⟨4,x,k,0,false⟩ else []) = []
   rw [upY_none d x k (by omega),if_neg (by omega)]
   rfl
theorem upY_len (d:Pl.Dg) (x:Nat):∀ k,(upY d x k).length ≤ k
 | 0 => Nat.le_refl _
 | k + 1 => by
   have a:=upY_len d x k
   have b:=one_len (unpC d x k) ⟨4,x,k,0,false⟩
   show (upY d x k ++ (if x < k then one (unpC d x k) ⟨4,x,k,0,false⟩ else [])).length ≤ _
   rw [List.length_append]
   split
   ·omega
   ·simp; omega
theorem upX_len {d:Pl.Dg} (hn:d.n ≤ 64):∀ k,(upX d k).length ≤ 64 * k
 | 0 => Nat.le_refl _
 | k + 1 => by
   have a:=upX_len hn k
   have b:=upY_len d k d.n
   show (upX d k ++ upY d k d.n).length ≤ _
   rw [List.length_append]
   omega
set_option maxRecDepth 100000 in
set_option maxHeartbeats 4000000 in
theorem upTry_any (d:Pl.Dg) (hd:Pl.Wf d) (A B:Option Addr) (cp cq m gd gl x y:Nat) (v:Value) (ms:List Mv) (w0 w:World) (hm:m = 4 * d.n) (hg:DgAt w A B d) (hxy:x < y) (hy:y < d.n) (hms:ms.length ≤ 1000000)
 (hp:MG w0 24 gd gl [.slice A d.n cp,.slice B m cq,.int .i64 (d.lp:Int)] v ms w) :
 Calls Tryz.prog 94 #[.agg #[.int .i64 4,.int .i64 (x:Int),.int .i64 (y:Int),.int .i64 0,.bool false],.pointer (some ⟨gd,0,none⟩),.pointer (some ⟨gl,0,none⟩)] w fun e w' => e = .returned (.tuple #[]) ∧ ∃ v',MG w0 24 gd gl [.slice A d.n cp,.slice B m cq,.int .i64 (d.lp:Int)] v' (ms ++ one (unpC d x y) ⟨4,x,y,0,false⟩) w' := by
 have HM:=hide hm
 have HG:=hide hg
 have hn:=hd.few
 obtain ⟨cc,hcc⟩:∃ c',c' = unpC d x y := ⟨_,rfl⟩
 have HC:=hide hcc
 have hb0:Below w.heap.size w (w.alloc (.cells #[.int .i64 4,.int .i64 (x:Int),.int .i64 (y:Int),.int .i64 0,.bool false] 43)):=(Below.refl _ _).alloc (Nat.le_refl _) _
 have HB0:=hide hb0
 have P1:=hide (hp.below hb0)
 have M1:=hide (row_at (W := w) (g := w.heap.size) (t := 43) (vs := [.int .i64 4,.int .i64 (x:Int),.int .i64 (y:Int),.int .i64 0,.bool false]) rfl)
 have hgl:gl < w.heap.size:=hp.big
 have hgd:gd < gl:=hp.lt
 clear hp hb0 hg hm hcc
 obtain ⟨d0,d1,d2,d3⟩:=box3 P1.out.d
 obtain ⟨e0,e1,e2,e3,e4,e5⟩:=box5 M1.out
 go_enter Tryz.func94,Tryz.ntmps94
 go_wp2_with fail
 refine (find_any d hd A B cp cq m x y _ HM.out (HG.out.keep HB0.out) (by omega) hy).mono ?_
 rintro e w1 ⟨he,hb1⟩
 have P2:=hide (P1.out.below hb1)
 have M2:=hide (M1.out.below hb1)
 have HB1:=hide (HB0.out.trans (hb1.mono HB0.out.size))
 have hs2:w.heap.size < w1.heap.size:=M2.out.lt
 have hs3:gl < w1.heap.size:=by omega
 have hs2':w.heap.size < w1.heap.size + 1:=by omega
 have hs1d:gd < w1.heap.size:=by omega
 have hs3':gl < w1.heap.size + 1:=by omega
 have HE:=hide he
 clear hb1 d0 d1 d2 d3 e0 e1 e2 e3 e4 e5 HB0 P1 M1 he
 obtain ⟨d0,d1,d2,d3⟩:=box3 P2.out.d
 obtain ⟨e0,e1,e2,e3,e4,e5⟩:=box5 M2.out
 obtain ⟨L,hL⟩:∃ L,L = lensI d x y := ⟨_,rfl⟩
 have HL:=hide hL
 have HE2:=HE.out
 rw [← hL] at HE2
 clear hL HE
 cases L with
 | some i =>
   unfold findE lensV at HE2
   dsimp only at HE2
   obtain ⟨l0,hl0⟩:∃ z:Nat,z = lnH x y i := ⟨_,rfl⟩
   rw [← hl0] at HE2
   obtain ⟨l1,hl1⟩:∃ z:Nat,z = d.m (Pl.nx d l0) := ⟨_,rfl⟩
   rw [← hl1] at HE2
   obtain ⟨l2,hl2⟩:∃ z:Nat,z = Pl.tn l0 2 := ⟨_,rfl⟩
   rw [← hl2] at HE2
   obtain ⟨l3,hl3⟩:∃ z:Nat,z = Pl.tn l1 2 := ⟨_,rfl⟩
   rw [← hl3] at HE2
   obtain ⟨l4,hl4⟩:∃ z:Nat,z = Pl.tn (d.m l0) 2 := ⟨_,rfl⟩
   rw [← hl4] at HE2
   obtain ⟨l5,hl5⟩:∃ z:Nat,z = Pl.nx d l0 := ⟨_,rfl⟩
   rw [← hl5] at HE2
   obtain ⟨l6,hl6⟩:∃ z:Nat,z = d.m l0 := ⟨_,rfl⟩
   rw [← hl6] at HE2
   obtain ⟨l7,hl7⟩:∃ z:Nat,z = Pl.tn l5 2 := ⟨_,rfl⟩
   rw [← hl7] at HE2
   clear hl0 hl1 hl2 hl3 hl4 hl5 hl6 hl7
   subst HE2
   have PL:=hide (P2.out.alloc (.cells #[.int .i64 (l0:Int),.int .i64 (l1:Int),.int .i64 (l2:Int),.int .i64 (l3:Int),.int .i64 (l4:Int),.int .i64 (l5:Int),.int .i64 (l6:Int),.int .i64 (l7:Int)] 131))
   have ML0:=hide (M2.out.alloc (.cells #[.int .i64 (l0:Int),.int .i64 (l1:Int),.int .i64 (l2:Int),.int .i64 (l3:Int),.int .i64 (l4:Int),.int .i64 (l5:Int),.int .i64 (l6:Int),.int .i64 (l7:Int)] 131))
   have HBL:=hide (HB1.out.alloc HB1.out.size (.cells #[.int .i64 (l0:Int),.int .i64 (l1:Int),.int .i64 (l2:Int),.int .i64 (l3:Int),.int .i64 (l4:Int),.int .i64 (l5:Int),.int .i64 (l6:Int),.int .i64 (l7:Int)] 131))
   go_wp2_with fail
   refine (unpoke_m d hd A B cp cq m x y 4 0 false _ HM.out (HG.out.keep HBL.out) hxy hy).mono ?_
   rintro e w3 ⟨r1,r2,hb3⟩
   have P3:=hide (PL.out.below hb3)
   have M3:=hide (ML0.out.below hb3)
   have hs4:w.heap.size < w3.heap.size:=M3.out.lt
   have hs5:gl < w3.heap.size:=by omega
   rw [← HC.out] at r1 r2
   have R1:=hide r1
   have R2:=hide r2
   clear r1 r2 hb3 d0 d1 d2 d3 e0 e1 e2 e3 e4 e5 HB1 P2 M2 PL ML0 HBL
   obtain ⟨e0,e1,e2,e3,e4,e5⟩:=box5 M3.out
   have hs6:gl < w3.heap.size + 1:=by omega
   have hs7:gl < w3.heap.size + 1 + 1:=by omega
   have hs8:w.heap.size < w3.heap.size + 1:=by omega
   have hs9:w.heap.size < w3.heap.size + 1 + 1:=by omega
   by_cases h0:cc = 0
   ·obtain ⟨A9,B9,c8,c9,k9,x9,y9,s9,o9,hmv,rfl,hT⟩:=ResOk.split (R2.out h0)
    have E:=hide (show one cc ⟨4,x,y,0,false⟩ = [⟨4,x,y,0,false⟩] from one_yes h0)
    clear h0 R1 R2 hmv hT
    obtain ⟨N9,hN9⟩:∃ n,n = (unpD d x y).n := ⟨_,rfl⟩
    obtain ⟨N4,hN4⟩:∃ n,n = 4 * (unpD d x y).n := ⟨_,rfl⟩
    obtain ⟨L9,hL9⟩:∃ n,n = (unpD d x y).lp := ⟨_,rfl⟩
    rw [← hN4,← hN9,← hL9]
    clear hN9 hN4 hL9
    obtain ⟨q0,q1⟩:=box1 P3.out.l
    obtain ⟨n0,hn0,hz0,hz1,hz2⟩:=info_parts moveInfo
    have PA:=hide ((P3.out.alloc (.cells #[.slice A9 N9 c8,.slice B9 N4 c9,.int .i64 (L9:Int)] 24)).alloc (.cells #[.int .i64 k9,.int .i64 x9,.int .i64 y9,.int .i64 s9,.bool o9] 43))
    have A0:=hide (PA.out.alloc (.cells (Mv.cells ⟨4,x,y,0,false⟩).toArray 43)).o
    have A1:∀ u ∈ Mv.cells ⟨4,x,y,0,false⟩,u.oneCell' = true:=by simp [Mv.cells,Value.oneCell']
    have A2:ms.length + 1 ≤ maxLen:=by unfold maxLen; omega
    have A3:(ms.length + 1) * 40 ≤ 140737488355328:=by omega
    have A6:=hide (five_news ((w3.alloc (.cells #[.slice A9 N9 c8,.slice B9 N4 c9,.int .i64 (L9:Int)] 24)).alloc (.cells #[.int .i64 k9,.int .i64 x9,.int .i64 y9,.int .i64 s9,.bool o9] 43)) (w3.heap.size + 1 + 1) (by simp) ⟨4,x,y,0,false⟩)
    go_wp2_with (at_builtin; refine wpList_append_lies _ (by rfl) _ _ 27 (by rfl) (gl + 1) 43 n0 (.agg #[.int .i64 0,.int .i64 0,.int .i64 0,.int .i64 0,.bool false]) 5 40 Tryz.underlying27 hn0 hz0 hz1 hz2 rfl (by omega) v ms.length (mvs ms) (by rfl) A0.out ⟨w3.heap.size + 1 + 1,0,none⟩ 1 1 (Mv.cells ⟨4,x,y,0,false⟩) (by rfl) (by rfl) A6.out A1 (by omega) A2 A3 (by simp; omega) (w3.heap.size + 1 + 1 + 1) (by simp) ?_; intro g2 c2 w2 own2 grow2 at2 lt2; obtain ⟨q2,q3⟩:=box1 ((PA.out.alloc (.cells (Mv.cells ⟨4,x,y,0,false⟩).toArray 43)).l.grown grow2 ((PA.out.alloc (.cells (Mv.cells ⟨4,x,y,0,false⟩).toArray 43)).far (Nat.le_refl _))); have OWN2 := hide own2; have GR2 := hide grow2; clear own2 grow2 at2)
    refine bodyPost_end (results_none rfl _ _ _) rfl ⟨rfl,.slice (some ⟨g2,0,none⟩) (ms.length + 1) c2,?_⟩
    rw [← HC.out,E.out]
    exact (PA.out.alloc _).push OWN2.out GR2.out
   ·have E:=hide (show one cc ⟨4,x,y,0,false⟩ = [] from one_no h0)
    have hE:=ResErr.split (R1.out h0)
    subst hE
    have t1:(cc == 0) = false:=by rw [beq_eq_false_iff_ne]; exact h0
    clear h0 R1 R2
    go_wp2
    refine bodyPost_end (results_none rfl _ _ _) rfl ⟨rfl,v,?_⟩
    rw [← HC.out,E.out,List.append_nil]
    exact (P3.out.alloc _).alloc _
 | none =>
   unfold findE noLens at HE2
   dsimp only at HE2
   have E:=hide (show one cc ⟨4,x,y,0,false⟩ = [] from one_no (by
    rw [HC.out]
    unfold unpC
    rw [← HL.out]
    intro h
    cases h))
   subst HE2
   go_wp2
   refine bodyPost_ret (results_none rfl _ _ _) rfl ⟨rfl,v,?_⟩
   rw [← HC.out,E.out,List.append_nil]
   exact P2.out.alloc _
set_option maxRecDepth 100000 in
set_option maxHeartbeats 4000000 in
theorem unpokes_any (d:Pl.Dg) (hd:Pl.Wf d) (A B:Option Addr) (cp cq m:Nat) (w:World) (hm:m = 4 * d.n) (hg:DgAt w A B d) :
 Calls Tryz.prog 56 #[.agg #[.slice A d.n cp,.slice B m cq,.int .i64 d.lp]] w fun e w' => ∃ v,e = .returned v ∧ MovesIn w.heap.size w' v (upX d d.n) ∧ Below w.heap.size w w' := by
 have HM:=hide hm
 have HG:=hide hg
 have hn:=hd.few
 have P0:=hide (show MG w 24 w.heap.size (w.heap.size + 1) [.slice A d.n cp,.slice B m cq,.int .i64 (d.lp:Int)] (.slice none 0 0) [] ((w.alloc (.cells #[.slice A d.n cp,.slice B m cq,.int .i64 (d.lp:Int)] 24)).alloc (.cells #[.slice none 0 0] 27)) from
  ⟨(row_at (vs := [_,_,_]) rfl).alloc _,row_at (vs := [_]) (by simp),⟨rfl,.inl ⟨rfl,rfl⟩⟩,((Below.refl _ _).alloc (Nat.le_refl _) _).alloc (by simp) _,Nat.le_refl _,by omega⟩)
 clear hg hm
 go_enter Tryz.func56,Tryz.ntmps56
 go_wp2
 go_loopg [5,6,11] d.n (fun g s5 s6 s11 wx => ∃ (k:Nat) (v:Value),k + g = d.n ∧ s11 = .int .i64 (k:Int) ∧ MG w 24 w.heap.size (w.heap.size + 1) [.slice A d.n cp,.slice B m cq,.int .i64 (d.lp:Int)] v (upX d k) wx)
 case atStart => exact ⟨0,_,by omega,rfl,P0.out⟩
 case round =>
  clear P0
  obtain ⟨k,v,hkg,rfl,hp⟩:=hrel
  obtain ⟨go,rfl⟩:∃ go,go = gk := ⟨_,rfl⟩
  have HKG:=hide hkg
  have PK:=hide hp
  have hlen:=upX_len hn k
  clear hp
  by_cases hk:k < d.n
  ·have hki:(k:Int) < (d.n:Int):=by omega
   clear hkg
   go_wp2
   go_loopg [6] (d.n - (k + 1)) (fun g s6 wx => ∃ (j:Nat) (u:Value),j + g = d.n ∧ k + 1 ≤ j ∧ s6 = .int .i64 (j:Int) ∧ MG w 24 w.heap.size (w.heap.size + 1) [.slice A d.n cp,.slice B m cq,.int .i64 (d.lp:Int)] u (upX d k ++ upY d k j) wx)
   case atStart => exact ⟨k + 1,v,by omega,by omega,by go_num,by rw [upY_none d k (k + 1) (Nat.le_refl _),List.append_nil]; exact PK.out⟩
   case round =>
    clear PK
    obtain ⟨j,u,hjg,hkj,rfl,hq⟩:=hrel
    have HJG:=hide hjg
    have QJ:=hide hq
    have hlen2:=upY_len d k j
    obtain ⟨d0,d1,d2,d3⟩:=box3 hq.d
    clear hq hjg
    by_cases hj:j < d.n
    ·have hji:(j:Int) < (d.n:Int):=by omega
     go_wp2_with fail
     refine (upTry_any d hd A B cp cq m _ _ k j u _ w _ HM.out (HG.out.keep QJ.out.bel) (by omega) hj (by simp only [List.length_append]; omega) QJ.out).mono ?_
     rintro e w1 ⟨rfl,u1,hp1⟩
     have Q1:=hide hp1
     clear hp1
     go_wp2
     go_roundg (gk - 1)
     case measure => have := HJG.out; omega
     case rel =>
      have e2:upY d k (j + 1) = upY d k j ++ one (unpC d k j) ⟨4,k,j,0,false⟩:=by
       show upY d k j ++ (if k < j then one (unpC d k j) ⟨4,k,j,0,false⟩ else []) = _
       rw [if_pos (by omega)]
      exact ⟨j + 1,u1,by have := HJG.out; omega,by omega,by go_num,by rw [e2]; simpa using Q1.out⟩
    ·have hji:¬ ((j:Int) < (d.n:Int)):=by omega
     have E2:=hide (show upX d (k + 1) = upX d k ++ upY d k j by
      have:j = d.n:=by have := HJG.out; omega
      rw [this]; rfl)
     go_wp2
     go_roundg (go - 1)
     case measure => have := HKG.out; omega
     case rel => exact ⟨k + 1,u,by have := HKG.out; omega,by go_num,by rw [E2.out]; exact QJ.out⟩
  ·have hki:¬ ((k:Int) < (d.n:Int)):=by omega
   have e:k = d.n:=by omega
   have EL:=hide (show upX d k = upX d d.n by rw [e])
   obtain ⟨q0,q1⟩:=box1 PK.out.l
   clear hkg e
   go_wp2
   go_ret
   exact ⟨v,rfl,⟨w.heap.size + 1 + 1,by omega,PK.out.big,by rw [← EL.out]; exact PK.out.o⟩,PK.out.bel⟩
end Go.Proofs.YtghdiolnonejaaaGreatDoor
end
section
namespace Go.Proofs.YtghdiolnonejaaaGreatDoor
open Go Go.RowKit
attribute [local go_sem ↓] Go.wp_at_zero Go.wp_at_succ
section
variable {w W W':World} {ga k:Nat} {most:Int} {d r:Pl.Dg} {cs:List Int} {l:List Mv} {v:Value} {A9 B9:Option Addr} {n c8 m c9 lp:Nat}
end
theorem own_row_neM {W:World} {base b n:Nat} {t:TypeId} {v:Value} {xs vs:List Value} (h:W.ownsRow base 43 5 v n xs) (hr:Row W b t vs) (ht:43 ≠ t):some b ≠ v.ownBlock := by
 intro e
 obtain ⟨cs,fr,h3⟩:=ownsRow_block h b e.symm
 rw [hr] at h3
 injection h3 with h3
 injection h3 with _ h4
 exact ht h4.symm
theorem DgT.grownM {w w':World} {A B:Option Addr} {d:Pl.Dg} {base n:Nat} {v:Value} {xs:List Value} (h:DgT w A B d) (ho:w.ownsRow base 43 5 v n xs) (hg:w.grownBy w' v.ownBlock):DgT w' A B d :=
 ⟨h.s.grown hg (fun g e => ownsRow_block ho g e) (by decide),h.m.grown hg (fun g e => ownsRow_block ho g e) (by decide)⟩
end Go.Proofs.YtghdiolnonejaaaGreatDoor
end
