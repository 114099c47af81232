/-
 The text Xh.
-/
import Derived.Test.YtobbepmlmbbamaaCXg
import Derived.Test.YtobbepmlmbbamaaRows
import Derived.ProofKit
import Derived.OpenShut
import Derived.Deep.Slices
import Derived.Deep.Fields
import Derived.ChangeSame
import Derived.ChangeSlices
import Derived.Deep.Strs
set_option linter.unusedVariables false
set_option linter.unusedSimpArgs false
section
namespace Go.Proofs.Ytobbepmlmbbamaa
open Go Go.RowKit
theorem ints_eq (A B:Option Addr) (n ca cb:Nat) (xs:List Int) (w:World) (hx:IntsAt w A n xs) (hy:IntsAt w B n xs) (hn:n ≤ 100000) :
 Calls Try.prog 45 #[.slice A n ca,.slice B n cb] w fun e w' => e = .returned (.bool true) ∧ Below w.heap.size w w' := by
 have HX:=hide hx
 have HY:=hide hy
 clear hx hy
 go_enter Try.func45,Try.ntmps45
 go_wp2
 go_loopg [5] n (fun g i wx => ∃ k:Nat,k + g = n ∧ i = .int .i64 k ∧ Below w.heap.size w wx)
 case atStart => exact ⟨0,by omega,rfl,Below.refl _ _⟩
 case round =>
  obtain ⟨k,hkg,rfl,hb⟩:=hrel
  have HB:=hide hb
  have HKG:=hide hkg
  clear hb
  by_cases hk:k < n
  ·have hki:(k:Int) < (n:Int):=by omega
   obtain ⟨b,o,rfl,c1⟩:=(HX.out.keep HB.out).at_ hk
   obtain ⟨b2,o2,rfl,c2⟩:=(HY.out.keep HB.out).at_ hk
   have k0:(0:Int) ≤ (k:Int):=by omega
   obtain ⟨u,hu⟩:∃ u,u = xs.getD k 0 := ⟨_,rfl⟩
   rw [← hu] at c1 c2
   clear hu hkg
   go_upto_region 6 with fail
   go_quiet (fail)
   go_wp2
   go_roundg (gk - 1)
   case measure => have := HKG.out; omega
   case rel => exact ⟨k + 1,by have := HKG.out; omega,by go_num,below_drewN HB.out _⟩
  ·have hki:¬ ((k:Int) < (n:Int)):=by omega
   clear hkg
   go_wp2
   go_ret
   exact ⟨rfl,HB.out⟩
theorem none_at (w:World) (l:Nat):DgAt w none none ⟨[],[],l⟩:=⟨RowAt.nil w,RowAt.nil w⟩
theorem ap1 (w:World):Calls Try.prog 22 #[.agg #[.slice none 0 0,.slice none 0 0,.int .i64 1],.agg #[.int .i64 1,.int .i64 (-1),.int .i64 0,.int .i64 1,.bool false]] w
 fun e w' => ∃ (A B:Option Addr) (c1 c2:Nat),e = .returned (.tuple #[.agg #[.slice A 1 c1,.slice B 4 c2,.int .i64 0],.agg #[.int .i64 2,.int .i64 0,.int .i64 0,.int .i64 0,.bool false],.int .i64 0]) ∧ IntsAt w' A 1 [1] ∧ IntsAt w' B 4 [1,0,3,2] ∧ Below w.heap.size w w' := by
 refine (apply_1 ⟨[],[],1⟩ (valid_empty (by omega)) none none 0 0 0 (-1) 0 1 false w rfl (none_at w 1) (by unfold inR; simp [Pl.Dg.n])).mono ?_
 rintro e w' ⟨_,h2,hb⟩
 obtain ⟨A,B,c1,c2,he,hd⟩:=h2 (by rfl)
 exact ⟨A,B,c1,c2,he,hd.at.s,hd.at.m,hb⟩
theorem ap2 (w:World):Calls Try.prog 22 #[.agg #[.slice none 0 0,.slice none 0 0,.int .i64 2],.agg #[.int .i64 3,.int .i64 (-1),.int .i64 (-1),.int .i64 0,.bool false]] w
 fun e w' => ∃ (A B:Option Addr) (c1 c2:Nat),e = .returned (.tuple #[.agg #[.slice A 2 c1,.slice B 8 c2,.int .i64 0],.agg #[.int .i64 4,.int .i64 0,.int .i64 1,.int .i64 0,.bool false],.int .i64 0]) ∧ DgAt w' A B two ∧ Below w.heap.size w w' := by
 refine (apply_3 ⟨[],[],2⟩ (valid_empty (by omega)) none none 0 0 0 (-1) (-1) 0 false w rfl (none_at w 2) (by unfold inR; simp [Pl.Dg.n])).mono ?_
 rintro e w' ⟨_,h2,hb⟩
 have hc:pkQ ⟨[],[],2⟩ (-1) (-1) 0 = 0:=by
  unfold pkQ
  rw [Pl.vb_false (fun h => absurd h.1 (by decide))]
  rfl
 obtain ⟨A,B,c1,c2,he,hd⟩:=h2 hc
 rw [two_is] at he hd
 exact ⟨A,B,c1,c2,he,hd.at,hb⟩
theorem ap3 (A B:Option Addr) (c1 c2:Nat) (w:World) (hg:DgAt w A B two):Calls Try.prog 22 #[.agg #[.slice A 2 c1,.slice B 8 c2,.int .i64 0],.agg #[.int .i64 4,.int .i64 0,.int .i64 1,.int .i64 0,.bool false]] w
 fun e w' => ∃ (A B:Option Addr) (c1 c2:Nat) (x y s:Int) (o:Bool),e = .returned (.tuple #[.agg #[.slice A 0 c1,.slice B 0 c2,.int .i64 2],.agg #[.int .i64 3,.int .i64 x,.int .i64 y,.int .i64 s,.bool o],.int .i64 0]) ∧ Below w.heap.size w w' := by
 refine (apply_4 two two_valid A B c1 c2 8 0 1 0 false w rfl hg (by unfold inR; simp [Pl.Dg.n,two])).mono ?_
 rintro e w' ⟨_,h2,hb⟩
 obtain ⟨hc,hD,hI⟩:=two_unp
 obtain ⟨A,B,c1,c2,k,x,y,s,o,hm,he,hd⟩:=(h2 hc).split
 rw [hD] at he
 rw [hm] at hI
 have hk:k = 3:=hI
 subst hk
 exact ⟨A,B,c1,c2,x,y,s,o,he,hb⟩
set_option maxRecDepth 100000 in
set_option maxHeartbeats 4000000 in
theorem awake_true (w:World):Calls Try.prog 20 #[] w fun e w' => e = .returned (.bool true) ∧ Below w.heap.size w w' := by
 go_enter Try.func20,Try.ntmps20
 go_wp2_with fail
 refine (ap1 w).mono ?_
 rintro e w1 ⟨A1,B1,c1,c2,rfl,hs1,hm1,hb1⟩
 have HS1:=hide hs1
 have HM1:=hide hm1
 have B1':=hide hb1
 clear hs1 hm1 hb1
 go_wp2_with fail
 refine (ap2 _).mono ?_
 rintro e w2 ⟨A2,B2,c3,c4,rfl,hg2,hb2⟩
 have HG2:=hide hg2
 have B2':=hide hb2
 clear hg2 hb2
 have R1:=hide (show Row w2 w1.heap.size 24 [.slice A1 1 c1,.slice B1 4 c2,.int .i64 0] from ((row_at (vs := [_,_,_]) rfl).alloc _).below B2'.out)
 have R2:=hide (show Row w2 (w1.heap.size + 1) 28 [.int .i64 2,.int .i64 0,.int .i64 0,.int .i64 0,.bool false] from (row_at (vs := [_,_,_,_,_]) (by simp)).below B2'.out)
 have C2:=hide (show Below w.heap.size w w2 from ((B1'.out.alloc B1'.out.size (.cells #[.slice A1 1 c1,.slice B1 4 c2,.int .i64 0] 24)).alloc (B1'.out.alloc B1'.out.size (.cells #[.slice A1 1 c1,.slice B1 4 c2,.int .i64 0] 24)).size _).trans (B2'.out.mono ((B1'.out.alloc B1'.out.size (.cells #[.slice A1 1 c1,.slice B1 4 c2,.int .i64 0] 24)).alloc (B1'.out.alloc B1'.out.size (.cells #[.slice A1 1 c1,.slice B1 4 c2,.int .i64 0] 24)).size _).size))
 have D12:=hide (show Below w1.heap.size w1 w2 from (((Below.refl _ _).alloc (Nat.le_refl _) (.cells #[.slice A1 1 c1,.slice B1 4 c2,.int .i64 0] 24)).alloc (by simp) (.cells #[.int .i64 2,.int .i64 0,.int .i64 0,.int .i64 0,.bool false] 28)).trans (B2'.out.mono (by simp; omega)))
 go_wp2_with fail
 refine (ap3 A2 B2 c3 c4 _ (HG2.out.keep (((Below.refl _ _).alloc (Nat.le_refl _) _).alloc (by simp) _))).mono ?_
 rintro e w3 ⟨A3,B3,c5,c6,x3,y3,s3,o3,rfl,hb3⟩
 have B3':=hide hb3
 clear hb3
 have S1:=hide (show Row w3 w2.heap.size 24 [.slice A2 2 c3,.slice B2 8 c4,.int .i64 0] from ((row_at (vs := [_,_,_]) rfl).alloc _).below B3'.out)
 have D23:=hide (show Below w2.heap.size w2 w3 from (((Below.refl _ _).alloc (Nat.le_refl _) (.cells #[.slice A2 2 c3,.slice B2 8 c4,.int .i64 0] 24)).alloc (by simp) (.cells #[.int .i64 4,.int .i64 0,.int .i64 1,.int .i64 0,.bool false] 28)).trans (B3'.out.mono (by simp; omega)))
 have C3:=hide (show Below w.heap.size w w3 from C2.out.trans (D23.out.mono C2.out.size))
 have HS3:=hide (HS1.out.keep (D12.out.trans (D23.out.mono D12.out.size)))
 have HM3:=hide (HM1.out.keep (D12.out.trans (D23.out.mono D12.out.size)))
 obtain ⟨r0,r1,r2,r3⟩:=box3 (R1.out.below D23.out)
 obtain ⟨t0,t1,t2,t3,t4,t5⟩:=box5 (R2.out.below D23.out)
 obtain ⟨s0,s1,s2,s3'⟩:=box3 S1.out
 obtain ⟨b,o,rfl,cs⟩:=HS3.out.at_ (k := 0) (by omega)
 have hlb:b < w3.heap.size:=lt_of_cell cs
 have cs':w3.cell? ⟨b,o,none⟩ = some (.int .i64 1):=cs
 clear cs
 have q1:w1.heap.size < w3.heap.size:=lt_of_cell r0
 have q2:w1.heap.size + 1 < w3.heap.size:=lt_of_cell t0
 have q3:w2.heap.size < w3.heap.size:=lt_of_cell s0
 go_wp2_with fail
 have W4:=hide (show Below w3.heap.size w3 (((w3.alloc (.cells #[.slice A3 0 c5,.slice B3 0 c6,.int .i64 2] 24)).alloc (.cells #[.int .i64 3,.int .i64 x3,.int .i64 y3,.int .i64 s3,.bool o3] 28)).alloc (.cells #[.int .i64 1,.int .i64 0,.int .i64 3,.int .i64 2] 3)) from (((Below.refl _ _).alloc (Nat.le_refl _) _).alloc (by simp) _).alloc (by simp; omega) _)
 have I4:=hide (show IntsAt (((w3.alloc (.cells #[.slice A3 0 c5,.slice B3 0 c6,.int .i64 2] 24)).alloc (.cells #[.int .i64 3,.int .i64 x3,.int .i64 y3,.int .i64 s3,.bool o3] 28)).alloc (.cells #[.int .i64 1,.int .i64 0,.int .i64 3,.int .i64 2] 3)) (some ⟨w3.heap.size + 1 + 1,0,none⟩) 4 [1,0,3,2] from
  IRow.ints (zs := [1,0,3,2]) (row_at (vs := [_,_,_,_]) (by simp)))
 have V1:=hide (show Row (((w3.alloc (.cells #[.slice A3 0 c5,.slice B3 0 c6,.int .i64 2] 24)).alloc (.cells #[.int .i64 3,.int .i64 x3,.int .i64 y3,.int .i64 s3,.bool o3] 28)).alloc (.cells #[.int .i64 1,.int .i64 0,.int .i64 3,.int .i64 2] 3)) w3.heap.size 24 [.slice A3 0 c5,.slice B3 0 c6,.int .i64 2] from ((row_at (vs := [_,_,_]) rfl).alloc _).alloc _)
 have V2:=hide (show Row (((w3.alloc (.cells #[.slice A3 0 c5,.slice B3 0 c6,.int .i64 2] 24)).alloc (.cells #[.int .i64 3,.int .i64 x3,.int .i64 y3,.int .i64 s3,.bool o3] 28)).alloc (.cells #[.int .i64 1,.int .i64 0,.int .i64 3,.int .i64 2] 3)) (w3.heap.size + 1) 28 [.int .i64 3,.int .i64 x3,.int .i64 y3,.int .i64 s3,.bool o3] from (row_at (vs := [_,_,_,_,_]) (by simp)).alloc _)
 refine (ints_eq B1 (some ⟨w3.heap.size + 1 + 1,0,none⟩) 4 c2 4 [1,0,3,2] _ (HM3.out.keep W4.out) I4.out (by omega)).mono ?_
 rintro e w5 ⟨rfl,hb5⟩
 have C5:=hide (C3.out.trans ((W4.out.trans (hb5.mono W4.out.size)).mono C3.out.size))
 have T1:=hide (S1.out.below (W4.out.trans (hb5.mono W4.out.size)))
 have U1:=hide (V1.out.below hb5)
 have U2:=hide (V2.out.below hb5)
 clear r0 r1 r2 r3 t0 t1 t2 t3 t4 t5 s0 s1 s2 s3' q1 q2 q3 hb5 hlb cs'
 obtain ⟨s0,s1,s2,s3'⟩:=box3 T1.out
 obtain ⟨r0,r1,r2,r3⟩:=box3 U1.out
 obtain ⟨t0,t1,t2,t3,t4,t5⟩:=box5 U2.out
 go_wp2
 go_ret
 exact ⟨rfl,C5.out⟩
end Go.Proofs.Ytobbepmlmbbamaa
end
