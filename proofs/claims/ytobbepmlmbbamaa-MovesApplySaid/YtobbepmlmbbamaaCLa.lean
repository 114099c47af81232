/-
 The text La.
-/
import Derived.Test.YtobbepmlmbbamaaCRap
import Derived.Test.YtobbepmlmbbamaaCSm
import Derived.Test.YtobbepmlmbbamaaCXm
import Derived.Test.YtobbepmlmbbamaaRows
import Derived.ProofKit
import Derived.OpenShut
import Derived.Deep.Slices
import Derived.Deep.Fields
import Derived.ChangeSame
import Derived.ChangeSlices
import Derived.Deep.Strs
set_option linter.unusedVariables false
set_option linter.unusedSimpArgs false
section
namespace Go.Proofs.Ytobbepmlmbbamaa
open Go Go.RowKit
theorem same_nil (w:World):Calls Try.prog 24 #[.agg #[.slice none 0 0,.slice none 0 0,.int .i64 0],.agg #[.slice none 0 0,.slice none 0 0,.int .i64 0]] w fun e w' => e = .returned (.bool true) ∧ Below w.heap.size w w' :=
 same_yes [] [] 0 none none none none 0 0 0 0 0 0 w (RowAt.nil w) (RowAt.nil w) (RowAt.nil w) (RowAt.nil w) (by omega) (by omega)
theorem below_two {W:World} {o1 o2:Obj}:Below W.heap.size W ((W.alloc o1).alloc o2) := ((Below.refl _ _).alloc (Nat.le_refl _) _).alloc (by simp) _
set_option maxRecDepth 100000 in
set_option maxHeartbeats 4000000 in
theorem mapply_valid (d:Pl.Dg) (hd:Pl.Valid d) (A B:Option Addr) (cp cq m:Nat) (k x y s:Int) (o:Bool) (w:World) (hm:m = 4 * d.n) (hg:DgAt w A B d) :
 Calls Try.prog 4 #[.agg #[.slice A d.n cp,.slice B m cq,.int .i64 d.lp],(Mv.mk k x y s o).v] w fun e w' => e = .returned (.bool true) ∧ Below w.heap.size w w' := by
 have hn:=hd.wf.few
 have HM:=hide hm
 have HG:=hide hg
 clear hm hg
 have X0:=hide (show Row ((w.alloc (.cells #[.slice A d.n cp,.slice B m cq,.int .i64 d.lp] 24)).alloc (.cells #[.int .i64 k,.int .i64 x,.int .i64 y,.int .i64 s,.bool o] 28)) w.heap.size 24 [.slice A d.n cp,.slice B m cq,.int .i64 d.lp] from (row_at (vs := [_,_,_]) rfl).alloc _)
 have X1:=hide (show Row ((w.alloc (.cells #[.slice A d.n cp,.slice B m cq,.int .i64 d.lp] 24)).alloc (.cells #[.int .i64 k,.int .i64 x,.int .i64 y,.int .i64 s,.bool o] 28)) (w.heap.size + 1) 28 [.int .i64 k,.int .i64 x,.int .i64 y,.int .i64 s,.bool o] from row_at (vs := [_,_,_,_,_]) (by simp))
 have B0:=hide (show Below w.heap.size w ((w.alloc (.cells #[.slice A d.n cp,.slice B m cq,.int .i64 d.lp] 24)).alloc (.cells #[.int .i64 k,.int .i64 x,.int .i64 y,.int .i64 s,.bool o] 28)) from below_two)
 unfold Mv.v
 go_enter Try.func4,Try.ntmps4
 go_wp2_with fail
 refine (awake_true _).mono ?_
 rintro e w1 ⟨rfl,hb1⟩
 have Y0:=hide (X0.out.below hb1)
 have Y1:=hide (X1.out.below hb1)
 have B1:=hide (B0.out.trans (hb1.mono B0.out.size))
 clear X0 X1 B0 hb1
 obtain ⟨d0,d1,d2,d3⟩:=box3 Y0.out
 go_wp2_with fail
 refine (small_any A B d.n m cp cq (.int .i64 d.lp) w1).mono ?_
 rintro e w2 ⟨he,hb2⟩
 have Z0:=hide (Y0.out.below hb2)
 have Z1:=hide (Y1.out.below hb2)
 have B2:=hide (B1.out.trans (hb2.mono B1.out.size))
 clear Y0 Y1 B1 hb2 d0 d1 d2 d3
 obtain ⟨d0,d1,d2,d3⟩:=box3 Z0.out
 obtain ⟨m0,m1,m2,m3,m4,m5⟩:=box5 Z1.out
 rcases he with rfl | rfl
 ·go_wp2
  go_ret
  exact ⟨rfl,B2.out⟩
 ·go_wp2_with fail
  refine (apply_any d hd A B cp cq m ⟨k,x,y,s,o⟩ w2 HM.out (HG.out.keep B2.out)).mono ?_
  intro e w3 hres
  have R0:=hide (Z0.out.below hres.2.2)
  have R1:=hide (Z1.out.below hres.2.2)
  have B3:=hide (B2.out.trans (hres.2.2.mono B2.out.size))
  have PRE:=hide (fun (W:World) (hW:DgAt W A B d) => rapply_any d hd A B cp cq m ⟨k,x,y,s,o⟩ W HM.out hW)
  by_cases hc:apC d ⟨k,x,y,s,o⟩ = 0
  ·have FEW := hide (show (apD d ⟨k, x, y, s, o⟩).n ≤ 70 by
    have h1:=(signs_law hd ⟨k,x,y,s,o⟩ hc).2.1
    have h2:-2 ≤ moreK ⟨k,x,y,s,o⟩ ∧ moreK ⟨k,x,y,s,o⟩ ≤ 2:=by unfold moreK; simp only; (repeat' split) <;> omega
    have h3:((apD d ⟨k,x,y,s,o⟩).n:Int) = d.n + moreK ⟨k,x,y,s,o⟩:=h1
    omega)
   obtain ⟨A9,B9,c8,c9,k9,x9,y9,s9,o9,hmv,rfl,hT⟩:=(hres.2.1 hc).split
   have HMV:=hide hmv
   have HTT:=hide hT
   have HC:=hide hc
   clear hc hmv hT hres d0 d1 d2 d3 m0 m1 m2 m3 m4 m5 Z0 Z1 B2
   obtain ⟨r,hr⟩:∃ r,r = apD d ⟨k,x,y,s,o⟩:=⟨_,rfl⟩
   have PRE2:=hide (fun (W:World) (hW:DgAt W A B d) => (PRE.out W hW).mono (R' := fun e w' => ∃ (A8 B8:Option Addr) (c6 c7:Nat),e = .returned (.tuple #[.agg #[.slice A8 r.n c6,.slice B8 (4 * r.n) c7,.int .i64 (r.lp:Int)],.agg #[.int .i64 k9,.int .i64 x9,.int .i64 y9,.int .i64 s9,.bool o9],.int .i64 0]) ∧ DgT w' A8 B8 r ∧ Below W.heap.size W w') (fun e w' h => by
    obtain ⟨A8,B8,c6,c7,he,hT⟩:=h.2.1 HC.out
    rw [HMV.out] at he
    rw [← hr] at he hT
    exact ⟨A8,B8,c6,c7,he,hT,h.2.2⟩))
   rw [← hr] at HTT FEW ⊢
   clear hr PRE HMV
   have GS:=hide (show ∀ W,Below w3.heap.size w3 W → IntsAt W A9 r.n r.sg ∧ IntsAt W B9 (4 * r.n) (nats r.mt) from fun W hb => ⟨(HTT.out.s.row).keep hb,(HTT.out.m.row).keep hb⟩)
   have HTS:=hide (fun (A8 B8:Option Addr) (W:World) (h:DgT W A8 B8 r) => show IntsAt W A8 r.n r.sg ∧ IntsAt W B8 (4 * r.n) (nats r.mt) from ⟨h.s.row,h.m.row⟩)
   obtain ⟨N9,hN9⟩:∃ n,n = r.n := ⟨_,rfl⟩
   obtain ⟨M9,hM9⟩:∃ n,n = 4 * r.n := ⟨_,rfl⟩
   obtain ⟨L9,hL9⟩:∃ n,n = r.lp := ⟨_,rfl⟩
   have FEW2:=hide (show N9 ≤ 70 ∧ M9 ≤ 280 by have := FEW.out; omega)
   rw [← hM9,← hN9] at GS HTS
   rw [← hM9,← hN9,← hL9]
   rw [← hM9,← hN9,← hL9] at PRE2
   clear hN9 hM9 hL9 HTT FEW
   obtain ⟨d0,d1,d2,d3⟩:=box3 R0.out
   obtain ⟨m0,m1,m2,m3,m4,m5⟩:=box5 R1.out
   have z0:=R0.out.lt
   have z1:=R1.out.lt
   go_wp2_with fail
   obtain ⟨V,hV⟩:∃ V:World,V = ((w3.alloc (.cells #[.slice A9 N9 c8,.slice B9 M9 c9,.int .i64 (L9:Int)] 24)).alloc (.cells #[.int .i64 k9,.int .i64 x9,.int .i64 y9,.int .i64 s9,.bool o9] 28)) := ⟨_,rfl⟩
   obtain ⟨go,hgo⟩:∃ g,g = w3.heap.size := ⟨_,rfl⟩
   obtain ⟨gb,hgb⟩:∃ g,g = w3.heap.size + 1 := ⟨_,rfl⟩
   have BV3:=hide (show Below w3.heap.size w3 V by rw [hV]; exact below_two)
   have P0:=hide (show Row V go 24 [.slice A9 N9 c8,.slice B9 M9 c9,.int .i64 (L9:Int)] by rw [hV]; exact (row_at (vs := [_,_,_]) hgo).alloc _)
   have P1:=hide (show Row V gb 28 [.int .i64 k9,.int .i64 x9,.int .i64 y9,.int .i64 s9,.bool o9] by rw [hV]; exact row_at (vs := [_,_,_,_,_]) (by rw [hgb]; simp))
   rw [← hgb,← hgo,← hV]
   have BV:=hide (B3.out.trans (BV3.out.mono B3.out.size))
   clear hV hgo hgb R0 R1 B3 d0 d1 d2 d3 m0 m1 m2 m3 m4 m5 z0 z1
   refine (PRE2.out V (HG.out.keep BV.out)).mono ?_
   rintro e w5 ⟨A8,B8,c6,c7,rfl,hT8,hb5⟩
   have Q0:=hide (P0.out.below hb5)
   have Q1:=hide (P1.out.below hb5)
   have B5:=hide (BV.out.trans (hb5.mono BV.out.size))
   have I1:=hide (GS.out w5 (BV3.out.trans (hb5.mono BV3.out.size)))
   have I2:=hide (HTS.out A8 B8 w5 hT8)
   clear P0 P1 BV BV3 hb5 hT8 PRE2 GS HTS
   obtain ⟨e0,e1,e2,e3⟩:=box3 Q0.out
   obtain ⟨f0,f1,f2,f3,f4,f5⟩:=box5 Q1.out
   have z0:=Q0.out.lt
   have z1:=Q1.out.lt
   have B6:=hide (below_two (W := w5) (o1 := .cells #[.slice A8 N9 c6,.slice B8 M9 c7,.int .i64 (L9:Int)] 24) (o2 := .cells #[.int .i64 k9,.int .i64 x9,.int .i64 y9,.int .i64 s9,.bool o9] 28))
   have Q2:=hide (Q1.out.below B6.out)
   have Q3:=hide (show Row ((w5.alloc (.cells #[.slice A8 N9 c6,.slice B8 M9 c7,.int .i64 (L9:Int)] 24)).alloc (.cells #[.int .i64 k9,.int .i64 x9,.int .i64 y9,.int .i64 s9,.bool o9] 28)) (w5.heap.size + 1) 28 [.int .i64 k9,.int .i64 x9,.int .i64 y9,.int .i64 s9,.bool o9] from row_at (vs := [_,_,_,_,_]) (by simp))
   go_wp2_with fail
   refine (same_yes r.sg (nats r.mt) (L9:Int) A9 B9 A8 B8 N9 M9 c8 c9 c6 c7 _ (I1.out.1.keep B6.out) (I1.out.2.keep B6.out) (I2.out.1.keep B6.out) (I2.out.2.keep B6.out) (by have := FEW2.out; omega) (by have := FEW2.out; omega)).mono ?_
   rintro e w6 ⟨rfl,hb6⟩
   have Q4:=hide (Q2.out.below hb6)
   have Q5:=hide (Q3.out.below hb6)
   have B7:=hide ((B5.out.trans (B6.out.mono B5.out.size)).trans (hb6.mono (B5.out.trans (B6.out.mono B5.out.size)).size))
   clear e0 e1 e2 e3 f0 f1 f2 f3 f4 f5 z0 z1 Q0 Q1 Q2 Q3 hb6 B5 B6 I1 I2
   obtain ⟨f0,f1,f2,f3,f4,f5⟩:=box5 Q4.out
   obtain ⟨g0,g1,g2,g3,g4,g5⟩:=box5 Q5.out
   go_wp2
   go_ret
   exact ⟨rfl,B7.out⟩
  ·have hE:=ResErr.split (hres.1 hc)
   obtain ⟨cc,hcc⟩:∃ c,c = apC d ⟨k,x,y,s,o⟩:=⟨_,rfl⟩
   have PRE2:=hide (fun (W:World) (hW:DgAt W A B d) => (PRE.out W hW).mono (R' := fun e w' => e = .returned (.tuple #[.agg #[.slice none 0 0,.slice none 0 0,.int .i64 0],.agg #[.int .i64 0,.int .i64 0,.int .i64 0,.int .i64 0,.bool false],.int .i64 cc]) ∧ Below W.heap.size W w') (fun e w' h => by
    have:=ResErr.split (h.1 hc)
    rw [← hcc] at this
    exact ⟨this,h.2.2⟩))
   subst hE
   rw [← hcc]
   clear hc hcc hres PRE d0 d1 d2 d3 m0 m1 m2 m3 m4 m5 Z0 Z1 B2
   obtain ⟨d0,d1,d2,d3⟩:=box3 R0.out
   obtain ⟨m0,m1,m2,m3,m4,m5⟩:=box5 R1.out
   have z0:=R0.out.lt
   have z1:=R1.out.lt
   go_wp2_with fail
   obtain ⟨V,hV⟩:∃ V:World,V = ((w3.alloc (.cells #[.slice none 0 0,.slice none 0 0,.int .i64 0] 24)).alloc (.cells #[.int .i64 0,.int .i64 0,.int .i64 0,.int .i64 0,.bool false] 28)) := ⟨_,rfl⟩
   obtain ⟨go,hgo⟩:∃ g,g = w3.heap.size := ⟨_,rfl⟩
   obtain ⟨gb,hgb⟩:∃ g,g = w3.heap.size + 1 := ⟨_,rfl⟩
   have BV3:=hide (show Below w3.heap.size w3 V by rw [hV]; exact below_two)
   have P0:=hide (show Row V go 24 [.slice none 0 0,.slice none 0 0,.int .i64 0] by rw [hV]; exact (row_at (vs := [_,_,_]) hgo).alloc _)
   have P1:=hide (show Row V gb 28 [.int .i64 0,.int .i64 0,.int .i64 0,.int .i64 0,.bool false] by rw [hV]; exact row_at (vs := [_,_,_,_,_]) (by rw [hgb]; simp))
   rw [← hgb,← hgo,← hV]
   have BV:=hide (B3.out.trans (BV3.out.mono B3.out.size))
   clear hV hgo hgb R0 R1 B3 d0 d1 d2 d3 m0 m1 m2 m3 m4 m5 z0 z1
   refine (PRE2.out V (HG.out.keep BV.out)).mono ?_
   rintro e w5 ⟨rfl,hb5⟩
   have Q0:=hide (P0.out.below hb5)
   have Q1:=hide (P1.out.below hb5)
   have B5:=hide (BV.out.trans (hb5.mono BV.out.size))
   clear P0 P1 BV BV3 hb5 PRE2
   obtain ⟨e0,e1,e2,e3⟩:=box3 Q0.out
   obtain ⟨f0,f1,f2,f3,f4,f5⟩:=box5 Q1.out
   have z0:=Q0.out.lt
   have z1:=Q1.out.lt
   have B6:=hide (below_two (W := w5) (o1 := .cells #[.slice none 0 0,.slice none 0 0,.int .i64 0] 24) (o2 := .cells #[.int .i64 0,.int .i64 0,.int .i64 0,.int .i64 0,.bool false] 28))
   have Q2:=hide (Q1.out.below B6.out)
   have Q3:=hide (show Row ((w5.alloc (.cells #[.slice none 0 0,.slice none 0 0,.int .i64 0] 24)).alloc (.cells #[.int .i64 0,.int .i64 0,.int .i64 0,.int .i64 0,.bool false] 28)) (w5.heap.size + 1) 28 [.int .i64 0,.int .i64 0,.int .i64 0,.int .i64 0,.bool false] from row_at (vs := [_,_,_,_,_]) (by simp))
   go_wp2_with fail
   refine (same_nil _).mono ?_
   rintro e w6 ⟨rfl,hb6⟩
   have Q4:=hide (Q2.out.below hb6)
   have Q5:=hide (Q3.out.below hb6)
   have B7:=hide ((B5.out.trans (B6.out.mono B5.out.size)).trans (hb6.mono (B5.out.trans (B6.out.mono B5.out.size)).size))
   clear e0 e1 e2 e3 f0 f1 f2 f3 f4 f5 z0 z1 Q0 Q1 Q2 Q3 hb6 B5 B6
   obtain ⟨f0,f1,f2,f3,f4,f5⟩:=box5 Q4.out
   obtain ⟨g0,g1,g2,g3,g4,g5⟩:=box5 Q5.out
   go_wp2
   go_ret
   exact ⟨rfl,B7.out⟩
set_option maxRecDepth 100000 in
set_option maxHeartbeats 4000000 in
theorem mapply_bad (sg mt:List Int) (lp:Int) (A B:Option Addr) (n q cp cq:Nat) (k x y s:Int) (o:Bool) (w:World) (hs:IntsAt w A n sg) (hm:IntsAt w B q mt) (hn:n ≤ maxLen) (hq:q ≤ maxLen) (hlp:-9223372036854775808 ≤ lp ∧ lp ≤ 9223372036854775807) (hv:¬ Pl.VL sg mt lp) :
 Calls Try.prog 4 #[.agg #[.slice A n cp,.slice B q cq,.int .i64 lp],(Mv.mk k x y s o).v] w fun e w' => e = .returned (.bool true) ∧ Below w.heap.size w w' := by
 have X0:=hide (show Row ((w.alloc (.cells #[.slice A n cp,.slice B q cq,.int .i64 lp] 24)).alloc (.cells #[.int .i64 k,.int .i64 x,.int .i64 y,.int .i64 s,.bool o] 28)) w.heap.size 24 [.slice A n cp,.slice B q cq,.int .i64 lp] from (row_at (vs := [_,_,_]) rfl).alloc _)
 have X1:=hide (show Row ((w.alloc (.cells #[.slice A n cp,.slice B q cq,.int .i64 lp] 24)).alloc (.cells #[.int .i64 k,.int .i64 x,.int .i64 y,.int .i64 s,.bool o] 28)) (w.heap.size + 1) 28 [.int .i64 k,.int .i64 x,.int .i64 y,.int .i64 s,.bool o] from row_at (vs := [_,_,_,_,_]) (by simp))
 have B0:=hide (show Below w.heap.size w ((w.alloc (.cells #[.slice A n cp,.slice B q cq,.int .i64 lp] 24)).alloc (.cells #[.int .i64 k,.int .i64 x,.int .i64 y,.int .i64 s,.bool o] 28)) from below_two)
 have PRE:=hide (fun (W:World) (hW:Below w.heap.size w W) => rapply_v sg mt lp A B n q cp cq k x y s o W (hs.keep hW) (hm.keep hW) hn hq hlp hv)
 unfold Mv.v at PRE ⊢
 go_enter Try.func4,Try.ntmps4
 go_wp2_with fail
 refine (awake_true _).mono ?_
 rintro e w1 ⟨rfl,hb1⟩
 have Y0:=hide (X0.out.below hb1)
 have Y1:=hide (X1.out.below hb1)
 have B1:=hide (B0.out.trans (hb1.mono B0.out.size))
 clear X0 X1 B0 hb1
 obtain ⟨d0,d1,d2,d3⟩:=box3 Y0.out
 go_wp2_with fail
 refine (small_any A B n q cp cq (.int .i64 lp) w1).mono ?_
 rintro e w2 ⟨he,hb2⟩
 have Z0:=hide (Y0.out.below hb2)
 have Z1:=hide (Y1.out.below hb2)
 have B2:=hide (B1.out.trans (hb2.mono B1.out.size))
 clear Y0 Y1 B1 hb2 d0 d1 d2 d3
 obtain ⟨d0,d1,d2,d3⟩:=box3 Z0.out
 obtain ⟨m0,m1,m2,m3,m4,m5⟩:=box5 Z1.out
 rcases he with rfl | rfl
 ·go_wp2
  go_ret
  exact ⟨rfl,B2.out⟩
 ·go_wp2_with fail
  refine (apply_v sg mt lp A B n q cp cq k x y s o w2 (hs.keep B2.out) (hm.keep B2.out) hn hq hlp hv).mono ?_
  rintro e w3 ⟨hE,hb3⟩
  have B3:=hide (B2.out.trans (hb3.mono B2.out.size))
  have R0:=hide (Z0.out.below hb3)
  have R1:=hide (Z1.out.below hb3)
  have hE':=ResErr.split hE
  subst hE'
  clear hE hb3 d0 d1 d2 d3 m0 m1 m2 m3 m4 m5 Z0 Z1 B2
  obtain ⟨d0,d1,d2,d3⟩:=box3 R0.out
  obtain ⟨m0,m1,m2,m3,m4,m5⟩:=box5 R1.out
  have z0:=R0.out.lt
  have z1:=R1.out.lt
  go_wp2_with fail
  obtain ⟨V,hV⟩:∃ V:World,V = ((w3.alloc (.cells #[.slice none 0 0,.slice none 0 0,.int .i64 0] 24)).alloc (.cells #[.int .i64 0,.int .i64 0,.int .i64 0,.int .i64 0,.bool false] 28)) := ⟨_,rfl⟩
  obtain ⟨go,hgo⟩:∃ g,g = w3.heap.size := ⟨_,rfl⟩
  obtain ⟨gb,hgb⟩:∃ g,g = w3.heap.size + 1 := ⟨_,rfl⟩
  have BV3:=hide (show Below w3.heap.size w3 V by rw [hV]; exact below_two)
  have P0:=hide (show Row V go 24 [.slice none 0 0,.slice none 0 0,.int .i64 0] by rw [hV]; exact (row_at (vs := [_,_,_]) hgo).alloc _)
  have P1:=hide (show Row V gb 28 [.int .i64 0,.int .i64 0,.int .i64 0,.int .i64 0,.bool false] by rw [hV]; exact row_at (vs := [_,_,_,_,_]) (by rw [hgb]; simp))
  rw [← hgb,← hgo,← hV]
  have BV:=hide (B3.out.trans (BV3.out.mono B3.out.size))
  clear hV hgo hgb R0 R1 B3 d0 d1 d2 d3 m0 m1 m2 m3 m4 m5 z0 z1
  refine (PRE.out V BV.out).mono ?_
  rintro e w5 ⟨hE,hb5⟩
  have hE':=ResErr.split hE
  subst hE'
  have Q0:=hide (P0.out.below hb5)
  have Q1:=hide (P1.out.below hb5)
  have B5:=hide (BV.out.trans (hb5.mono BV.out.size))
  clear P0 P1 BV BV3 hb5 PRE hE
  obtain ⟨e0,e1,e2,e3⟩:=box3 Q0.out
  obtain ⟨f0,f1,f2,f3,f4,f5⟩:=box5 Q1.out
  have z0:=Q0.out.lt
  have z1:=Q1.out.lt
  have B6:=hide (below_two (W := w5) (o1 := .cells #[.slice none 0 0,.slice none 0 0,.int .i64 0] 24) (o2 := .cells #[.int .i64 0,.int .i64 0,.int .i64 0,.int .i64 0,.bool false] 28))
  have Q2:=hide (Q1.out.below B6.out)
  have Q3:=hide (show Row ((w5.alloc (.cells #[.slice none 0 0,.slice none 0 0,.int .i64 0] 24)).alloc (.cells #[.int .i64 0,.int .i64 0,.int .i64 0,.int .i64 0,.bool false] 28)) (w5.heap.size + 1) 28 [.int .i64 0,.int .i64 0,.int .i64 0,.int .i64 0,.bool false] from row_at (vs := [_,_,_,_,_]) (by simp))
  go_wp2_with fail
  refine (same_nil _).mono ?_
  rintro e w6 ⟨rfl,hb6⟩
  have Q4:=hide (Q2.out.below hb6)
  have Q5:=hide (Q3.out.below hb6)
  have B7:=hide ((B5.out.trans (B6.out.mono B5.out.size)).trans (hb6.mono (B5.out.trans (B6.out.mono B5.out.size)).size))
  clear e0 e1 e2 e3 f0 f1 f2 f3 f4 f5 z0 z1 Q0 Q1 Q2 Q3 hb6 B5 B6
  obtain ⟨f0,f1,f2,f3,f4,f5⟩:=box5 Q4.out
  obtain ⟨g0,g1,g2,g3,g4,g5⟩:=box5 Q5.out
  go_wp2
  go_ret
  exact ⟨rfl,B7.out⟩
theorem mapply_walk (sg mt:List Int) (lp:Int) (A B:Option Addr) (n q cp cq:Nat) (k x y s:Int) (o:Bool) (w:World) (hs:IntsAt w A n sg) (hm:IntsAt w B q mt) (hn:n ≤ maxLen) (hq:q ≤ maxLen) (hlp:-9223372036854775808 ≤ lp ∧ lp ≤ 9223372036854775807) :
 Calls Try.prog 4 #[.agg #[.slice A n cp,.slice B q cq,.int .i64 lp],(Mv.mk k x y s o).v] w fun e w' => e = .returned (.bool true) ∧ Below w.heap.size w w' := by
 by_cases hv:Pl.VL sg mt lp
 ·have hl:=hs.len
  have hl2:=hm.len
  have hl3:=hv.len
  have en:(Pl.mk sg mt lp).n = n:=hl
  have em:nats (Pl.mk sg mt lp).mt = mt:=Pl.nats_mk hv.2.1
  have el:((Pl.mk sg mt lp).lp:Int) = lp:=by show ((lp.toNat:Nat):Int) = lp; have := hv.2.2; omega
  have h:=mapply_valid (Pl.mk sg mt lp) hv.1 A B cp cq q k x y s o w (by rw [en]; omega) ⟨by rw [en]; exact hs,by rw [en,em,show 4 * n = q by omega]; exact hm⟩
  rw [en,el] at h
  exact h
 ·exact mapply_bad sg mt lp A B n q cp cq k x y s o w hs hm hn hq hlp hv
end Go.Proofs.Ytobbepmlmbbamaa
end
