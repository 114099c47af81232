/-
  The texts Wq.
-/
import Derived.Test.YtdgliimmnnhhjaaGreatDoorU13
set_option linter.unusedVariables false
set_option linter.unusedSimpArgs false
section
namespace Go.Proofs.YtdgliimmnnhhjaaGreatDoor
open Go Go.RowKit
def needP (x y sg:Int):Nat:=(if x<0 then 1 else 0)+(if y<0∧sg=0 then 1 else 0)
def pkC (d:Pl.Dg)(F P:List Nat)(x y sg:Int):Int :=
 if d.lp<needP x y sg then 6 else if 0≤x∧0≤y∧x≠y∧nearB F P d x.toNat y.toNat=false then 6 else if 64<d.n+2 then 5 else 0
def PkPost (d:Pl.Dg)(F P:List Nat)(x y sg:Int)(w:World)(e:Ending)(w':World):Prop:=e = .returned (.int .i64 (pkC d F P x y sg))∧Below w.heap.size w w'
set_option maxRecDepth 100000 in
set_option maxHeartbeats 2000000 in
theorem pokeable_any (d:Pl.Dg)(F P:List Nat)(A B L R:Option Addr)(cp cq cl cr m:Nat)(k x y sg:Int)(ov:Bool)(w:World)(hm:m=4 * d.n)(hs:ShAt w A B L R d F P)(hn:d.n≤64)(hlp:d.lp≤64)(hx:-2≤x∧x<4 * d.n)(hy:-2≤y∧y<4 * d.n) :
 Calls Tryz.prog 76 #[sheetV A B L R d.n m d.lp cp cq cl cr,.agg #[.int .i64 k,.int .i64 x,.int .i64 y,.int .i64 sg,.bool ov]] w (PkPost d F P x y sg w):=by
 unfold sheetV
 obtain ⟨W,hW⟩:∃W,W=(w.alloc (.cells #[.slice A d.n cp,.slice B m cq,.int .i64 d.lp,.slice L m cl,.slice R d.n cr] 91)).alloc (.cells #[.int .i64 k,.int .i64 x,.int .i64 y,.int .i64 sg,.bool ov] 43):=⟨_,rfl⟩
 have BX:=hide (show Row W w.heap.size 91 [.slice A d.n cp,.slice B m cq,.int .i64 d.lp,.slice L m cl,.slice R d.n cr] by rw [hW];exact (Row.new w _ [_,_,_,_,_]).alloc _)
 have BM:=hide (show Row W (w.heap.size+1) 43 [.int .i64 k,.int .i64 x,.int .i64 y,.int .i64 sg,.bool ov] by rw [hW];exact row_at (vs:=[_,_,_,_,_]) (by simp))
 have B0:=hide (show Below w.heap.size w W by rw [hW];exact ((Below.refl _ _).alloc (Nat.le_refl _) _).alloc (by simp) _)
 have HS:=hide (hs.keep B0.out)
 have HM:=hide hm
 have HW:=hide hW
 clear hs hW hm
 go_enter Tryz.func76,Tryz.ntmps76
 go_upto_region 2 with (fail)
 rw [←HW.out]
 obtain ⟨f0,f1,f2,f3,f4,f5⟩:=box5 BX.out
 obtain ⟨m0,m1,m2,m3,m4,m5⟩:=box5 BM.out
 by_cases hx0:0≤x <;> by_cases hy0:0≤y
 ·obtain ⟨a,rfl⟩:=Int.eq_ofNat_of_zero_le hx0
  obtain ⟨b,rfl⟩:=Int.eq_ofNat_of_zero_le hy0
  have t1:decide ((d.lp:Int)<0)=false:=by simp
  have HN:=hide (show ∀a b:Nat,needP (a:Int) (b:Int) sg=0 from fun a b=>by unfold needP;rw [if_neg (by omega),if_neg (by omega)])
  by_cases hab:a=b
  ·subst hab
   go_wp2
   all_goals
    go_ret
    refine ⟨ret_int ?_,B0.out⟩
    unfold pkC
    rw [HN.out,if_neg (by omega),if_neg (by simp)]
    first | rw [if_pos (by omega)] | rw [if_neg (by omega)]
  ·have t2:((a:Int) != (b:Int))=true:=by rw [bne_iff_ne];omega
   go_wp2_with fail
   refine (near_any d F P A B L R cp cq cl cr m a b _ HM.out HS.out hn (by omega) (by omega)).mono ?_
   rintro e w1 ⟨rfl,hb1⟩
   have B1:=hide (B0.out.trans (hb1.mono B0.out.size))
   obtain ⟨q0,q1,q2,q3,q4,q5⟩:=box5 (BX.out.below hb1)
   clear hb1
   cases hnb:nearB F P d a b with
   | true =>
     have HNB:=hide hnb
     clear hnb
     go_wp2
     all_goals
      go_ret
      refine ⟨ret_int ?_,B1.out⟩
      unfold pkC
      rw [HN.out,if_neg (by omega),if_neg (by simp [HNB.out])]
      first | rw [if_pos (by omega)] | rw [if_neg (by omega)]
   | false =>
     have HNB:=hide hnb
     clear hnb
     go_wp2
     all_goals
      go_ret
      refine ⟨ret_int ?_,B1.out⟩
      unfold pkC
      rw [HN.out,if_neg (by omega),if_pos ⟨by omega,by omega,by omega,by simpa using HNB.out⟩]
 all_goals
  by_cases hs0:sg=0
  all_goals
   go_wp2
   all_goals
    go_ret
    refine ⟨ret_int ?_,B0.out⟩
    unfold pkC needP
    simp only [ne_eq,beq_iff_eq,beq_eq_false_iff_ne,and_true] at *
    repeat' split
    all_goals omega
end Go.Proofs.YtdgliimmnnhhjaaGreatDoor
end
