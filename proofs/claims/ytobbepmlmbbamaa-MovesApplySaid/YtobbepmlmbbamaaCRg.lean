/-
 The text Rg.
-/
import Derived.Test.YtobbepmlmbbamaaB02
import Derived.Test.YtobbepmlmbbamaaCRd
import Derived.Test.YtobbepmlmbbamaaB05
set_option linter.unusedVariables false
set_option linter.unusedSimpArgs false
section
namespace Go.Proofs.Ytobbepmlmbbamaa
open Go Go.RowKit
def RClosedPost (l:List Nat) (base g n cap a b:Nat) (w:World) (e:Ending) (w':World):Prop :=
 e = .returned (.bool (decide (l.getD a 0 ≠ b))) ∧ OwnN w' base g n cap (if l.getD a 0 = b then l else jn l (l.getD a 0) (l.getD b 0)) ∧ w.grownBy w' (some g)
set_option maxRecDepth 100000 in
set_option maxHeartbeats 1000000 in
theorem rclosed_any (base g n cap a b na ca:Nat) (A:Option Addr) (lp:Value) (l:List Nat) (w:World) (h:OwnN w base g n cap l) (ha:a < n) (hb:b < n) (hn:n ≤ 100000) (hl:∀ k,k < n → l.getD k 0 < n) :
 Calls Try.prog 105 #[.agg #[.slice A na ca,.slice (some ⟨g,0,none⟩) n cap,lp],.int .i64 (a:Int),.int .i64 (b:Int)] w (RClosedPost l base g n cap a b w) := by
 have c1:=h.cell ha
 have c2:=h.cell hb
 have la:=hl a ha
 have lb:=hl b hb
 obtain ⟨x,hx⟩:∃ x,x = l.getD a 0 := ⟨_,rfl⟩
 obtain ⟨y,hy⟩:∃ y,y = l.getD b 0 := ⟨_,rfl⟩
 rw [← hx] at c1 la
 rw [← hy] at c2 lb
 have hgl:g < w.heap.size:=(World.ownsRow.lt h g rfl).2
 have HH:=hide (OwnN.alloc h (.cells #[.slice A na ca,.slice (some ⟨g,0,none⟩) n cap,lp] 24))
 have G0:=hide (grownBy_alloc w (.cells #[.slice A na ca,.slice (some ⟨g,0,none⟩) n cap,lp] 24) (some g))
 have HX:=hide hx
 have HY:=hide hy
 have X0:=hide (row_at (W := w) (g := w.heap.size) (t := 24) (vs := [.slice A na ca,.slice (some ⟨g,0,none⟩) n cap,lp]) rfl)
 clear h hx hy
 go_enter Try.func105,Try.ntmps105
 go_upto_region 1 with fail
 obtain ⟨W1,hW1⟩:∃ W1:World,W1 = w.alloc (.cells #[.slice A na ca,.slice (some ⟨g,0,none⟩) n cap,lp] 24) := ⟨_,rfl⟩
 have hal:=(Below.refl w.heap.size w).alloc (Nat.le_refl _) (.cells #[.slice A na ca,.slice (some ⟨g,0,none⟩) n cap,lp] 24)
 replace c1 := cell_below c1 hal
 replace c2 := cell_below c2 hal
 clear hal
 have hX:=X0.out
 simp only [List.toArray] at hX
 rw [← hW1] at HH G0 c1 c2 hX ⊢
 clear hW1 X0
 obtain ⟨d0,d1,d2,_⟩:=box3 hX
 clear hX
 by_cases hxb:x = b
 ·subst hxb
  have E:=hide HX.out.symm
  go_wp2
  go_ret
  refine ⟨ret_bool ?_,?_,G0.out⟩
  ·simp only [E.out]; simp
  ·rw [if_pos HX.out.symm]; exact HH.out
 ·have t1:((x:Int) == (b:Int)) = false:=by rw [beq_eq_false_iff_ne]; omega
  have i1:(a:Int) < (n:Int):=by omega
  have i2:(b:Int) < (n:Int):=by omega
  have i3:(0:Int) ≤ (a:Int):=by omega
  have i4:(0:Int) ≤ (b:Int):=by omega
  go_wp2_with fail
  go_still_tail 11,(by kernel_rfl)
  change wpList _ _ _ _ _ W1.drew
  obtain ⟨W6,hW6⟩:∃ W6:World,W6 = W1.drew := ⟨_,rfl⟩
  rw [← hW6]
  have O6:=hide (OwnN.drew' hW6 HH.out)
  have HW:=hide hW6
  clear hW6 c1 c2
  go_wp2_with fail
  refine (rjoin_any base g n cap x y na ca A lp l W6 O6.out la lb hn).mono ?_
  rintro e w5 ⟨rfl,own5,gr5⟩
  have OWN5:=hide own5
  have GR5:=hide gr5
  clear own5 gr5
  go_wp2_with fail
  go_ret
  have hne:¬ l.getD a 0 = b:=by rw [← HX.out]; exact hxb
  refine ⟨ret_bool ?_,?_,grownBy_trans G0.out (grown_drew HW.out GR5.out)⟩
  ·simp only [decide_not]; rw [decide_eq_false hne]; rfl
  ·rw [if_neg hne,← HX.out,← HY.out]; exact OWN5.out
end Go.Proofs.Ytobbepmlmbbamaa
end
