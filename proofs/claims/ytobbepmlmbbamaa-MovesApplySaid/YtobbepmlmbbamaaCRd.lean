/-
 The text Rd.
-/
import Derived.Test.YtobbepmlmbbamaaB00
import Derived.Test.YtobbepmlmbbamaaB01
import Derived.Test.YtobbepmlmbbamaaB04
import Derived.Test.YtobbepmlmbbamaaB05
set_option linter.unusedVariables false
set_option linter.unusedSimpArgs false
section
namespace Go.Proofs.Ytobbepmlmbbamaa
open Go Go.RowKit
theorem OwnN.drew {w:World} {base g n cap:Nat} {l:List Nat} (h:OwnN w base g n cap l):OwnN w.drew base g n cap l := h
theorem grownBy_alloc (w:World) (o:Obj) (r:Option Nat):w.grownBy (w.alloc o) r :=
 ⟨rfl,rfl,rfl,by simp,fun k hk _ => Below.heap_alloc w o k hk⟩
theorem grownBy_drew {w w':World} {r:Option Nat} (h:w.grownBy w' r):w.grownBy w'.drew r := ⟨h.os,h.tape,h.output,h.size,h.block⟩
theorem jn_comm (l:List Nat) (a b:Nat):(l.set b a).set a b = jn l a b := by
 unfold jn
 by_cases e:a = b
 ·subst e; rfl
 ·exact List.set_comm _ _ (fun e2 => e e2.symm)
set_option maxHeartbeats 1000000 in
theorem rjoin_any (base g n cap a b na ca:Nat) (A:Option Addr) (lp:Value) (l:List Nat) (w:World) (h:OwnN w base g n cap l) (ha:a < n) (hb:b < n) (hn:n ≤ 100000) :
 Calls Try.prog 97 #[.agg #[.slice A na ca,.slice (some ⟨g,0,none⟩) n cap,lp],.int .i64 (a:Int),.int .i64 (b:Int)] w fun e w' => e = .returned (.tuple #[]) ∧ OwnN w' base g n cap (jn l a b) ∧ w.grownBy w' (some g) := by
 have hgl:g < w.heap.size:=by
  have:=World.ownsRow.lt h g rfl
  exact this.2
 obtain ⟨h2,g2⟩:=h.set a b
 obtain ⟨h3,g3⟩:=h2.set b a
 obtain ⟨h4,g4⟩:=h.set b a
 obtain ⟨h5,g5⟩:=h4.set a b
 have H3:=hide (OwnN.alloc h3 (.cells #[.slice A na ca,.slice (some ⟨g,0,none⟩) n cap,lp] 24))
 have H5:=hide (show OwnN _ base g n cap (jn l a b) by rw [jn_comm] at h5; exact OwnN.alloc h5 (.cells #[.slice A na ca,.slice (some ⟨g,0,none⟩) n cap,lp] 24))
 have G3:=hide (grownBy_trans (grownBy_trans g2 g3) (grownBy_alloc _ (.cells #[.slice A na ca,.slice (some ⟨g,0,none⟩) n cap,lp] 24) (some g)))
 have G5:=hide (grownBy_trans (grownBy_trans g4 g5) (grownBy_alloc _ (.cells #[.slice A na ca,.slice (some ⟨g,0,none⟩) n cap,lp] 24) (some g)))
 have c1:=h.cell ha
 have f1:=h.free a
 have c2:=h2.cell hb
 have c3:=h.cell hb
 have f3:=h.free b
 have c4:=h4.cell ha
 have hne:w.heap.size ≠ g:=by omega
 clear h h2 h3 h4 h5 g2 g3 g4 g5
 go_enter Try.func97,Try.ntmps97
 go_upto_region 1 with fail
 go_region
 all_goals
  go_wp2
  go_end0
  first
   | exact ⟨rfl,H3.out.drew,grownBy_drew G3.out⟩
   | exact ⟨rfl,H5.out.drew,grownBy_drew G5.out⟩
def sh1 (h:Int) (c:Nat):Int := if 0 ≤ h ∧ (c:Int) < h / 4 then h - 4 else h
theorem rshift_any (h:Int) (c:Nat) (w:World) (hh:-1000000 ≤ h ∧ h ≤ 1000000) :
 Calls Try.prog 99 #[.int .i64 h,.int .i64 (c:Int)] w fun e w' => e = .returned (.int .i64 (sh1 h c)) ∧ w' = w := by
 by_cases h0:0 ≤ h
 ·obtain ⟨k,rfl⟩:=Int.eq_ofNat_of_zero_le h0
  by_cases h1:c < k / 4
  ·have E:=hide (show sh1 (k:Int) c = (k:Int) - 4 by unfold sh1; rw [if_pos (by omega)])
   have t1:decide ((0:Int) ≤ (k:Int)) = true:=by simp
   have t2:decide ((c:Int) < (k:Int) / 4) = true:=by simp; omega
   go_enter Try.func99,Try.ntmps99
   go_wp2
   go_ret
   exact ⟨by rw [E.out]; rfl,rfl⟩
  ·have E:=hide (show sh1 (k:Int) c = (k:Int) by unfold sh1; rw [if_neg (by omega)])
   have t1:decide ((0:Int) ≤ (k:Int)) = true:=by simp
   have t2:decide ((c:Int) < (k:Int) / 4) = false:=by simp; omega
   go_enter Try.func99,Try.ntmps99
   go_wp2
   go_ret
   exact ⟨by rw [E.out]; rfl,rfl⟩
 ·have E:=hide (show sh1 h c = h by unfold sh1; rw [if_neg (by omega)])
  have t1:decide ((0:Int) ≤ h) = false:=by simpa using h0
  clear h0
  go_enter Try.func99,Try.ntmps99
  go_wp2
  go_ret
  exact ⟨by rw [E.out]; rfl,rfl⟩
end Go.Proofs.Ytobbepmlmbbamaa
end
