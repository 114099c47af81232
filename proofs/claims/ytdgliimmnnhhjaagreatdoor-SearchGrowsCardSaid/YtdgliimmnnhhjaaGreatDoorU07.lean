/-
  The texts Wi.
-/
import Derived.Test.YtdgliimmnnhhjaaGreatDoorU02
set_option linter.unusedVariables false
set_option linter.unusedSimpArgs false
section
namespace Go.Proofs.YtdgliimmnnhhjaaGreatDoor
open Go.RowKit
def inR (n:Nat)(m:Mv):Prop :=
 if m.kind=1 then -1≤m.x∧m.x<4 * n∧m.y=0∧(m.sign=1∨m.sign = -1)
 else if m.kind=2 then 0≤m.x∧m.x<n∧m.y=0∧m.sign=0∧m.over=false
 else if m.kind=4 then 0≤m.x∧m.x<m.y∧m.y<n∧m.sign=0∧m.over=false
 else if m.kind=5 then 0≤m.x∧m.x<4 * n∧m.y=0∧m.sign=0∧m.over=false
 else -2≤m.x∧m.x<4 * n ∧ -2≤m.y∧m.y<4 * n∧(if m.x≠m.y then m.sign=0 else if m.x<0 then m.sign=0∨m.sign=1 else m.sign=1∨m.sign = -1)
def InPost (n:Nat)(m:Mv)(w:World)(e:Ending)(w':World):Prop:=e = .returned (.bool (Pl.vb (inR n m)))∧Below w.heap.size w w'
theorem in_ret {p:Prop}{b:Bool}(h:b=true↔p):Ending.returned (.bool b) = .returned (.bool (Pl.vb p)):=by
 refine ret_bool ?_
 rw [Bool.eq_iff_iff,Pl.vb_iff,h]
set_option maxRecDepth 100000 in
set_option maxHeartbeats 1000000 in
theorem inRange_1 (n:Nat)(x y s:Int)(o:Bool)(w:World)(hn:n≤1000) :
 Calls Tryz.prog 42 #[.int .i64 (n:Int),(Mv.mk 1 x y s o).v] w (InPost n ⟨1,x,y,s,o⟩ w):=by
 unfold Mv.v
 by_cases hs:s=0
 ·subst hs
  cases o
  all_goals
   go_enter Tryz.func42,Tryz.ntmps42
   go_wp2
   all_goals
    go_ret
    refine ⟨in_ret ?_,(Below.refl _ _).alloc (Nat.le_refl _) _⟩
    unfold inR
    (try simp only [beq_iff_eq,beq_eq_false_iff_ne,ne_eq,bne_iff_ne,decide_eq_true_eq,decide_eq_false_iff_not] at *);(first | (simp;done) | (simp;omega) | omega | (simp_all;done) | (simp_all;omega))
 ·have t0:(s == 0)=false:=by simpa using hs
  go_enter Tryz.func42,Tryz.ntmps42
  go_wp2
  all_goals
   go_ret
   refine ⟨in_ret ?_,(Below.refl _ _).alloc (Nat.le_refl _) _⟩
   unfold inR
   (try simp only [beq_iff_eq,beq_eq_false_iff_ne,ne_eq,bne_iff_ne,decide_eq_true_eq,decide_eq_false_iff_not] at *);(first | (simp;done) | (simp;omega) | omega | (simp_all;done) | (simp_all;omega))
set_option maxRecDepth 100000 in
set_option maxHeartbeats 1000000 in
theorem inRange_2 (n:Nat)(x y s:Int)(o:Bool)(w:World)(hn:n≤1000) :
 Calls Tryz.prog 42 #[.int .i64 (n:Int),(Mv.mk 2 x y s o).v] w (InPost n ⟨2,x,y,s,o⟩ w):=by
 unfold Mv.v
 by_cases hs:s=0
 ·subst hs
  cases o
  all_goals
   go_enter Tryz.func42,Tryz.ntmps42
   go_wp2
   all_goals
    go_ret
    refine ⟨in_ret ?_,(Below.refl _ _).alloc (Nat.le_refl _) _⟩
    unfold inR
    (try simp only [beq_iff_eq,beq_eq_false_iff_ne,ne_eq,bne_iff_ne,decide_eq_true_eq,decide_eq_false_iff_not] at *);(first | (simp;done) | (simp;omega) | omega | (simp_all;done) | (simp_all;omega))
 ·have t0:(s == 0)=false:=by simpa using hs
  go_enter Tryz.func42,Tryz.ntmps42
  go_wp2
  all_goals
   go_ret
   refine ⟨in_ret ?_,(Below.refl _ _).alloc (Nat.le_refl _) _⟩
   unfold inR
   (try simp only [beq_iff_eq,beq_eq_false_iff_ne,ne_eq,bne_iff_ne,decide_eq_true_eq,decide_eq_false_iff_not] at *);(first | (simp;done) | (simp;omega) | omega | (simp_all;done) | (simp_all;omega))
set_option maxRecDepth 100000 in
set_option maxHeartbeats 1000000 in
theorem inRange_3 (n:Nat)(x y s:Int)(o:Bool)(w:World)(hn:n≤1000) :
 Calls Tryz.prog 42 #[.int .i64 (n:Int),(Mv.mk 3 x y s o).v] w (InPost n ⟨3,x,y,s,o⟩ w):=by
 unfold Mv.v
 by_cases hs:s=0
 ·subst hs
  cases o
  all_goals
   go_enter Tryz.func42,Tryz.ntmps42
   go_wp2
   all_goals
    go_ret
    refine ⟨in_ret ?_,(Below.refl _ _).alloc (Nat.le_refl _) _⟩
    unfold inR
    (try simp only [beq_iff_eq,beq_eq_false_iff_ne,ne_eq,bne_iff_ne,decide_eq_true_eq,decide_eq_false_iff_not] at *);(first | (simp;done) | (simp;omega) | omega | (simp_all;done) | (simp_all;omega))
 ·have t0:(s == 0)=false:=by simpa using hs
  go_enter Tryz.func42,Tryz.ntmps42
  go_wp2
  all_goals
   go_ret
   refine ⟨in_ret ?_,(Below.refl _ _).alloc (Nat.le_refl _) _⟩
   unfold inR
   (try simp only [beq_iff_eq,beq_eq_false_iff_ne,ne_eq,bne_iff_ne,decide_eq_true_eq,decide_eq_false_iff_not] at *);(first | (simp;done) | (simp;omega) | omega | (simp_all;done) | (simp_all;omega))
set_option maxRecDepth 100000 in
set_option maxHeartbeats 1000000 in
theorem inRange_4 (n:Nat)(x y s:Int)(o:Bool)(w:World)(hn:n≤1000) :
 Calls Tryz.prog 42 #[.int .i64 (n:Int),(Mv.mk 4 x y s o).v] w (InPost n ⟨4,x,y,s,o⟩ w):=by
 unfold Mv.v
 by_cases hs:s=0
 ·subst hs
  cases o
  all_goals
   go_enter Tryz.func42,Tryz.ntmps42
   go_wp2
   all_goals
    go_ret
    refine ⟨in_ret ?_,(Below.refl _ _).alloc (Nat.le_refl _) _⟩
    unfold inR
    (try simp only [beq_iff_eq,beq_eq_false_iff_ne,ne_eq,bne_iff_ne,decide_eq_true_eq,decide_eq_false_iff_not] at *);(first | (simp;done) | (simp;omega) | omega | (simp_all;done) | (simp_all;omega))
 ·have t0:(s == 0)=false:=by simpa using hs
  go_enter Tryz.func42,Tryz.ntmps42
  go_wp2
  all_goals
   go_ret
   refine ⟨in_ret ?_,(Below.refl _ _).alloc (Nat.le_refl _) _⟩
   unfold inR
   (try simp only [beq_iff_eq,beq_eq_false_iff_ne,ne_eq,bne_iff_ne,decide_eq_true_eq,decide_eq_false_iff_not] at *);(first | (simp;done) | (simp;omega) | omega | (simp_all;done) | (simp_all;omega))
end Go.Proofs.YtdgliimmnnhhjaaGreatDoor
end
