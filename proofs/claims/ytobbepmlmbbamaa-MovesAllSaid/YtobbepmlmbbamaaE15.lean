/-
 The texts Rm.
-/
import Derived.Test.YtobbepmlmbbamaaE06
import Derived.Test.YtobbepmlmbbamaaE12
set_option linter.unusedVariables false
set_option linter.unusedSimpArgs false
section
namespace Go.Proofs.Ytobbepmlmbbamaa
open Go Go.RowKit
attribute [local go_sem ↓] Go.wp_at_zero Go.wp_at_succ
theorem rc_err {base:Nat} {c:Int} {r:Pl.Dg} {mv:Mv} {w w':World} {e:Ending} (hc:c ≠ 0) (h:RErr c e) (hb:Below base w w'):RC base c r mv w e w' := ⟨fun _ => h,fun h0 => absurd h0 hc,hb⟩
set_option maxRecDepth 100000 in
set_option maxHeartbeats 4000000 in
theorem rcurl_range (base n q cp cq:Nat) (A B:Option Addr) (lp k x y s:Int) (o:Bool) (ss:List Int) (l:List Nat) (r:Pl.Dg) (mv:Mv) (w:World) (h:Own2 base w (.slice A n cp) (.slice B q cq) n q ss l) (hn:n ≤ 1000) (hin:¬ inR n ⟨1,x,y,s,o⟩) :
 Calls Try.prog 53 #[.agg #[.slice A n cp,.slice B q cq,.int .i64 lp],.agg #[.int .i64 k,.int .i64 x,.int .i64 y,.int .i64 s,.bool o]] w (RC base 2 r mv w) := by
 have hin':¬ ((-1 ≤ x ∧ x < 4 * n) ∧ y = 0 ∧ (s = 1 ∨ s = -1)):=fun e => hin (by unfold inR; simp; exact ⟨e.1.1,e.1.2,e.2.1,e.2.2⟩)
 have BE:=hide (show Below base w ((((w.alloc (.cells #[.slice A n cp,.slice B q cq,.int .i64 lp] 24)).alloc (.cells #[.int .i64 k,.int .i64 x,.int .i64 y,.int .i64 s,.bool o] 28)).alloc (.cells #[.slice A n cp,.slice B q cq,.int .i64 lp] 24)).alloc (.cells #[.int .i64 k,.int .i64 x,.int .i64 y,.int .i64 s,.bool o] 28)).drew from (((((Below.refl w.heap.size w).alloc (Nat.le_refl _) _).alloc (by simp) _).alloc (by simp; omega) _).alloc (by simp; omega) _).drew.mono h.le)
 clear hin h
 by_cases h1:x < -1
 ·have t1:decide (x < -1) = true:=by simpa using h1
  clear h1 hin'
  go_enter Try.func53,Try.ntmps53
  go_wp2_with fail
  go_region
  go_wp2_with fail
  refine bodyPost_ret (v := .tuple #[.agg #[.slice A n cp,.slice B q cq,.int .i64 lp],.agg #[.int .i64 k,.int .i64 x,.int .i64 y,.int .i64 s,.bool o],.int .i64 2]) (by simp [results,Try.results53,go_sem]) rfl ?_
  exact rc_err (by decide) ⟨A,B,n,q,cp,cq,lp,k,x,y,s,o,rfl⟩ BE.out
 ·have t1:decide (x < -1) = false:=by simpa using h1
  by_cases h2:x < 4 * n
  ·have t2:decide (4 * (n:Int) ≤ x) = false:=by simp; omega
   by_cases h3:y = 0
   ·have t3:(y != 0) = false:=by simpa using h3
    have h4:¬ (s = 1 ∨ s = -1):=fun e => hin' ⟨⟨by omega,h2⟩,h3,e⟩
    have t4:(s != 1) = true:=by rw [bne_iff_ne]; exact fun e => h4 (.inl e)
    have t5:(s != -1) = true:=by rw [bne_iff_ne]; exact fun e => h4 (.inr e)
    clear h1 h2 h3 h4 hin'
    go_enter Try.func53,Try.ntmps53
    go_wp2_with fail
    go_region
    go_wp2_with fail
    refine bodyPost_ret (v := .tuple #[.agg #[.slice A n cp,.slice B q cq,.int .i64 lp],.agg #[.int .i64 k,.int .i64 x,.int .i64 y,.int .i64 s,.bool o],.int .i64 2]) (by simp [results,Try.results53,go_sem]) rfl ?_
    exact rc_err (by decide) ⟨A,B,n,q,cp,cq,lp,k,x,y,s,o,rfl⟩ BE.out
   ·have t3:(y != 0) = true:=by rw [bne_iff_ne]; exact h3
    clear h1 h2 h3 hin'
    go_enter Try.func53,Try.ntmps53
    go_wp2_with fail
    go_region
    go_wp2_with fail
    refine bodyPost_ret (v := .tuple #[.agg #[.slice A n cp,.slice B q cq,.int .i64 lp],.agg #[.int .i64 k,.int .i64 x,.int .i64 y,.int .i64 s,.bool o],.int .i64 2]) (by simp [results,Try.results53,go_sem]) rfl ?_
    exact rc_err (by decide) ⟨A,B,n,q,cp,cq,lp,k,x,y,s,o,rfl⟩ BE.out
  ·have t2:decide (4 * (n:Int) ≤ x) = true:=by simp; omega
   clear h1 h2 hin'
   go_enter Try.func53,Try.ntmps53
   go_wp2_with fail
   go_region
   go_wp2_with fail
   refine bodyPost_ret (v := .tuple #[.agg #[.slice A n cp,.slice B q cq,.int .i64 lp],.agg #[.int .i64 k,.int .i64 x,.int .i64 y,.int .i64 s,.bool o],.int .i64 2]) (by simp [results,Try.results53,go_sem]) rfl ?_
   exact rc_err (by decide) ⟨A,B,n,q,cp,cq,lp,k,x,y,s,o,rfl⟩ BE.out
end Go.Proofs.Ytobbepmlmbbamaa
end
